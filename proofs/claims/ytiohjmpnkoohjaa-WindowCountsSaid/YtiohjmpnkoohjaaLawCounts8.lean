/- The walk of the law WindowCounts. No conditions. -/
import Derived.Test.YtiohjmpnkoohjaaPWinC
import Derived.Test.YtiohjmpnkoohjaaKey
import Derived.Deep.RegionHeld3
import Derived.Deep.WholeRow
import Derived.Laws.CopyOwn
namespace Go.Proofs.Ytiohjmpnkoohjaa.Tele
open Go.RowKit Go.Proofs.YtiohjmpnkoohjaaW.PrintWords
set_option linter.unusedVariables false
set_option linter.unusedSimpArgs false

theorem Blk.row {w : World} {g : Nat} {t : TypeId} {old : Array Value} (h : Blk w g t old) (cs : Array Value) : Blk (w.setRow g cs) g t cs := setRow_heap w g old cs t (0, 0) h
theorem chg_row {w : World} {g : Nat} {G : Nat → Prop} (hg : G g) (cs : Array Value) : Chg G w (w.setRow g cs) :=
  ⟨rfl, rfl, rfl, by rw [setRow_size]; exact Nat.le_refl _, fun k hk hs => setRow_other w g k cs (fun e => hs (by rw [e]; exact hg))⟩
theorem Blk.range {w : World} {g : Nat} {t : TypeId} {cs : Array Value} (h : Blk w g t cs) : w.rangeAt g 0 cs.toList := fun j v hv => by
  rw [Nat.zero_add]
  exact (h.cell j).trans (by rw [← hv, Array.getElem?_toList])
set_option maxRecDepth 8000 in
set_option maxHeartbeats 40000000 in
theorem windowCounts_walk (x a b lg : Int) (ca : Option Addr) (len cap : Nat) (cs : List Int) (da : Option Addr) (dlen dcap : Nat) (ds : List Int) (fr : Int) (w : World)
    (hx : (Lit.int .u64 x).wf = true) (ha : (Lit.int .u8 a).wf = true) (hb : (Lit.int .u8 b).wf = true) (hlg : (Lit.int .u8 lg).wf = true) (hc : IntRow .u8 w ca len cap cs) (hl : len * 1 ≤ 140737488351232) (hd : IntRow .u8 w da dlen dcap ds) (hdl : dlen * 1 ≤ 140737488351232) (hfr : (Lit.int .i64 fr).wf = true) :
    Calls Try.prog 4 #[.int .u64 x, .int .u8 a, .int .u8 b, .int .u8 lg, .slice ca len cap, .slice da dlen dcap, .int .i64 fr] w fun e w' => e = .returned (.bool true) ∧ Below w.heap.size w w' := by
  obtain ⟨X, rfl⟩ := u_of_wf hx
  obtain ⟨ha0, ha1⟩ := u8_of_wf ha
  obtain ⟨hb0, hb1⟩ := u8_of_wf hb
  obtain ⟨hg0, hg1⟩ := u8_of_wf hlg
  obtain ⟨A, hA, hA1, hA2⟩ : ∃ A : Nat, (A : Int) = 1 + a % 3 ∧ 1 ≤ A ∧ A ≤ 8 := ⟨(1 + a % 3).toNat, by omega, by omega, by omega⟩
  obtain ⟨B, hB, hB1, hB2⟩ : ∃ B : Nat, (B : Int) = 1 + b % 12 ∧ 1 ≤ B ∧ B ≤ 1024 := ⟨(1 + b % 12).toNat, by omega, by omega, by omega⟩
  obtain ⟨C, hC, hC1, hC2⟩ : ∃ C : Nat, (C : Int) = 1 + lg % 9 ∧ 1 ≤ C ∧ C ≤ 1099511627776 := ⟨(1 + lg % 9).toNat, by omega, by omega, by omega⟩
  have HA := Lib.hid hA
  have HB := Lib.hid hB
  have HC9 := Lib.hid hC
  have HC := Lib.hid hc
  have HD := Lib.hid hd
  have HF := Lib.hid hfr
  clear hA hB hC hx ha hb hlg hc hd hl hdl hfr
  by_cases hlen : (60 : Int) < (len : Int)
  · go_enter Try.func4, Try.ntmps4
    go_wp2_with fail
    refine (known_calls _).mono ?_
    rintro e w2 ⟨rfl, hb⟩
    go_wp2
    go_ret
    exact ⟨rfl, hb⟩
  · go_enter Try.func4, Try.ntmps4
    go_wp2_with fail
    refine (known_calls _).mono ?_
    rintro e w1 ⟨rfl, hb1⟩
    go_wp2_with fail
    rw [← HA.out, ← HB.out, ← HC9.out]
    refine (wnew_yes A B C X _ hA1 hA2 hB1 hB2 hC1 hC2).mono ?_
    rintro e w2 ⟨g, rfl, hb2, hw⟩
    go_wp2_with fail
    rw [← HA.out, ← HB.out, ← HC9.out]
    refine (rw_new A B C X _ hA1 hA2 hB1 hB2 hC1 hC2).mono ?_
    rintro e w3 ⟨vL, L, vT, rfl, hL, hT, hl, hO, hb3⟩
    have hP0 := pairw_start (w0 := w) hA1 hA2 hB1 hB2 hC1 hC2 hb1 hb2 hw hL hT hl hO hb3
    have hP := (hP0.alloc (.cells (wvs (Win.new A B X C) vL L vT (Win.new A B X C).this) 38)).fewer (G' := fun q => q = w3.heap.size) (fun q hq => .inr hq)
    have HP := Lib.hid hP
    have HG := Lib.hid (Blk.new w3 38 (wvs (Win.new A B X C) vL L vT (Win.new A B X C).this))
    obtain ⟨⟨aL, kL, rfl⟩, ⟨aT, kT, rfl⟩⟩ := hP.slices
    clear hP hP0 hL hT hl hO hb1 hb2 hb3 hw
    generalize Win.new A B X C = m0 at *
    go_wp2_with fail
    generalize w3.heap.size = g2 at *
    generalize w3.alloc _ = w4 at *
    go_loopw [18, 19] (fun nv_ i wr => ∃ (k nw : Nat) (vL : Value) (L : Sk) (vT : Value) (m : Win), k ≤ len ∧ i = .int .i64 (k : Int) ∧ nv_ = .int .i64 (nw : Int) ∧ nw ≤ 1099511627776 + 6 * k ∧ Hid (PairW w wr g (fun q => q = g2) vL vT m m L) ∧ Hid (Blk wr g2 38 (wvs m vL L vT m.this))) (fun _ i _ => len - (intOf i).toNat)
    case atStart => exact ⟨0, 0, _, L, _, m0, by omega, rfl, rfl, by omega, HP, HG⟩
    case round =>
      clear HP HG
      obtain ⟨k, nw, vL, L, vT, m, hk, rfl, rfl, hnw, HT, HG⟩ := hrel
      by_cases hlt : (k : Int) < (len : Int)
      · have hr := HC.out.1.below HT.out.below
        have hcell := hr.cell k (by omega)
        have hidx := fun W => hr.index Try.prog 23 5 Try.underlying23 (by kernel_rfl) k (by omega) W
        obtain ⟨hx0, hx1⟩ := u8_of_wf (HC.out.2 _ (getD_mem_or (j := k) (by rw [HC.out.1.1]; omega)))
        obtain ⟨x, hx⟩ : ∃ x, cs.getD k 0 = x := ⟨_, rfl⟩
        rw [hx] at hcell hx0 hx1
        have HX := Lib.hid hx
        have HKY := Lib.hid fun W => key_calls x W hx0 hx1
        have hk9 : k ≤ 60 := by omega
        clear hr hx
        by_cases hkd : (k : Int) < (dlen : Int)
        · have hrd := HD.out.1.below HT.out.below
          have hcd := hrd.cell k (by omega)
          have hid := fun W => hrd.index Try.prog 23 5 Try.underlying23 (by kernel_rfl) k (by omega) W
          obtain ⟨hy0, hy1⟩ := u8_of_wf (HD.out.2 _ (getD_mem_or (j := k) (by rw [HD.out.1.1]; omega)))
          generalize ds.getD k 0 = y at *
          clear hrd
          obtain ⟨y7, hy7, hy7l⟩ : ∃ y7 : Nat, y % 7 = (y7 : Int) ∧ y7 ≤ 6 := ⟨(y % 7).toNat, by omega, by omega⟩
          obtain ⟨n1, hn1⟩ : ∃ n1 : Nat, (nw : Int) + (y7 : Int) = (n1 : Int) := ⟨nw + y7, by omega⟩
          have hnw1 : n1 ≤ 1099511627776 + 6 * (k + 1) := by omega
          by_cases hy240 : 240 < y
          · obtain ⟨y8, hy8, hy8l⟩ : ∃ y8 : Nat, y % 8 = (y8 : Int) ∧ y8 ≤ 7 := ⟨(y % 8).toNat, by omega, by omega⟩
            obtain ⟨tt, htt⟩ : ∃ tt : Int, (n1 : Int) - (y8 : Int) = tt := ⟨_, rfl⟩
            have ht0 : -10 ≤ tt ∧ tt ≤ 1099511628142 := by omega
            have hy239 : (y == 239) = false := by rw [beq_eq_false_iff_ne]; omega
            go_wp2_with fail
            refine (HKY.out _).mono ?_
            rintro e w7 ⟨rfl, hb7⟩
            have HT7 := Lib.hid (HT.out.next hb7).1
            have HG7 := Lib.hid (HG.out.next hb7)
            have hcell7 := (HC.out.1.below (bnext HT.out.below hb7)).cell k (by omega)
            rw [HX.out] at hcell7
            clear hb7 HT HG hcell HKY
            by_cases hx5 : x % 5 = 0
            · as_aux_lemma =>
              obtain ⟨⟨aL, kL, rfl⟩, ⟨aT, kT, rfl⟩⟩ := HT7.out.slices
              have hrc := fun W (hW : Below w7.heap.size w7 W) => (HC.out.1.below (bnext HT7.out.below hW)).cell k (by omega)
              rw [HX.out] at hrc
              have HRC := Lib.hid hrc
              obtain ⟨x3, hx3, hx3l⟩ : ∃ x3 : Nat, x % 3 = (x3 : Int) ∧ x3 ≤ 2 := ⟨(x % 3).toNat, by omega, by omega⟩
              obtain ⟨n9, hn9, hn9l⟩ : ∃ n9 : Nat, 1 + (x3 : Int) = (n9 : Int) ∧ n9 ≤ 3 := ⟨1 + x3, by omega, by omega⟩
              have hwx3 : IntKind.u64.wrap (x3 : Int) = (x3 : Int) := IntWalk.u64_in _ (by omega)
              have hwn9 : IntKind.u64.wrap (n9 : Int) = (n9 : Int) := IntWalk.u64_in _ (by omega)
              have HUW : Hid (IntKind.u64.wrap (1 + IntKind.u64.wrap (x.tmod 3)) = (n9 : Int)) := Lib.hid (by rw [Int.tmod_eq_emod_of_nonneg hx0, hx3, hwx3, hn9, hwn9])
              have HC1 := Lib.hid fun W G' (h : PairW w W g G' (.slice aL L.rows kL) (.slice aT m.this.rows kT) m m L) => rw_add (tt) (keyS x) n9 h (keyS_size x) (by omega)
              rw [show nv n9 = .int .u64 (IntKind.u64.wrap (1 + IntKind.u64.wrap (x.tmod 3))) by rw [HUW.out]] at HC1
              obtain ⟨m2, hm2⟩ : ∃ m2, m2 = m.add (tt) (keyS x).data.toList n9 := ⟨_, rfl⟩
              obtain ⟨er, her⟩ : ∃ er, er = m.err (tt) := ⟨_, rfl⟩
              rw [← hm2, ← her] at HC1
              have HM2 := Lib.hid hm2
              have HER := Lib.hid her
              have her2 : er = 0 ∨ er = 60 := by rw [her]; unfold Win.err; split; exact .inl rfl; exact .inr rfl
              have hwer : IntKind.i64.wrap er = er := by rcases her2 with h | h <;> rw [h] <;> rfl
              have her0 : 0 ≤ er ∧ er ≤ 60 := by omega
              clear hm2 her hrc her2
              have hg7 := HG7.out
              have c0 : w7.cell? ⟨g2, 0, none⟩ = some (.int .i64 (m.rows : Int)) := hg7.cell 0
              have c1 : w7.cell? ⟨g2, 1, none⟩ = some (.int .i64 (m.W : Int)) := hg7.cell 1
              have c2 : w7.cell? ⟨g2, 2, none⟩ = some (uv m.seed) := hg7.cell 2
              have c3 : w7.cell? ⟨g2, 3, none⟩ = some (.int .i64 (m.long : Int)) := hg7.cell 3
              have c4 : w7.cell? ⟨g2, 4, none⟩ = some (.int .i64 (m.now : Int)) := hg7.cell 4
              have c5 : w7.cell? ⟨g2, 5, none⟩ = some ((.slice aL L.rows kL)) := hg7.cell 5
              have c6 : w7.cell? ⟨g2, 6, none⟩ = some (.int .i64 (L.W : Int)) := hg7.cell 6
              have c7 : w7.cell? ⟨g2, 7, none⟩ = some (uv L.seed) := hg7.cell 7
              have c8 : w7.cell? ⟨g2, 8, none⟩ = some (nv L.total) := hg7.cell 8
              have c9 : w7.cell? ⟨g2, 9, none⟩ = some ((.slice aT m.this.rows kT)) := hg7.cell 9
              have c10 : w7.cell? ⟨g2, 10, none⟩ = some (.int .i64 (m.this.W : Int)) := hg7.cell 10
              have c11 : w7.cell? ⟨g2, 11, none⟩ = some (uv m.this.seed) := hg7.cell 11
              have c12 : w7.cell? ⟨g2, 12, none⟩ = some (nv m.this.total) := hg7.cell 12
              have HC4 : Hid (∀ W, Below w7.heap.size w7 W → W.cell? ⟨g2, 0, none⟩ = some (.int .i64 (m.rows : Int)) ∧ W.cell? ⟨g2, 1, none⟩ = some (.int .i64 (m.W : Int)) ∧ W.cell? ⟨g2, 2, none⟩ = some (uv m.seed) ∧ W.cell? ⟨g2, 3, none⟩ = some (.int .i64 (m.long : Int)) ∧ W.cell? ⟨g2, 4, none⟩ = some (.int .i64 (m.now : Int)) ∧ W.cell? ⟨g2, 5, none⟩ = some ((.slice aL L.rows kL)) ∧ W.cell? ⟨g2, 6, none⟩ = some (.int .i64 (L.W : Int)) ∧ W.cell? ⟨g2, 7, none⟩ = some (uv L.seed) ∧ W.cell? ⟨g2, 8, none⟩ = some (nv L.total) ∧ W.cell? ⟨g2, 9, none⟩ = some ((.slice aT m.this.rows kT)) ∧ W.cell? ⟨g2, 10, none⟩ = some (.int .i64 (m.this.W : Int)) ∧ W.cell? ⟨g2, 11, none⟩ = some (uv m.this.seed) ∧ W.cell? ⟨g2, 12, none⟩ = some (nv m.this.total) ∧ W.cell? (adr ca k) = some (.int .u8 x) ∧ Below w7.heap.size w7 W) := Lib.hid fun W hW => ⟨(HG7.out.next hW).cell 0, (HG7.out.next hW).cell 1, (HG7.out.next hW).cell 2, (HG7.out.next hW).cell 3, (HG7.out.next hW).cell 4, (HG7.out.next hW).cell 5, (HG7.out.next hW).cell 6, (HG7.out.next hW).cell 7, (HG7.out.next hW).cell 8, (HG7.out.next hW).cell 9, (HG7.out.next hW).cell 10, (HG7.out.next hW).cell 11, (HG7.out.next hW).cell 12, HRC.out W hW, hW⟩
              clear hg7
              have HTA := Lib.hid ((HT7.out.alloc (.cells #[.int .i64 0, .int .i64 0, .int .u64 0, .int .i64 0, .int .i64 0, .slice none 0 0, .int .i64 0, .int .u64 0, .int .u64 0, .slice none 0 0, .int .i64 0, .int .u64 0, .int .u64 0] 38)).next (Below.drew (Below.refl _ _))).1
              have HZA := Lib.hid (Blk.new w7 38 #[.int .i64 0, .int .i64 0, .int .u64 0, .int .i64 0, .int .i64 0, .slice none 0 0, .int .i64 0, .int .u64 0, .int .u64 0, .slice none 0 0, .int .i64 0, .int .u64 0, .int .u64 0]).drew
              go_upto_region 22 with fail
              refine wp_region_noPanic ?_
              refine wp_region_held_drew (S := (fun W => Below w7.heap.size w7 W)) (by kernel_rfl) (by exact Below.drew (Below.refl _ _)) (fun hS_ => ?_)
              refine wpAnyH_take (i := 0) (oi := ({ dst := (some 122), op := (Op.load 38 (Operand.tmp 16)), type := 38, pos := "law.go:49", after := #[], guard := none } : Oper)) (v := ?_) rfl (by kernel_rfl) (by kernel_rfl) (by kernel_rfl) (fun _ _ _ h => h) (Or.inl ⟨by rfl, ?_⟩) (by assumption) ?_
              rotate_left
              · (intro w_ hSw; (try dsimp only at hSw); obtain ⟨q0, q1, q2, q3, q4, q5, q6, q7, q8, q9, q10, q11, q12, q13, q14⟩ := HC4.out w_ hSw; go_simp; try with_reducible rfl)
              try simp only [Act.put, List.setIfInBounds_toArray, List.set_cons_zero, List.set_cons_succ]
              refine wpAnyH_take (i := 1) (oi := ({ dst := (some 123), op := (Op.move (Operand.tmp 20)), type := 3, pos := "law.go:49", after := #[], guard := none } : Oper)) (v := ?_) rfl (by kernel_rfl) (by kernel_rfl) (by kernel_rfl) (fun _ _ _ h => h) (Or.inl ⟨by rfl, ?_⟩) (by assumption) ?_
              rotate_left
              · (intro w_ hSw; (try dsimp only at hSw); go_simp; try with_reducible rfl)
              try simp only [Act.put, List.setIfInBounds_toArray, List.set_cons_zero, List.set_cons_succ]
              refine wpAnyH_take (i := 2) (oi := ({ dst := (some 124), op := (Op.move (Operand.tmp 21)), type := 9, pos := "law.go:49", after := #[], guard := none } : Oper)) (v := ?_) rfl (by kernel_rfl) (by kernel_rfl) (by kernel_rfl) (fun _ _ _ h => h) (Or.inl ⟨by rfl, ?_⟩) (by assumption) ?_
              rotate_left
              · (intro w_ hSw; (try dsimp only at hSw); go_simp; try with_reducible rfl)
              try simp only [Act.put, List.setIfInBounds_toArray, List.set_cons_zero, List.set_cons_succ]
              refine wpAnyH_take (i := 3) (oi := ({ dst := (some 125), op := (Op.move (Operand.tmp 4)), type := 23, pos := "law.go:49", after := #[], guard := none } : Oper)) (v := ?_) rfl (by kernel_rfl) (by kernel_rfl) (by kernel_rfl) (fun _ _ _ h => h) (Or.inl ⟨by rfl, ?_⟩) (by assumption) ?_
              rotate_left
              · (intro w_ hSw; (try dsimp only at hSw); go_simp; try with_reducible rfl)
              try simp only [Act.put, List.setIfInBounds_toArray, List.set_cons_zero, List.set_cons_succ]
              refine wpAnyH_take (i := 4) (oi := ({ dst := (some 126), op := (Op.move (Operand.tmp 19)), type := 3, pos := "law.go:49", after := #[], guard := none } : Oper)) (v := ?_) rfl (by kernel_rfl) (by kernel_rfl) (by kernel_rfl) (fun _ _ _ h => h) (Or.inl ⟨by rfl, ?_⟩) (by assumption) ?_
              rotate_left
              · (intro w_ hSw; (try dsimp only at hSw); go_simp; try with_reducible rfl)
              try simp only [Act.put, List.setIfInBounds_toArray, List.set_cons_zero, List.set_cons_succ]
              refine wpAnyH_take (i := 5) (oi := ({ dst := (some 127), op := (Op.indexAddr 23 (Operand.tmp 125) (Operand.tmp 126)), type := 0, pos := "law.go:49", after := #[{ on := 3, ground := Ground.data }, { on := 4, ground := Ground.data }], guard := none } : Oper)) (v := ?_) rfl (by kernel_rfl) (by kernel_rfl) (by kernel_rfl) (fun _ _ _ h => h) (Or.inl ⟨by rfl, ?_⟩) (by assumption) ?_
              rotate_left
              · (intro w_ hSw; (try dsimp only at hSw); go_simp; try with_reducible rfl)
              try simp only [Act.put, List.setIfInBounds_toArray, List.set_cons_zero, List.set_cons_succ]
              refine wpAnyH_take (i := 6) (oi := ({ dst := (some 128), op := (Op.load 5 (Operand.tmp 127)), type := 5, pos := "law.go:49", after := #[{ on := 5, ground := Ground.data }], guard := none } : Oper)) (v := ?_) rfl (by kernel_rfl) (by kernel_rfl) (by kernel_rfl) (fun _ _ _ h => h) (Or.inl ⟨by rfl, ?_⟩) (by assumption) ?_
              rotate_left
              · (intro w_ hSw; (try dsimp only at hSw); obtain ⟨q0, q1, q2, q3, q4, q5, q6, q7, q8, q9, q10, q11, q12, q13, q14⟩ := HC4.out w_ hSw; go_simp; try with_reducible rfl)
              try simp only [Act.put, List.setIfInBounds_toArray, List.set_cons_zero, List.set_cons_succ]
              refine wpAnyH_take (i := 7) (oi := ({ dst := (some 129), op := (Op.binOp BinOp.rem 5 (Operand.tmp 128) (Operand.const (Value.int IntKind.u8 3)) 5), type := 5, pos := "law.go:49", after := #[{ on := 6, ground := Ground.data }], guard := none } : Oper)) (v := ?_) rfl (by kernel_rfl) (by kernel_rfl) (by kernel_rfl) (fun _ _ _ h => h) (Or.inl ⟨by rfl, ?_⟩) (by assumption) ?_
              rotate_left
              · (intro w_ hSw; (try dsimp only at hSw); go_simp; try with_reducible rfl)
              try simp only [Act.put, List.setIfInBounds_toArray, List.set_cons_zero, List.set_cons_succ]
              refine wpAnyH_take (i := 8) (oi := ({ dst := (some 130), op := (Op.convert 5 22 (Operand.tmp 129)), type := 22, pos := "law.go:49", after := #[{ on := 7, ground := Ground.data }], guard := none } : Oper)) (v := ?_) rfl (by kernel_rfl) (by kernel_rfl) (by kernel_rfl) (fun _ _ _ h => h) (Or.inl ⟨by rfl, ?_⟩) (by assumption) ?_
              rotate_left
              · (intro w_ hSw; (try dsimp only at hSw); obtain ⟨q0, q1, q2, q3, q4, q5, q6, q7, q8, q9, q10, q11, q12, q13, q14⟩ := HC4.out w_ hSw; go_simp; try with_reducible rfl)
              try simp only [Act.put, List.setIfInBounds_toArray, List.set_cons_zero, List.set_cons_succ]
              refine wpAnyH_take (i := 9) (oi := ({ dst := (some 131), op := (Op.binOp BinOp.add 22 (Operand.const (Value.int IntKind.u64 1)) (Operand.tmp 130) 22), type := 22, pos := "law.go:49", after := #[{ on := 8, ground := Ground.data }], guard := none } : Oper)) (v := ?_) rfl (by kernel_rfl) (by kernel_rfl) (by kernel_rfl) (fun _ _ _ h => h) (Or.inl ⟨by rfl, ?_⟩) (by assumption) ?_
              rotate_left
              · (intro w_ hSw; (try dsimp only at hSw); go_simp; try with_reducible rfl)
              try simp only [Act.put, List.setIfInBounds_toArray, List.set_cons_zero, List.set_cons_succ]
              refine wpAnyH_ready (rs := [10, 14]) (by kernel_rfl) (by simp) ?_
              refine AllReadyH.cons (o := ({ dst := (some 132), op := (Op.call { callee := (Callee.value (Operand.func 14)), args := #[(Operand.tmp 122), (Operand.tmp 123), (Operand.tmp 124), (Operand.tmp 131)], argTypes := #[38, 3, 9, 22] }), type := 41, pos := "law.go:49", after := #[{ on := 0, ground := Ground.data }, { on := 1, ground := Ground.data }, { on := 2, ground := Ground.data }, { on := 9, ground := Ground.data }], guard := none } : Oper)) rfl (fun K hK => ?_) ?_
              · go_simp
                refine (HC1.out _ _ (HT7.out.next hS_).1).mono ?_
                rintro e w8 ⟨vL2, L2, vT2, rfl, hp8, hk8, hb8⟩
                obtain ⟨⟨aL2, kL2, rfl⟩, ⟨aT2, kT2, rfl⟩⟩ := hp8.slices
                refine hK.out _ _ (by exact bnext hS_ hb8) (fun hS_ => ?_)
                clear hK K
                try simp only [Act.put, List.setIfInBounds_toArray, List.set_cons_zero, List.set_cons_succ]
                refine wpAnyH_take (i := 11) (oi := ({ dst := (some 121), op := (Op.move (Operand.tmp 132)), type := 41, pos := "law.go:49", after := #[{ on := 10, ground := Ground.data }], guard := none } : Oper)) (v := ?_) rfl (by kernel_rfl) (by kernel_rfl) (by kernel_rfl) (fun _ _ _ h => h) (Or.inl ⟨by rfl, ?_⟩) (by assumption) ?_
                rotate_left
                · (intro w_ hSw; (try dsimp only at hSw); go_simp; try with_reducible rfl)
                try simp only [Act.put, List.setIfInBounds_toArray, List.set_cons_zero, List.set_cons_succ]
                refine wpAnyH_take (i := 12) (oi := ({ dst := (some 133), op := (Op.extract (Operand.tmp 121) 0), type := 38, pos := "law.go:49", after := #[{ on := 11, ground := Ground.data }], guard := none } : Oper)) (v := ?_) rfl (by kernel_rfl) (by kernel_rfl) (by kernel_rfl) (fun _ _ _ h => h) (Or.inl ⟨by rfl, ?_⟩) (by assumption) ?_
                rotate_left
                · (intro w_ hSw; (try dsimp only at hSw); go_simp; try with_reducible rfl)
                try simp only [Act.put, List.setIfInBounds_toArray, List.set_cons_zero, List.set_cons_succ]
                refine wpAnyH_take (i := 13) (oi := ({ dst := (some 134), op := (Op.extract (Operand.tmp 121) 1), type := 3, pos := "law.go:49", after := #[{ on := 11, ground := Ground.data }, { on := 15, ground := (Ground.gcOnly Departure.lateStores) }], guard := none } : Oper)) (v := ?_) rfl (by kernel_rfl) (by kernel_rfl) (by kernel_rfl) (fun _ _ _ h => h) (Or.inl ⟨by rfl, ?_⟩) (by assumption) ?_
                rotate_left
                · (intro w_ hSw; (try dsimp only at hSw); go_simp; try with_reducible rfl)
                try simp only [Act.put, List.setIfInBounds_toArray, List.set_cons_zero, List.set_cons_succ]
                refine wpAnyH_ready (rs := [14]) (by kernel_rfl) (by simp) ?_
                refine AllReadyH.cons (o := ({ dst := (some 22), op := (Op.alloc 38), type := 0, pos := "law.go:49", after := #[], guard := none } : Oper)) rfl (fun K hK => ?_) ?_
                · go_simp
                  refine hK.out _ _ (by exact bl_alloc hS_ _) (fun hS_ => ?_)
                  clear hK K
                  try simp only [Act.put, List.setIfInBounds_toArray, List.set_cons_zero, List.set_cons_succ]
                  refine wpAnyH_ready (rs := [15]) (by kernel_rfl) (by simp) ?_
                  refine AllReadyH.cons (o := ({ dst := none, op := (Op.store 38 (Operand.tmp 22) (Operand.tmp 133)), type := 0, pos := "law.go:49", after := #[{ on := 14, ground := Ground.data }, { on := 12, ground := Ground.data }, { on := 10, ground := Ground.chain }, { on := 0, ground := Ground.phase }, { on := 1, ground := Ground.phase }, { on := 2, ground := Ground.phase }, { on := 3, ground := Ground.phase }, { on := 4, ground := Ground.phase }, { on := 5, ground := Ground.phase }, { on := 6, ground := Ground.phase }, { on := 7, ground := Ground.phase }, { on := 8, ground := Ground.phase }, { on := 9, ground := Ground.phase }, { on := 10, ground := Ground.phase }, { on := 11, ground := Ground.phase }, { on := 12, ground := Ground.phase }, { on := 13, ground := (Ground.textOnly Departure.lateStores) }, { on := 14, ground := Ground.phase }], guard := none } : Oper)) rfl (fun K hK => ?_) ?_
                  · rw [if_pos (by rfl)]
                    refine wp_store_row 38 (.tmp 22) (.tmp 133) rfl w8.heap.size (wvs m2 (.slice aL2 L2.rows kL2) L2 (.slice aT2 m2.this.rows kT2) m2.this) rfl rfl 38 _ (Blk.new w8 _ _) (by kernel_rfl) rfl (by kernel_rfl) ?_
                    rw [World.setRow_alloc_new]
                    simp only [Act.put, List.setIfInBounds_toArray, List.set_cons_zero, List.set_cons_succ]
                    refine hK.out _ _ (by exact bl_alloc (bnext (Below.drew (Below.refl _ _)) hb8) _) (fun hS_ => ?_)
                    clear hK K
                    try simp only [Act.put, List.setIfInBounds_toArray, List.set_cons_zero, List.set_cons_succ]
                    refine wpAnyH_take (i := 16) (oi := ({ dst := (some 23), op := (Op.assign (Operand.tmp 134)), type := 3, pos := "law.go:49", after := #[{ on := 13, ground := Ground.data }, { on := 15, ground := Ground.chain }, { on := 0, ground := Ground.phase }, { on := 1, ground := Ground.phase }, { on := 2, ground := Ground.phase }, { on := 3, ground := Ground.phase }, { on := 4, ground := Ground.phase }, { on := 5, ground := Ground.phase }, { on := 6, ground := Ground.phase }, { on := 7, ground := Ground.phase }, { on := 8, ground := Ground.phase }, { on := 9, ground := Ground.phase }, { on := 10, ground := Ground.phase }, { on := 11, ground := Ground.phase }, { on := 12, ground := Ground.phase }, { on := 13, ground := Ground.phase }, { on := 14, ground := Ground.phase }, { on := 15, ground := Ground.phase }], guard := none } : Oper)) (v := ?_) rfl (by kernel_rfl) (by kernel_rfl) (by kernel_rfl) (fun _ _ _ h => h) (Or.inl ⟨by rfl, ?_⟩) (by assumption) ?_
                    rotate_left
                    · (intro w_ hSw; (try dsimp only at hSw); go_simp; try with_reducible rfl)
                    try simp only [Act.put, List.setIfInBounds_toArray, List.set_cons_zero, List.set_cons_succ]
                    refine wpAnyH_done (by kernel_rfl) ?_ _
                    refine NoPanic.normal ?_
                    have hg8 := HG7.out.drew.kept hk8 rfl
                    have HP9 := Lib.hid (hp8.alloc (.cells (wvs m2 (.slice aL2 L2.rows kL2) L2 (.slice aT2 m2.this.rows kT2) m2.this) 38))
                    have HG9 := Lib.hid (hg8.alloc (.cells (wvs m2 (.slice aL2 L2.rows kL2) L2 (.slice aT2 m2.this.rows kT2) m2.this) 38))
                    have HH9 := Lib.hid (Blk.new w8 38 (wvs m2 (.slice aL2 L2.rows kL2) L2 (.slice aT2 m2.this.rows kT2) m2.this))
                    clear hg8 hp8 hk8 hb8 hS_ HC1 HC4 HTA HZA HT7 HG7 c0 c1 c2 c3 c4 c5 c6 c7 c8 c9 c10 c11 c12 hcell7
                    generalize w8.heap.size = g3 at *
                    generalize w8.alloc _ = w9 at *
                    have hcell9 := (HC.out.1.below HP9.out.below).cell k (by omega)
                    rw [HX.out] at hcell9
                    have HAD := Lib.hid (pw_add (tt) (keyS x) n9 HP9.out (keyS_size x) (by omega))
                    rw [← HM2.out, ← HER.out] at HAD
                    go_wp2_with fail
                    refine HAD.out.mono ?_
                    rintro e w10 ⟨rfl, hp10, hk10⟩
                    have HG10 := Lib.hid (HG9.out.kept hk10 (.inl rfl))
                    have HH10 := Lib.hid (HH9.out.kept hk10 (.inr rfl))
                    have HP10 := Lib.hid hp10
                    have hxe : ((er : Int) != er) = false := by simp
                    clear hp10 hk10 HP9 HG9 HH9 HAD hcell9
                    go_upto_region 24 with fail
                    apply wp_region_lit
                    refine wpList_load_mid rfl 38 (.tmp 22) rfl g3 0 rfl (wvs m2 (.slice aL2 L2.rows kL2) L2 (.slice aT2 m2.this.rows kT2) m2.this).toList _ HH10.out.range Try.underlying38 rfl (by kernel_rfl) ?_
                    refine wpList_store_row rfl 38 (.tmp 16) (.tmp 149) rfl g2 (wvs m2 (.slice aL2 L2.rows kL2) L2 (.slice aT2 m2.this.rows kT2) m2.this) rfl rfl 38 _ HG10.out (by kernel_rfl) rfl (by kernel_rfl) ?_
                    go_upto_region 31 with fail
                    have HPX := Lib.hid ((HP10.out.chg (chg_row (w := w10) (g := g2) (.inl rfl) (wvs m2 (.slice aL2 L2.rows kL2) L2 (.slice aT2 m2.this.rows kT2) m2.this))).fewer (G' := fun q => q = g2) (fun q hq => .inl hq))
                    have HGX := Lib.hid (HG10.out.row (wvs m2 (.slice aL2 L2.rows kL2) L2 (.slice aT2 m2.this.rows kT2) m2.this))
                    generalize w10.setRow g2 _ = w20 at *
                    clear HP10 HG10 HH10
                    have c0 : w20.cell? ⟨g2, 0, none⟩ = some (.int .i64 (m2.rows : Int)) := HGX.out.cell 0
                    have c1 : w20.cell? ⟨g2, 1, none⟩ = some (.int .i64 (m2.W : Int)) := HGX.out.cell 1
                    have c2 : w20.cell? ⟨g2, 2, none⟩ = some (uv m2.seed) := HGX.out.cell 2
                    have c3 : w20.cell? ⟨g2, 3, none⟩ = some (.int .i64 (m2.long : Int)) := HGX.out.cell 3
                    have c4 : w20.cell? ⟨g2, 4, none⟩ = some (.int .i64 (m2.now : Int)) := HGX.out.cell 4
                    have c5 : w20.cell? ⟨g2, 5, none⟩ = some ((.slice aL2 L2.rows kL2)) := HGX.out.cell 5
                    have c6 : w20.cell? ⟨g2, 6, none⟩ = some (.int .i64 (L2.W : Int)) := HGX.out.cell 6
                    have c7 : w20.cell? ⟨g2, 7, none⟩ = some (uv L2.seed) := HGX.out.cell 7
                    have c8 : w20.cell? ⟨g2, 8, none⟩ = some (nv L2.total) := HGX.out.cell 8
                    have c9 : w20.cell? ⟨g2, 9, none⟩ = some ((.slice aT2 m2.this.rows kT2)) := HGX.out.cell 9
                    have c10 : w20.cell? ⟨g2, 10, none⟩ = some (.int .i64 (m2.this.W : Int)) := HGX.out.cell 10
                    have c11 : w20.cell? ⟨g2, 11, none⟩ = some (uv m2.this.seed) := HGX.out.cell 11
                    have c12 : w20.cell? ⟨g2, 12, none⟩ = some (nv m2.this.total) := HGX.out.cell 12
                    have hnm2 := HPX.out.oks.2.1.nowm
                    go_wp2_with fail
                    go_roundw
                    case rel => exact ⟨k + 1, max n1 m2.now, _, L2, _, m2, by omega, by go_num, by go_num, by omega, HPX, HGX⟩
                    case measure => simp [intOf]; omega
                  exact AllReadyH.nil
                exact AllReadyH.nil
              refine AllReadyH.cons (o := ({ dst := (some 22), op := (Op.alloc 38), type := 0, pos := "law.go:49", after := #[], guard := none } : Oper)) rfl (fun K hK => ?_) ?_
              · go_simp
                refine hK.out _ _ (by exact bl_alloc hS_ _) (fun hS_ => ?_)
                clear hK K
                try simp only [Act.put, List.setIfInBounds_toArray, List.set_cons_zero, List.set_cons_succ]
                refine wpAnyH_ready (rs := [10]) (by kernel_rfl) (by simp) ?_
                refine AllReadyH.cons (o := ({ dst := (some 132), op := (Op.call { callee := (Callee.value (Operand.func 14)), args := #[(Operand.tmp 122), (Operand.tmp 123), (Operand.tmp 124), (Operand.tmp 131)], argTypes := #[38, 3, 9, 22] }), type := 41, pos := "law.go:49", after := #[{ on := 0, ground := Ground.data }, { on := 1, ground := Ground.data }, { on := 2, ground := Ground.data }, { on := 9, ground := Ground.data }], guard := none } : Oper)) rfl (fun K hK => ?_) ?_
                · go_simp
                  refine (HC1.out _ _ HTA.out).mono ?_
                  rintro e w8 ⟨vL2, L2, vT2, rfl, hp8, hk8, hb8⟩
                  obtain ⟨⟨aL2, kL2, rfl⟩, ⟨aT2, kT2, rfl⟩⟩ := hp8.slices
                  have hq8 := HZA.out.kept hk8 (.inr rfl)
                  refine hK.out _ _ (by exact bnext hS_ hb8) (fun hS_ => ?_)
                  clear hK K
                  try simp only [Act.put, List.setIfInBounds_toArray, List.set_cons_zero, List.set_cons_succ]
                  refine wpAnyH_take (i := 11) (oi := ({ dst := (some 121), op := (Op.move (Operand.tmp 132)), type := 41, pos := "law.go:49", after := #[{ on := 10, ground := Ground.data }], guard := none } : Oper)) (v := ?_) rfl (by kernel_rfl) (by kernel_rfl) (by kernel_rfl) (fun _ _ _ h => h) (Or.inl ⟨by rfl, ?_⟩) (by assumption) ?_
                  rotate_left
                  · (intro w_ hSw; (try dsimp only at hSw); go_simp; try with_reducible rfl)
                  try simp only [Act.put, List.setIfInBounds_toArray, List.set_cons_zero, List.set_cons_succ]
                  refine wpAnyH_take (i := 12) (oi := ({ dst := (some 133), op := (Op.extract (Operand.tmp 121) 0), type := 38, pos := "law.go:49", after := #[{ on := 11, ground := Ground.data }], guard := none } : Oper)) (v := ?_) rfl (by kernel_rfl) (by kernel_rfl) (by kernel_rfl) (fun _ _ _ h => h) (Or.inl ⟨by rfl, ?_⟩) (by assumption) ?_
                  rotate_left
                  · (intro w_ hSw; (try dsimp only at hSw); go_simp; try with_reducible rfl)
                  try simp only [Act.put, List.setIfInBounds_toArray, List.set_cons_zero, List.set_cons_succ]
                  refine wpAnyH_take (i := 13) (oi := ({ dst := (some 134), op := (Op.extract (Operand.tmp 121) 1), type := 3, pos := "law.go:49", after := #[{ on := 11, ground := Ground.data }, { on := 15, ground := (Ground.gcOnly Departure.lateStores) }], guard := none } : Oper)) (v := ?_) rfl (by kernel_rfl) (by kernel_rfl) (by kernel_rfl) (fun _ _ _ h => h) (Or.inl ⟨by rfl, ?_⟩) (by assumption) ?_
                  rotate_left
                  · (intro w_ hSw; (try dsimp only at hSw); go_simp; try with_reducible rfl)
                  try simp only [Act.put, List.setIfInBounds_toArray, List.set_cons_zero, List.set_cons_succ]
                  refine wpAnyH_ready (rs := [15]) (by kernel_rfl) (by simp) ?_
                  refine AllReadyH.cons (o := ({ dst := none, op := (Op.store 38 (Operand.tmp 22) (Operand.tmp 133)), type := 0, pos := "law.go:49", after := #[{ on := 14, ground := Ground.data }, { on := 12, ground := Ground.data }, { on := 10, ground := Ground.chain }, { on := 0, ground := Ground.phase }, { on := 1, ground := Ground.phase }, { on := 2, ground := Ground.phase }, { on := 3, ground := Ground.phase }, { on := 4, ground := Ground.phase }, { on := 5, ground := Ground.phase }, { on := 6, ground := Ground.phase }, { on := 7, ground := Ground.phase }, { on := 8, ground := Ground.phase }, { on := 9, ground := Ground.phase }, { on := 10, ground := Ground.phase }, { on := 11, ground := Ground.phase }, { on := 12, ground := Ground.phase }, { on := 13, ground := (Ground.textOnly Departure.lateStores) }, { on := 14, ground := Ground.phase }], guard := none } : Oper)) rfl (fun K hK => ?_) ?_
                  · rw [if_pos (by rfl)]
                    refine wp_store_row 38 (.tmp 22) (.tmp 133) rfl w7.heap.size (wvs m2 (.slice aL2 L2.rows kL2) L2 (.slice aT2 m2.this.rows kT2) m2.this) rfl rfl 38 _ hq8 (by kernel_rfl) rfl (by kernel_rfl) ?_
                    simp only [Act.put, List.setIfInBounds_toArray, List.set_cons_zero, List.set_cons_succ]
                    refine hK.out _ _ (by exact below_setRow hS_ (Nat.le_refl _) _) (fun hS_ => ?_)
                    clear hK K
                    try simp only [Act.put, List.setIfInBounds_toArray, List.set_cons_zero, List.set_cons_succ]
                    refine wpAnyH_take (i := 16) (oi := ({ dst := (some 23), op := (Op.assign (Operand.tmp 134)), type := 3, pos := "law.go:49", after := #[{ on := 13, ground := Ground.data }, { on := 15, ground := Ground.chain }, { on := 0, ground := Ground.phase }, { on := 1, ground := Ground.phase }, { on := 2, ground := Ground.phase }, { on := 3, ground := Ground.phase }, { on := 4, ground := Ground.phase }, { on := 5, ground := Ground.phase }, { on := 6, ground := Ground.phase }, { on := 7, ground := Ground.phase }, { on := 8, ground := Ground.phase }, { on := 9, ground := Ground.phase }, { on := 10, ground := Ground.phase }, { on := 11, ground := Ground.phase }, { on := 12, ground := Ground.phase }, { on := 13, ground := Ground.phase }, { on := 14, ground := Ground.phase }, { on := 15, ground := Ground.phase }], guard := none } : Oper)) (v := ?_) rfl (by kernel_rfl) (by kernel_rfl) (by kernel_rfl) (fun _ _ _ h => h) (Or.inl ⟨by rfl, ?_⟩) (by assumption) ?_
                    rotate_left
                    · (intro w_ hSw; (try dsimp only at hSw); go_simp; try with_reducible rfl)
                    try simp only [Act.put, List.setIfInBounds_toArray, List.set_cons_zero, List.set_cons_succ]
                    refine wpAnyH_done (by kernel_rfl) ?_ _
                    refine NoPanic.normal ?_
                    have hgl := HG7.out.lt
                    have hg8 := ((HG7.out.alloc (.cells #[.int .i64 0, .int .i64 0, .int .u64 0, .int .i64 0, .int .i64 0, .slice none 0 0, .int .i64 0, .int .u64 0, .int .u64 0, .slice none 0 0, .int .i64 0, .int .u64 0, .int .u64 0] 38)).drew).kept hk8 (.inl rfl)
                    have HP9 := Lib.hid (hp8.chg (chg_row (w := w8) (g := w7.heap.size) (.inr rfl) (wvs m2 (.slice aL2 L2.rows kL2) L2 (.slice aT2 m2.this.rows kT2) m2.this)))
                    have HG9 : Hid (Blk (w8.setRow w7.heap.size (wvs m2 (.slice aL2 L2.rows kL2) L2 (.slice aT2 m2.this.rows kT2) m2.this)) g2 38 (wvs m (.slice aL L.rows kL) L (.slice aT m.this.rows kT) m.this)) := Lib.hid ((setRow_other w8 w7.heap.size g2 (wvs m2 (.slice aL2 L2.rows kL2) L2 (.slice aT2 m2.this.rows kT2) m2.this) (Nat.ne_of_lt hgl)).trans hg8)
                    have HH9 := Lib.hid (hq8.row (wvs m2 (.slice aL2 L2.rows kL2) L2 (.slice aT2 m2.this.rows kT2) m2.this))
                    clear hgl hg8 hp8 hk8 hb8 hS_ hq8 HC1 HC4 HTA HZA HT7 HG7 c0 c1 c2 c3 c4 c5 c6 c7 c8 c9 c10 c11 c12 hcell7
                    generalize w7.heap.size = g3 at *
                    generalize w8.setRow g3 _ = w9 at *
                    have hcell9 := (HC.out.1.below HP9.out.below).cell k (by omega)
                    rw [HX.out] at hcell9
                    have HAD := Lib.hid (pw_add (tt) (keyS x) n9 HP9.out (keyS_size x) (by omega))
                    rw [← HM2.out, ← HER.out] at HAD
                    go_wp2_with fail
                    refine HAD.out.mono ?_
                    rintro e w10 ⟨rfl, hp10, hk10⟩
                    have HG10 := Lib.hid (HG9.out.kept hk10 (.inl rfl))
                    have HH10 := Lib.hid (HH9.out.kept hk10 (.inr rfl))
                    have HP10 := Lib.hid hp10
                    have hxe : ((er : Int) != er) = false := by simp
                    clear hp10 hk10 HP9 HG9 HH9 HAD hcell9
                    go_upto_region 24 with fail
                    apply wp_region_lit
                    refine wpList_load_mid rfl 38 (.tmp 22) rfl g3 0 rfl (wvs m2 (.slice aL2 L2.rows kL2) L2 (.slice aT2 m2.this.rows kT2) m2.this).toList _ HH10.out.range Try.underlying38 rfl (by kernel_rfl) ?_
                    refine wpList_store_row rfl 38 (.tmp 16) (.tmp 149) rfl g2 (wvs m2 (.slice aL2 L2.rows kL2) L2 (.slice aT2 m2.this.rows kT2) m2.this) rfl rfl 38 _ HG10.out (by kernel_rfl) rfl (by kernel_rfl) ?_
                    go_upto_region 31 with fail
                    have HPX := Lib.hid ((HP10.out.chg (chg_row (w := w10) (g := g2) (.inl rfl) (wvs m2 (.slice aL2 L2.rows kL2) L2 (.slice aT2 m2.this.rows kT2) m2.this))).fewer (G' := fun q => q = g2) (fun q hq => .inl hq))
                    have HGX := Lib.hid (HG10.out.row (wvs m2 (.slice aL2 L2.rows kL2) L2 (.slice aT2 m2.this.rows kT2) m2.this))
                    generalize w10.setRow g2 _ = w20 at *
                    clear HP10 HG10 HH10
                    have c0 : w20.cell? ⟨g2, 0, none⟩ = some (.int .i64 (m2.rows : Int)) := HGX.out.cell 0
                    have c1 : w20.cell? ⟨g2, 1, none⟩ = some (.int .i64 (m2.W : Int)) := HGX.out.cell 1
                    have c2 : w20.cell? ⟨g2, 2, none⟩ = some (uv m2.seed) := HGX.out.cell 2
                    have c3 : w20.cell? ⟨g2, 3, none⟩ = some (.int .i64 (m2.long : Int)) := HGX.out.cell 3
                    have c4 : w20.cell? ⟨g2, 4, none⟩ = some (.int .i64 (m2.now : Int)) := HGX.out.cell 4
                    have c5 : w20.cell? ⟨g2, 5, none⟩ = some ((.slice aL2 L2.rows kL2)) := HGX.out.cell 5
                    have c6 : w20.cell? ⟨g2, 6, none⟩ = some (.int .i64 (L2.W : Int)) := HGX.out.cell 6
                    have c7 : w20.cell? ⟨g2, 7, none⟩ = some (uv L2.seed) := HGX.out.cell 7
                    have c8 : w20.cell? ⟨g2, 8, none⟩ = some (nv L2.total) := HGX.out.cell 8
                    have c9 : w20.cell? ⟨g2, 9, none⟩ = some ((.slice aT2 m2.this.rows kT2)) := HGX.out.cell 9
                    have c10 : w20.cell? ⟨g2, 10, none⟩ = some (.int .i64 (m2.this.W : Int)) := HGX.out.cell 10
                    have c11 : w20.cell? ⟨g2, 11, none⟩ = some (uv m2.this.seed) := HGX.out.cell 11
                    have c12 : w20.cell? ⟨g2, 12, none⟩ = some (nv m2.this.total) := HGX.out.cell 12
                    have hnm2 := HPX.out.oks.2.1.nowm
                    go_wp2_with fail
                    go_roundw
                    case rel => exact ⟨k + 1, max n1 m2.now, _, L2, _, m2, by omega, by go_num, by go_num, by omega, HPX, HGX⟩
                    case measure => simp [intOf]; omega
                  exact AllReadyH.nil
                exact AllReadyH.nil
              exact AllReadyH.nil
            · as_aux_lemma =>
              obtain ⟨⟨aL, kL, rfl⟩, ⟨aT, kT, rfl⟩⟩ := HT7.out.slices
              have hg7 := HG7.out
              have c0 : w7.cell? ⟨g2, 0, none⟩ = some (.int .i64 (m.rows : Int)) := hg7.cell 0
              have c1 : w7.cell? ⟨g2, 1, none⟩ = some (.int .i64 (m.W : Int)) := hg7.cell 1
              have c2 : w7.cell? ⟨g2, 2, none⟩ = some (uv m.seed) := hg7.cell 2
              have c3 : w7.cell? ⟨g2, 3, none⟩ = some (.int .i64 (m.long : Int)) := hg7.cell 3
              have c4 : w7.cell? ⟨g2, 4, none⟩ = some (.int .i64 (m.now : Int)) := hg7.cell 4
              have c5 : w7.cell? ⟨g2, 5, none⟩ = some ((.slice aL L.rows kL)) := hg7.cell 5
              have c6 : w7.cell? ⟨g2, 6, none⟩ = some (.int .i64 (L.W : Int)) := hg7.cell 6
              have c7 : w7.cell? ⟨g2, 7, none⟩ = some (uv L.seed) := hg7.cell 7
              have c8 : w7.cell? ⟨g2, 8, none⟩ = some (nv L.total) := hg7.cell 8
              have c9 : w7.cell? ⟨g2, 9, none⟩ = some ((.slice aT m.this.rows kT)) := hg7.cell 9
              have c10 : w7.cell? ⟨g2, 10, none⟩ = some (.int .i64 (m.this.W : Int)) := hg7.cell 10
              have c11 : w7.cell? ⟨g2, 11, none⟩ = some (uv m.this.seed) := hg7.cell 11
              have c12 : w7.cell? ⟨g2, 12, none⟩ = some (nv m.this.total) := hg7.cell 12
              have HAT := Lib.hid (rw_at (tt) HT7.out)
              have HCF := Lib.hid fun L2 => closed_eq m HT7.out.oks.2.1 (tt) L2 (keyS x).data.toList
              have HOF := Lib.hid (opened_eq m (tt) (keyS x).data.toList)
              have HE2 := Lib.hid (err_twice m (tt))
              have HT2 := Lib.hid (turnAny_twice m (tt))
              have HEO : Hid (m.err (tt) = if m.ok (tt) then 0 else 60) := Lib.hid rfl
              obtain ⟨m2, hm2⟩ : ∃ m2, m2 = m.turnAny (tt) := ⟨_, rfl⟩
              obtain ⟨er, her⟩ : ∃ er, er = m.err (tt) := ⟨_, rfl⟩
              rw [← hm2, ← her] at HAT HE2
              rw [← hm2] at HT2 HCF HOF
              rw [← her] at HEO
              have HM2 := Lib.hid hm2
              have HER := Lib.hid her
              clear hg7 hm2 her
              go_wp2_with fail
              refine HAT.out.mono ?_
              rintro e w8 ⟨vL2, L2, vT2, rfl, hp8, hk8⟩
              have hg8 := HG7.out.kept hk8 rfl
              replace HCF := Lib.hid (HCF.out L2 hp8.oks.1)
              have HP9 := Lib.hid (hp8.alloc (.cells (wvs m2 vL2 L2 vT2 m2.this) 38))
              have HG9 := Lib.hid (hg8.alloc (.cells (wvs m2 vL2 L2 vT2 m2.this) 38))
              have HH9 := Lib.hid (Blk.new w8 38 (wvs m2 vL2 L2 vT2 m2.this))
              obtain ⟨⟨aL2, kL2, rfl⟩, ⟨aT2, kT2, rfl⟩⟩ := hp8.slices
              clear hp8 hk8 hg8 HT7 HG7 HAT c0 c1 c2 c3 c4 c5 c6 c7 c8 c9 c10 c11 c12
              go_upto_region 26 with fail
              generalize w8.alloc _ = w9 at *
              generalize w8.heap.size = g3 at *
              apply wp_region_lit
              refine wpList_load_mid rfl 38 (.tmp 24) rfl g3 0 rfl (wvs m2 (.slice aL2 L2.rows kL2) L2 (.slice aT2 m2.this.rows kT2) m2.this).toList _ HH9.out.range Try.underlying38 rfl (by kernel_rfl) ?_
              refine wpList_store_row rfl 38 (.tmp 16) (.tmp 156) rfl g2 (wvs m2 (.slice aL2 L2.rows kL2) L2 (.slice aT2 m2.this.rows kT2) m2.this) rfl rfl 38 _ HG9.out (by kernel_rfl) rfl (by kernel_rfl) ?_
              go_upto_region 27 with fail
              have HP10 := Lib.hid ((HP9.out.chg (chg_row (w := w9) (g := g2) (.inl rfl) (wvs m2 (.slice aL2 L2.rows kL2) L2 (.slice aT2 m2.this.rows kT2) m2.this))).fewer (G' := fun q => q = g2) (fun q hq => .inl hq))
              have HG10 := Lib.hid (HG9.out.row (wvs m2 (.slice aL2 L2.rows kL2) L2 (.slice aT2 m2.this.rows kT2) m2.this))
              generalize w9.setRow g2 _ = w10 at *
              clear HP9 HG9 HH9
              have HCL := Lib.hid (pw_closed (tt) (keyS x) HP10.out (keyS_size x))
              rw [← HM2.out, ← HER.out] at HCL
              go_wp2_with fail
              refine HCL.out.mono ?_
              rintro e w11 ⟨rfl, hp11, hk11⟩
              have hg11 := HG10.out.kept hk11 rfl
              have HOP := Lib.hid (pw_open (tt) (keyS x) hp11 (keyS_size x))
              rw [HT2.out, HE2.out] at HOP
              have HG11 := Lib.hid hg11
              clear HP10 HG10 HCL hp11 hk11 hg11
              go_wp2_with fail
              refine HOP.out.mono ?_
              rintro e w12 ⟨rfl, hp12, hk12⟩
              have HG12 := Lib.hid (HG11.out.kept hk12 rfl)
              have HP12 := Lib.hid hp12
              clear HG11 hp12 hk12 HOP
              have HKL := Lib.hid (rw_countL (keyS x) HP12.out (keyS_size x))
              have c0 : w12.cell? ⟨g2, 0, none⟩ = some (.int .i64 (m2.rows : Int)) := HG12.out.cell 0
              have c1 : w12.cell? ⟨g2, 1, none⟩ = some (.int .i64 (m2.W : Int)) := HG12.out.cell 1
              have c2 : w12.cell? ⟨g2, 2, none⟩ = some (uv m2.seed) := HG12.out.cell 2
              have c3 : w12.cell? ⟨g2, 3, none⟩ = some (.int .i64 (m2.long : Int)) := HG12.out.cell 3
              have c4 : w12.cell? ⟨g2, 4, none⟩ = some (.int .i64 (m2.now : Int)) := HG12.out.cell 4
              have c5 : w12.cell? ⟨g2, 5, none⟩ = some ((.slice aL2 L2.rows kL2)) := HG12.out.cell 5
              have c6 : w12.cell? ⟨g2, 6, none⟩ = some (.int .i64 (L2.W : Int)) := HG12.out.cell 6
              have c7 : w12.cell? ⟨g2, 7, none⟩ = some (uv L2.seed) := HG12.out.cell 7
              have c8 : w12.cell? ⟨g2, 8, none⟩ = some (nv L2.total) := HG12.out.cell 8
              have c9 : w12.cell? ⟨g2, 9, none⟩ = some ((.slice aT2 m2.this.rows kT2)) := HG12.out.cell 9
              have c10 : w12.cell? ⟨g2, 10, none⟩ = some (.int .i64 (m2.this.W : Int)) := HG12.out.cell 10
              have c11 : w12.cell? ⟨g2, 11, none⟩ = some (uv m2.this.seed) := HG12.out.cell 11
              have c12 : w12.cell? ⟨g2, 12, none⟩ = some (nv m2.this.total) := HG12.out.cell 12
              by_cases hok : m.ok (tt) = true
              · rw [if_pos hok] at HCF HOF HEO
                obtain rfl := HEO.out
                rw [HCF.out, HOF.out]
                generalize hnL : L2.count (keyS x).data.toList = nL at *
                generalize hnT : m2.this.count (keyS x).data.toList = nT at *
                have HNT := Lib.hid hnT
                clear hnL hnT HCF HOF HEO HE2 HT2 HER HM2 hok
                have hx1 : ((nL : Int) != (nL : Int)) = false := by simp
                have hx2 : ((nT : Int) != (nT : Int)) = false := by simp
                go_wp2_with fail
                refine HKL.out.mono ?_
                rintro e w13 ⟨rfl, hb13⟩
                have HP13 := Lib.hid (HP12.out.next hb13).1
                have HG13 := Lib.hid (HG12.out.next hb13)
                clear HP12 HG12 hb13 c0 c1 c2 c3 c4 c5 c6 c7 c8 c9 c10 c11 c12 HKL
                have HKT := Lib.hid (rw_countT (keyS x) HP13.out (keyS_size x))
                rw [HNT.out] at HKT
                have c0 : w13.cell? ⟨g2, 0, none⟩ = some (.int .i64 (m2.rows : Int)) := HG13.out.cell 0
                have c1 : w13.cell? ⟨g2, 1, none⟩ = some (.int .i64 (m2.W : Int)) := HG13.out.cell 1
                have c2 : w13.cell? ⟨g2, 2, none⟩ = some (uv m2.seed) := HG13.out.cell 2
                have c3 : w13.cell? ⟨g2, 3, none⟩ = some (.int .i64 (m2.long : Int)) := HG13.out.cell 3
                have c4 : w13.cell? ⟨g2, 4, none⟩ = some (.int .i64 (m2.now : Int)) := HG13.out.cell 4
                have c5 : w13.cell? ⟨g2, 5, none⟩ = some ((.slice aL2 L2.rows kL2)) := HG13.out.cell 5
                have c6 : w13.cell? ⟨g2, 6, none⟩ = some (.int .i64 (L2.W : Int)) := HG13.out.cell 6
                have c7 : w13.cell? ⟨g2, 7, none⟩ = some (uv L2.seed) := HG13.out.cell 7
                have c8 : w13.cell? ⟨g2, 8, none⟩ = some (nv L2.total) := HG13.out.cell 8
                have c9 : w13.cell? ⟨g2, 9, none⟩ = some ((.slice aT2 m2.this.rows kT2)) := HG13.out.cell 9
                have c10 : w13.cell? ⟨g2, 10, none⟩ = some (.int .i64 (m2.this.W : Int)) := HG13.out.cell 10
                have c11 : w13.cell? ⟨g2, 11, none⟩ = some (uv m2.this.seed) := HG13.out.cell 11
                have c12 : w13.cell? ⟨g2, 12, none⟩ = some (nv m2.this.total) := HG13.out.cell 12
                go_wp2_with fail
                refine HKT.out.mono ?_
                rintro e w20 ⟨rfl, hb20⟩
                have HPX := Lib.hid (HP13.out.next hb20).1
                have HGX := Lib.hid (HG13.out.next hb20)
                clear HP13 HG13 hb20 c0 c1 c2 c3 c4 c5 c6 c7 c8 c9 c10 c11 c12 HKT
                have c0 : w20.cell? ⟨g2, 0, none⟩ = some (.int .i64 (m2.rows : Int)) := HGX.out.cell 0
                have c1 : w20.cell? ⟨g2, 1, none⟩ = some (.int .i64 (m2.W : Int)) := HGX.out.cell 1
                have c2 : w20.cell? ⟨g2, 2, none⟩ = some (uv m2.seed) := HGX.out.cell 2
                have c3 : w20.cell? ⟨g2, 3, none⟩ = some (.int .i64 (m2.long : Int)) := HGX.out.cell 3
                have c4 : w20.cell? ⟨g2, 4, none⟩ = some (.int .i64 (m2.now : Int)) := HGX.out.cell 4
                have c5 : w20.cell? ⟨g2, 5, none⟩ = some ((.slice aL2 L2.rows kL2)) := HGX.out.cell 5
                have c6 : w20.cell? ⟨g2, 6, none⟩ = some (.int .i64 (L2.W : Int)) := HGX.out.cell 6
                have c7 : w20.cell? ⟨g2, 7, none⟩ = some (uv L2.seed) := HGX.out.cell 7
                have c8 : w20.cell? ⟨g2, 8, none⟩ = some (nv L2.total) := HGX.out.cell 8
                have c9 : w20.cell? ⟨g2, 9, none⟩ = some ((.slice aT2 m2.this.rows kT2)) := HGX.out.cell 9
                have c10 : w20.cell? ⟨g2, 10, none⟩ = some (.int .i64 (m2.this.W : Int)) := HGX.out.cell 10
                have c11 : w20.cell? ⟨g2, 11, none⟩ = some (uv m2.this.seed) := HGX.out.cell 11
                have c12 : w20.cell? ⟨g2, 12, none⟩ = some (nv m2.this.total) := HGX.out.cell 12
                have hnm2 := HPX.out.oks.2.1.nowm
                go_wp2_with fail
                go_roundw
                case rel => exact ⟨k + 1, max n1 m2.now, _, L2, _, m2, by omega, by go_num, by go_num, by omega, HPX, HGX⟩
                case measure => simp [intOf]; omega
              · rw [if_neg hok] at HCF HOF HEO
                obtain rfl := HEO.out
                rw [HCF.out, HOF.out]
                clear HCF HOF HEO HE2 HT2 HER HM2 HKL c0 c1 c2 c3 c4 c5 c6 c7 c8 c9 c10 c11 c12
                have HPX := HP12
                have HGX := HG12
                generalize w12 = w20 at *
                have c0 : w20.cell? ⟨g2, 0, none⟩ = some (.int .i64 (m2.rows : Int)) := HGX.out.cell 0
                have c1 : w20.cell? ⟨g2, 1, none⟩ = some (.int .i64 (m2.W : Int)) := HGX.out.cell 1
                have c2 : w20.cell? ⟨g2, 2, none⟩ = some (uv m2.seed) := HGX.out.cell 2
                have c3 : w20.cell? ⟨g2, 3, none⟩ = some (.int .i64 (m2.long : Int)) := HGX.out.cell 3
                have c4 : w20.cell? ⟨g2, 4, none⟩ = some (.int .i64 (m2.now : Int)) := HGX.out.cell 4
                have c5 : w20.cell? ⟨g2, 5, none⟩ = some ((.slice aL2 L2.rows kL2)) := HGX.out.cell 5
                have c6 : w20.cell? ⟨g2, 6, none⟩ = some (.int .i64 (L2.W : Int)) := HGX.out.cell 6
                have c7 : w20.cell? ⟨g2, 7, none⟩ = some (uv L2.seed) := HGX.out.cell 7
                have c8 : w20.cell? ⟨g2, 8, none⟩ = some (nv L2.total) := HGX.out.cell 8
                have c9 : w20.cell? ⟨g2, 9, none⟩ = some ((.slice aT2 m2.this.rows kT2)) := HGX.out.cell 9
                have c10 : w20.cell? ⟨g2, 10, none⟩ = some (.int .i64 (m2.this.W : Int)) := HGX.out.cell 10
                have c11 : w20.cell? ⟨g2, 11, none⟩ = some (uv m2.this.seed) := HGX.out.cell 11
                have c12 : w20.cell? ⟨g2, 12, none⟩ = some (nv m2.this.total) := HGX.out.cell 12
                have hnm2 := HPX.out.oks.2.1.nowm
                go_wp2_with fail
                go_roundw
                case rel => exact ⟨k + 1, max n1 m2.now, _, L2, _, m2, by omega, by go_num, by go_num, by omega, HPX, HGX⟩
                case measure => simp [intOf]; omega
          · by_cases hy239 : y = 239
            · subst hy239
              go_wp2_with fail
              refine (HKY.out _).mono ?_
              rintro e w7 ⟨rfl, hb7⟩
              have HT7 := Lib.hid (HT.out.next hb7).1
              have HG7 := Lib.hid (HG.out.next hb7)
              have hcell7 := (HC.out.1.below (bnext HT.out.below hb7)).cell k (by omega)
              rw [HX.out] at hcell7
              clear hb7 HT HG hcell HKY
              by_cases hx5 : x % 5 = 0
              · as_aux_lemma =>
                obtain ⟨⟨aL, kL, rfl⟩, ⟨aT, kT, rfl⟩⟩ := HT7.out.slices
                have hrc := fun W (hW : Below w7.heap.size w7 W) => (HC.out.1.below (bnext HT7.out.below hW)).cell k (by omega)
                rw [HX.out] at hrc
                have HRC := Lib.hid hrc
                obtain ⟨x3, hx3, hx3l⟩ : ∃ x3 : Nat, x % 3 = (x3 : Int) ∧ x3 ≤ 2 := ⟨(x % 3).toNat, by omega, by omega⟩
                obtain ⟨n9, hn9, hn9l⟩ : ∃ n9 : Nat, 1 + (x3 : Int) = (n9 : Int) ∧ n9 ≤ 3 := ⟨1 + x3, by omega, by omega⟩
                have hwx3 : IntKind.u64.wrap (x3 : Int) = (x3 : Int) := IntWalk.u64_in _ (by omega)
                have hwn9 : IntKind.u64.wrap (n9 : Int) = (n9 : Int) := IntWalk.u64_in _ (by omega)
                have HUW : Hid (IntKind.u64.wrap (1 + IntKind.u64.wrap (x.tmod 3)) = (n9 : Int)) := Lib.hid (by rw [Int.tmod_eq_emod_of_nonneg hx0, hx3, hwx3, hn9, hwn9])
                have HC1 := Lib.hid fun W G' (h : PairW w W g G' (.slice aL L.rows kL) (.slice aT m.this.rows kT) m m L) => rw_add (fr) (keyS x) n9 h (keyS_size x) (by omega)
                rw [show nv n9 = .int .u64 (IntKind.u64.wrap (1 + IntKind.u64.wrap (x.tmod 3))) by rw [HUW.out]] at HC1
                obtain ⟨m2, hm2⟩ : ∃ m2, m2 = m.add (fr) (keyS x).data.toList n9 := ⟨_, rfl⟩
                obtain ⟨er, her⟩ : ∃ er, er = m.err (fr) := ⟨_, rfl⟩
                rw [← hm2, ← her] at HC1
                have HM2 := Lib.hid hm2
                have HER := Lib.hid her
                have her2 : er = 0 ∨ er = 60 := by rw [her]; unfold Win.err; split; exact .inl rfl; exact .inr rfl
                have hwer : IntKind.i64.wrap er = er := by rcases her2 with h | h <;> rw [h] <;> rfl
                have her0 : 0 ≤ er ∧ er ≤ 60 := by omega
                clear hm2 her hrc her2
                have hg7 := HG7.out
                have c0 : w7.cell? ⟨g2, 0, none⟩ = some (.int .i64 (m.rows : Int)) := hg7.cell 0
                have c1 : w7.cell? ⟨g2, 1, none⟩ = some (.int .i64 (m.W : Int)) := hg7.cell 1
                have c2 : w7.cell? ⟨g2, 2, none⟩ = some (uv m.seed) := hg7.cell 2
                have c3 : w7.cell? ⟨g2, 3, none⟩ = some (.int .i64 (m.long : Int)) := hg7.cell 3
                have c4 : w7.cell? ⟨g2, 4, none⟩ = some (.int .i64 (m.now : Int)) := hg7.cell 4
                have c5 : w7.cell? ⟨g2, 5, none⟩ = some ((.slice aL L.rows kL)) := hg7.cell 5
                have c6 : w7.cell? ⟨g2, 6, none⟩ = some (.int .i64 (L.W : Int)) := hg7.cell 6
                have c7 : w7.cell? ⟨g2, 7, none⟩ = some (uv L.seed) := hg7.cell 7
                have c8 : w7.cell? ⟨g2, 8, none⟩ = some (nv L.total) := hg7.cell 8
                have c9 : w7.cell? ⟨g2, 9, none⟩ = some ((.slice aT m.this.rows kT)) := hg7.cell 9
                have c10 : w7.cell? ⟨g2, 10, none⟩ = some (.int .i64 (m.this.W : Int)) := hg7.cell 10
                have c11 : w7.cell? ⟨g2, 11, none⟩ = some (uv m.this.seed) := hg7.cell 11
                have c12 : w7.cell? ⟨g2, 12, none⟩ = some (nv m.this.total) := hg7.cell 12
                have HC4 : Hid (∀ W, Below w7.heap.size w7 W → W.cell? ⟨g2, 0, none⟩ = some (.int .i64 (m.rows : Int)) ∧ W.cell? ⟨g2, 1, none⟩ = some (.int .i64 (m.W : Int)) ∧ W.cell? ⟨g2, 2, none⟩ = some (uv m.seed) ∧ W.cell? ⟨g2, 3, none⟩ = some (.int .i64 (m.long : Int)) ∧ W.cell? ⟨g2, 4, none⟩ = some (.int .i64 (m.now : Int)) ∧ W.cell? ⟨g2, 5, none⟩ = some ((.slice aL L.rows kL)) ∧ W.cell? ⟨g2, 6, none⟩ = some (.int .i64 (L.W : Int)) ∧ W.cell? ⟨g2, 7, none⟩ = some (uv L.seed) ∧ W.cell? ⟨g2, 8, none⟩ = some (nv L.total) ∧ W.cell? ⟨g2, 9, none⟩ = some ((.slice aT m.this.rows kT)) ∧ W.cell? ⟨g2, 10, none⟩ = some (.int .i64 (m.this.W : Int)) ∧ W.cell? ⟨g2, 11, none⟩ = some (uv m.this.seed) ∧ W.cell? ⟨g2, 12, none⟩ = some (nv m.this.total) ∧ W.cell? (adr ca k) = some (.int .u8 x) ∧ Below w7.heap.size w7 W) := Lib.hid fun W hW => ⟨(HG7.out.next hW).cell 0, (HG7.out.next hW).cell 1, (HG7.out.next hW).cell 2, (HG7.out.next hW).cell 3, (HG7.out.next hW).cell 4, (HG7.out.next hW).cell 5, (HG7.out.next hW).cell 6, (HG7.out.next hW).cell 7, (HG7.out.next hW).cell 8, (HG7.out.next hW).cell 9, (HG7.out.next hW).cell 10, (HG7.out.next hW).cell 11, (HG7.out.next hW).cell 12, HRC.out W hW, hW⟩
                clear hg7
                have HTA := Lib.hid ((HT7.out.alloc (.cells #[.int .i64 0, .int .i64 0, .int .u64 0, .int .i64 0, .int .i64 0, .slice none 0 0, .int .i64 0, .int .u64 0, .int .u64 0, .slice none 0 0, .int .i64 0, .int .u64 0, .int .u64 0] 38)).next (Below.drew (Below.refl _ _))).1
                have HZA := Lib.hid (Blk.new w7 38 #[.int .i64 0, .int .i64 0, .int .u64 0, .int .i64 0, .int .i64 0, .slice none 0 0, .int .i64 0, .int .u64 0, .int .u64 0, .slice none 0 0, .int .i64 0, .int .u64 0, .int .u64 0]).drew
                go_upto_region 22 with fail
                refine wp_region_noPanic ?_
                refine wp_region_held_drew (S := (fun W => Below w7.heap.size w7 W)) (by kernel_rfl) (by exact Below.drew (Below.refl _ _)) (fun hS_ => ?_)
                refine wpAnyH_take (i := 0) (oi := ({ dst := (some 122), op := (Op.load 38 (Operand.tmp 16)), type := 38, pos := "law.go:49", after := #[], guard := none } : Oper)) (v := ?_) rfl (by kernel_rfl) (by kernel_rfl) (by kernel_rfl) (fun _ _ _ h => h) (Or.inl ⟨by rfl, ?_⟩) (by assumption) ?_
                rotate_left
                · (intro w_ hSw; (try dsimp only at hSw); obtain ⟨q0, q1, q2, q3, q4, q5, q6, q7, q8, q9, q10, q11, q12, q13, q14⟩ := HC4.out w_ hSw; go_simp; try with_reducible rfl)
                try simp only [Act.put, List.setIfInBounds_toArray, List.set_cons_zero, List.set_cons_succ]
                refine wpAnyH_take (i := 1) (oi := ({ dst := (some 123), op := (Op.move (Operand.tmp 20)), type := 3, pos := "law.go:49", after := #[], guard := none } : Oper)) (v := ?_) rfl (by kernel_rfl) (by kernel_rfl) (by kernel_rfl) (fun _ _ _ h => h) (Or.inl ⟨by rfl, ?_⟩) (by assumption) ?_
                rotate_left
                · (intro w_ hSw; (try dsimp only at hSw); go_simp; try with_reducible rfl)
                try simp only [Act.put, List.setIfInBounds_toArray, List.set_cons_zero, List.set_cons_succ]
                refine wpAnyH_take (i := 2) (oi := ({ dst := (some 124), op := (Op.move (Operand.tmp 21)), type := 9, pos := "law.go:49", after := #[], guard := none } : Oper)) (v := ?_) rfl (by kernel_rfl) (by kernel_rfl) (by kernel_rfl) (fun _ _ _ h => h) (Or.inl ⟨by rfl, ?_⟩) (by assumption) ?_
                rotate_left
                · (intro w_ hSw; (try dsimp only at hSw); go_simp; try with_reducible rfl)
                try simp only [Act.put, List.setIfInBounds_toArray, List.set_cons_zero, List.set_cons_succ]
                refine wpAnyH_take (i := 3) (oi := ({ dst := (some 125), op := (Op.move (Operand.tmp 4)), type := 23, pos := "law.go:49", after := #[], guard := none } : Oper)) (v := ?_) rfl (by kernel_rfl) (by kernel_rfl) (by kernel_rfl) (fun _ _ _ h => h) (Or.inl ⟨by rfl, ?_⟩) (by assumption) ?_
                rotate_left
                · (intro w_ hSw; (try dsimp only at hSw); go_simp; try with_reducible rfl)
                try simp only [Act.put, List.setIfInBounds_toArray, List.set_cons_zero, List.set_cons_succ]
                refine wpAnyH_take (i := 4) (oi := ({ dst := (some 126), op := (Op.move (Operand.tmp 19)), type := 3, pos := "law.go:49", after := #[], guard := none } : Oper)) (v := ?_) rfl (by kernel_rfl) (by kernel_rfl) (by kernel_rfl) (fun _ _ _ h => h) (Or.inl ⟨by rfl, ?_⟩) (by assumption) ?_
                rotate_left
                · (intro w_ hSw; (try dsimp only at hSw); go_simp; try with_reducible rfl)
                try simp only [Act.put, List.setIfInBounds_toArray, List.set_cons_zero, List.set_cons_succ]
                refine wpAnyH_take (i := 5) (oi := ({ dst := (some 127), op := (Op.indexAddr 23 (Operand.tmp 125) (Operand.tmp 126)), type := 0, pos := "law.go:49", after := #[{ on := 3, ground := Ground.data }, { on := 4, ground := Ground.data }], guard := none } : Oper)) (v := ?_) rfl (by kernel_rfl) (by kernel_rfl) (by kernel_rfl) (fun _ _ _ h => h) (Or.inl ⟨by rfl, ?_⟩) (by assumption) ?_
                rotate_left
                · (intro w_ hSw; (try dsimp only at hSw); go_simp; try with_reducible rfl)
                try simp only [Act.put, List.setIfInBounds_toArray, List.set_cons_zero, List.set_cons_succ]
                refine wpAnyH_take (i := 6) (oi := ({ dst := (some 128), op := (Op.load 5 (Operand.tmp 127)), type := 5, pos := "law.go:49", after := #[{ on := 5, ground := Ground.data }], guard := none } : Oper)) (v := ?_) rfl (by kernel_rfl) (by kernel_rfl) (by kernel_rfl) (fun _ _ _ h => h) (Or.inl ⟨by rfl, ?_⟩) (by assumption) ?_
                rotate_left
                · (intro w_ hSw; (try dsimp only at hSw); obtain ⟨q0, q1, q2, q3, q4, q5, q6, q7, q8, q9, q10, q11, q12, q13, q14⟩ := HC4.out w_ hSw; go_simp; try with_reducible rfl)
                try simp only [Act.put, List.setIfInBounds_toArray, List.set_cons_zero, List.set_cons_succ]
                refine wpAnyH_take (i := 7) (oi := ({ dst := (some 129), op := (Op.binOp BinOp.rem 5 (Operand.tmp 128) (Operand.const (Value.int IntKind.u8 3)) 5), type := 5, pos := "law.go:49", after := #[{ on := 6, ground := Ground.data }], guard := none } : Oper)) (v := ?_) rfl (by kernel_rfl) (by kernel_rfl) (by kernel_rfl) (fun _ _ _ h => h) (Or.inl ⟨by rfl, ?_⟩) (by assumption) ?_
                rotate_left
                · (intro w_ hSw; (try dsimp only at hSw); go_simp; try with_reducible rfl)
                try simp only [Act.put, List.setIfInBounds_toArray, List.set_cons_zero, List.set_cons_succ]
                refine wpAnyH_take (i := 8) (oi := ({ dst := (some 130), op := (Op.convert 5 22 (Operand.tmp 129)), type := 22, pos := "law.go:49", after := #[{ on := 7, ground := Ground.data }], guard := none } : Oper)) (v := ?_) rfl (by kernel_rfl) (by kernel_rfl) (by kernel_rfl) (fun _ _ _ h => h) (Or.inl ⟨by rfl, ?_⟩) (by assumption) ?_
                rotate_left
                · (intro w_ hSw; (try dsimp only at hSw); obtain ⟨q0, q1, q2, q3, q4, q5, q6, q7, q8, q9, q10, q11, q12, q13, q14⟩ := HC4.out w_ hSw; go_simp; try with_reducible rfl)
                try simp only [Act.put, List.setIfInBounds_toArray, List.set_cons_zero, List.set_cons_succ]
                refine wpAnyH_take (i := 9) (oi := ({ dst := (some 131), op := (Op.binOp BinOp.add 22 (Operand.const (Value.int IntKind.u64 1)) (Operand.tmp 130) 22), type := 22, pos := "law.go:49", after := #[{ on := 8, ground := Ground.data }], guard := none } : Oper)) (v := ?_) rfl (by kernel_rfl) (by kernel_rfl) (by kernel_rfl) (fun _ _ _ h => h) (Or.inl ⟨by rfl, ?_⟩) (by assumption) ?_
                rotate_left
                · (intro w_ hSw; (try dsimp only at hSw); go_simp; try with_reducible rfl)
                try simp only [Act.put, List.setIfInBounds_toArray, List.set_cons_zero, List.set_cons_succ]
                refine wpAnyH_ready (rs := [10, 14]) (by kernel_rfl) (by simp) ?_
                refine AllReadyH.cons (o := ({ dst := (some 132), op := (Op.call { callee := (Callee.value (Operand.func 14)), args := #[(Operand.tmp 122), (Operand.tmp 123), (Operand.tmp 124), (Operand.tmp 131)], argTypes := #[38, 3, 9, 22] }), type := 41, pos := "law.go:49", after := #[{ on := 0, ground := Ground.data }, { on := 1, ground := Ground.data }, { on := 2, ground := Ground.data }, { on := 9, ground := Ground.data }], guard := none } : Oper)) rfl (fun K hK => ?_) ?_
                · go_simp
                  refine (HC1.out _ _ (HT7.out.next hS_).1).mono ?_
                  rintro e w8 ⟨vL2, L2, vT2, rfl, hp8, hk8, hb8⟩
                  obtain ⟨⟨aL2, kL2, rfl⟩, ⟨aT2, kT2, rfl⟩⟩ := hp8.slices
                  refine hK.out _ _ (by exact bnext hS_ hb8) (fun hS_ => ?_)
                  clear hK K
                  try simp only [Act.put, List.setIfInBounds_toArray, List.set_cons_zero, List.set_cons_succ]
                  refine wpAnyH_take (i := 11) (oi := ({ dst := (some 121), op := (Op.move (Operand.tmp 132)), type := 41, pos := "law.go:49", after := #[{ on := 10, ground := Ground.data }], guard := none } : Oper)) (v := ?_) rfl (by kernel_rfl) (by kernel_rfl) (by kernel_rfl) (fun _ _ _ h => h) (Or.inl ⟨by rfl, ?_⟩) (by assumption) ?_
                  rotate_left
                  · (intro w_ hSw; (try dsimp only at hSw); go_simp; try with_reducible rfl)
                  try simp only [Act.put, List.setIfInBounds_toArray, List.set_cons_zero, List.set_cons_succ]
                  refine wpAnyH_take (i := 12) (oi := ({ dst := (some 133), op := (Op.extract (Operand.tmp 121) 0), type := 38, pos := "law.go:49", after := #[{ on := 11, ground := Ground.data }], guard := none } : Oper)) (v := ?_) rfl (by kernel_rfl) (by kernel_rfl) (by kernel_rfl) (fun _ _ _ h => h) (Or.inl ⟨by rfl, ?_⟩) (by assumption) ?_
                  rotate_left
                  · (intro w_ hSw; (try dsimp only at hSw); go_simp; try with_reducible rfl)
                  try simp only [Act.put, List.setIfInBounds_toArray, List.set_cons_zero, List.set_cons_succ]
                  refine wpAnyH_take (i := 13) (oi := ({ dst := (some 134), op := (Op.extract (Operand.tmp 121) 1), type := 3, pos := "law.go:49", after := #[{ on := 11, ground := Ground.data }, { on := 15, ground := (Ground.gcOnly Departure.lateStores) }], guard := none } : Oper)) (v := ?_) rfl (by kernel_rfl) (by kernel_rfl) (by kernel_rfl) (fun _ _ _ h => h) (Or.inl ⟨by rfl, ?_⟩) (by assumption) ?_
                  rotate_left
                  · (intro w_ hSw; (try dsimp only at hSw); go_simp; try with_reducible rfl)
                  try simp only [Act.put, List.setIfInBounds_toArray, List.set_cons_zero, List.set_cons_succ]
                  refine wpAnyH_ready (rs := [14]) (by kernel_rfl) (by simp) ?_
                  refine AllReadyH.cons (o := ({ dst := (some 22), op := (Op.alloc 38), type := 0, pos := "law.go:49", after := #[], guard := none } : Oper)) rfl (fun K hK => ?_) ?_
                  · go_simp
                    refine hK.out _ _ (by exact bl_alloc hS_ _) (fun hS_ => ?_)
                    clear hK K
                    try simp only [Act.put, List.setIfInBounds_toArray, List.set_cons_zero, List.set_cons_succ]
                    refine wpAnyH_ready (rs := [15]) (by kernel_rfl) (by simp) ?_
                    refine AllReadyH.cons (o := ({ dst := none, op := (Op.store 38 (Operand.tmp 22) (Operand.tmp 133)), type := 0, pos := "law.go:49", after := #[{ on := 14, ground := Ground.data }, { on := 12, ground := Ground.data }, { on := 10, ground := Ground.chain }, { on := 0, ground := Ground.phase }, { on := 1, ground := Ground.phase }, { on := 2, ground := Ground.phase }, { on := 3, ground := Ground.phase }, { on := 4, ground := Ground.phase }, { on := 5, ground := Ground.phase }, { on := 6, ground := Ground.phase }, { on := 7, ground := Ground.phase }, { on := 8, ground := Ground.phase }, { on := 9, ground := Ground.phase }, { on := 10, ground := Ground.phase }, { on := 11, ground := Ground.phase }, { on := 12, ground := Ground.phase }, { on := 13, ground := (Ground.textOnly Departure.lateStores) }, { on := 14, ground := Ground.phase }], guard := none } : Oper)) rfl (fun K hK => ?_) ?_
                    · rw [if_pos (by rfl)]
                      refine wp_store_row 38 (.tmp 22) (.tmp 133) rfl w8.heap.size (wvs m2 (.slice aL2 L2.rows kL2) L2 (.slice aT2 m2.this.rows kT2) m2.this) rfl rfl 38 _ (Blk.new w8 _ _) (by kernel_rfl) rfl (by kernel_rfl) ?_
                      rw [World.setRow_alloc_new]
                      simp only [Act.put, List.setIfInBounds_toArray, List.set_cons_zero, List.set_cons_succ]
                      refine hK.out _ _ (by exact bl_alloc (bnext (Below.drew (Below.refl _ _)) hb8) _) (fun hS_ => ?_)
                      clear hK K
                      try simp only [Act.put, List.setIfInBounds_toArray, List.set_cons_zero, List.set_cons_succ]
                      refine wpAnyH_take (i := 16) (oi := ({ dst := (some 23), op := (Op.assign (Operand.tmp 134)), type := 3, pos := "law.go:49", after := #[{ on := 13, ground := Ground.data }, { on := 15, ground := Ground.chain }, { on := 0, ground := Ground.phase }, { on := 1, ground := Ground.phase }, { on := 2, ground := Ground.phase }, { on := 3, ground := Ground.phase }, { on := 4, ground := Ground.phase }, { on := 5, ground := Ground.phase }, { on := 6, ground := Ground.phase }, { on := 7, ground := Ground.phase }, { on := 8, ground := Ground.phase }, { on := 9, ground := Ground.phase }, { on := 10, ground := Ground.phase }, { on := 11, ground := Ground.phase }, { on := 12, ground := Ground.phase }, { on := 13, ground := Ground.phase }, { on := 14, ground := Ground.phase }, { on := 15, ground := Ground.phase }], guard := none } : Oper)) (v := ?_) rfl (by kernel_rfl) (by kernel_rfl) (by kernel_rfl) (fun _ _ _ h => h) (Or.inl ⟨by rfl, ?_⟩) (by assumption) ?_
                      rotate_left
                      · (intro w_ hSw; (try dsimp only at hSw); go_simp; try with_reducible rfl)
                      try simp only [Act.put, List.setIfInBounds_toArray, List.set_cons_zero, List.set_cons_succ]
                      refine wpAnyH_done (by kernel_rfl) ?_ _
                      refine NoPanic.normal ?_
                      have hg8 := HG7.out.drew.kept hk8 rfl
                      have HP9 := Lib.hid (hp8.alloc (.cells (wvs m2 (.slice aL2 L2.rows kL2) L2 (.slice aT2 m2.this.rows kT2) m2.this) 38))
                      have HG9 := Lib.hid (hg8.alloc (.cells (wvs m2 (.slice aL2 L2.rows kL2) L2 (.slice aT2 m2.this.rows kT2) m2.this) 38))
                      have HH9 := Lib.hid (Blk.new w8 38 (wvs m2 (.slice aL2 L2.rows kL2) L2 (.slice aT2 m2.this.rows kT2) m2.this))
                      clear hg8 hp8 hk8 hb8 hS_ HC1 HC4 HTA HZA HT7 HG7 c0 c1 c2 c3 c4 c5 c6 c7 c8 c9 c10 c11 c12 hcell7
                      generalize w8.heap.size = g3 at *
                      generalize w8.alloc _ = w9 at *
                      have hcell9 := (HC.out.1.below HP9.out.below).cell k (by omega)
                      rw [HX.out] at hcell9
                      have HAD := Lib.hid (pw_add (fr) (keyS x) n9 HP9.out (keyS_size x) (by omega))
                      rw [← HM2.out, ← HER.out] at HAD
                      go_wp2_with fail
                      refine HAD.out.mono ?_
                      rintro e w10 ⟨rfl, hp10, hk10⟩
                      have HG10 := Lib.hid (HG9.out.kept hk10 (.inl rfl))
                      have HH10 := Lib.hid (HH9.out.kept hk10 (.inr rfl))
                      have HP10 := Lib.hid hp10
                      have hxe : ((er : Int) != er) = false := by simp
                      clear hp10 hk10 HP9 HG9 HH9 HAD hcell9
                      go_upto_region 24 with fail
                      apply wp_region_lit
                      refine wpList_load_mid rfl 38 (.tmp 22) rfl g3 0 rfl (wvs m2 (.slice aL2 L2.rows kL2) L2 (.slice aT2 m2.this.rows kT2) m2.this).toList _ HH10.out.range Try.underlying38 rfl (by kernel_rfl) ?_
                      refine wpList_store_row rfl 38 (.tmp 16) (.tmp 149) rfl g2 (wvs m2 (.slice aL2 L2.rows kL2) L2 (.slice aT2 m2.this.rows kT2) m2.this) rfl rfl 38 _ HG10.out (by kernel_rfl) rfl (by kernel_rfl) ?_
                      go_upto_region 31 with fail
                      have HPX := Lib.hid ((HP10.out.chg (chg_row (w := w10) (g := g2) (.inl rfl) (wvs m2 (.slice aL2 L2.rows kL2) L2 (.slice aT2 m2.this.rows kT2) m2.this))).fewer (G' := fun q => q = g2) (fun q hq => .inl hq))
                      have HGX := Lib.hid (HG10.out.row (wvs m2 (.slice aL2 L2.rows kL2) L2 (.slice aT2 m2.this.rows kT2) m2.this))
                      generalize w10.setRow g2 _ = w20 at *
                      clear HP10 HG10 HH10
                      have c0 : w20.cell? ⟨g2, 0, none⟩ = some (.int .i64 (m2.rows : Int)) := HGX.out.cell 0
                      have c1 : w20.cell? ⟨g2, 1, none⟩ = some (.int .i64 (m2.W : Int)) := HGX.out.cell 1
                      have c2 : w20.cell? ⟨g2, 2, none⟩ = some (uv m2.seed) := HGX.out.cell 2
                      have c3 : w20.cell? ⟨g2, 3, none⟩ = some (.int .i64 (m2.long : Int)) := HGX.out.cell 3
                      have c4 : w20.cell? ⟨g2, 4, none⟩ = some (.int .i64 (m2.now : Int)) := HGX.out.cell 4
                      have c5 : w20.cell? ⟨g2, 5, none⟩ = some ((.slice aL2 L2.rows kL2)) := HGX.out.cell 5
                      have c6 : w20.cell? ⟨g2, 6, none⟩ = some (.int .i64 (L2.W : Int)) := HGX.out.cell 6
                      have c7 : w20.cell? ⟨g2, 7, none⟩ = some (uv L2.seed) := HGX.out.cell 7
                      have c8 : w20.cell? ⟨g2, 8, none⟩ = some (nv L2.total) := HGX.out.cell 8
                      have c9 : w20.cell? ⟨g2, 9, none⟩ = some ((.slice aT2 m2.this.rows kT2)) := HGX.out.cell 9
                      have c10 : w20.cell? ⟨g2, 10, none⟩ = some (.int .i64 (m2.this.W : Int)) := HGX.out.cell 10
                      have c11 : w20.cell? ⟨g2, 11, none⟩ = some (uv m2.this.seed) := HGX.out.cell 11
                      have c12 : w20.cell? ⟨g2, 12, none⟩ = some (nv m2.this.total) := HGX.out.cell 12
                      have hnm2 := HPX.out.oks.2.1.nowm
                      go_wp2_with fail
                      go_roundw
                      case rel => exact ⟨k + 1, max n1 m2.now, _, L2, _, m2, by omega, by go_num, by go_num, by omega, HPX, HGX⟩
                      case measure => simp [intOf]; omega
                    exact AllReadyH.nil
                  exact AllReadyH.nil
                refine AllReadyH.cons (o := ({ dst := (some 22), op := (Op.alloc 38), type := 0, pos := "law.go:49", after := #[], guard := none } : Oper)) rfl (fun K hK => ?_) ?_
                · go_simp
                  refine hK.out _ _ (by exact bl_alloc hS_ _) (fun hS_ => ?_)
                  clear hK K
                  try simp only [Act.put, List.setIfInBounds_toArray, List.set_cons_zero, List.set_cons_succ]
                  refine wpAnyH_ready (rs := [10]) (by kernel_rfl) (by simp) ?_
                  refine AllReadyH.cons (o := ({ dst := (some 132), op := (Op.call { callee := (Callee.value (Operand.func 14)), args := #[(Operand.tmp 122), (Operand.tmp 123), (Operand.tmp 124), (Operand.tmp 131)], argTypes := #[38, 3, 9, 22] }), type := 41, pos := "law.go:49", after := #[{ on := 0, ground := Ground.data }, { on := 1, ground := Ground.data }, { on := 2, ground := Ground.data }, { on := 9, ground := Ground.data }], guard := none } : Oper)) rfl (fun K hK => ?_) ?_
                  · go_simp
                    refine (HC1.out _ _ HTA.out).mono ?_
                    rintro e w8 ⟨vL2, L2, vT2, rfl, hp8, hk8, hb8⟩
                    obtain ⟨⟨aL2, kL2, rfl⟩, ⟨aT2, kT2, rfl⟩⟩ := hp8.slices
                    have hq8 := HZA.out.kept hk8 (.inr rfl)
                    refine hK.out _ _ (by exact bnext hS_ hb8) (fun hS_ => ?_)
                    clear hK K
                    try simp only [Act.put, List.setIfInBounds_toArray, List.set_cons_zero, List.set_cons_succ]
                    refine wpAnyH_take (i := 11) (oi := ({ dst := (some 121), op := (Op.move (Operand.tmp 132)), type := 41, pos := "law.go:49", after := #[{ on := 10, ground := Ground.data }], guard := none } : Oper)) (v := ?_) rfl (by kernel_rfl) (by kernel_rfl) (by kernel_rfl) (fun _ _ _ h => h) (Or.inl ⟨by rfl, ?_⟩) (by assumption) ?_
                    rotate_left
                    · (intro w_ hSw; (try dsimp only at hSw); go_simp; try with_reducible rfl)
                    try simp only [Act.put, List.setIfInBounds_toArray, List.set_cons_zero, List.set_cons_succ]
                    refine wpAnyH_take (i := 12) (oi := ({ dst := (some 133), op := (Op.extract (Operand.tmp 121) 0), type := 38, pos := "law.go:49", after := #[{ on := 11, ground := Ground.data }], guard := none } : Oper)) (v := ?_) rfl (by kernel_rfl) (by kernel_rfl) (by kernel_rfl) (fun _ _ _ h => h) (Or.inl ⟨by rfl, ?_⟩) (by assumption) ?_
                    rotate_left
                    · (intro w_ hSw; (try dsimp only at hSw); go_simp; try with_reducible rfl)
                    try simp only [Act.put, List.setIfInBounds_toArray, List.set_cons_zero, List.set_cons_succ]
                    refine wpAnyH_take (i := 13) (oi := ({ dst := (some 134), op := (Op.extract (Operand.tmp 121) 1), type := 3, pos := "law.go:49", after := #[{ on := 11, ground := Ground.data }, { on := 15, ground := (Ground.gcOnly Departure.lateStores) }], guard := none } : Oper)) (v := ?_) rfl (by kernel_rfl) (by kernel_rfl) (by kernel_rfl) (fun _ _ _ h => h) (Or.inl ⟨by rfl, ?_⟩) (by assumption) ?_
                    rotate_left
                    · (intro w_ hSw; (try dsimp only at hSw); go_simp; try with_reducible rfl)
                    try simp only [Act.put, List.setIfInBounds_toArray, List.set_cons_zero, List.set_cons_succ]
                    refine wpAnyH_ready (rs := [15]) (by kernel_rfl) (by simp) ?_
                    refine AllReadyH.cons (o := ({ dst := none, op := (Op.store 38 (Operand.tmp 22) (Operand.tmp 133)), type := 0, pos := "law.go:49", after := #[{ on := 14, ground := Ground.data }, { on := 12, ground := Ground.data }, { on := 10, ground := Ground.chain }, { on := 0, ground := Ground.phase }, { on := 1, ground := Ground.phase }, { on := 2, ground := Ground.phase }, { on := 3, ground := Ground.phase }, { on := 4, ground := Ground.phase }, { on := 5, ground := Ground.phase }, { on := 6, ground := Ground.phase }, { on := 7, ground := Ground.phase }, { on := 8, ground := Ground.phase }, { on := 9, ground := Ground.phase }, { on := 10, ground := Ground.phase }, { on := 11, ground := Ground.phase }, { on := 12, ground := Ground.phase }, { on := 13, ground := (Ground.textOnly Departure.lateStores) }, { on := 14, ground := Ground.phase }], guard := none } : Oper)) rfl (fun K hK => ?_) ?_
                    · rw [if_pos (by rfl)]
                      refine wp_store_row 38 (.tmp 22) (.tmp 133) rfl w7.heap.size (wvs m2 (.slice aL2 L2.rows kL2) L2 (.slice aT2 m2.this.rows kT2) m2.this) rfl rfl 38 _ hq8 (by kernel_rfl) rfl (by kernel_rfl) ?_
                      simp only [Act.put, List.setIfInBounds_toArray, List.set_cons_zero, List.set_cons_succ]
                      refine hK.out _ _ (by exact below_setRow hS_ (Nat.le_refl _) _) (fun hS_ => ?_)
                      clear hK K
                      try simp only [Act.put, List.setIfInBounds_toArray, List.set_cons_zero, List.set_cons_succ]
                      refine wpAnyH_take (i := 16) (oi := ({ dst := (some 23), op := (Op.assign (Operand.tmp 134)), type := 3, pos := "law.go:49", after := #[{ on := 13, ground := Ground.data }, { on := 15, ground := Ground.chain }, { on := 0, ground := Ground.phase }, { on := 1, ground := Ground.phase }, { on := 2, ground := Ground.phase }, { on := 3, ground := Ground.phase }, { on := 4, ground := Ground.phase }, { on := 5, ground := Ground.phase }, { on := 6, ground := Ground.phase }, { on := 7, ground := Ground.phase }, { on := 8, ground := Ground.phase }, { on := 9, ground := Ground.phase }, { on := 10, ground := Ground.phase }, { on := 11, ground := Ground.phase }, { on := 12, ground := Ground.phase }, { on := 13, ground := Ground.phase }, { on := 14, ground := Ground.phase }, { on := 15, ground := Ground.phase }], guard := none } : Oper)) (v := ?_) rfl (by kernel_rfl) (by kernel_rfl) (by kernel_rfl) (fun _ _ _ h => h) (Or.inl ⟨by rfl, ?_⟩) (by assumption) ?_
                      rotate_left
                      · (intro w_ hSw; (try dsimp only at hSw); go_simp; try with_reducible rfl)
                      try simp only [Act.put, List.setIfInBounds_toArray, List.set_cons_zero, List.set_cons_succ]
                      refine wpAnyH_done (by kernel_rfl) ?_ _
                      refine NoPanic.normal ?_
                      have hgl := HG7.out.lt
                      have hg8 := ((HG7.out.alloc (.cells #[.int .i64 0, .int .i64 0, .int .u64 0, .int .i64 0, .int .i64 0, .slice none 0 0, .int .i64 0, .int .u64 0, .int .u64 0, .slice none 0 0, .int .i64 0, .int .u64 0, .int .u64 0] 38)).drew).kept hk8 (.inl rfl)
                      have HP9 := Lib.hid (hp8.chg (chg_row (w := w8) (g := w7.heap.size) (.inr rfl) (wvs m2 (.slice aL2 L2.rows kL2) L2 (.slice aT2 m2.this.rows kT2) m2.this)))
                      have HG9 : Hid (Blk (w8.setRow w7.heap.size (wvs m2 (.slice aL2 L2.rows kL2) L2 (.slice aT2 m2.this.rows kT2) m2.this)) g2 38 (wvs m (.slice aL L.rows kL) L (.slice aT m.this.rows kT) m.this)) := Lib.hid ((setRow_other w8 w7.heap.size g2 (wvs m2 (.slice aL2 L2.rows kL2) L2 (.slice aT2 m2.this.rows kT2) m2.this) (Nat.ne_of_lt hgl)).trans hg8)
                      have HH9 := Lib.hid (hq8.row (wvs m2 (.slice aL2 L2.rows kL2) L2 (.slice aT2 m2.this.rows kT2) m2.this))
                      clear hgl hg8 hp8 hk8 hb8 hS_ hq8 HC1 HC4 HTA HZA HT7 HG7 c0 c1 c2 c3 c4 c5 c6 c7 c8 c9 c10 c11 c12 hcell7
                      generalize w7.heap.size = g3 at *
                      generalize w8.setRow g3 _ = w9 at *
                      have hcell9 := (HC.out.1.below HP9.out.below).cell k (by omega)
                      rw [HX.out] at hcell9
                      have HAD := Lib.hid (pw_add (fr) (keyS x) n9 HP9.out (keyS_size x) (by omega))
                      rw [← HM2.out, ← HER.out] at HAD
                      go_wp2_with fail
                      refine HAD.out.mono ?_
                      rintro e w10 ⟨rfl, hp10, hk10⟩
                      have HG10 := Lib.hid (HG9.out.kept hk10 (.inl rfl))
                      have HH10 := Lib.hid (HH9.out.kept hk10 (.inr rfl))
                      have HP10 := Lib.hid hp10
                      have hxe : ((er : Int) != er) = false := by simp
                      clear hp10 hk10 HP9 HG9 HH9 HAD hcell9
                      go_upto_region 24 with fail
                      apply wp_region_lit
                      refine wpList_load_mid rfl 38 (.tmp 22) rfl g3 0 rfl (wvs m2 (.slice aL2 L2.rows kL2) L2 (.slice aT2 m2.this.rows kT2) m2.this).toList _ HH10.out.range Try.underlying38 rfl (by kernel_rfl) ?_
                      refine wpList_store_row rfl 38 (.tmp 16) (.tmp 149) rfl g2 (wvs m2 (.slice aL2 L2.rows kL2) L2 (.slice aT2 m2.this.rows kT2) m2.this) rfl rfl 38 _ HG10.out (by kernel_rfl) rfl (by kernel_rfl) ?_
                      go_upto_region 31 with fail
                      have HPX := Lib.hid ((HP10.out.chg (chg_row (w := w10) (g := g2) (.inl rfl) (wvs m2 (.slice aL2 L2.rows kL2) L2 (.slice aT2 m2.this.rows kT2) m2.this))).fewer (G' := fun q => q = g2) (fun q hq => .inl hq))
                      have HGX := Lib.hid (HG10.out.row (wvs m2 (.slice aL2 L2.rows kL2) L2 (.slice aT2 m2.this.rows kT2) m2.this))
                      generalize w10.setRow g2 _ = w20 at *
                      clear HP10 HG10 HH10
                      have c0 : w20.cell? ⟨g2, 0, none⟩ = some (.int .i64 (m2.rows : Int)) := HGX.out.cell 0
                      have c1 : w20.cell? ⟨g2, 1, none⟩ = some (.int .i64 (m2.W : Int)) := HGX.out.cell 1
                      have c2 : w20.cell? ⟨g2, 2, none⟩ = some (uv m2.seed) := HGX.out.cell 2
                      have c3 : w20.cell? ⟨g2, 3, none⟩ = some (.int .i64 (m2.long : Int)) := HGX.out.cell 3
                      have c4 : w20.cell? ⟨g2, 4, none⟩ = some (.int .i64 (m2.now : Int)) := HGX.out.cell 4
                      have c5 : w20.cell? ⟨g2, 5, none⟩ = some ((.slice aL2 L2.rows kL2)) := HGX.out.cell 5
                      have c6 : w20.cell? ⟨g2, 6, none⟩ = some (.int .i64 (L2.W : Int)) := HGX.out.cell 6
                      have c7 : w20.cell? ⟨g2, 7, none⟩ = some (uv L2.seed) := HGX.out.cell 7
                      have c8 : w20.cell? ⟨g2, 8, none⟩ = some (nv L2.total) := HGX.out.cell 8
                      have c9 : w20.cell? ⟨g2, 9, none⟩ = some ((.slice aT2 m2.this.rows kT2)) := HGX.out.cell 9
                      have c10 : w20.cell? ⟨g2, 10, none⟩ = some (.int .i64 (m2.this.W : Int)) := HGX.out.cell 10
                      have c11 : w20.cell? ⟨g2, 11, none⟩ = some (uv m2.this.seed) := HGX.out.cell 11
                      have c12 : w20.cell? ⟨g2, 12, none⟩ = some (nv m2.this.total) := HGX.out.cell 12
                      have hnm2 := HPX.out.oks.2.1.nowm
                      go_wp2_with fail
                      go_roundw
                      case rel => exact ⟨k + 1, max n1 m2.now, _, L2, _, m2, by omega, by go_num, by go_num, by omega, HPX, HGX⟩
                      case measure => simp [intOf]; omega
                    exact AllReadyH.nil
                  exact AllReadyH.nil
                exact AllReadyH.nil
              · as_aux_lemma =>
                obtain ⟨⟨aL, kL, rfl⟩, ⟨aT, kT, rfl⟩⟩ := HT7.out.slices
                have hg7 := HG7.out
                have c0 : w7.cell? ⟨g2, 0, none⟩ = some (.int .i64 (m.rows : Int)) := hg7.cell 0
                have c1 : w7.cell? ⟨g2, 1, none⟩ = some (.int .i64 (m.W : Int)) := hg7.cell 1
                have c2 : w7.cell? ⟨g2, 2, none⟩ = some (uv m.seed) := hg7.cell 2
                have c3 : w7.cell? ⟨g2, 3, none⟩ = some (.int .i64 (m.long : Int)) := hg7.cell 3
                have c4 : w7.cell? ⟨g2, 4, none⟩ = some (.int .i64 (m.now : Int)) := hg7.cell 4
                have c5 : w7.cell? ⟨g2, 5, none⟩ = some ((.slice aL L.rows kL)) := hg7.cell 5
                have c6 : w7.cell? ⟨g2, 6, none⟩ = some (.int .i64 (L.W : Int)) := hg7.cell 6
                have c7 : w7.cell? ⟨g2, 7, none⟩ = some (uv L.seed) := hg7.cell 7
                have c8 : w7.cell? ⟨g2, 8, none⟩ = some (nv L.total) := hg7.cell 8
                have c9 : w7.cell? ⟨g2, 9, none⟩ = some ((.slice aT m.this.rows kT)) := hg7.cell 9
                have c10 : w7.cell? ⟨g2, 10, none⟩ = some (.int .i64 (m.this.W : Int)) := hg7.cell 10
                have c11 : w7.cell? ⟨g2, 11, none⟩ = some (uv m.this.seed) := hg7.cell 11
                have c12 : w7.cell? ⟨g2, 12, none⟩ = some (nv m.this.total) := hg7.cell 12
                have HAT := Lib.hid (rw_at (fr) HT7.out)
                have HCF := Lib.hid fun L2 => closed_eq m HT7.out.oks.2.1 (fr) L2 (keyS x).data.toList
                have HOF := Lib.hid (opened_eq m (fr) (keyS x).data.toList)
                have HE2 := Lib.hid (err_twice m (fr))
                have HT2 := Lib.hid (turnAny_twice m (fr))
                have HEO : Hid (m.err (fr) = if m.ok (fr) then 0 else 60) := Lib.hid rfl
                obtain ⟨m2, hm2⟩ : ∃ m2, m2 = m.turnAny (fr) := ⟨_, rfl⟩
                obtain ⟨er, her⟩ : ∃ er, er = m.err (fr) := ⟨_, rfl⟩
                rw [← hm2, ← her] at HAT HE2
                rw [← hm2] at HT2 HCF HOF
                rw [← her] at HEO
                have HM2 := Lib.hid hm2
                have HER := Lib.hid her
                clear hg7 hm2 her
                go_wp2_with fail
                refine HAT.out.mono ?_
                rintro e w8 ⟨vL2, L2, vT2, rfl, hp8, hk8⟩
                have hg8 := HG7.out.kept hk8 rfl
                replace HCF := Lib.hid (HCF.out L2 hp8.oks.1)
                have HP9 := Lib.hid (hp8.alloc (.cells (wvs m2 vL2 L2 vT2 m2.this) 38))
                have HG9 := Lib.hid (hg8.alloc (.cells (wvs m2 vL2 L2 vT2 m2.this) 38))
                have HH9 := Lib.hid (Blk.new w8 38 (wvs m2 vL2 L2 vT2 m2.this))
                obtain ⟨⟨aL2, kL2, rfl⟩, ⟨aT2, kT2, rfl⟩⟩ := hp8.slices
                clear hp8 hk8 hg8 HT7 HG7 HAT c0 c1 c2 c3 c4 c5 c6 c7 c8 c9 c10 c11 c12
                go_upto_region 26 with fail
                generalize w8.alloc _ = w9 at *
                generalize w8.heap.size = g3 at *
                apply wp_region_lit
                refine wpList_load_mid rfl 38 (.tmp 24) rfl g3 0 rfl (wvs m2 (.slice aL2 L2.rows kL2) L2 (.slice aT2 m2.this.rows kT2) m2.this).toList _ HH9.out.range Try.underlying38 rfl (by kernel_rfl) ?_
                refine wpList_store_row rfl 38 (.tmp 16) (.tmp 156) rfl g2 (wvs m2 (.slice aL2 L2.rows kL2) L2 (.slice aT2 m2.this.rows kT2) m2.this) rfl rfl 38 _ HG9.out (by kernel_rfl) rfl (by kernel_rfl) ?_
                go_upto_region 27 with fail
                have HP10 := Lib.hid ((HP9.out.chg (chg_row (w := w9) (g := g2) (.inl rfl) (wvs m2 (.slice aL2 L2.rows kL2) L2 (.slice aT2 m2.this.rows kT2) m2.this))).fewer (G' := fun q => q = g2) (fun q hq => .inl hq))
                have HG10 := Lib.hid (HG9.out.row (wvs m2 (.slice aL2 L2.rows kL2) L2 (.slice aT2 m2.this.rows kT2) m2.this))
                generalize w9.setRow g2 _ = w10 at *
                clear HP9 HG9 HH9
                have HCL := Lib.hid (pw_closed (fr) (keyS x) HP10.out (keyS_size x))
                rw [← HM2.out, ← HER.out] at HCL
                go_wp2_with fail
                refine HCL.out.mono ?_
                rintro e w11 ⟨rfl, hp11, hk11⟩
                have hg11 := HG10.out.kept hk11 rfl
                have HOP := Lib.hid (pw_open (fr) (keyS x) hp11 (keyS_size x))
                rw [HT2.out, HE2.out] at HOP
                have HG11 := Lib.hid hg11
                clear HP10 HG10 HCL hp11 hk11 hg11
                go_wp2_with fail
                refine HOP.out.mono ?_
                rintro e w12 ⟨rfl, hp12, hk12⟩
                have HG12 := Lib.hid (HG11.out.kept hk12 rfl)
                have HP12 := Lib.hid hp12
                clear HG11 hp12 hk12 HOP
                have HKL := Lib.hid (rw_countL (keyS x) HP12.out (keyS_size x))
                have c0 : w12.cell? ⟨g2, 0, none⟩ = some (.int .i64 (m2.rows : Int)) := HG12.out.cell 0
                have c1 : w12.cell? ⟨g2, 1, none⟩ = some (.int .i64 (m2.W : Int)) := HG12.out.cell 1
                have c2 : w12.cell? ⟨g2, 2, none⟩ = some (uv m2.seed) := HG12.out.cell 2
                have c3 : w12.cell? ⟨g2, 3, none⟩ = some (.int .i64 (m2.long : Int)) := HG12.out.cell 3
                have c4 : w12.cell? ⟨g2, 4, none⟩ = some (.int .i64 (m2.now : Int)) := HG12.out.cell 4
                have c5 : w12.cell? ⟨g2, 5, none⟩ = some ((.slice aL2 L2.rows kL2)) := HG12.out.cell 5
                have c6 : w12.cell? ⟨g2, 6, none⟩ = some (.int .i64 (L2.W : Int)) := HG12.out.cell 6
                have c7 : w12.cell? ⟨g2, 7, none⟩ = some (uv L2.seed) := HG12.out.cell 7
                have c8 : w12.cell? ⟨g2, 8, none⟩ = some (nv L2.total) := HG12.out.cell 8
                have c9 : w12.cell? ⟨g2, 9, none⟩ = some ((.slice aT2 m2.this.rows kT2)) := HG12.out.cell 9
                have c10 : w12.cell? ⟨g2, 10, none⟩ = some (.int .i64 (m2.this.W : Int)) := HG12.out.cell 10
                have c11 : w12.cell? ⟨g2, 11, none⟩ = some (uv m2.this.seed) := HG12.out.cell 11
                have c12 : w12.cell? ⟨g2, 12, none⟩ = some (nv m2.this.total) := HG12.out.cell 12
                by_cases hok : m.ok (fr) = true
                · rw [if_pos hok] at HCF HOF HEO
                  obtain rfl := HEO.out
                  rw [HCF.out, HOF.out]
                  generalize hnL : L2.count (keyS x).data.toList = nL at *
                  generalize hnT : m2.this.count (keyS x).data.toList = nT at *
                  have HNT := Lib.hid hnT
                  clear hnL hnT HCF HOF HEO HE2 HT2 HER HM2 hok
                  have hx1 : ((nL : Int) != (nL : Int)) = false := by simp
                  have hx2 : ((nT : Int) != (nT : Int)) = false := by simp
                  go_wp2_with fail
                  refine HKL.out.mono ?_
                  rintro e w13 ⟨rfl, hb13⟩
                  have HP13 := Lib.hid (HP12.out.next hb13).1
                  have HG13 := Lib.hid (HG12.out.next hb13)
                  clear HP12 HG12 hb13 c0 c1 c2 c3 c4 c5 c6 c7 c8 c9 c10 c11 c12 HKL
                  have HKT := Lib.hid (rw_countT (keyS x) HP13.out (keyS_size x))
                  rw [HNT.out] at HKT
                  have c0 : w13.cell? ⟨g2, 0, none⟩ = some (.int .i64 (m2.rows : Int)) := HG13.out.cell 0
                  have c1 : w13.cell? ⟨g2, 1, none⟩ = some (.int .i64 (m2.W : Int)) := HG13.out.cell 1
                  have c2 : w13.cell? ⟨g2, 2, none⟩ = some (uv m2.seed) := HG13.out.cell 2
                  have c3 : w13.cell? ⟨g2, 3, none⟩ = some (.int .i64 (m2.long : Int)) := HG13.out.cell 3
                  have c4 : w13.cell? ⟨g2, 4, none⟩ = some (.int .i64 (m2.now : Int)) := HG13.out.cell 4
                  have c5 : w13.cell? ⟨g2, 5, none⟩ = some ((.slice aL2 L2.rows kL2)) := HG13.out.cell 5
                  have c6 : w13.cell? ⟨g2, 6, none⟩ = some (.int .i64 (L2.W : Int)) := HG13.out.cell 6
                  have c7 : w13.cell? ⟨g2, 7, none⟩ = some (uv L2.seed) := HG13.out.cell 7
                  have c8 : w13.cell? ⟨g2, 8, none⟩ = some (nv L2.total) := HG13.out.cell 8
                  have c9 : w13.cell? ⟨g2, 9, none⟩ = some ((.slice aT2 m2.this.rows kT2)) := HG13.out.cell 9
                  have c10 : w13.cell? ⟨g2, 10, none⟩ = some (.int .i64 (m2.this.W : Int)) := HG13.out.cell 10
                  have c11 : w13.cell? ⟨g2, 11, none⟩ = some (uv m2.this.seed) := HG13.out.cell 11
                  have c12 : w13.cell? ⟨g2, 12, none⟩ = some (nv m2.this.total) := HG13.out.cell 12
                  go_wp2_with fail
                  refine HKT.out.mono ?_
                  rintro e w20 ⟨rfl, hb20⟩
                  have HPX := Lib.hid (HP13.out.next hb20).1
                  have HGX := Lib.hid (HG13.out.next hb20)
                  clear HP13 HG13 hb20 c0 c1 c2 c3 c4 c5 c6 c7 c8 c9 c10 c11 c12 HKT
                  have c0 : w20.cell? ⟨g2, 0, none⟩ = some (.int .i64 (m2.rows : Int)) := HGX.out.cell 0
                  have c1 : w20.cell? ⟨g2, 1, none⟩ = some (.int .i64 (m2.W : Int)) := HGX.out.cell 1
                  have c2 : w20.cell? ⟨g2, 2, none⟩ = some (uv m2.seed) := HGX.out.cell 2
                  have c3 : w20.cell? ⟨g2, 3, none⟩ = some (.int .i64 (m2.long : Int)) := HGX.out.cell 3
                  have c4 : w20.cell? ⟨g2, 4, none⟩ = some (.int .i64 (m2.now : Int)) := HGX.out.cell 4
                  have c5 : w20.cell? ⟨g2, 5, none⟩ = some ((.slice aL2 L2.rows kL2)) := HGX.out.cell 5
                  have c6 : w20.cell? ⟨g2, 6, none⟩ = some (.int .i64 (L2.W : Int)) := HGX.out.cell 6
                  have c7 : w20.cell? ⟨g2, 7, none⟩ = some (uv L2.seed) := HGX.out.cell 7
                  have c8 : w20.cell? ⟨g2, 8, none⟩ = some (nv L2.total) := HGX.out.cell 8
                  have c9 : w20.cell? ⟨g2, 9, none⟩ = some ((.slice aT2 m2.this.rows kT2)) := HGX.out.cell 9
                  have c10 : w20.cell? ⟨g2, 10, none⟩ = some (.int .i64 (m2.this.W : Int)) := HGX.out.cell 10
                  have c11 : w20.cell? ⟨g2, 11, none⟩ = some (uv m2.this.seed) := HGX.out.cell 11
                  have c12 : w20.cell? ⟨g2, 12, none⟩ = some (nv m2.this.total) := HGX.out.cell 12
                  have hnm2 := HPX.out.oks.2.1.nowm
                  go_wp2_with fail
                  go_roundw
                  case rel => exact ⟨k + 1, max n1 m2.now, _, L2, _, m2, by omega, by go_num, by go_num, by omega, HPX, HGX⟩
                  case measure => simp [intOf]; omega
                · rw [if_neg hok] at HCF HOF HEO
                  obtain rfl := HEO.out
                  rw [HCF.out, HOF.out]
                  clear HCF HOF HEO HE2 HT2 HER HM2 HKL c0 c1 c2 c3 c4 c5 c6 c7 c8 c9 c10 c11 c12
                  have HPX := HP12
                  have HGX := HG12
                  generalize w12 = w20 at *
                  have c0 : w20.cell? ⟨g2, 0, none⟩ = some (.int .i64 (m2.rows : Int)) := HGX.out.cell 0
                  have c1 : w20.cell? ⟨g2, 1, none⟩ = some (.int .i64 (m2.W : Int)) := HGX.out.cell 1
                  have c2 : w20.cell? ⟨g2, 2, none⟩ = some (uv m2.seed) := HGX.out.cell 2
                  have c3 : w20.cell? ⟨g2, 3, none⟩ = some (.int .i64 (m2.long : Int)) := HGX.out.cell 3
                  have c4 : w20.cell? ⟨g2, 4, none⟩ = some (.int .i64 (m2.now : Int)) := HGX.out.cell 4
                  have c5 : w20.cell? ⟨g2, 5, none⟩ = some ((.slice aL2 L2.rows kL2)) := HGX.out.cell 5
                  have c6 : w20.cell? ⟨g2, 6, none⟩ = some (.int .i64 (L2.W : Int)) := HGX.out.cell 6
                  have c7 : w20.cell? ⟨g2, 7, none⟩ = some (uv L2.seed) := HGX.out.cell 7
                  have c8 : w20.cell? ⟨g2, 8, none⟩ = some (nv L2.total) := HGX.out.cell 8
                  have c9 : w20.cell? ⟨g2, 9, none⟩ = some ((.slice aT2 m2.this.rows kT2)) := HGX.out.cell 9
                  have c10 : w20.cell? ⟨g2, 10, none⟩ = some (.int .i64 (m2.this.W : Int)) := HGX.out.cell 10
                  have c11 : w20.cell? ⟨g2, 11, none⟩ = some (uv m2.this.seed) := HGX.out.cell 11
                  have c12 : w20.cell? ⟨g2, 12, none⟩ = some (nv m2.this.total) := HGX.out.cell 12
                  have hnm2 := HPX.out.oks.2.1.nowm
                  go_wp2_with fail
                  go_roundw
                  case rel => exact ⟨k + 1, max n1 m2.now, _, L2, _, m2, by omega, by go_num, by go_num, by omega, HPX, HGX⟩
                  case measure => simp [intOf]; omega
            · have hy239b : (y == 239) = false := by rw [beq_eq_false_iff_ne]; exact hy239
              go_wp2_with fail
              refine (HKY.out _).mono ?_
              rintro e w7 ⟨rfl, hb7⟩
              have HT7 := Lib.hid (HT.out.next hb7).1
              have HG7 := Lib.hid (HG.out.next hb7)
              have hcell7 := (HC.out.1.below (bnext HT.out.below hb7)).cell k (by omega)
              rw [HX.out] at hcell7
              clear hb7 HT HG hcell HKY
              by_cases hx5 : x % 5 = 0
              · as_aux_lemma =>
                obtain ⟨⟨aL, kL, rfl⟩, ⟨aT, kT, rfl⟩⟩ := HT7.out.slices
                have hrc := fun W (hW : Below w7.heap.size w7 W) => (HC.out.1.below (bnext HT7.out.below hW)).cell k (by omega)
                rw [HX.out] at hrc
                have HRC := Lib.hid hrc
                obtain ⟨x3, hx3, hx3l⟩ : ∃ x3 : Nat, x % 3 = (x3 : Int) ∧ x3 ≤ 2 := ⟨(x % 3).toNat, by omega, by omega⟩
                obtain ⟨n9, hn9, hn9l⟩ : ∃ n9 : Nat, 1 + (x3 : Int) = (n9 : Int) ∧ n9 ≤ 3 := ⟨1 + x3, by omega, by omega⟩
                have hwx3 : IntKind.u64.wrap (x3 : Int) = (x3 : Int) := IntWalk.u64_in _ (by omega)
                have hwn9 : IntKind.u64.wrap (n9 : Int) = (n9 : Int) := IntWalk.u64_in _ (by omega)
                have HUW : Hid (IntKind.u64.wrap (1 + IntKind.u64.wrap (x.tmod 3)) = (n9 : Int)) := Lib.hid (by rw [Int.tmod_eq_emod_of_nonneg hx0, hx3, hwx3, hn9, hwn9])
                have HC1 := Lib.hid fun W G' (h : PairW w W g G' (.slice aL L.rows kL) (.slice aT m.this.rows kT) m m L) => rw_add ((n1 : Int)) (keyS x) n9 h (keyS_size x) (by omega)
                rw [show nv n9 = .int .u64 (IntKind.u64.wrap (1 + IntKind.u64.wrap (x.tmod 3))) by rw [HUW.out]] at HC1
                obtain ⟨m2, hm2⟩ : ∃ m2, m2 = m.add ((n1 : Int)) (keyS x).data.toList n9 := ⟨_, rfl⟩
                obtain ⟨er, her⟩ : ∃ er, er = m.err ((n1 : Int)) := ⟨_, rfl⟩
                rw [← hm2, ← her] at HC1
                have HM2 := Lib.hid hm2
                have HER := Lib.hid her
                have her2 : er = 0 ∨ er = 60 := by rw [her]; unfold Win.err; split; exact .inl rfl; exact .inr rfl
                have hwer : IntKind.i64.wrap er = er := by rcases her2 with h | h <;> rw [h] <;> rfl
                have her0 : 0 ≤ er ∧ er ≤ 60 := by omega
                clear hm2 her hrc her2
                have hg7 := HG7.out
                have c0 : w7.cell? ⟨g2, 0, none⟩ = some (.int .i64 (m.rows : Int)) := hg7.cell 0
                have c1 : w7.cell? ⟨g2, 1, none⟩ = some (.int .i64 (m.W : Int)) := hg7.cell 1
                have c2 : w7.cell? ⟨g2, 2, none⟩ = some (uv m.seed) := hg7.cell 2
                have c3 : w7.cell? ⟨g2, 3, none⟩ = some (.int .i64 (m.long : Int)) := hg7.cell 3
                have c4 : w7.cell? ⟨g2, 4, none⟩ = some (.int .i64 (m.now : Int)) := hg7.cell 4
                have c5 : w7.cell? ⟨g2, 5, none⟩ = some ((.slice aL L.rows kL)) := hg7.cell 5
                have c6 : w7.cell? ⟨g2, 6, none⟩ = some (.int .i64 (L.W : Int)) := hg7.cell 6
                have c7 : w7.cell? ⟨g2, 7, none⟩ = some (uv L.seed) := hg7.cell 7
                have c8 : w7.cell? ⟨g2, 8, none⟩ = some (nv L.total) := hg7.cell 8
                have c9 : w7.cell? ⟨g2, 9, none⟩ = some ((.slice aT m.this.rows kT)) := hg7.cell 9
                have c10 : w7.cell? ⟨g2, 10, none⟩ = some (.int .i64 (m.this.W : Int)) := hg7.cell 10
                have c11 : w7.cell? ⟨g2, 11, none⟩ = some (uv m.this.seed) := hg7.cell 11
                have c12 : w7.cell? ⟨g2, 12, none⟩ = some (nv m.this.total) := hg7.cell 12
                have HC4 : Hid (∀ W, Below w7.heap.size w7 W → W.cell? ⟨g2, 0, none⟩ = some (.int .i64 (m.rows : Int)) ∧ W.cell? ⟨g2, 1, none⟩ = some (.int .i64 (m.W : Int)) ∧ W.cell? ⟨g2, 2, none⟩ = some (uv m.seed) ∧ W.cell? ⟨g2, 3, none⟩ = some (.int .i64 (m.long : Int)) ∧ W.cell? ⟨g2, 4, none⟩ = some (.int .i64 (m.now : Int)) ∧ W.cell? ⟨g2, 5, none⟩ = some ((.slice aL L.rows kL)) ∧ W.cell? ⟨g2, 6, none⟩ = some (.int .i64 (L.W : Int)) ∧ W.cell? ⟨g2, 7, none⟩ = some (uv L.seed) ∧ W.cell? ⟨g2, 8, none⟩ = some (nv L.total) ∧ W.cell? ⟨g2, 9, none⟩ = some ((.slice aT m.this.rows kT)) ∧ W.cell? ⟨g2, 10, none⟩ = some (.int .i64 (m.this.W : Int)) ∧ W.cell? ⟨g2, 11, none⟩ = some (uv m.this.seed) ∧ W.cell? ⟨g2, 12, none⟩ = some (nv m.this.total) ∧ W.cell? (adr ca k) = some (.int .u8 x) ∧ Below w7.heap.size w7 W) := Lib.hid fun W hW => ⟨(HG7.out.next hW).cell 0, (HG7.out.next hW).cell 1, (HG7.out.next hW).cell 2, (HG7.out.next hW).cell 3, (HG7.out.next hW).cell 4, (HG7.out.next hW).cell 5, (HG7.out.next hW).cell 6, (HG7.out.next hW).cell 7, (HG7.out.next hW).cell 8, (HG7.out.next hW).cell 9, (HG7.out.next hW).cell 10, (HG7.out.next hW).cell 11, (HG7.out.next hW).cell 12, HRC.out W hW, hW⟩
                clear hg7
                have HTA := Lib.hid ((HT7.out.alloc (.cells #[.int .i64 0, .int .i64 0, .int .u64 0, .int .i64 0, .int .i64 0, .slice none 0 0, .int .i64 0, .int .u64 0, .int .u64 0, .slice none 0 0, .int .i64 0, .int .u64 0, .int .u64 0] 38)).next (Below.drew (Below.refl _ _))).1
                have HZA := Lib.hid (Blk.new w7 38 #[.int .i64 0, .int .i64 0, .int .u64 0, .int .i64 0, .int .i64 0, .slice none 0 0, .int .i64 0, .int .u64 0, .int .u64 0, .slice none 0 0, .int .i64 0, .int .u64 0, .int .u64 0]).drew
                go_upto_region 22 with fail
                refine wp_region_noPanic ?_
                refine wp_region_held_drew (S := (fun W => Below w7.heap.size w7 W)) (by kernel_rfl) (by exact Below.drew (Below.refl _ _)) (fun hS_ => ?_)
                refine wpAnyH_take (i := 0) (oi := ({ dst := (some 122), op := (Op.load 38 (Operand.tmp 16)), type := 38, pos := "law.go:49", after := #[], guard := none } : Oper)) (v := ?_) rfl (by kernel_rfl) (by kernel_rfl) (by kernel_rfl) (fun _ _ _ h => h) (Or.inl ⟨by rfl, ?_⟩) (by assumption) ?_
                rotate_left
                · (intro w_ hSw; (try dsimp only at hSw); obtain ⟨q0, q1, q2, q3, q4, q5, q6, q7, q8, q9, q10, q11, q12, q13, q14⟩ := HC4.out w_ hSw; go_simp; try with_reducible rfl)
                try simp only [Act.put, List.setIfInBounds_toArray, List.set_cons_zero, List.set_cons_succ]
                refine wpAnyH_take (i := 1) (oi := ({ dst := (some 123), op := (Op.move (Operand.tmp 20)), type := 3, pos := "law.go:49", after := #[], guard := none } : Oper)) (v := ?_) rfl (by kernel_rfl) (by kernel_rfl) (by kernel_rfl) (fun _ _ _ h => h) (Or.inl ⟨by rfl, ?_⟩) (by assumption) ?_
                rotate_left
                · (intro w_ hSw; (try dsimp only at hSw); go_simp; try with_reducible rfl)
                try simp only [Act.put, List.setIfInBounds_toArray, List.set_cons_zero, List.set_cons_succ]
                refine wpAnyH_take (i := 2) (oi := ({ dst := (some 124), op := (Op.move (Operand.tmp 21)), type := 9, pos := "law.go:49", after := #[], guard := none } : Oper)) (v := ?_) rfl (by kernel_rfl) (by kernel_rfl) (by kernel_rfl) (fun _ _ _ h => h) (Or.inl ⟨by rfl, ?_⟩) (by assumption) ?_
                rotate_left
                · (intro w_ hSw; (try dsimp only at hSw); go_simp; try with_reducible rfl)
                try simp only [Act.put, List.setIfInBounds_toArray, List.set_cons_zero, List.set_cons_succ]
                refine wpAnyH_take (i := 3) (oi := ({ dst := (some 125), op := (Op.move (Operand.tmp 4)), type := 23, pos := "law.go:49", after := #[], guard := none } : Oper)) (v := ?_) rfl (by kernel_rfl) (by kernel_rfl) (by kernel_rfl) (fun _ _ _ h => h) (Or.inl ⟨by rfl, ?_⟩) (by assumption) ?_
                rotate_left
                · (intro w_ hSw; (try dsimp only at hSw); go_simp; try with_reducible rfl)
                try simp only [Act.put, List.setIfInBounds_toArray, List.set_cons_zero, List.set_cons_succ]
                refine wpAnyH_take (i := 4) (oi := ({ dst := (some 126), op := (Op.move (Operand.tmp 19)), type := 3, pos := "law.go:49", after := #[], guard := none } : Oper)) (v := ?_) rfl (by kernel_rfl) (by kernel_rfl) (by kernel_rfl) (fun _ _ _ h => h) (Or.inl ⟨by rfl, ?_⟩) (by assumption) ?_
                rotate_left
                · (intro w_ hSw; (try dsimp only at hSw); go_simp; try with_reducible rfl)
                try simp only [Act.put, List.setIfInBounds_toArray, List.set_cons_zero, List.set_cons_succ]
                refine wpAnyH_take (i := 5) (oi := ({ dst := (some 127), op := (Op.indexAddr 23 (Operand.tmp 125) (Operand.tmp 126)), type := 0, pos := "law.go:49", after := #[{ on := 3, ground := Ground.data }, { on := 4, ground := Ground.data }], guard := none } : Oper)) (v := ?_) rfl (by kernel_rfl) (by kernel_rfl) (by kernel_rfl) (fun _ _ _ h => h) (Or.inl ⟨by rfl, ?_⟩) (by assumption) ?_
                rotate_left
                · (intro w_ hSw; (try dsimp only at hSw); go_simp; try with_reducible rfl)
                try simp only [Act.put, List.setIfInBounds_toArray, List.set_cons_zero, List.set_cons_succ]
                refine wpAnyH_take (i := 6) (oi := ({ dst := (some 128), op := (Op.load 5 (Operand.tmp 127)), type := 5, pos := "law.go:49", after := #[{ on := 5, ground := Ground.data }], guard := none } : Oper)) (v := ?_) rfl (by kernel_rfl) (by kernel_rfl) (by kernel_rfl) (fun _ _ _ h => h) (Or.inl ⟨by rfl, ?_⟩) (by assumption) ?_
                rotate_left
                · (intro w_ hSw; (try dsimp only at hSw); obtain ⟨q0, q1, q2, q3, q4, q5, q6, q7, q8, q9, q10, q11, q12, q13, q14⟩ := HC4.out w_ hSw; go_simp; try with_reducible rfl)
                try simp only [Act.put, List.setIfInBounds_toArray, List.set_cons_zero, List.set_cons_succ]
                refine wpAnyH_take (i := 7) (oi := ({ dst := (some 129), op := (Op.binOp BinOp.rem 5 (Operand.tmp 128) (Operand.const (Value.int IntKind.u8 3)) 5), type := 5, pos := "law.go:49", after := #[{ on := 6, ground := Ground.data }], guard := none } : Oper)) (v := ?_) rfl (by kernel_rfl) (by kernel_rfl) (by kernel_rfl) (fun _ _ _ h => h) (Or.inl ⟨by rfl, ?_⟩) (by assumption) ?_
                rotate_left
                · (intro w_ hSw; (try dsimp only at hSw); go_simp; try with_reducible rfl)
                try simp only [Act.put, List.setIfInBounds_toArray, List.set_cons_zero, List.set_cons_succ]
                refine wpAnyH_take (i := 8) (oi := ({ dst := (some 130), op := (Op.convert 5 22 (Operand.tmp 129)), type := 22, pos := "law.go:49", after := #[{ on := 7, ground := Ground.data }], guard := none } : Oper)) (v := ?_) rfl (by kernel_rfl) (by kernel_rfl) (by kernel_rfl) (fun _ _ _ h => h) (Or.inl ⟨by rfl, ?_⟩) (by assumption) ?_
                rotate_left
                · (intro w_ hSw; (try dsimp only at hSw); obtain ⟨q0, q1, q2, q3, q4, q5, q6, q7, q8, q9, q10, q11, q12, q13, q14⟩ := HC4.out w_ hSw; go_simp; try with_reducible rfl)
                try simp only [Act.put, List.setIfInBounds_toArray, List.set_cons_zero, List.set_cons_succ]
                refine wpAnyH_take (i := 9) (oi := ({ dst := (some 131), op := (Op.binOp BinOp.add 22 (Operand.const (Value.int IntKind.u64 1)) (Operand.tmp 130) 22), type := 22, pos := "law.go:49", after := #[{ on := 8, ground := Ground.data }], guard := none } : Oper)) (v := ?_) rfl (by kernel_rfl) (by kernel_rfl) (by kernel_rfl) (fun _ _ _ h => h) (Or.inl ⟨by rfl, ?_⟩) (by assumption) ?_
                rotate_left
                · (intro w_ hSw; (try dsimp only at hSw); go_simp; try with_reducible rfl)
                try simp only [Act.put, List.setIfInBounds_toArray, List.set_cons_zero, List.set_cons_succ]
                refine wpAnyH_ready (rs := [10, 14]) (by kernel_rfl) (by simp) ?_
                refine AllReadyH.cons (o := ({ dst := (some 132), op := (Op.call { callee := (Callee.value (Operand.func 14)), args := #[(Operand.tmp 122), (Operand.tmp 123), (Operand.tmp 124), (Operand.tmp 131)], argTypes := #[38, 3, 9, 22] }), type := 41, pos := "law.go:49", after := #[{ on := 0, ground := Ground.data }, { on := 1, ground := Ground.data }, { on := 2, ground := Ground.data }, { on := 9, ground := Ground.data }], guard := none } : Oper)) rfl (fun K hK => ?_) ?_
                · go_simp
                  refine (HC1.out _ _ (HT7.out.next hS_).1).mono ?_
                  rintro e w8 ⟨vL2, L2, vT2, rfl, hp8, hk8, hb8⟩
                  obtain ⟨⟨aL2, kL2, rfl⟩, ⟨aT2, kT2, rfl⟩⟩ := hp8.slices
                  refine hK.out _ _ (by exact bnext hS_ hb8) (fun hS_ => ?_)
                  clear hK K
                  try simp only [Act.put, List.setIfInBounds_toArray, List.set_cons_zero, List.set_cons_succ]
                  refine wpAnyH_take (i := 11) (oi := ({ dst := (some 121), op := (Op.move (Operand.tmp 132)), type := 41, pos := "law.go:49", after := #[{ on := 10, ground := Ground.data }], guard := none } : Oper)) (v := ?_) rfl (by kernel_rfl) (by kernel_rfl) (by kernel_rfl) (fun _ _ _ h => h) (Or.inl ⟨by rfl, ?_⟩) (by assumption) ?_
                  rotate_left
                  · (intro w_ hSw; (try dsimp only at hSw); go_simp; try with_reducible rfl)
                  try simp only [Act.put, List.setIfInBounds_toArray, List.set_cons_zero, List.set_cons_succ]
                  refine wpAnyH_take (i := 12) (oi := ({ dst := (some 133), op := (Op.extract (Operand.tmp 121) 0), type := 38, pos := "law.go:49", after := #[{ on := 11, ground := Ground.data }], guard := none } : Oper)) (v := ?_) rfl (by kernel_rfl) (by kernel_rfl) (by kernel_rfl) (fun _ _ _ h => h) (Or.inl ⟨by rfl, ?_⟩) (by assumption) ?_
                  rotate_left
                  · (intro w_ hSw; (try dsimp only at hSw); go_simp; try with_reducible rfl)
                  try simp only [Act.put, List.setIfInBounds_toArray, List.set_cons_zero, List.set_cons_succ]
                  refine wpAnyH_take (i := 13) (oi := ({ dst := (some 134), op := (Op.extract (Operand.tmp 121) 1), type := 3, pos := "law.go:49", after := #[{ on := 11, ground := Ground.data }, { on := 15, ground := (Ground.gcOnly Departure.lateStores) }], guard := none } : Oper)) (v := ?_) rfl (by kernel_rfl) (by kernel_rfl) (by kernel_rfl) (fun _ _ _ h => h) (Or.inl ⟨by rfl, ?_⟩) (by assumption) ?_
                  rotate_left
                  · (intro w_ hSw; (try dsimp only at hSw); go_simp; try with_reducible rfl)
                  try simp only [Act.put, List.setIfInBounds_toArray, List.set_cons_zero, List.set_cons_succ]
                  refine wpAnyH_ready (rs := [14]) (by kernel_rfl) (by simp) ?_
                  refine AllReadyH.cons (o := ({ dst := (some 22), op := (Op.alloc 38), type := 0, pos := "law.go:49", after := #[], guard := none } : Oper)) rfl (fun K hK => ?_) ?_
                  · go_simp
                    refine hK.out _ _ (by exact bl_alloc hS_ _) (fun hS_ => ?_)
                    clear hK K
                    try simp only [Act.put, List.setIfInBounds_toArray, List.set_cons_zero, List.set_cons_succ]
                    refine wpAnyH_ready (rs := [15]) (by kernel_rfl) (by simp) ?_
                    refine AllReadyH.cons (o := ({ dst := none, op := (Op.store 38 (Operand.tmp 22) (Operand.tmp 133)), type := 0, pos := "law.go:49", after := #[{ on := 14, ground := Ground.data }, { on := 12, ground := Ground.data }, { on := 10, ground := Ground.chain }, { on := 0, ground := Ground.phase }, { on := 1, ground := Ground.phase }, { on := 2, ground := Ground.phase }, { on := 3, ground := Ground.phase }, { on := 4, ground := Ground.phase }, { on := 5, ground := Ground.phase }, { on := 6, ground := Ground.phase }, { on := 7, ground := Ground.phase }, { on := 8, ground := Ground.phase }, { on := 9, ground := Ground.phase }, { on := 10, ground := Ground.phase }, { on := 11, ground := Ground.phase }, { on := 12, ground := Ground.phase }, { on := 13, ground := (Ground.textOnly Departure.lateStores) }, { on := 14, ground := Ground.phase }], guard := none } : Oper)) rfl (fun K hK => ?_) ?_
                    · rw [if_pos (by rfl)]
                      refine wp_store_row 38 (.tmp 22) (.tmp 133) rfl w8.heap.size (wvs m2 (.slice aL2 L2.rows kL2) L2 (.slice aT2 m2.this.rows kT2) m2.this) rfl rfl 38 _ (Blk.new w8 _ _) (by kernel_rfl) rfl (by kernel_rfl) ?_
                      rw [World.setRow_alloc_new]
                      simp only [Act.put, List.setIfInBounds_toArray, List.set_cons_zero, List.set_cons_succ]
                      refine hK.out _ _ (by exact bl_alloc (bnext (Below.drew (Below.refl _ _)) hb8) _) (fun hS_ => ?_)
                      clear hK K
                      try simp only [Act.put, List.setIfInBounds_toArray, List.set_cons_zero, List.set_cons_succ]
                      refine wpAnyH_take (i := 16) (oi := ({ dst := (some 23), op := (Op.assign (Operand.tmp 134)), type := 3, pos := "law.go:49", after := #[{ on := 13, ground := Ground.data }, { on := 15, ground := Ground.chain }, { on := 0, ground := Ground.phase }, { on := 1, ground := Ground.phase }, { on := 2, ground := Ground.phase }, { on := 3, ground := Ground.phase }, { on := 4, ground := Ground.phase }, { on := 5, ground := Ground.phase }, { on := 6, ground := Ground.phase }, { on := 7, ground := Ground.phase }, { on := 8, ground := Ground.phase }, { on := 9, ground := Ground.phase }, { on := 10, ground := Ground.phase }, { on := 11, ground := Ground.phase }, { on := 12, ground := Ground.phase }, { on := 13, ground := Ground.phase }, { on := 14, ground := Ground.phase }, { on := 15, ground := Ground.phase }], guard := none } : Oper)) (v := ?_) rfl (by kernel_rfl) (by kernel_rfl) (by kernel_rfl) (fun _ _ _ h => h) (Or.inl ⟨by rfl, ?_⟩) (by assumption) ?_
                      rotate_left
                      · (intro w_ hSw; (try dsimp only at hSw); go_simp; try with_reducible rfl)
                      try simp only [Act.put, List.setIfInBounds_toArray, List.set_cons_zero, List.set_cons_succ]
                      refine wpAnyH_done (by kernel_rfl) ?_ _
                      refine NoPanic.normal ?_
                      have hg8 := HG7.out.drew.kept hk8 rfl
                      have HP9 := Lib.hid (hp8.alloc (.cells (wvs m2 (.slice aL2 L2.rows kL2) L2 (.slice aT2 m2.this.rows kT2) m2.this) 38))
                      have HG9 := Lib.hid (hg8.alloc (.cells (wvs m2 (.slice aL2 L2.rows kL2) L2 (.slice aT2 m2.this.rows kT2) m2.this) 38))
                      have HH9 := Lib.hid (Blk.new w8 38 (wvs m2 (.slice aL2 L2.rows kL2) L2 (.slice aT2 m2.this.rows kT2) m2.this))
                      clear hg8 hp8 hk8 hb8 hS_ HC1 HC4 HTA HZA HT7 HG7 c0 c1 c2 c3 c4 c5 c6 c7 c8 c9 c10 c11 c12 hcell7
                      generalize w8.heap.size = g3 at *
                      generalize w8.alloc _ = w9 at *
                      have hcell9 := (HC.out.1.below HP9.out.below).cell k (by omega)
                      rw [HX.out] at hcell9
                      have HAD := Lib.hid (pw_add ((n1 : Int)) (keyS x) n9 HP9.out (keyS_size x) (by omega))
                      rw [← HM2.out, ← HER.out] at HAD
                      go_wp2_with fail
                      refine HAD.out.mono ?_
                      rintro e w10 ⟨rfl, hp10, hk10⟩
                      have HG10 := Lib.hid (HG9.out.kept hk10 (.inl rfl))
                      have HH10 := Lib.hid (HH9.out.kept hk10 (.inr rfl))
                      have HP10 := Lib.hid hp10
                      have hxe : ((er : Int) != er) = false := by simp
                      clear hp10 hk10 HP9 HG9 HH9 HAD hcell9
                      go_upto_region 24 with fail
                      apply wp_region_lit
                      refine wpList_load_mid rfl 38 (.tmp 22) rfl g3 0 rfl (wvs m2 (.slice aL2 L2.rows kL2) L2 (.slice aT2 m2.this.rows kT2) m2.this).toList _ HH10.out.range Try.underlying38 rfl (by kernel_rfl) ?_
                      refine wpList_store_row rfl 38 (.tmp 16) (.tmp 149) rfl g2 (wvs m2 (.slice aL2 L2.rows kL2) L2 (.slice aT2 m2.this.rows kT2) m2.this) rfl rfl 38 _ HG10.out (by kernel_rfl) rfl (by kernel_rfl) ?_
                      go_upto_region 31 with fail
                      have HPX := Lib.hid ((HP10.out.chg (chg_row (w := w10) (g := g2) (.inl rfl) (wvs m2 (.slice aL2 L2.rows kL2) L2 (.slice aT2 m2.this.rows kT2) m2.this))).fewer (G' := fun q => q = g2) (fun q hq => .inl hq))
                      have HGX := Lib.hid (HG10.out.row (wvs m2 (.slice aL2 L2.rows kL2) L2 (.slice aT2 m2.this.rows kT2) m2.this))
                      generalize w10.setRow g2 _ = w20 at *
                      clear HP10 HG10 HH10
                      have c0 : w20.cell? ⟨g2, 0, none⟩ = some (.int .i64 (m2.rows : Int)) := HGX.out.cell 0
                      have c1 : w20.cell? ⟨g2, 1, none⟩ = some (.int .i64 (m2.W : Int)) := HGX.out.cell 1
                      have c2 : w20.cell? ⟨g2, 2, none⟩ = some (uv m2.seed) := HGX.out.cell 2
                      have c3 : w20.cell? ⟨g2, 3, none⟩ = some (.int .i64 (m2.long : Int)) := HGX.out.cell 3
                      have c4 : w20.cell? ⟨g2, 4, none⟩ = some (.int .i64 (m2.now : Int)) := HGX.out.cell 4
                      have c5 : w20.cell? ⟨g2, 5, none⟩ = some ((.slice aL2 L2.rows kL2)) := HGX.out.cell 5
                      have c6 : w20.cell? ⟨g2, 6, none⟩ = some (.int .i64 (L2.W : Int)) := HGX.out.cell 6
                      have c7 : w20.cell? ⟨g2, 7, none⟩ = some (uv L2.seed) := HGX.out.cell 7
                      have c8 : w20.cell? ⟨g2, 8, none⟩ = some (nv L2.total) := HGX.out.cell 8
                      have c9 : w20.cell? ⟨g2, 9, none⟩ = some ((.slice aT2 m2.this.rows kT2)) := HGX.out.cell 9
                      have c10 : w20.cell? ⟨g2, 10, none⟩ = some (.int .i64 (m2.this.W : Int)) := HGX.out.cell 10
                      have c11 : w20.cell? ⟨g2, 11, none⟩ = some (uv m2.this.seed) := HGX.out.cell 11
                      have c12 : w20.cell? ⟨g2, 12, none⟩ = some (nv m2.this.total) := HGX.out.cell 12
                      have hnm2 := HPX.out.oks.2.1.nowm
                      go_wp2_with fail
                      go_roundw
                      case rel => exact ⟨k + 1, max n1 m2.now, _, L2, _, m2, by omega, by go_num, by go_num, by omega, HPX, HGX⟩
                      case measure => simp [intOf]; omega
                    exact AllReadyH.nil
                  exact AllReadyH.nil
                refine AllReadyH.cons (o := ({ dst := (some 22), op := (Op.alloc 38), type := 0, pos := "law.go:49", after := #[], guard := none } : Oper)) rfl (fun K hK => ?_) ?_
                · go_simp
                  refine hK.out _ _ (by exact bl_alloc hS_ _) (fun hS_ => ?_)
                  clear hK K
                  try simp only [Act.put, List.setIfInBounds_toArray, List.set_cons_zero, List.set_cons_succ]
                  refine wpAnyH_ready (rs := [10]) (by kernel_rfl) (by simp) ?_
                  refine AllReadyH.cons (o := ({ dst := (some 132), op := (Op.call { callee := (Callee.value (Operand.func 14)), args := #[(Operand.tmp 122), (Operand.tmp 123), (Operand.tmp 124), (Operand.tmp 131)], argTypes := #[38, 3, 9, 22] }), type := 41, pos := "law.go:49", after := #[{ on := 0, ground := Ground.data }, { on := 1, ground := Ground.data }, { on := 2, ground := Ground.data }, { on := 9, ground := Ground.data }], guard := none } : Oper)) rfl (fun K hK => ?_) ?_
                  · go_simp
                    refine (HC1.out _ _ HTA.out).mono ?_
                    rintro e w8 ⟨vL2, L2, vT2, rfl, hp8, hk8, hb8⟩
                    obtain ⟨⟨aL2, kL2, rfl⟩, ⟨aT2, kT2, rfl⟩⟩ := hp8.slices
                    have hq8 := HZA.out.kept hk8 (.inr rfl)
                    refine hK.out _ _ (by exact bnext hS_ hb8) (fun hS_ => ?_)
                    clear hK K
                    try simp only [Act.put, List.setIfInBounds_toArray, List.set_cons_zero, List.set_cons_succ]
                    refine wpAnyH_take (i := 11) (oi := ({ dst := (some 121), op := (Op.move (Operand.tmp 132)), type := 41, pos := "law.go:49", after := #[{ on := 10, ground := Ground.data }], guard := none } : Oper)) (v := ?_) rfl (by kernel_rfl) (by kernel_rfl) (by kernel_rfl) (fun _ _ _ h => h) (Or.inl ⟨by rfl, ?_⟩) (by assumption) ?_
                    rotate_left
                    · (intro w_ hSw; (try dsimp only at hSw); go_simp; try with_reducible rfl)
                    try simp only [Act.put, List.setIfInBounds_toArray, List.set_cons_zero, List.set_cons_succ]
                    refine wpAnyH_take (i := 12) (oi := ({ dst := (some 133), op := (Op.extract (Operand.tmp 121) 0), type := 38, pos := "law.go:49", after := #[{ on := 11, ground := Ground.data }], guard := none } : Oper)) (v := ?_) rfl (by kernel_rfl) (by kernel_rfl) (by kernel_rfl) (fun _ _ _ h => h) (Or.inl ⟨by rfl, ?_⟩) (by assumption) ?_
                    rotate_left
                    · (intro w_ hSw; (try dsimp only at hSw); go_simp; try with_reducible rfl)
                    try simp only [Act.put, List.setIfInBounds_toArray, List.set_cons_zero, List.set_cons_succ]
                    refine wpAnyH_take (i := 13) (oi := ({ dst := (some 134), op := (Op.extract (Operand.tmp 121) 1), type := 3, pos := "law.go:49", after := #[{ on := 11, ground := Ground.data }, { on := 15, ground := (Ground.gcOnly Departure.lateStores) }], guard := none } : Oper)) (v := ?_) rfl (by kernel_rfl) (by kernel_rfl) (by kernel_rfl) (fun _ _ _ h => h) (Or.inl ⟨by rfl, ?_⟩) (by assumption) ?_
                    rotate_left
                    · (intro w_ hSw; (try dsimp only at hSw); go_simp; try with_reducible rfl)
                    try simp only [Act.put, List.setIfInBounds_toArray, List.set_cons_zero, List.set_cons_succ]
                    refine wpAnyH_ready (rs := [15]) (by kernel_rfl) (by simp) ?_
                    refine AllReadyH.cons (o := ({ dst := none, op := (Op.store 38 (Operand.tmp 22) (Operand.tmp 133)), type := 0, pos := "law.go:49", after := #[{ on := 14, ground := Ground.data }, { on := 12, ground := Ground.data }, { on := 10, ground := Ground.chain }, { on := 0, ground := Ground.phase }, { on := 1, ground := Ground.phase }, { on := 2, ground := Ground.phase }, { on := 3, ground := Ground.phase }, { on := 4, ground := Ground.phase }, { on := 5, ground := Ground.phase }, { on := 6, ground := Ground.phase }, { on := 7, ground := Ground.phase }, { on := 8, ground := Ground.phase }, { on := 9, ground := Ground.phase }, { on := 10, ground := Ground.phase }, { on := 11, ground := Ground.phase }, { on := 12, ground := Ground.phase }, { on := 13, ground := (Ground.textOnly Departure.lateStores) }, { on := 14, ground := Ground.phase }], guard := none } : Oper)) rfl (fun K hK => ?_) ?_
                    · rw [if_pos (by rfl)]
                      refine wp_store_row 38 (.tmp 22) (.tmp 133) rfl w7.heap.size (wvs m2 (.slice aL2 L2.rows kL2) L2 (.slice aT2 m2.this.rows kT2) m2.this) rfl rfl 38 _ hq8 (by kernel_rfl) rfl (by kernel_rfl) ?_
                      simp only [Act.put, List.setIfInBounds_toArray, List.set_cons_zero, List.set_cons_succ]
                      refine hK.out _ _ (by exact below_setRow hS_ (Nat.le_refl _) _) (fun hS_ => ?_)
                      clear hK K
                      try simp only [Act.put, List.setIfInBounds_toArray, List.set_cons_zero, List.set_cons_succ]
                      refine wpAnyH_take (i := 16) (oi := ({ dst := (some 23), op := (Op.assign (Operand.tmp 134)), type := 3, pos := "law.go:49", after := #[{ on := 13, ground := Ground.data }, { on := 15, ground := Ground.chain }, { on := 0, ground := Ground.phase }, { on := 1, ground := Ground.phase }, { on := 2, ground := Ground.phase }, { on := 3, ground := Ground.phase }, { on := 4, ground := Ground.phase }, { on := 5, ground := Ground.phase }, { on := 6, ground := Ground.phase }, { on := 7, ground := Ground.phase }, { on := 8, ground := Ground.phase }, { on := 9, ground := Ground.phase }, { on := 10, ground := Ground.phase }, { on := 11, ground := Ground.phase }, { on := 12, ground := Ground.phase }, { on := 13, ground := Ground.phase }, { on := 14, ground := Ground.phase }, { on := 15, ground := Ground.phase }], guard := none } : Oper)) (v := ?_) rfl (by kernel_rfl) (by kernel_rfl) (by kernel_rfl) (fun _ _ _ h => h) (Or.inl ⟨by rfl, ?_⟩) (by assumption) ?_
                      rotate_left
                      · (intro w_ hSw; (try dsimp only at hSw); go_simp; try with_reducible rfl)
                      try simp only [Act.put, List.setIfInBounds_toArray, List.set_cons_zero, List.set_cons_succ]
                      refine wpAnyH_done (by kernel_rfl) ?_ _
                      refine NoPanic.normal ?_
                      have hgl := HG7.out.lt
                      have hg8 := ((HG7.out.alloc (.cells #[.int .i64 0, .int .i64 0, .int .u64 0, .int .i64 0, .int .i64 0, .slice none 0 0, .int .i64 0, .int .u64 0, .int .u64 0, .slice none 0 0, .int .i64 0, .int .u64 0, .int .u64 0] 38)).drew).kept hk8 (.inl rfl)
                      have HP9 := Lib.hid (hp8.chg (chg_row (w := w8) (g := w7.heap.size) (.inr rfl) (wvs m2 (.slice aL2 L2.rows kL2) L2 (.slice aT2 m2.this.rows kT2) m2.this)))
                      have HG9 : Hid (Blk (w8.setRow w7.heap.size (wvs m2 (.slice aL2 L2.rows kL2) L2 (.slice aT2 m2.this.rows kT2) m2.this)) g2 38 (wvs m (.slice aL L.rows kL) L (.slice aT m.this.rows kT) m.this)) := Lib.hid ((setRow_other w8 w7.heap.size g2 (wvs m2 (.slice aL2 L2.rows kL2) L2 (.slice aT2 m2.this.rows kT2) m2.this) (Nat.ne_of_lt hgl)).trans hg8)
                      have HH9 := Lib.hid (hq8.row (wvs m2 (.slice aL2 L2.rows kL2) L2 (.slice aT2 m2.this.rows kT2) m2.this))
                      clear hgl hg8 hp8 hk8 hb8 hS_ hq8 HC1 HC4 HTA HZA HT7 HG7 c0 c1 c2 c3 c4 c5 c6 c7 c8 c9 c10 c11 c12 hcell7
                      generalize w7.heap.size = g3 at *
                      generalize w8.setRow g3 _ = w9 at *
                      have hcell9 := (HC.out.1.below HP9.out.below).cell k (by omega)
                      rw [HX.out] at hcell9
                      have HAD := Lib.hid (pw_add ((n1 : Int)) (keyS x) n9 HP9.out (keyS_size x) (by omega))
                      rw [← HM2.out, ← HER.out] at HAD
                      go_wp2_with fail
                      refine HAD.out.mono ?_
                      rintro e w10 ⟨rfl, hp10, hk10⟩
                      have HG10 := Lib.hid (HG9.out.kept hk10 (.inl rfl))
                      have HH10 := Lib.hid (HH9.out.kept hk10 (.inr rfl))
                      have HP10 := Lib.hid hp10
                      have hxe : ((er : Int) != er) = false := by simp
                      clear hp10 hk10 HP9 HG9 HH9 HAD hcell9
                      go_upto_region 24 with fail
                      apply wp_region_lit
                      refine wpList_load_mid rfl 38 (.tmp 22) rfl g3 0 rfl (wvs m2 (.slice aL2 L2.rows kL2) L2 (.slice aT2 m2.this.rows kT2) m2.this).toList _ HH10.out.range Try.underlying38 rfl (by kernel_rfl) ?_
                      refine wpList_store_row rfl 38 (.tmp 16) (.tmp 149) rfl g2 (wvs m2 (.slice aL2 L2.rows kL2) L2 (.slice aT2 m2.this.rows kT2) m2.this) rfl rfl 38 _ HG10.out (by kernel_rfl) rfl (by kernel_rfl) ?_
                      go_upto_region 31 with fail
                      have HPX := Lib.hid ((HP10.out.chg (chg_row (w := w10) (g := g2) (.inl rfl) (wvs m2 (.slice aL2 L2.rows kL2) L2 (.slice aT2 m2.this.rows kT2) m2.this))).fewer (G' := fun q => q = g2) (fun q hq => .inl hq))
                      have HGX := Lib.hid (HG10.out.row (wvs m2 (.slice aL2 L2.rows kL2) L2 (.slice aT2 m2.this.rows kT2) m2.this))
                      generalize w10.setRow g2 _ = w20 at *
                      clear HP10 HG10 HH10
                      have c0 : w20.cell? ⟨g2, 0, none⟩ = some (.int .i64 (m2.rows : Int)) := HGX.out.cell 0
                      have c1 : w20.cell? ⟨g2, 1, none⟩ = some (.int .i64 (m2.W : Int)) := HGX.out.cell 1
                      have c2 : w20.cell? ⟨g2, 2, none⟩ = some (uv m2.seed) := HGX.out.cell 2
                      have c3 : w20.cell? ⟨g2, 3, none⟩ = some (.int .i64 (m2.long : Int)) := HGX.out.cell 3
                      have c4 : w20.cell? ⟨g2, 4, none⟩ = some (.int .i64 (m2.now : Int)) := HGX.out.cell 4
                      have c5 : w20.cell? ⟨g2, 5, none⟩ = some ((.slice aL2 L2.rows kL2)) := HGX.out.cell 5
                      have c6 : w20.cell? ⟨g2, 6, none⟩ = some (.int .i64 (L2.W : Int)) := HGX.out.cell 6
                      have c7 : w20.cell? ⟨g2, 7, none⟩ = some (uv L2.seed) := HGX.out.cell 7
                      have c8 : w20.cell? ⟨g2, 8, none⟩ = some (nv L2.total) := HGX.out.cell 8
                      have c9 : w20.cell? ⟨g2, 9, none⟩ = some ((.slice aT2 m2.this.rows kT2)) := HGX.out.cell 9
                      have c10 : w20.cell? ⟨g2, 10, none⟩ = some (.int .i64 (m2.this.W : Int)) := HGX.out.cell 10
                      have c11 : w20.cell? ⟨g2, 11, none⟩ = some (uv m2.this.seed) := HGX.out.cell 11
                      have c12 : w20.cell? ⟨g2, 12, none⟩ = some (nv m2.this.total) := HGX.out.cell 12
                      have hnm2 := HPX.out.oks.2.1.nowm
                      go_wp2_with fail
                      go_roundw
                      case rel => exact ⟨k + 1, max n1 m2.now, _, L2, _, m2, by omega, by go_num, by go_num, by omega, HPX, HGX⟩
                      case measure => simp [intOf]; omega
                    exact AllReadyH.nil
                  exact AllReadyH.nil
                exact AllReadyH.nil
              · as_aux_lemma =>
                obtain ⟨⟨aL, kL, rfl⟩, ⟨aT, kT, rfl⟩⟩ := HT7.out.slices
                have hg7 := HG7.out
                have c0 : w7.cell? ⟨g2, 0, none⟩ = some (.int .i64 (m.rows : Int)) := hg7.cell 0
                have c1 : w7.cell? ⟨g2, 1, none⟩ = some (.int .i64 (m.W : Int)) := hg7.cell 1
                have c2 : w7.cell? ⟨g2, 2, none⟩ = some (uv m.seed) := hg7.cell 2
                have c3 : w7.cell? ⟨g2, 3, none⟩ = some (.int .i64 (m.long : Int)) := hg7.cell 3
                have c4 : w7.cell? ⟨g2, 4, none⟩ = some (.int .i64 (m.now : Int)) := hg7.cell 4
                have c5 : w7.cell? ⟨g2, 5, none⟩ = some ((.slice aL L.rows kL)) := hg7.cell 5
                have c6 : w7.cell? ⟨g2, 6, none⟩ = some (.int .i64 (L.W : Int)) := hg7.cell 6
                have c7 : w7.cell? ⟨g2, 7, none⟩ = some (uv L.seed) := hg7.cell 7
                have c8 : w7.cell? ⟨g2, 8, none⟩ = some (nv L.total) := hg7.cell 8
                have c9 : w7.cell? ⟨g2, 9, none⟩ = some ((.slice aT m.this.rows kT)) := hg7.cell 9
                have c10 : w7.cell? ⟨g2, 10, none⟩ = some (.int .i64 (m.this.W : Int)) := hg7.cell 10
                have c11 : w7.cell? ⟨g2, 11, none⟩ = some (uv m.this.seed) := hg7.cell 11
                have c12 : w7.cell? ⟨g2, 12, none⟩ = some (nv m.this.total) := hg7.cell 12
                have HAT := Lib.hid (rw_at ((n1 : Int)) HT7.out)
                have HCF := Lib.hid fun L2 => closed_eq m HT7.out.oks.2.1 ((n1 : Int)) L2 (keyS x).data.toList
                have HOF := Lib.hid (opened_eq m ((n1 : Int)) (keyS x).data.toList)
                have HE2 := Lib.hid (err_twice m ((n1 : Int)))
                have HT2 := Lib.hid (turnAny_twice m ((n1 : Int)))
                have HEO : Hid (m.err ((n1 : Int)) = if m.ok ((n1 : Int)) then 0 else 60) := Lib.hid rfl
                obtain ⟨m2, hm2⟩ : ∃ m2, m2 = m.turnAny ((n1 : Int)) := ⟨_, rfl⟩
                obtain ⟨er, her⟩ : ∃ er, er = m.err ((n1 : Int)) := ⟨_, rfl⟩
                rw [← hm2, ← her] at HAT HE2
                rw [← hm2] at HT2 HCF HOF
                rw [← her] at HEO
                have HM2 := Lib.hid hm2
                have HER := Lib.hid her
                clear hg7 hm2 her
                go_wp2_with fail
                refine HAT.out.mono ?_
                rintro e w8 ⟨vL2, L2, vT2, rfl, hp8, hk8⟩
                have hg8 := HG7.out.kept hk8 rfl
                replace HCF := Lib.hid (HCF.out L2 hp8.oks.1)
                have HP9 := Lib.hid (hp8.alloc (.cells (wvs m2 vL2 L2 vT2 m2.this) 38))
                have HG9 := Lib.hid (hg8.alloc (.cells (wvs m2 vL2 L2 vT2 m2.this) 38))
                have HH9 := Lib.hid (Blk.new w8 38 (wvs m2 vL2 L2 vT2 m2.this))
                obtain ⟨⟨aL2, kL2, rfl⟩, ⟨aT2, kT2, rfl⟩⟩ := hp8.slices
                clear hp8 hk8 hg8 HT7 HG7 HAT c0 c1 c2 c3 c4 c5 c6 c7 c8 c9 c10 c11 c12
                go_upto_region 26 with fail
                generalize w8.alloc _ = w9 at *
                generalize w8.heap.size = g3 at *
                apply wp_region_lit
                refine wpList_load_mid rfl 38 (.tmp 24) rfl g3 0 rfl (wvs m2 (.slice aL2 L2.rows kL2) L2 (.slice aT2 m2.this.rows kT2) m2.this).toList _ HH9.out.range Try.underlying38 rfl (by kernel_rfl) ?_
                refine wpList_store_row rfl 38 (.tmp 16) (.tmp 156) rfl g2 (wvs m2 (.slice aL2 L2.rows kL2) L2 (.slice aT2 m2.this.rows kT2) m2.this) rfl rfl 38 _ HG9.out (by kernel_rfl) rfl (by kernel_rfl) ?_
                go_upto_region 27 with fail
                have HP10 := Lib.hid ((HP9.out.chg (chg_row (w := w9) (g := g2) (.inl rfl) (wvs m2 (.slice aL2 L2.rows kL2) L2 (.slice aT2 m2.this.rows kT2) m2.this))).fewer (G' := fun q => q = g2) (fun q hq => .inl hq))
                have HG10 := Lib.hid (HG9.out.row (wvs m2 (.slice aL2 L2.rows kL2) L2 (.slice aT2 m2.this.rows kT2) m2.this))
                generalize w9.setRow g2 _ = w10 at *
                clear HP9 HG9 HH9
                have HCL := Lib.hid (pw_closed ((n1 : Int)) (keyS x) HP10.out (keyS_size x))
                rw [← HM2.out, ← HER.out] at HCL
                go_wp2_with fail
                refine HCL.out.mono ?_
                rintro e w11 ⟨rfl, hp11, hk11⟩
                have hg11 := HG10.out.kept hk11 rfl
                have HOP := Lib.hid (pw_open ((n1 : Int)) (keyS x) hp11 (keyS_size x))
                rw [HT2.out, HE2.out] at HOP
                have HG11 := Lib.hid hg11
                clear HP10 HG10 HCL hp11 hk11 hg11
                go_wp2_with fail
                refine HOP.out.mono ?_
                rintro e w12 ⟨rfl, hp12, hk12⟩
                have HG12 := Lib.hid (HG11.out.kept hk12 rfl)
                have HP12 := Lib.hid hp12
                clear HG11 hp12 hk12 HOP
                have HKL := Lib.hid (rw_countL (keyS x) HP12.out (keyS_size x))
                have c0 : w12.cell? ⟨g2, 0, none⟩ = some (.int .i64 (m2.rows : Int)) := HG12.out.cell 0
                have c1 : w12.cell? ⟨g2, 1, none⟩ = some (.int .i64 (m2.W : Int)) := HG12.out.cell 1
                have c2 : w12.cell? ⟨g2, 2, none⟩ = some (uv m2.seed) := HG12.out.cell 2
                have c3 : w12.cell? ⟨g2, 3, none⟩ = some (.int .i64 (m2.long : Int)) := HG12.out.cell 3
                have c4 : w12.cell? ⟨g2, 4, none⟩ = some (.int .i64 (m2.now : Int)) := HG12.out.cell 4
                have c5 : w12.cell? ⟨g2, 5, none⟩ = some ((.slice aL2 L2.rows kL2)) := HG12.out.cell 5
                have c6 : w12.cell? ⟨g2, 6, none⟩ = some (.int .i64 (L2.W : Int)) := HG12.out.cell 6
                have c7 : w12.cell? ⟨g2, 7, none⟩ = some (uv L2.seed) := HG12.out.cell 7
                have c8 : w12.cell? ⟨g2, 8, none⟩ = some (nv L2.total) := HG12.out.cell 8
                have c9 : w12.cell? ⟨g2, 9, none⟩ = some ((.slice aT2 m2.this.rows kT2)) := HG12.out.cell 9
                have c10 : w12.cell? ⟨g2, 10, none⟩ = some (.int .i64 (m2.this.W : Int)) := HG12.out.cell 10
                have c11 : w12.cell? ⟨g2, 11, none⟩ = some (uv m2.this.seed) := HG12.out.cell 11
                have c12 : w12.cell? ⟨g2, 12, none⟩ = some (nv m2.this.total) := HG12.out.cell 12
                by_cases hok : m.ok ((n1 : Int)) = true
                · rw [if_pos hok] at HCF HOF HEO
                  obtain rfl := HEO.out
                  rw [HCF.out, HOF.out]
                  generalize hnL : L2.count (keyS x).data.toList = nL at *
                  generalize hnT : m2.this.count (keyS x).data.toList = nT at *
                  have HNT := Lib.hid hnT
                  clear hnL hnT HCF HOF HEO HE2 HT2 HER HM2 hok
                  have hx1 : ((nL : Int) != (nL : Int)) = false := by simp
                  have hx2 : ((nT : Int) != (nT : Int)) = false := by simp
                  go_wp2_with fail
                  refine HKL.out.mono ?_
                  rintro e w13 ⟨rfl, hb13⟩
                  have HP13 := Lib.hid (HP12.out.next hb13).1
                  have HG13 := Lib.hid (HG12.out.next hb13)
                  clear HP12 HG12 hb13 c0 c1 c2 c3 c4 c5 c6 c7 c8 c9 c10 c11 c12 HKL
                  have HKT := Lib.hid (rw_countT (keyS x) HP13.out (keyS_size x))
                  rw [HNT.out] at HKT
                  have c0 : w13.cell? ⟨g2, 0, none⟩ = some (.int .i64 (m2.rows : Int)) := HG13.out.cell 0
                  have c1 : w13.cell? ⟨g2, 1, none⟩ = some (.int .i64 (m2.W : Int)) := HG13.out.cell 1
                  have c2 : w13.cell? ⟨g2, 2, none⟩ = some (uv m2.seed) := HG13.out.cell 2
                  have c3 : w13.cell? ⟨g2, 3, none⟩ = some (.int .i64 (m2.long : Int)) := HG13.out.cell 3
                  have c4 : w13.cell? ⟨g2, 4, none⟩ = some (.int .i64 (m2.now : Int)) := HG13.out.cell 4
                  have c5 : w13.cell? ⟨g2, 5, none⟩ = some ((.slice aL2 L2.rows kL2)) := HG13.out.cell 5
                  have c6 : w13.cell? ⟨g2, 6, none⟩ = some (.int .i64 (L2.W : Int)) := HG13.out.cell 6
                  have c7 : w13.cell? ⟨g2, 7, none⟩ = some (uv L2.seed) := HG13.out.cell 7
                  have c8 : w13.cell? ⟨g2, 8, none⟩ = some (nv L2.total) := HG13.out.cell 8
                  have c9 : w13.cell? ⟨g2, 9, none⟩ = some ((.slice aT2 m2.this.rows kT2)) := HG13.out.cell 9
                  have c10 : w13.cell? ⟨g2, 10, none⟩ = some (.int .i64 (m2.this.W : Int)) := HG13.out.cell 10
                  have c11 : w13.cell? ⟨g2, 11, none⟩ = some (uv m2.this.seed) := HG13.out.cell 11
                  have c12 : w13.cell? ⟨g2, 12, none⟩ = some (nv m2.this.total) := HG13.out.cell 12
                  go_wp2_with fail
                  refine HKT.out.mono ?_
                  rintro e w20 ⟨rfl, hb20⟩
                  have HPX := Lib.hid (HP13.out.next hb20).1
                  have HGX := Lib.hid (HG13.out.next hb20)
                  clear HP13 HG13 hb20 c0 c1 c2 c3 c4 c5 c6 c7 c8 c9 c10 c11 c12 HKT
                  have c0 : w20.cell? ⟨g2, 0, none⟩ = some (.int .i64 (m2.rows : Int)) := HGX.out.cell 0
                  have c1 : w20.cell? ⟨g2, 1, none⟩ = some (.int .i64 (m2.W : Int)) := HGX.out.cell 1
                  have c2 : w20.cell? ⟨g2, 2, none⟩ = some (uv m2.seed) := HGX.out.cell 2
                  have c3 : w20.cell? ⟨g2, 3, none⟩ = some (.int .i64 (m2.long : Int)) := HGX.out.cell 3
                  have c4 : w20.cell? ⟨g2, 4, none⟩ = some (.int .i64 (m2.now : Int)) := HGX.out.cell 4
                  have c5 : w20.cell? ⟨g2, 5, none⟩ = some ((.slice aL2 L2.rows kL2)) := HGX.out.cell 5
                  have c6 : w20.cell? ⟨g2, 6, none⟩ = some (.int .i64 (L2.W : Int)) := HGX.out.cell 6
                  have c7 : w20.cell? ⟨g2, 7, none⟩ = some (uv L2.seed) := HGX.out.cell 7
                  have c8 : w20.cell? ⟨g2, 8, none⟩ = some (nv L2.total) := HGX.out.cell 8
                  have c9 : w20.cell? ⟨g2, 9, none⟩ = some ((.slice aT2 m2.this.rows kT2)) := HGX.out.cell 9
                  have c10 : w20.cell? ⟨g2, 10, none⟩ = some (.int .i64 (m2.this.W : Int)) := HGX.out.cell 10
                  have c11 : w20.cell? ⟨g2, 11, none⟩ = some (uv m2.this.seed) := HGX.out.cell 11
                  have c12 : w20.cell? ⟨g2, 12, none⟩ = some (nv m2.this.total) := HGX.out.cell 12
                  have hnm2 := HPX.out.oks.2.1.nowm
                  go_wp2_with fail
                  go_roundw
                  case rel => exact ⟨k + 1, max n1 m2.now, _, L2, _, m2, by omega, by go_num, by go_num, by omega, HPX, HGX⟩
                  case measure => simp [intOf]; omega
                · rw [if_neg hok] at HCF HOF HEO
                  obtain rfl := HEO.out
                  rw [HCF.out, HOF.out]
                  clear HCF HOF HEO HE2 HT2 HER HM2 HKL c0 c1 c2 c3 c4 c5 c6 c7 c8 c9 c10 c11 c12
                  have HPX := HP12
                  have HGX := HG12
                  generalize w12 = w20 at *
                  have c0 : w20.cell? ⟨g2, 0, none⟩ = some (.int .i64 (m2.rows : Int)) := HGX.out.cell 0
                  have c1 : w20.cell? ⟨g2, 1, none⟩ = some (.int .i64 (m2.W : Int)) := HGX.out.cell 1
                  have c2 : w20.cell? ⟨g2, 2, none⟩ = some (uv m2.seed) := HGX.out.cell 2
                  have c3 : w20.cell? ⟨g2, 3, none⟩ = some (.int .i64 (m2.long : Int)) := HGX.out.cell 3
                  have c4 : w20.cell? ⟨g2, 4, none⟩ = some (.int .i64 (m2.now : Int)) := HGX.out.cell 4
                  have c5 : w20.cell? ⟨g2, 5, none⟩ = some ((.slice aL2 L2.rows kL2)) := HGX.out.cell 5
                  have c6 : w20.cell? ⟨g2, 6, none⟩ = some (.int .i64 (L2.W : Int)) := HGX.out.cell 6
                  have c7 : w20.cell? ⟨g2, 7, none⟩ = some (uv L2.seed) := HGX.out.cell 7
                  have c8 : w20.cell? ⟨g2, 8, none⟩ = some (nv L2.total) := HGX.out.cell 8
                  have c9 : w20.cell? ⟨g2, 9, none⟩ = some ((.slice aT2 m2.this.rows kT2)) := HGX.out.cell 9
                  have c10 : w20.cell? ⟨g2, 10, none⟩ = some (.int .i64 (m2.this.W : Int)) := HGX.out.cell 10
                  have c11 : w20.cell? ⟨g2, 11, none⟩ = some (uv m2.this.seed) := HGX.out.cell 11
                  have c12 : w20.cell? ⟨g2, 12, none⟩ = some (nv m2.this.total) := HGX.out.cell 12
                  have hnm2 := HPX.out.oks.2.1.nowm
                  go_wp2_with fail
                  go_roundw
                  case rel => exact ⟨k + 1, max n1 m2.now, _, L2, _, m2, by omega, by go_num, by go_num, by omega, HPX, HGX⟩
                  case measure => simp [intOf]; omega
        · obtain ⟨n1, hn1⟩ : ∃ n1 : Nat, n1 = nw := ⟨_, rfl⟩
          have hnw1 : n1 ≤ 1099511627776 + 6 * (k + 1) := by omega
          subst hn1
          go_wp2_with fail
          refine (HKY.out _).mono ?_
          rintro e w7 ⟨rfl, hb7⟩
          have HT7 := Lib.hid (HT.out.next hb7).1
          have HG7 := Lib.hid (HG.out.next hb7)
          have hcell7 := (HC.out.1.below (bnext HT.out.below hb7)).cell k (by omega)
          rw [HX.out] at hcell7
          clear hb7 HT HG hcell HKY
          by_cases hx5 : x % 5 = 0
          · as_aux_lemma =>
            obtain ⟨⟨aL, kL, rfl⟩, ⟨aT, kT, rfl⟩⟩ := HT7.out.slices
            have hrc := fun W (hW : Below w7.heap.size w7 W) => (HC.out.1.below (bnext HT7.out.below hW)).cell k (by omega)
            rw [HX.out] at hrc
            have HRC := Lib.hid hrc
            obtain ⟨x3, hx3, hx3l⟩ : ∃ x3 : Nat, x % 3 = (x3 : Int) ∧ x3 ≤ 2 := ⟨(x % 3).toNat, by omega, by omega⟩
            obtain ⟨n9, hn9, hn9l⟩ : ∃ n9 : Nat, 1 + (x3 : Int) = (n9 : Int) ∧ n9 ≤ 3 := ⟨1 + x3, by omega, by omega⟩
            have hwx3 : IntKind.u64.wrap (x3 : Int) = (x3 : Int) := IntWalk.u64_in _ (by omega)
            have hwn9 : IntKind.u64.wrap (n9 : Int) = (n9 : Int) := IntWalk.u64_in _ (by omega)
            have HUW : Hid (IntKind.u64.wrap (1 + IntKind.u64.wrap (x.tmod 3)) = (n9 : Int)) := Lib.hid (by rw [Int.tmod_eq_emod_of_nonneg hx0, hx3, hwx3, hn9, hwn9])
            have HC1 := Lib.hid fun W G' (h : PairW w W g G' (.slice aL L.rows kL) (.slice aT m.this.rows kT) m m L) => rw_add ((n1 : Int)) (keyS x) n9 h (keyS_size x) (by omega)
            rw [show nv n9 = .int .u64 (IntKind.u64.wrap (1 + IntKind.u64.wrap (x.tmod 3))) by rw [HUW.out]] at HC1
            obtain ⟨m2, hm2⟩ : ∃ m2, m2 = m.add ((n1 : Int)) (keyS x).data.toList n9 := ⟨_, rfl⟩
            obtain ⟨er, her⟩ : ∃ er, er = m.err ((n1 : Int)) := ⟨_, rfl⟩
            rw [← hm2, ← her] at HC1
            have HM2 := Lib.hid hm2
            have HER := Lib.hid her
            have her2 : er = 0 ∨ er = 60 := by rw [her]; unfold Win.err; split; exact .inl rfl; exact .inr rfl
            have hwer : IntKind.i64.wrap er = er := by rcases her2 with h | h <;> rw [h] <;> rfl
            have her0 : 0 ≤ er ∧ er ≤ 60 := by omega
            clear hm2 her hrc her2
            have hg7 := HG7.out
            have c0 : w7.cell? ⟨g2, 0, none⟩ = some (.int .i64 (m.rows : Int)) := hg7.cell 0
            have c1 : w7.cell? ⟨g2, 1, none⟩ = some (.int .i64 (m.W : Int)) := hg7.cell 1
            have c2 : w7.cell? ⟨g2, 2, none⟩ = some (uv m.seed) := hg7.cell 2
            have c3 : w7.cell? ⟨g2, 3, none⟩ = some (.int .i64 (m.long : Int)) := hg7.cell 3
            have c4 : w7.cell? ⟨g2, 4, none⟩ = some (.int .i64 (m.now : Int)) := hg7.cell 4
            have c5 : w7.cell? ⟨g2, 5, none⟩ = some ((.slice aL L.rows kL)) := hg7.cell 5
            have c6 : w7.cell? ⟨g2, 6, none⟩ = some (.int .i64 (L.W : Int)) := hg7.cell 6
            have c7 : w7.cell? ⟨g2, 7, none⟩ = some (uv L.seed) := hg7.cell 7
            have c8 : w7.cell? ⟨g2, 8, none⟩ = some (nv L.total) := hg7.cell 8
            have c9 : w7.cell? ⟨g2, 9, none⟩ = some ((.slice aT m.this.rows kT)) := hg7.cell 9
            have c10 : w7.cell? ⟨g2, 10, none⟩ = some (.int .i64 (m.this.W : Int)) := hg7.cell 10
            have c11 : w7.cell? ⟨g2, 11, none⟩ = some (uv m.this.seed) := hg7.cell 11
            have c12 : w7.cell? ⟨g2, 12, none⟩ = some (nv m.this.total) := hg7.cell 12
            have HC4 : Hid (∀ W, Below w7.heap.size w7 W → W.cell? ⟨g2, 0, none⟩ = some (.int .i64 (m.rows : Int)) ∧ W.cell? ⟨g2, 1, none⟩ = some (.int .i64 (m.W : Int)) ∧ W.cell? ⟨g2, 2, none⟩ = some (uv m.seed) ∧ W.cell? ⟨g2, 3, none⟩ = some (.int .i64 (m.long : Int)) ∧ W.cell? ⟨g2, 4, none⟩ = some (.int .i64 (m.now : Int)) ∧ W.cell? ⟨g2, 5, none⟩ = some ((.slice aL L.rows kL)) ∧ W.cell? ⟨g2, 6, none⟩ = some (.int .i64 (L.W : Int)) ∧ W.cell? ⟨g2, 7, none⟩ = some (uv L.seed) ∧ W.cell? ⟨g2, 8, none⟩ = some (nv L.total) ∧ W.cell? ⟨g2, 9, none⟩ = some ((.slice aT m.this.rows kT)) ∧ W.cell? ⟨g2, 10, none⟩ = some (.int .i64 (m.this.W : Int)) ∧ W.cell? ⟨g2, 11, none⟩ = some (uv m.this.seed) ∧ W.cell? ⟨g2, 12, none⟩ = some (nv m.this.total) ∧ W.cell? (adr ca k) = some (.int .u8 x) ∧ Below w7.heap.size w7 W) := Lib.hid fun W hW => ⟨(HG7.out.next hW).cell 0, (HG7.out.next hW).cell 1, (HG7.out.next hW).cell 2, (HG7.out.next hW).cell 3, (HG7.out.next hW).cell 4, (HG7.out.next hW).cell 5, (HG7.out.next hW).cell 6, (HG7.out.next hW).cell 7, (HG7.out.next hW).cell 8, (HG7.out.next hW).cell 9, (HG7.out.next hW).cell 10, (HG7.out.next hW).cell 11, (HG7.out.next hW).cell 12, HRC.out W hW, hW⟩
            clear hg7
            have HTA := Lib.hid ((HT7.out.alloc (.cells #[.int .i64 0, .int .i64 0, .int .u64 0, .int .i64 0, .int .i64 0, .slice none 0 0, .int .i64 0, .int .u64 0, .int .u64 0, .slice none 0 0, .int .i64 0, .int .u64 0, .int .u64 0] 38)).next (Below.drew (Below.refl _ _))).1
            have HZA := Lib.hid (Blk.new w7 38 #[.int .i64 0, .int .i64 0, .int .u64 0, .int .i64 0, .int .i64 0, .slice none 0 0, .int .i64 0, .int .u64 0, .int .u64 0, .slice none 0 0, .int .i64 0, .int .u64 0, .int .u64 0]).drew
            go_upto_region 22 with fail
            refine wp_region_noPanic ?_
            refine wp_region_held_drew (S := (fun W => Below w7.heap.size w7 W)) (by kernel_rfl) (by exact Below.drew (Below.refl _ _)) (fun hS_ => ?_)
            refine wpAnyH_take (i := 0) (oi := ({ dst := (some 122), op := (Op.load 38 (Operand.tmp 16)), type := 38, pos := "law.go:49", after := #[], guard := none } : Oper)) (v := ?_) rfl (by kernel_rfl) (by kernel_rfl) (by kernel_rfl) (fun _ _ _ h => h) (Or.inl ⟨by rfl, ?_⟩) (by assumption) ?_
            rotate_left
            · (intro w_ hSw; (try dsimp only at hSw); obtain ⟨q0, q1, q2, q3, q4, q5, q6, q7, q8, q9, q10, q11, q12, q13, q14⟩ := HC4.out w_ hSw; go_simp; try with_reducible rfl)
            try simp only [Act.put, List.setIfInBounds_toArray, List.set_cons_zero, List.set_cons_succ]
            refine wpAnyH_take (i := 1) (oi := ({ dst := (some 123), op := (Op.move (Operand.tmp 20)), type := 3, pos := "law.go:49", after := #[], guard := none } : Oper)) (v := ?_) rfl (by kernel_rfl) (by kernel_rfl) (by kernel_rfl) (fun _ _ _ h => h) (Or.inl ⟨by rfl, ?_⟩) (by assumption) ?_
            rotate_left
            · (intro w_ hSw; (try dsimp only at hSw); go_simp; try with_reducible rfl)
            try simp only [Act.put, List.setIfInBounds_toArray, List.set_cons_zero, List.set_cons_succ]
            refine wpAnyH_take (i := 2) (oi := ({ dst := (some 124), op := (Op.move (Operand.tmp 21)), type := 9, pos := "law.go:49", after := #[], guard := none } : Oper)) (v := ?_) rfl (by kernel_rfl) (by kernel_rfl) (by kernel_rfl) (fun _ _ _ h => h) (Or.inl ⟨by rfl, ?_⟩) (by assumption) ?_
            rotate_left
            · (intro w_ hSw; (try dsimp only at hSw); go_simp; try with_reducible rfl)
            try simp only [Act.put, List.setIfInBounds_toArray, List.set_cons_zero, List.set_cons_succ]
            refine wpAnyH_take (i := 3) (oi := ({ dst := (some 125), op := (Op.move (Operand.tmp 4)), type := 23, pos := "law.go:49", after := #[], guard := none } : Oper)) (v := ?_) rfl (by kernel_rfl) (by kernel_rfl) (by kernel_rfl) (fun _ _ _ h => h) (Or.inl ⟨by rfl, ?_⟩) (by assumption) ?_
            rotate_left
            · (intro w_ hSw; (try dsimp only at hSw); go_simp; try with_reducible rfl)
            try simp only [Act.put, List.setIfInBounds_toArray, List.set_cons_zero, List.set_cons_succ]
            refine wpAnyH_take (i := 4) (oi := ({ dst := (some 126), op := (Op.move (Operand.tmp 19)), type := 3, pos := "law.go:49", after := #[], guard := none } : Oper)) (v := ?_) rfl (by kernel_rfl) (by kernel_rfl) (by kernel_rfl) (fun _ _ _ h => h) (Or.inl ⟨by rfl, ?_⟩) (by assumption) ?_
            rotate_left
            · (intro w_ hSw; (try dsimp only at hSw); go_simp; try with_reducible rfl)
            try simp only [Act.put, List.setIfInBounds_toArray, List.set_cons_zero, List.set_cons_succ]
            refine wpAnyH_take (i := 5) (oi := ({ dst := (some 127), op := (Op.indexAddr 23 (Operand.tmp 125) (Operand.tmp 126)), type := 0, pos := "law.go:49", after := #[{ on := 3, ground := Ground.data }, { on := 4, ground := Ground.data }], guard := none } : Oper)) (v := ?_) rfl (by kernel_rfl) (by kernel_rfl) (by kernel_rfl) (fun _ _ _ h => h) (Or.inl ⟨by rfl, ?_⟩) (by assumption) ?_
            rotate_left
            · (intro w_ hSw; (try dsimp only at hSw); go_simp; try with_reducible rfl)
            try simp only [Act.put, List.setIfInBounds_toArray, List.set_cons_zero, List.set_cons_succ]
            refine wpAnyH_take (i := 6) (oi := ({ dst := (some 128), op := (Op.load 5 (Operand.tmp 127)), type := 5, pos := "law.go:49", after := #[{ on := 5, ground := Ground.data }], guard := none } : Oper)) (v := ?_) rfl (by kernel_rfl) (by kernel_rfl) (by kernel_rfl) (fun _ _ _ h => h) (Or.inl ⟨by rfl, ?_⟩) (by assumption) ?_
            rotate_left
            · (intro w_ hSw; (try dsimp only at hSw); obtain ⟨q0, q1, q2, q3, q4, q5, q6, q7, q8, q9, q10, q11, q12, q13, q14⟩ := HC4.out w_ hSw; go_simp; try with_reducible rfl)
            try simp only [Act.put, List.setIfInBounds_toArray, List.set_cons_zero, List.set_cons_succ]
            refine wpAnyH_take (i := 7) (oi := ({ dst := (some 129), op := (Op.binOp BinOp.rem 5 (Operand.tmp 128) (Operand.const (Value.int IntKind.u8 3)) 5), type := 5, pos := "law.go:49", after := #[{ on := 6, ground := Ground.data }], guard := none } : Oper)) (v := ?_) rfl (by kernel_rfl) (by kernel_rfl) (by kernel_rfl) (fun _ _ _ h => h) (Or.inl ⟨by rfl, ?_⟩) (by assumption) ?_
            rotate_left
            · (intro w_ hSw; (try dsimp only at hSw); go_simp; try with_reducible rfl)
            try simp only [Act.put, List.setIfInBounds_toArray, List.set_cons_zero, List.set_cons_succ]
            refine wpAnyH_take (i := 8) (oi := ({ dst := (some 130), op := (Op.convert 5 22 (Operand.tmp 129)), type := 22, pos := "law.go:49", after := #[{ on := 7, ground := Ground.data }], guard := none } : Oper)) (v := ?_) rfl (by kernel_rfl) (by kernel_rfl) (by kernel_rfl) (fun _ _ _ h => h) (Or.inl ⟨by rfl, ?_⟩) (by assumption) ?_
            rotate_left
            · (intro w_ hSw; (try dsimp only at hSw); obtain ⟨q0, q1, q2, q3, q4, q5, q6, q7, q8, q9, q10, q11, q12, q13, q14⟩ := HC4.out w_ hSw; go_simp; try with_reducible rfl)
            try simp only [Act.put, List.setIfInBounds_toArray, List.set_cons_zero, List.set_cons_succ]
            refine wpAnyH_take (i := 9) (oi := ({ dst := (some 131), op := (Op.binOp BinOp.add 22 (Operand.const (Value.int IntKind.u64 1)) (Operand.tmp 130) 22), type := 22, pos := "law.go:49", after := #[{ on := 8, ground := Ground.data }], guard := none } : Oper)) (v := ?_) rfl (by kernel_rfl) (by kernel_rfl) (by kernel_rfl) (fun _ _ _ h => h) (Or.inl ⟨by rfl, ?_⟩) (by assumption) ?_
            rotate_left
            · (intro w_ hSw; (try dsimp only at hSw); go_simp; try with_reducible rfl)
            try simp only [Act.put, List.setIfInBounds_toArray, List.set_cons_zero, List.set_cons_succ]
            refine wpAnyH_ready (rs := [10, 14]) (by kernel_rfl) (by simp) ?_
            refine AllReadyH.cons (o := ({ dst := (some 132), op := (Op.call { callee := (Callee.value (Operand.func 14)), args := #[(Operand.tmp 122), (Operand.tmp 123), (Operand.tmp 124), (Operand.tmp 131)], argTypes := #[38, 3, 9, 22] }), type := 41, pos := "law.go:49", after := #[{ on := 0, ground := Ground.data }, { on := 1, ground := Ground.data }, { on := 2, ground := Ground.data }, { on := 9, ground := Ground.data }], guard := none } : Oper)) rfl (fun K hK => ?_) ?_
            · go_simp
              refine (HC1.out _ _ (HT7.out.next hS_).1).mono ?_
              rintro e w8 ⟨vL2, L2, vT2, rfl, hp8, hk8, hb8⟩
              obtain ⟨⟨aL2, kL2, rfl⟩, ⟨aT2, kT2, rfl⟩⟩ := hp8.slices
              refine hK.out _ _ (by exact bnext hS_ hb8) (fun hS_ => ?_)
              clear hK K
              try simp only [Act.put, List.setIfInBounds_toArray, List.set_cons_zero, List.set_cons_succ]
              refine wpAnyH_take (i := 11) (oi := ({ dst := (some 121), op := (Op.move (Operand.tmp 132)), type := 41, pos := "law.go:49", after := #[{ on := 10, ground := Ground.data }], guard := none } : Oper)) (v := ?_) rfl (by kernel_rfl) (by kernel_rfl) (by kernel_rfl) (fun _ _ _ h => h) (Or.inl ⟨by rfl, ?_⟩) (by assumption) ?_
              rotate_left
              · (intro w_ hSw; (try dsimp only at hSw); go_simp; try with_reducible rfl)
              try simp only [Act.put, List.setIfInBounds_toArray, List.set_cons_zero, List.set_cons_succ]
              refine wpAnyH_take (i := 12) (oi := ({ dst := (some 133), op := (Op.extract (Operand.tmp 121) 0), type := 38, pos := "law.go:49", after := #[{ on := 11, ground := Ground.data }], guard := none } : Oper)) (v := ?_) rfl (by kernel_rfl) (by kernel_rfl) (by kernel_rfl) (fun _ _ _ h => h) (Or.inl ⟨by rfl, ?_⟩) (by assumption) ?_
              rotate_left
              · (intro w_ hSw; (try dsimp only at hSw); go_simp; try with_reducible rfl)
              try simp only [Act.put, List.setIfInBounds_toArray, List.set_cons_zero, List.set_cons_succ]
              refine wpAnyH_take (i := 13) (oi := ({ dst := (some 134), op := (Op.extract (Operand.tmp 121) 1), type := 3, pos := "law.go:49", after := #[{ on := 11, ground := Ground.data }, { on := 15, ground := (Ground.gcOnly Departure.lateStores) }], guard := none } : Oper)) (v := ?_) rfl (by kernel_rfl) (by kernel_rfl) (by kernel_rfl) (fun _ _ _ h => h) (Or.inl ⟨by rfl, ?_⟩) (by assumption) ?_
              rotate_left
              · (intro w_ hSw; (try dsimp only at hSw); go_simp; try with_reducible rfl)
              try simp only [Act.put, List.setIfInBounds_toArray, List.set_cons_zero, List.set_cons_succ]
              refine wpAnyH_ready (rs := [14]) (by kernel_rfl) (by simp) ?_
              refine AllReadyH.cons (o := ({ dst := (some 22), op := (Op.alloc 38), type := 0, pos := "law.go:49", after := #[], guard := none } : Oper)) rfl (fun K hK => ?_) ?_
              · go_simp
                refine hK.out _ _ (by exact bl_alloc hS_ _) (fun hS_ => ?_)
                clear hK K
                try simp only [Act.put, List.setIfInBounds_toArray, List.set_cons_zero, List.set_cons_succ]
                refine wpAnyH_ready (rs := [15]) (by kernel_rfl) (by simp) ?_
                refine AllReadyH.cons (o := ({ dst := none, op := (Op.store 38 (Operand.tmp 22) (Operand.tmp 133)), type := 0, pos := "law.go:49", after := #[{ on := 14, ground := Ground.data }, { on := 12, ground := Ground.data }, { on := 10, ground := Ground.chain }, { on := 0, ground := Ground.phase }, { on := 1, ground := Ground.phase }, { on := 2, ground := Ground.phase }, { on := 3, ground := Ground.phase }, { on := 4, ground := Ground.phase }, { on := 5, ground := Ground.phase }, { on := 6, ground := Ground.phase }, { on := 7, ground := Ground.phase }, { on := 8, ground := Ground.phase }, { on := 9, ground := Ground.phase }, { on := 10, ground := Ground.phase }, { on := 11, ground := Ground.phase }, { on := 12, ground := Ground.phase }, { on := 13, ground := (Ground.textOnly Departure.lateStores) }, { on := 14, ground := Ground.phase }], guard := none } : Oper)) rfl (fun K hK => ?_) ?_
                · rw [if_pos (by rfl)]
                  refine wp_store_row 38 (.tmp 22) (.tmp 133) rfl w8.heap.size (wvs m2 (.slice aL2 L2.rows kL2) L2 (.slice aT2 m2.this.rows kT2) m2.this) rfl rfl 38 _ (Blk.new w8 _ _) (by kernel_rfl) rfl (by kernel_rfl) ?_
                  rw [World.setRow_alloc_new]
                  simp only [Act.put, List.setIfInBounds_toArray, List.set_cons_zero, List.set_cons_succ]
                  refine hK.out _ _ (by exact bl_alloc (bnext (Below.drew (Below.refl _ _)) hb8) _) (fun hS_ => ?_)
                  clear hK K
                  try simp only [Act.put, List.setIfInBounds_toArray, List.set_cons_zero, List.set_cons_succ]
                  refine wpAnyH_take (i := 16) (oi := ({ dst := (some 23), op := (Op.assign (Operand.tmp 134)), type := 3, pos := "law.go:49", after := #[{ on := 13, ground := Ground.data }, { on := 15, ground := Ground.chain }, { on := 0, ground := Ground.phase }, { on := 1, ground := Ground.phase }, { on := 2, ground := Ground.phase }, { on := 3, ground := Ground.phase }, { on := 4, ground := Ground.phase }, { on := 5, ground := Ground.phase }, { on := 6, ground := Ground.phase }, { on := 7, ground := Ground.phase }, { on := 8, ground := Ground.phase }, { on := 9, ground := Ground.phase }, { on := 10, ground := Ground.phase }, { on := 11, ground := Ground.phase }, { on := 12, ground := Ground.phase }, { on := 13, ground := Ground.phase }, { on := 14, ground := Ground.phase }, { on := 15, ground := Ground.phase }], guard := none } : Oper)) (v := ?_) rfl (by kernel_rfl) (by kernel_rfl) (by kernel_rfl) (fun _ _ _ h => h) (Or.inl ⟨by rfl, ?_⟩) (by assumption) ?_
                  rotate_left
                  · (intro w_ hSw; (try dsimp only at hSw); go_simp; try with_reducible rfl)
                  try simp only [Act.put, List.setIfInBounds_toArray, List.set_cons_zero, List.set_cons_succ]
                  refine wpAnyH_done (by kernel_rfl) ?_ _
                  refine NoPanic.normal ?_
                  have hg8 := HG7.out.drew.kept hk8 rfl
                  have HP9 := Lib.hid (hp8.alloc (.cells (wvs m2 (.slice aL2 L2.rows kL2) L2 (.slice aT2 m2.this.rows kT2) m2.this) 38))
                  have HG9 := Lib.hid (hg8.alloc (.cells (wvs m2 (.slice aL2 L2.rows kL2) L2 (.slice aT2 m2.this.rows kT2) m2.this) 38))
                  have HH9 := Lib.hid (Blk.new w8 38 (wvs m2 (.slice aL2 L2.rows kL2) L2 (.slice aT2 m2.this.rows kT2) m2.this))
                  clear hg8 hp8 hk8 hb8 hS_ HC1 HC4 HTA HZA HT7 HG7 c0 c1 c2 c3 c4 c5 c6 c7 c8 c9 c10 c11 c12 hcell7
                  generalize w8.heap.size = g3 at *
                  generalize w8.alloc _ = w9 at *
                  have hcell9 := (HC.out.1.below HP9.out.below).cell k (by omega)
                  rw [HX.out] at hcell9
                  have HAD := Lib.hid (pw_add ((n1 : Int)) (keyS x) n9 HP9.out (keyS_size x) (by omega))
                  rw [← HM2.out, ← HER.out] at HAD
                  go_wp2_with fail
                  refine HAD.out.mono ?_
                  rintro e w10 ⟨rfl, hp10, hk10⟩
                  have HG10 := Lib.hid (HG9.out.kept hk10 (.inl rfl))
                  have HH10 := Lib.hid (HH9.out.kept hk10 (.inr rfl))
                  have HP10 := Lib.hid hp10
                  have hxe : ((er : Int) != er) = false := by simp
                  clear hp10 hk10 HP9 HG9 HH9 HAD hcell9
                  go_upto_region 24 with fail
                  apply wp_region_lit
                  refine wpList_load_mid rfl 38 (.tmp 22) rfl g3 0 rfl (wvs m2 (.slice aL2 L2.rows kL2) L2 (.slice aT2 m2.this.rows kT2) m2.this).toList _ HH10.out.range Try.underlying38 rfl (by kernel_rfl) ?_
                  refine wpList_store_row rfl 38 (.tmp 16) (.tmp 149) rfl g2 (wvs m2 (.slice aL2 L2.rows kL2) L2 (.slice aT2 m2.this.rows kT2) m2.this) rfl rfl 38 _ HG10.out (by kernel_rfl) rfl (by kernel_rfl) ?_
                  go_upto_region 31 with fail
                  have HPX := Lib.hid ((HP10.out.chg (chg_row (w := w10) (g := g2) (.inl rfl) (wvs m2 (.slice aL2 L2.rows kL2) L2 (.slice aT2 m2.this.rows kT2) m2.this))).fewer (G' := fun q => q = g2) (fun q hq => .inl hq))
                  have HGX := Lib.hid (HG10.out.row (wvs m2 (.slice aL2 L2.rows kL2) L2 (.slice aT2 m2.this.rows kT2) m2.this))
                  generalize w10.setRow g2 _ = w20 at *
                  clear HP10 HG10 HH10
                  have c0 : w20.cell? ⟨g2, 0, none⟩ = some (.int .i64 (m2.rows : Int)) := HGX.out.cell 0
                  have c1 : w20.cell? ⟨g2, 1, none⟩ = some (.int .i64 (m2.W : Int)) := HGX.out.cell 1
                  have c2 : w20.cell? ⟨g2, 2, none⟩ = some (uv m2.seed) := HGX.out.cell 2
                  have c3 : w20.cell? ⟨g2, 3, none⟩ = some (.int .i64 (m2.long : Int)) := HGX.out.cell 3
                  have c4 : w20.cell? ⟨g2, 4, none⟩ = some (.int .i64 (m2.now : Int)) := HGX.out.cell 4
                  have c5 : w20.cell? ⟨g2, 5, none⟩ = some ((.slice aL2 L2.rows kL2)) := HGX.out.cell 5
                  have c6 : w20.cell? ⟨g2, 6, none⟩ = some (.int .i64 (L2.W : Int)) := HGX.out.cell 6
                  have c7 : w20.cell? ⟨g2, 7, none⟩ = some (uv L2.seed) := HGX.out.cell 7
                  have c8 : w20.cell? ⟨g2, 8, none⟩ = some (nv L2.total) := HGX.out.cell 8
                  have c9 : w20.cell? ⟨g2, 9, none⟩ = some ((.slice aT2 m2.this.rows kT2)) := HGX.out.cell 9
                  have c10 : w20.cell? ⟨g2, 10, none⟩ = some (.int .i64 (m2.this.W : Int)) := HGX.out.cell 10
                  have c11 : w20.cell? ⟨g2, 11, none⟩ = some (uv m2.this.seed) := HGX.out.cell 11
                  have c12 : w20.cell? ⟨g2, 12, none⟩ = some (nv m2.this.total) := HGX.out.cell 12
                  have hnm2 := HPX.out.oks.2.1.nowm
                  go_wp2_with fail
                  go_roundw
                  case rel => exact ⟨k + 1, max n1 m2.now, _, L2, _, m2, by omega, by go_num, by go_num, by omega, HPX, HGX⟩
                  case measure => simp [intOf]; omega
                exact AllReadyH.nil
              exact AllReadyH.nil
            refine AllReadyH.cons (o := ({ dst := (some 22), op := (Op.alloc 38), type := 0, pos := "law.go:49", after := #[], guard := none } : Oper)) rfl (fun K hK => ?_) ?_
            · go_simp
              refine hK.out _ _ (by exact bl_alloc hS_ _) (fun hS_ => ?_)
              clear hK K
              try simp only [Act.put, List.setIfInBounds_toArray, List.set_cons_zero, List.set_cons_succ]
              refine wpAnyH_ready (rs := [10]) (by kernel_rfl) (by simp) ?_
              refine AllReadyH.cons (o := ({ dst := (some 132), op := (Op.call { callee := (Callee.value (Operand.func 14)), args := #[(Operand.tmp 122), (Operand.tmp 123), (Operand.tmp 124), (Operand.tmp 131)], argTypes := #[38, 3, 9, 22] }), type := 41, pos := "law.go:49", after := #[{ on := 0, ground := Ground.data }, { on := 1, ground := Ground.data }, { on := 2, ground := Ground.data }, { on := 9, ground := Ground.data }], guard := none } : Oper)) rfl (fun K hK => ?_) ?_
              · go_simp
                refine (HC1.out _ _ HTA.out).mono ?_
                rintro e w8 ⟨vL2, L2, vT2, rfl, hp8, hk8, hb8⟩
                obtain ⟨⟨aL2, kL2, rfl⟩, ⟨aT2, kT2, rfl⟩⟩ := hp8.slices
                have hq8 := HZA.out.kept hk8 (.inr rfl)
                refine hK.out _ _ (by exact bnext hS_ hb8) (fun hS_ => ?_)
                clear hK K
                try simp only [Act.put, List.setIfInBounds_toArray, List.set_cons_zero, List.set_cons_succ]
                refine wpAnyH_take (i := 11) (oi := ({ dst := (some 121), op := (Op.move (Operand.tmp 132)), type := 41, pos := "law.go:49", after := #[{ on := 10, ground := Ground.data }], guard := none } : Oper)) (v := ?_) rfl (by kernel_rfl) (by kernel_rfl) (by kernel_rfl) (fun _ _ _ h => h) (Or.inl ⟨by rfl, ?_⟩) (by assumption) ?_
                rotate_left
                · (intro w_ hSw; (try dsimp only at hSw); go_simp; try with_reducible rfl)
                try simp only [Act.put, List.setIfInBounds_toArray, List.set_cons_zero, List.set_cons_succ]
                refine wpAnyH_take (i := 12) (oi := ({ dst := (some 133), op := (Op.extract (Operand.tmp 121) 0), type := 38, pos := "law.go:49", after := #[{ on := 11, ground := Ground.data }], guard := none } : Oper)) (v := ?_) rfl (by kernel_rfl) (by kernel_rfl) (by kernel_rfl) (fun _ _ _ h => h) (Or.inl ⟨by rfl, ?_⟩) (by assumption) ?_
                rotate_left
                · (intro w_ hSw; (try dsimp only at hSw); go_simp; try with_reducible rfl)
                try simp only [Act.put, List.setIfInBounds_toArray, List.set_cons_zero, List.set_cons_succ]
                refine wpAnyH_take (i := 13) (oi := ({ dst := (some 134), op := (Op.extract (Operand.tmp 121) 1), type := 3, pos := "law.go:49", after := #[{ on := 11, ground := Ground.data }, { on := 15, ground := (Ground.gcOnly Departure.lateStores) }], guard := none } : Oper)) (v := ?_) rfl (by kernel_rfl) (by kernel_rfl) (by kernel_rfl) (fun _ _ _ h => h) (Or.inl ⟨by rfl, ?_⟩) (by assumption) ?_
                rotate_left
                · (intro w_ hSw; (try dsimp only at hSw); go_simp; try with_reducible rfl)
                try simp only [Act.put, List.setIfInBounds_toArray, List.set_cons_zero, List.set_cons_succ]
                refine wpAnyH_ready (rs := [15]) (by kernel_rfl) (by simp) ?_
                refine AllReadyH.cons (o := ({ dst := none, op := (Op.store 38 (Operand.tmp 22) (Operand.tmp 133)), type := 0, pos := "law.go:49", after := #[{ on := 14, ground := Ground.data }, { on := 12, ground := Ground.data }, { on := 10, ground := Ground.chain }, { on := 0, ground := Ground.phase }, { on := 1, ground := Ground.phase }, { on := 2, ground := Ground.phase }, { on := 3, ground := Ground.phase }, { on := 4, ground := Ground.phase }, { on := 5, ground := Ground.phase }, { on := 6, ground := Ground.phase }, { on := 7, ground := Ground.phase }, { on := 8, ground := Ground.phase }, { on := 9, ground := Ground.phase }, { on := 10, ground := Ground.phase }, { on := 11, ground := Ground.phase }, { on := 12, ground := Ground.phase }, { on := 13, ground := (Ground.textOnly Departure.lateStores) }, { on := 14, ground := Ground.phase }], guard := none } : Oper)) rfl (fun K hK => ?_) ?_
                · rw [if_pos (by rfl)]
                  refine wp_store_row 38 (.tmp 22) (.tmp 133) rfl w7.heap.size (wvs m2 (.slice aL2 L2.rows kL2) L2 (.slice aT2 m2.this.rows kT2) m2.this) rfl rfl 38 _ hq8 (by kernel_rfl) rfl (by kernel_rfl) ?_
                  simp only [Act.put, List.setIfInBounds_toArray, List.set_cons_zero, List.set_cons_succ]
                  refine hK.out _ _ (by exact below_setRow hS_ (Nat.le_refl _) _) (fun hS_ => ?_)
                  clear hK K
                  try simp only [Act.put, List.setIfInBounds_toArray, List.set_cons_zero, List.set_cons_succ]
                  refine wpAnyH_take (i := 16) (oi := ({ dst := (some 23), op := (Op.assign (Operand.tmp 134)), type := 3, pos := "law.go:49", after := #[{ on := 13, ground := Ground.data }, { on := 15, ground := Ground.chain }, { on := 0, ground := Ground.phase }, { on := 1, ground := Ground.phase }, { on := 2, ground := Ground.phase }, { on := 3, ground := Ground.phase }, { on := 4, ground := Ground.phase }, { on := 5, ground := Ground.phase }, { on := 6, ground := Ground.phase }, { on := 7, ground := Ground.phase }, { on := 8, ground := Ground.phase }, { on := 9, ground := Ground.phase }, { on := 10, ground := Ground.phase }, { on := 11, ground := Ground.phase }, { on := 12, ground := Ground.phase }, { on := 13, ground := Ground.phase }, { on := 14, ground := Ground.phase }, { on := 15, ground := Ground.phase }], guard := none } : Oper)) (v := ?_) rfl (by kernel_rfl) (by kernel_rfl) (by kernel_rfl) (fun _ _ _ h => h) (Or.inl ⟨by rfl, ?_⟩) (by assumption) ?_
                  rotate_left
                  · (intro w_ hSw; (try dsimp only at hSw); go_simp; try with_reducible rfl)
                  try simp only [Act.put, List.setIfInBounds_toArray, List.set_cons_zero, List.set_cons_succ]
                  refine wpAnyH_done (by kernel_rfl) ?_ _
                  refine NoPanic.normal ?_
                  have hgl := HG7.out.lt
                  have hg8 := ((HG7.out.alloc (.cells #[.int .i64 0, .int .i64 0, .int .u64 0, .int .i64 0, .int .i64 0, .slice none 0 0, .int .i64 0, .int .u64 0, .int .u64 0, .slice none 0 0, .int .i64 0, .int .u64 0, .int .u64 0] 38)).drew).kept hk8 (.inl rfl)
                  have HP9 := Lib.hid (hp8.chg (chg_row (w := w8) (g := w7.heap.size) (.inr rfl) (wvs m2 (.slice aL2 L2.rows kL2) L2 (.slice aT2 m2.this.rows kT2) m2.this)))
                  have HG9 : Hid (Blk (w8.setRow w7.heap.size (wvs m2 (.slice aL2 L2.rows kL2) L2 (.slice aT2 m2.this.rows kT2) m2.this)) g2 38 (wvs m (.slice aL L.rows kL) L (.slice aT m.this.rows kT) m.this)) := Lib.hid ((setRow_other w8 w7.heap.size g2 (wvs m2 (.slice aL2 L2.rows kL2) L2 (.slice aT2 m2.this.rows kT2) m2.this) (Nat.ne_of_lt hgl)).trans hg8)
                  have HH9 := Lib.hid (hq8.row (wvs m2 (.slice aL2 L2.rows kL2) L2 (.slice aT2 m2.this.rows kT2) m2.this))
                  clear hgl hg8 hp8 hk8 hb8 hS_ hq8 HC1 HC4 HTA HZA HT7 HG7 c0 c1 c2 c3 c4 c5 c6 c7 c8 c9 c10 c11 c12 hcell7
                  generalize w7.heap.size = g3 at *
                  generalize w8.setRow g3 _ = w9 at *
                  have hcell9 := (HC.out.1.below HP9.out.below).cell k (by omega)
                  rw [HX.out] at hcell9
                  have HAD := Lib.hid (pw_add ((n1 : Int)) (keyS x) n9 HP9.out (keyS_size x) (by omega))
                  rw [← HM2.out, ← HER.out] at HAD
                  go_wp2_with fail
                  refine HAD.out.mono ?_
                  rintro e w10 ⟨rfl, hp10, hk10⟩
                  have HG10 := Lib.hid (HG9.out.kept hk10 (.inl rfl))
                  have HH10 := Lib.hid (HH9.out.kept hk10 (.inr rfl))
                  have HP10 := Lib.hid hp10
                  have hxe : ((er : Int) != er) = false := by simp
                  clear hp10 hk10 HP9 HG9 HH9 HAD hcell9
                  go_upto_region 24 with fail
                  apply wp_region_lit
                  refine wpList_load_mid rfl 38 (.tmp 22) rfl g3 0 rfl (wvs m2 (.slice aL2 L2.rows kL2) L2 (.slice aT2 m2.this.rows kT2) m2.this).toList _ HH10.out.range Try.underlying38 rfl (by kernel_rfl) ?_
                  refine wpList_store_row rfl 38 (.tmp 16) (.tmp 149) rfl g2 (wvs m2 (.slice aL2 L2.rows kL2) L2 (.slice aT2 m2.this.rows kT2) m2.this) rfl rfl 38 _ HG10.out (by kernel_rfl) rfl (by kernel_rfl) ?_
                  go_upto_region 31 with fail
                  have HPX := Lib.hid ((HP10.out.chg (chg_row (w := w10) (g := g2) (.inl rfl) (wvs m2 (.slice aL2 L2.rows kL2) L2 (.slice aT2 m2.this.rows kT2) m2.this))).fewer (G' := fun q => q = g2) (fun q hq => .inl hq))
                  have HGX := Lib.hid (HG10.out.row (wvs m2 (.slice aL2 L2.rows kL2) L2 (.slice aT2 m2.this.rows kT2) m2.this))
                  generalize w10.setRow g2 _ = w20 at *
                  clear HP10 HG10 HH10
                  have c0 : w20.cell? ⟨g2, 0, none⟩ = some (.int .i64 (m2.rows : Int)) := HGX.out.cell 0
                  have c1 : w20.cell? ⟨g2, 1, none⟩ = some (.int .i64 (m2.W : Int)) := HGX.out.cell 1
                  have c2 : w20.cell? ⟨g2, 2, none⟩ = some (uv m2.seed) := HGX.out.cell 2
                  have c3 : w20.cell? ⟨g2, 3, none⟩ = some (.int .i64 (m2.long : Int)) := HGX.out.cell 3
                  have c4 : w20.cell? ⟨g2, 4, none⟩ = some (.int .i64 (m2.now : Int)) := HGX.out.cell 4
                  have c5 : w20.cell? ⟨g2, 5, none⟩ = some ((.slice aL2 L2.rows kL2)) := HGX.out.cell 5
                  have c6 : w20.cell? ⟨g2, 6, none⟩ = some (.int .i64 (L2.W : Int)) := HGX.out.cell 6
                  have c7 : w20.cell? ⟨g2, 7, none⟩ = some (uv L2.seed) := HGX.out.cell 7
                  have c8 : w20.cell? ⟨g2, 8, none⟩ = some (nv L2.total) := HGX.out.cell 8
                  have c9 : w20.cell? ⟨g2, 9, none⟩ = some ((.slice aT2 m2.this.rows kT2)) := HGX.out.cell 9
                  have c10 : w20.cell? ⟨g2, 10, none⟩ = some (.int .i64 (m2.this.W : Int)) := HGX.out.cell 10
                  have c11 : w20.cell? ⟨g2, 11, none⟩ = some (uv m2.this.seed) := HGX.out.cell 11
                  have c12 : w20.cell? ⟨g2, 12, none⟩ = some (nv m2.this.total) := HGX.out.cell 12
                  have hnm2 := HPX.out.oks.2.1.nowm
                  go_wp2_with fail
                  go_roundw
                  case rel => exact ⟨k + 1, max n1 m2.now, _, L2, _, m2, by omega, by go_num, by go_num, by omega, HPX, HGX⟩
                  case measure => simp [intOf]; omega
                exact AllReadyH.nil
              exact AllReadyH.nil
            exact AllReadyH.nil
          · as_aux_lemma =>
            obtain ⟨⟨aL, kL, rfl⟩, ⟨aT, kT, rfl⟩⟩ := HT7.out.slices
            have hg7 := HG7.out
            have c0 : w7.cell? ⟨g2, 0, none⟩ = some (.int .i64 (m.rows : Int)) := hg7.cell 0
            have c1 : w7.cell? ⟨g2, 1, none⟩ = some (.int .i64 (m.W : Int)) := hg7.cell 1
            have c2 : w7.cell? ⟨g2, 2, none⟩ = some (uv m.seed) := hg7.cell 2
            have c3 : w7.cell? ⟨g2, 3, none⟩ = some (.int .i64 (m.long : Int)) := hg7.cell 3
            have c4 : w7.cell? ⟨g2, 4, none⟩ = some (.int .i64 (m.now : Int)) := hg7.cell 4
            have c5 : w7.cell? ⟨g2, 5, none⟩ = some ((.slice aL L.rows kL)) := hg7.cell 5
            have c6 : w7.cell? ⟨g2, 6, none⟩ = some (.int .i64 (L.W : Int)) := hg7.cell 6
            have c7 : w7.cell? ⟨g2, 7, none⟩ = some (uv L.seed) := hg7.cell 7
            have c8 : w7.cell? ⟨g2, 8, none⟩ = some (nv L.total) := hg7.cell 8
            have c9 : w7.cell? ⟨g2, 9, none⟩ = some ((.slice aT m.this.rows kT)) := hg7.cell 9
            have c10 : w7.cell? ⟨g2, 10, none⟩ = some (.int .i64 (m.this.W : Int)) := hg7.cell 10
            have c11 : w7.cell? ⟨g2, 11, none⟩ = some (uv m.this.seed) := hg7.cell 11
            have c12 : w7.cell? ⟨g2, 12, none⟩ = some (nv m.this.total) := hg7.cell 12
            have HAT := Lib.hid (rw_at ((n1 : Int)) HT7.out)
            have HCF := Lib.hid fun L2 => closed_eq m HT7.out.oks.2.1 ((n1 : Int)) L2 (keyS x).data.toList
            have HOF := Lib.hid (opened_eq m ((n1 : Int)) (keyS x).data.toList)
            have HE2 := Lib.hid (err_twice m ((n1 : Int)))
            have HT2 := Lib.hid (turnAny_twice m ((n1 : Int)))
            have HEO : Hid (m.err ((n1 : Int)) = if m.ok ((n1 : Int)) then 0 else 60) := Lib.hid rfl
            obtain ⟨m2, hm2⟩ : ∃ m2, m2 = m.turnAny ((n1 : Int)) := ⟨_, rfl⟩
            obtain ⟨er, her⟩ : ∃ er, er = m.err ((n1 : Int)) := ⟨_, rfl⟩
            rw [← hm2, ← her] at HAT HE2
            rw [← hm2] at HT2 HCF HOF
            rw [← her] at HEO
            have HM2 := Lib.hid hm2
            have HER := Lib.hid her
            clear hg7 hm2 her
            go_wp2_with fail
            refine HAT.out.mono ?_
            rintro e w8 ⟨vL2, L2, vT2, rfl, hp8, hk8⟩
            have hg8 := HG7.out.kept hk8 rfl
            replace HCF := Lib.hid (HCF.out L2 hp8.oks.1)
            have HP9 := Lib.hid (hp8.alloc (.cells (wvs m2 vL2 L2 vT2 m2.this) 38))
            have HG9 := Lib.hid (hg8.alloc (.cells (wvs m2 vL2 L2 vT2 m2.this) 38))
            have HH9 := Lib.hid (Blk.new w8 38 (wvs m2 vL2 L2 vT2 m2.this))
            obtain ⟨⟨aL2, kL2, rfl⟩, ⟨aT2, kT2, rfl⟩⟩ := hp8.slices
            clear hp8 hk8 hg8 HT7 HG7 HAT c0 c1 c2 c3 c4 c5 c6 c7 c8 c9 c10 c11 c12
            go_upto_region 26 with fail
            generalize w8.alloc _ = w9 at *
            generalize w8.heap.size = g3 at *
            apply wp_region_lit
            refine wpList_load_mid rfl 38 (.tmp 24) rfl g3 0 rfl (wvs m2 (.slice aL2 L2.rows kL2) L2 (.slice aT2 m2.this.rows kT2) m2.this).toList _ HH9.out.range Try.underlying38 rfl (by kernel_rfl) ?_
            refine wpList_store_row rfl 38 (.tmp 16) (.tmp 156) rfl g2 (wvs m2 (.slice aL2 L2.rows kL2) L2 (.slice aT2 m2.this.rows kT2) m2.this) rfl rfl 38 _ HG9.out (by kernel_rfl) rfl (by kernel_rfl) ?_
            go_upto_region 27 with fail
            have HP10 := Lib.hid ((HP9.out.chg (chg_row (w := w9) (g := g2) (.inl rfl) (wvs m2 (.slice aL2 L2.rows kL2) L2 (.slice aT2 m2.this.rows kT2) m2.this))).fewer (G' := fun q => q = g2) (fun q hq => .inl hq))
            have HG10 := Lib.hid (HG9.out.row (wvs m2 (.slice aL2 L2.rows kL2) L2 (.slice aT2 m2.this.rows kT2) m2.this))
            generalize w9.setRow g2 _ = w10 at *
            clear HP9 HG9 HH9
            have HCL := Lib.hid (pw_closed ((n1 : Int)) (keyS x) HP10.out (keyS_size x))
            rw [← HM2.out, ← HER.out] at HCL
            go_wp2_with fail
            refine HCL.out.mono ?_
            rintro e w11 ⟨rfl, hp11, hk11⟩
            have hg11 := HG10.out.kept hk11 rfl
            have HOP := Lib.hid (pw_open ((n1 : Int)) (keyS x) hp11 (keyS_size x))
            rw [HT2.out, HE2.out] at HOP
            have HG11 := Lib.hid hg11
            clear HP10 HG10 HCL hp11 hk11 hg11
            go_wp2_with fail
            refine HOP.out.mono ?_
            rintro e w12 ⟨rfl, hp12, hk12⟩
            have HG12 := Lib.hid (HG11.out.kept hk12 rfl)
            have HP12 := Lib.hid hp12
            clear HG11 hp12 hk12 HOP
            have HKL := Lib.hid (rw_countL (keyS x) HP12.out (keyS_size x))
            have c0 : w12.cell? ⟨g2, 0, none⟩ = some (.int .i64 (m2.rows : Int)) := HG12.out.cell 0
            have c1 : w12.cell? ⟨g2, 1, none⟩ = some (.int .i64 (m2.W : Int)) := HG12.out.cell 1
            have c2 : w12.cell? ⟨g2, 2, none⟩ = some (uv m2.seed) := HG12.out.cell 2
            have c3 : w12.cell? ⟨g2, 3, none⟩ = some (.int .i64 (m2.long : Int)) := HG12.out.cell 3
            have c4 : w12.cell? ⟨g2, 4, none⟩ = some (.int .i64 (m2.now : Int)) := HG12.out.cell 4
            have c5 : w12.cell? ⟨g2, 5, none⟩ = some ((.slice aL2 L2.rows kL2)) := HG12.out.cell 5
            have c6 : w12.cell? ⟨g2, 6, none⟩ = some (.int .i64 (L2.W : Int)) := HG12.out.cell 6
            have c7 : w12.cell? ⟨g2, 7, none⟩ = some (uv L2.seed) := HG12.out.cell 7
            have c8 : w12.cell? ⟨g2, 8, none⟩ = some (nv L2.total) := HG12.out.cell 8
            have c9 : w12.cell? ⟨g2, 9, none⟩ = some ((.slice aT2 m2.this.rows kT2)) := HG12.out.cell 9
            have c10 : w12.cell? ⟨g2, 10, none⟩ = some (.int .i64 (m2.this.W : Int)) := HG12.out.cell 10
            have c11 : w12.cell? ⟨g2, 11, none⟩ = some (uv m2.this.seed) := HG12.out.cell 11
            have c12 : w12.cell? ⟨g2, 12, none⟩ = some (nv m2.this.total) := HG12.out.cell 12
            by_cases hok : m.ok ((n1 : Int)) = true
            · rw [if_pos hok] at HCF HOF HEO
              obtain rfl := HEO.out
              rw [HCF.out, HOF.out]
              generalize hnL : L2.count (keyS x).data.toList = nL at *
              generalize hnT : m2.this.count (keyS x).data.toList = nT at *
              have HNT := Lib.hid hnT
              clear hnL hnT HCF HOF HEO HE2 HT2 HER HM2 hok
              have hx1 : ((nL : Int) != (nL : Int)) = false := by simp
              have hx2 : ((nT : Int) != (nT : Int)) = false := by simp
              go_wp2_with fail
              refine HKL.out.mono ?_
              rintro e w13 ⟨rfl, hb13⟩
              have HP13 := Lib.hid (HP12.out.next hb13).1
              have HG13 := Lib.hid (HG12.out.next hb13)
              clear HP12 HG12 hb13 c0 c1 c2 c3 c4 c5 c6 c7 c8 c9 c10 c11 c12 HKL
              have HKT := Lib.hid (rw_countT (keyS x) HP13.out (keyS_size x))
              rw [HNT.out] at HKT
              have c0 : w13.cell? ⟨g2, 0, none⟩ = some (.int .i64 (m2.rows : Int)) := HG13.out.cell 0
              have c1 : w13.cell? ⟨g2, 1, none⟩ = some (.int .i64 (m2.W : Int)) := HG13.out.cell 1
              have c2 : w13.cell? ⟨g2, 2, none⟩ = some (uv m2.seed) := HG13.out.cell 2
              have c3 : w13.cell? ⟨g2, 3, none⟩ = some (.int .i64 (m2.long : Int)) := HG13.out.cell 3
              have c4 : w13.cell? ⟨g2, 4, none⟩ = some (.int .i64 (m2.now : Int)) := HG13.out.cell 4
              have c5 : w13.cell? ⟨g2, 5, none⟩ = some ((.slice aL2 L2.rows kL2)) := HG13.out.cell 5
              have c6 : w13.cell? ⟨g2, 6, none⟩ = some (.int .i64 (L2.W : Int)) := HG13.out.cell 6
              have c7 : w13.cell? ⟨g2, 7, none⟩ = some (uv L2.seed) := HG13.out.cell 7
              have c8 : w13.cell? ⟨g2, 8, none⟩ = some (nv L2.total) := HG13.out.cell 8
              have c9 : w13.cell? ⟨g2, 9, none⟩ = some ((.slice aT2 m2.this.rows kT2)) := HG13.out.cell 9
              have c10 : w13.cell? ⟨g2, 10, none⟩ = some (.int .i64 (m2.this.W : Int)) := HG13.out.cell 10
              have c11 : w13.cell? ⟨g2, 11, none⟩ = some (uv m2.this.seed) := HG13.out.cell 11
              have c12 : w13.cell? ⟨g2, 12, none⟩ = some (nv m2.this.total) := HG13.out.cell 12
              go_wp2_with fail
              refine HKT.out.mono ?_
              rintro e w20 ⟨rfl, hb20⟩
              have HPX := Lib.hid (HP13.out.next hb20).1
              have HGX := Lib.hid (HG13.out.next hb20)
              clear HP13 HG13 hb20 c0 c1 c2 c3 c4 c5 c6 c7 c8 c9 c10 c11 c12 HKT
              have c0 : w20.cell? ⟨g2, 0, none⟩ = some (.int .i64 (m2.rows : Int)) := HGX.out.cell 0
              have c1 : w20.cell? ⟨g2, 1, none⟩ = some (.int .i64 (m2.W : Int)) := HGX.out.cell 1
              have c2 : w20.cell? ⟨g2, 2, none⟩ = some (uv m2.seed) := HGX.out.cell 2
              have c3 : w20.cell? ⟨g2, 3, none⟩ = some (.int .i64 (m2.long : Int)) := HGX.out.cell 3
              have c4 : w20.cell? ⟨g2, 4, none⟩ = some (.int .i64 (m2.now : Int)) := HGX.out.cell 4
              have c5 : w20.cell? ⟨g2, 5, none⟩ = some ((.slice aL2 L2.rows kL2)) := HGX.out.cell 5
              have c6 : w20.cell? ⟨g2, 6, none⟩ = some (.int .i64 (L2.W : Int)) := HGX.out.cell 6
              have c7 : w20.cell? ⟨g2, 7, none⟩ = some (uv L2.seed) := HGX.out.cell 7
              have c8 : w20.cell? ⟨g2, 8, none⟩ = some (nv L2.total) := HGX.out.cell 8
              have c9 : w20.cell? ⟨g2, 9, none⟩ = some ((.slice aT2 m2.this.rows kT2)) := HGX.out.cell 9
              have c10 : w20.cell? ⟨g2, 10, none⟩ = some (.int .i64 (m2.this.W : Int)) := HGX.out.cell 10
              have c11 : w20.cell? ⟨g2, 11, none⟩ = some (uv m2.this.seed) := HGX.out.cell 11
              have c12 : w20.cell? ⟨g2, 12, none⟩ = some (nv m2.this.total) := HGX.out.cell 12
              have hnm2 := HPX.out.oks.2.1.nowm
              go_wp2_with fail
              go_roundw
              case rel => exact ⟨k + 1, max n1 m2.now, _, L2, _, m2, by omega, by go_num, by go_num, by omega, HPX, HGX⟩
              case measure => simp [intOf]; omega
            · rw [if_neg hok] at HCF HOF HEO
              obtain rfl := HEO.out
              rw [HCF.out, HOF.out]
              clear HCF HOF HEO HE2 HT2 HER HM2 HKL c0 c1 c2 c3 c4 c5 c6 c7 c8 c9 c10 c11 c12
              have HPX := HP12
              have HGX := HG12
              generalize w12 = w20 at *
              have c0 : w20.cell? ⟨g2, 0, none⟩ = some (.int .i64 (m2.rows : Int)) := HGX.out.cell 0
              have c1 : w20.cell? ⟨g2, 1, none⟩ = some (.int .i64 (m2.W : Int)) := HGX.out.cell 1
              have c2 : w20.cell? ⟨g2, 2, none⟩ = some (uv m2.seed) := HGX.out.cell 2
              have c3 : w20.cell? ⟨g2, 3, none⟩ = some (.int .i64 (m2.long : Int)) := HGX.out.cell 3
              have c4 : w20.cell? ⟨g2, 4, none⟩ = some (.int .i64 (m2.now : Int)) := HGX.out.cell 4
              have c5 : w20.cell? ⟨g2, 5, none⟩ = some ((.slice aL2 L2.rows kL2)) := HGX.out.cell 5
              have c6 : w20.cell? ⟨g2, 6, none⟩ = some (.int .i64 (L2.W : Int)) := HGX.out.cell 6
              have c7 : w20.cell? ⟨g2, 7, none⟩ = some (uv L2.seed) := HGX.out.cell 7
              have c8 : w20.cell? ⟨g2, 8, none⟩ = some (nv L2.total) := HGX.out.cell 8
              have c9 : w20.cell? ⟨g2, 9, none⟩ = some ((.slice aT2 m2.this.rows kT2)) := HGX.out.cell 9
              have c10 : w20.cell? ⟨g2, 10, none⟩ = some (.int .i64 (m2.this.W : Int)) := HGX.out.cell 10
              have c11 : w20.cell? ⟨g2, 11, none⟩ = some (uv m2.this.seed) := HGX.out.cell 11
              have c12 : w20.cell? ⟨g2, 12, none⟩ = some (nv m2.this.total) := HGX.out.cell 12
              have hnm2 := HPX.out.oks.2.1.nowm
              go_wp2_with fail
              go_roundw
              case rel => exact ⟨k + 1, max n1 m2.now, _, L2, _, m2, by omega, by go_num, by go_num, by omega, HPX, HGX⟩
              case measure => simp [intOf]; omega
      · have hbw := HT.out.below
        go_wp2
        go_ret
        exact ⟨rfl, hbw⟩
end Go.Proofs.Ytiohjmpnkoohjaa.Tele
