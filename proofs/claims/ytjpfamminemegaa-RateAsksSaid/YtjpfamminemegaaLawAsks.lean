/- The walk of the law RateAsks. No conditions. -/
import Derived.Test.YtjpfamminemegaaPairR
import Derived.Test.YtjpfamminemegaaBaseB
import Derived.Deep.RegionHeld3
namespace Go.Proofs.Ytjpfamminemegaa.Tele
open Go.RowKit Go.Proofs.YtjpfamminemegaaW.PrintWords
set_option linter.unusedVariables false
set_option linter.unusedSimpArgs false

set_option maxRecDepth 8000 in
set_option maxHeartbeats 40000000 in
theorem rateAsks_walk (x a b lg tg : Int) (ca : Option Addr) (len cap : Nat) (cs : List Int) (da : Option Addr) (dlen dcap : Nat) (ds : List Int) (raw : Int) (w : World)
    (hx : (Lit.int .u64 x).wf = true) (ha : (Lit.int .u8 a).wf = true) (hb : (Lit.int .u8 b).wf = true) (hlg : (Lit.int .u8 lg).wf = true) (htg : (Lit.int .u8 tg).wf = true) (hc : IntRow .u8 w ca len cap cs) (hl : len * 1 ≤ 140737488351232) (hd : IntRow .u8 w da dlen dcap ds) (hdl : dlen * 1 ≤ 140737488351232) (hraw : (Lit.int .i64 raw).wf = true) :
    Calls Try.prog 4 #[.int .u64 x, .int .u8 a, .int .u8 b, .int .u8 lg, .int .u8 tg, .slice ca len cap, .slice da dlen dcap, .int .i64 raw] w fun e w' => e = .returned (.bool true) ∧ Below w.heap.size w w' := by
  obtain ⟨X, rfl⟩ := u_of_wf hx
  obtain ⟨ha0, ha1⟩ := u8_of_wf ha
  obtain ⟨hb0, hb1⟩ := u8_of_wf hb
  obtain ⟨hg0, hg1⟩ := u8_of_wf hlg
  obtain ⟨ht0, ht1⟩ := u8_of_wf htg
  obtain ⟨A, hA, hA1, hA2⟩ : ∃ A : Nat, (A : Int) = 1 + a % 3 ∧ 1 ≤ A ∧ A ≤ 8 := ⟨(1 + a % 3).toNat, by omega, by omega, by omega⟩
  obtain ⟨B, hB, hB1, hB2⟩ : ∃ B : Nat, (B : Int) = 1 + b % 12 ∧ 1 ≤ B ∧ B ≤ 1024 := ⟨(1 + b % 12).toNat, by omega, by omega, by omega⟩
  obtain ⟨C, hC, hC1, hC2⟩ : ∃ C : Nat, (C : Int) = 1 + lg % 9 ∧ 1 ≤ C ∧ C ≤ 1099511627776 := ⟨(1 + lg % 9).toNat, by omega, by omega, by omega⟩
  obtain ⟨T, hT, hT1, hT2⟩ : ∃ T : Nat, (T : Int) = 1 + tg % 4 ∧ 1 ≤ T ∧ T ≤ 4 := ⟨(1 + tg % 4).toNat, by omega, by omega, by omega⟩
  have HA := Lib.hid hA
  have HB := Lib.hid hB
  have HC9 := Lib.hid hC
  have HT9 := Lib.hid hT
  have HC := Lib.hid hc
  have HD := Lib.hid hd
  have HF := Lib.hid hraw
  clear hA hB hC hT hx ha hb hlg htg hc hd hl hdl hraw
  by_cases hlen : (60 : Int) < (len : Int)
  · go_enter Try.func4, Try.ntmps4
    go_wp2_with fail
    refine (rknown_calls _).mono ?_
    rintro e w2 ⟨rfl, hb⟩
    go_wp2
    go_ret
    exact ⟨rfl, hb⟩
  · go_enter Try.func4, Try.ntmps4
    go_wp2_with fail
    refine (rknown_calls _).mono ?_
    rintro e w1 ⟨rfl, hb1⟩
    go_wp2_with fail
    rw [← HA.out, ← HB.out, ← HC9.out, ← HT9.out]
    refine (rnew_yes A B C T X _ hA1 hA2 hB1 hB2 hC1 hC2 hT1).mono ?_
    rintro e w2 ⟨rr, rfl, hb2, hrr, g, hbr, hw, _⟩
    go_wp2_with fail
    rw [← HA.out, ← HB.out, ← HC9.out, ← HT9.out]
    refine (rr_new A B C T X _ hA1 hA2 hB1 hB2 hC1 hC2 hT1).mono ?_
    rintro e w3 ⟨vL, L, vT, rfl, hL, hT, hl, hO, hb3⟩
    have hP0 := pairr_start (w0 := w) hA1 hA2 hB1 hB2 hC1 hC2 hb1 hb2 hrr hbr hw hL hT hl hO hb3
    have hP := hP0.alloc (.cells (rvs (Win.new A B X C) vL L vT (Win.new A B X C).this T) 42)
    have HP := Lib.hid hP
    have HG := Lib.hid (Blk.new w3 42 (rvs (Win.new A B X C) vL L vT (Win.new A B X C).this T))
    have HBK := Lib.hid ((hbr.next hb3).alloc (.cells (rvs (Win.new A B X C) vL L vT (Win.new A B X C).this T) 42))
    have HNR := Lib.hid (Nat.ne_of_lt (Nat.lt_of_lt_of_le hbr.lt hb3.size))
    obtain ⟨⟨aL, kL, rfl⟩, ⟨aT, kT, rfl⟩⟩ := hP.slices
    clear hP hP0 hL hT hl hO hb1 hb2 hb3 hw hrr hbr
    generalize Win.new A B X C = m0 at *
    go_wp2_with fail
    generalize w3.heap.size = g2 at *
    generalize w3.alloc _ = w4 at *
    go_loopw [20, 21] (fun nv_ i wr => ∃ (k nw : Nat) (vL : Value) (L : Sk) (vT : Value) (m : Win), k ≤ len ∧ i = .int .i64 (k : Int) ∧ nv_ = .int .i64 (nw : Int) ∧ nw ≤ 1099511627776 + 3 * k ∧ Hid (PairW w wr g (fun q => q = rr ∨ q = g2) vL vT m m L) ∧ Hid (Blk wr g2 42 (rvs m vL L vT m.this T)) ∧ Hid (Blk wr rr 63 #[pv g, nv T])) (fun _ i _ => len - (intOf i).toNat)
    case atStart => exact ⟨0, 0, _, L, _, m0, by omega, rfl, rfl, by omega, HP, HG, HBK⟩
    case round =>
      clear HP HG HBK
      obtain ⟨k, nw, vL, L, vT, m, hk, rfl, rfl, hnw, HT, HG, HBK⟩ := hrel
      by_cases hlt : (k : Int) < (len : Int)
      · have hr := HC.out.1.below HT.out.below
        have hcell := hr.cell k (by omega)
        have hidx := fun W => hr.index Try.prog 33 5 Try.underlying33 (by kernel_rfl) k (by omega) W
        obtain ⟨hx0, hx1⟩ := u8_of_wf (HC.out.2 _ (getD_mem_or (j := k) (by rw [HC.out.1.1]; omega)))
        obtain ⟨x, hx⟩ : ∃ x, cs.getD k 0 = x := ⟨_, rfl⟩
        rw [hx] at hcell hx0 hx1
        have HX := Lib.hid hx
        have HKY := Lib.hid fun W => key_calls x W hx0 hx1
        have hk9 : k ≤ 60 := by omega
        clear hr hx
        by_cases hkd : (k : Int) < (dlen : Int)
        · have hrd := HD.out.1.below HT.out.below
          have hcd := hrd.cell k (by omega)
          have hid := fun W => hrd.index Try.prog 33 5 Try.underlying33 (by kernel_rfl) k (by omega) W
          obtain ⟨hy0, hy1⟩ := u8_of_wf (HD.out.2 _ (getD_mem_or (j := k) (by rw [HD.out.1.1]; omega)))
          generalize ds.getD k 0 = y at *
          clear hrd
          obtain ⟨y4, hy4, hy4l⟩ : ∃ y4 : Nat, y % 4 = (y4 : Int) ∧ y4 ≤ 3 := ⟨(y % 4).toNat, by omega, by omega⟩
          obtain ⟨n1, hn1⟩ : ∃ n1 : Nat, (nw : Int) + (y4 : Int) = (n1 : Int) := ⟨nw + y4, by omega⟩
          have hnw1 : n1 ≤ 1099511627776 + 3 * (k + 1) := by omega
          by_cases hy245 : 245 < y
          · as_aux_lemma =>
              go_wp2_with fail
              refine (HKY.out _).mono ?_
              rintro e w7 ⟨rfl, hb7⟩
              have HT7 := Lib.hid (HT.out.next hb7).1
              have HG7 := Lib.hid (HG.out.next hb7)
              have HB7 := Lib.hid (HBK.out.next hb7)
              have HAK := Lib.hid (HT7.out.rate (.inl rfl) HB7.out (raw) (keyS x) (keyS_size x))
              have HC1 := Lib.hid fun W G' (h : PairW w W g G' vL vT (m.ask (raw) (keyS x).data.toList) m L) => rr_ask T (raw) (keyS x) h (keyS_size x)
              obtain ⟨m2, hm2⟩ : ∃ m2, m2 = m.ask (raw) (keyS x).data.toList := ⟨_, rfl⟩
              obtain ⟨er, her⟩ : ∃ er, er = m.err (raw) := ⟨_, rfl⟩
              obtain ⟨ak, hak⟩ : ∃ ak, ak = m.askd T (raw) (keyS x).data.toList := ⟨_, rfl⟩
              rw [← hm2, ← her, ← hak] at HAK HC1
              have her2 : er = 0 ∨ er = 60 := by rw [her]; unfold Win.err; split; exact .inl rfl; exact .inr rfl
              have hwer : IntKind.i64.wrap er = er := by rcases her2 with h | h <;> rw [h] <;> rfl
              have her0 : 0 ≤ er ∧ er ≤ 60 := by omega
              clear hb7 HT HG HBK hcell hm2 her hak her2
              go_wp2_with fail
              refine HAK.out.mono ?_
              rintro e w8 ⟨rfl, hp8, hk8⟩
              have HG8 := Lib.hid (HG7.out.kept hk8 (.inr rfl))
              have HB8 := Lib.hid (HB7.out.kept hk8 (.inl rfl))
              have HT8 := Lib.hid hp8
              have hrc := fun W (hW : Below w8.heap.size w8 W) => (HC.out.1.below (bnext hp8.below hW)).cell k (by omega)
              rw [HX.out] at hrc
              have HRC := Lib.hid hrc
              obtain ⟨⟨aL, kL, rfl⟩, ⟨aT, kT, rfl⟩⟩ := hp8.slices
              have hcell8 := hrc w8 (Below.refl _ _)
              clear hrc hp8 hk8 HT7 HG7 HB7 HAK
              have HC4 : Hid (∀ W, Below w8.heap.size w8 W → W.cell? ⟨g2, 0, none⟩ = some (.int .i64 (m.rows : Int)) ∧ W.cell? ⟨g2, 1, none⟩ = some (.int .i64 (m.W : Int)) ∧ W.cell? ⟨g2, 2, none⟩ = some (uv m.seed) ∧ W.cell? ⟨g2, 3, none⟩ = some (.int .i64 (m.long : Int)) ∧ W.cell? ⟨g2, 4, none⟩ = some (.int .i64 (m.now : Int)) ∧ W.cell? ⟨g2, 5, none⟩ = some ((.slice aL L.rows kL)) ∧ W.cell? ⟨g2, 6, none⟩ = some (.int .i64 (L.W : Int)) ∧ W.cell? ⟨g2, 7, none⟩ = some (uv L.seed) ∧ W.cell? ⟨g2, 8, none⟩ = some (nv L.total) ∧ W.cell? ⟨g2, 9, none⟩ = some ((.slice aT m.this.rows kT)) ∧ W.cell? ⟨g2, 10, none⟩ = some (.int .i64 (m.this.W : Int)) ∧ W.cell? ⟨g2, 11, none⟩ = some (uv m.this.seed) ∧ W.cell? ⟨g2, 12, none⟩ = some (nv m.this.total) ∧ W.cell? ⟨g2, 13, none⟩ = some (nv T) ∧ W.cell? (adr ca k) = some (.int .u8 x) ∧ Below w8.heap.size w8 W) := Lib.hid fun W hW => ⟨(HG8.out.next hW).cell 0, (HG8.out.next hW).cell 1, (HG8.out.next hW).cell 2, (HG8.out.next hW).cell 3, (HG8.out.next hW).cell 4, (HG8.out.next hW).cell 5, (HG8.out.next hW).cell 6, (HG8.out.next hW).cell 7, (HG8.out.next hW).cell 8, (HG8.out.next hW).cell 9, (HG8.out.next hW).cell 10, (HG8.out.next hW).cell 11, (HG8.out.next hW).cell 12, (HG8.out.next hW).cell 13, HRC.out W hW, hW⟩
              have hp_0 := (HT8.out.next (Below.drew (Below.refl _ _))).1
              clear HRC
              go_upto_region 18 with fail
              refine wp_region_noPanic ?_
              refine wp_region_held_drew (S := (fun W => Below w8.heap.size w8 W)) (by kernel_rfl) (by exact Below.drew (Below.refl _ _)) (fun hS_ => ?_)
              refine wpAnyH_take (i := 0) (oi := ({ dst := (some 115), op := (Op.load 42 (Operand.tmp 18)), type := 42, pos := "law.go:57", after := #[], guard := none } : Oper)) (v := ?_) rfl (by kernel_rfl) (by kernel_rfl) (by kernel_rfl) (fun _ _ _ h => h) (Or.inl ⟨by rfl, ?_⟩) (by assumption) ?_
              rotate_left
              · (intro w_ hSw; (try dsimp only at hSw); obtain ⟨q0, q1, q2, q3, q4, q5, q6, q7, q8, q9, q10, q11, q12, q13, q14, q15⟩ := HC4.out w_ hSw; go_simp; try with_reducible rfl)
              try simp only [Act.put, List.setIfInBounds_toArray, List.set_cons_zero, List.set_cons_succ]
              refine wpAnyH_take (i := 1) (oi := ({ dst := (some 116), op := (Op.move (Operand.tmp 22)), type := 3, pos := "law.go:57", after := #[], guard := none } : Oper)) (v := ?_) rfl (by kernel_rfl) (by kernel_rfl) (by kernel_rfl) (fun _ _ _ h => h) (Or.inl ⟨by rfl, ?_⟩) (by assumption) ?_
              rotate_left
              · (intro w_ hSw; (try dsimp only at hSw); go_simp; try with_reducible rfl)
              try simp only [Act.put, List.setIfInBounds_toArray, List.set_cons_zero, List.set_cons_succ]
              refine wpAnyH_take (i := 2) (oi := ({ dst := (some 117), op := (Op.move (Operand.tmp 5)), type := 33, pos := "law.go:57", after := #[], guard := none } : Oper)) (v := ?_) rfl (by kernel_rfl) (by kernel_rfl) (by kernel_rfl) (fun _ _ _ h => h) (Or.inl ⟨by rfl, ?_⟩) (by assumption) ?_
              rotate_left
              · (intro w_ hSw; (try dsimp only at hSw); go_simp; try with_reducible rfl)
              try simp only [Act.put, List.setIfInBounds_toArray, List.set_cons_zero, List.set_cons_succ]
              refine wpAnyH_take (i := 3) (oi := ({ dst := (some 118), op := (Op.move (Operand.tmp 21)), type := 3, pos := "law.go:57", after := #[], guard := none } : Oper)) (v := ?_) rfl (by kernel_rfl) (by kernel_rfl) (by kernel_rfl) (fun _ _ _ h => h) (Or.inl ⟨by rfl, ?_⟩) (by assumption) ?_
              rotate_left
              · (intro w_ hSw; (try dsimp only at hSw); go_simp; try with_reducible rfl)
              try simp only [Act.put, List.setIfInBounds_toArray, List.set_cons_zero, List.set_cons_succ]
              refine wpAnyH_take (i := 4) (oi := ({ dst := (some 119), op := (Op.indexAddr 33 (Operand.tmp 117) (Operand.tmp 118)), type := 0, pos := "law.go:57", after := #[{ on := 2, ground := Ground.data }, { on := 3, ground := Ground.data }], guard := none } : Oper)) (v := ?_) rfl (by kernel_rfl) (by kernel_rfl) (by kernel_rfl) (fun _ _ _ h => h) (Or.inl ⟨by rfl, ?_⟩) (by assumption) ?_
              rotate_left
              · (intro w_ hSw; (try dsimp only at hSw); go_simp; try with_reducible rfl)
              try simp only [Act.put, List.setIfInBounds_toArray, List.set_cons_zero, List.set_cons_succ]
              refine wpAnyH_take (i := 5) (oi := ({ dst := (some 120), op := (Op.load 5 (Operand.tmp 119)), type := 5, pos := "law.go:57", after := #[{ on := 4, ground := Ground.data }], guard := none } : Oper)) (v := ?_) rfl (by kernel_rfl) (by kernel_rfl) (by kernel_rfl) (fun _ _ _ h => h) (Or.inl ⟨by rfl, ?_⟩) (by assumption) ?_
              rotate_left
              · (intro w_ hSw; (try dsimp only at hSw); obtain ⟨q0, q1, q2, q3, q4, q5, q6, q7, q8, q9, q10, q11, q12, q13, q14, q15⟩ := HC4.out w_ hSw; go_simp; try with_reducible rfl)
              try simp only [Act.put, List.setIfInBounds_toArray, List.set_cons_zero, List.set_cons_succ]
              refine wpAnyH_ready (rs := [6, 12]) (by kernel_rfl) (by simp) ?_
              refine AllReadyH.cons (o := ({ dst := (some 121), op := (Op.call { callee := (Callee.value (Operand.func 19)), args := #[(Operand.tmp 120)], argTypes := #[5] }), type := 9, pos := "law.go:57", after := #[{ on := 5, ground := Ground.data }], guard := none } : Oper)) rfl (fun K hK => ?_) ?_
              · go_simp
                refine (HKY.out _).mono ?_
                rintro e w9 ⟨rfl, hb9⟩
                have hp_1 := (hp_0.next hb9).1
                refine hK.out _ _ (by exact bnext hS_ hb9) (fun hS_ => ?_)
                clear hK K
                try simp only [Act.put, List.setIfInBounds_toArray, List.set_cons_zero, List.set_cons_succ]
                refine wpAnyH_ready (rs := [7, 12]) (by kernel_rfl) (by simp) ?_
                refine AllReadyH.cons (o := ({ dst := (some 122), op := (Op.call { callee := (Callee.value (Operand.func 20)), args := #[(Operand.tmp 115), (Operand.tmp 116), (Operand.tmp 121)], argTypes := #[42, 3, 9] }), type := 47, pos := "law.go:57", after := #[{ on := 0, ground := Ground.data }, { on := 1, ground := Ground.data }, { on := 6, ground := Ground.data }, { on := 6, ground := Ground.chain }], guard := none } : Oper)) rfl (fun K hK => ?_) ?_
                · go_simp
                  refine (HC1.out _ _ hp_1).mono ?_
                  rintro e w10 ⟨vL2, L2, vT2, rfl, hp10, hb10⟩
                  obtain ⟨⟨aL2, kL2, rfl⟩, ⟨aT2, kT2, rfl⟩⟩ := hp10.slices
                  refine hK.out _ _ (by exact bnext hS_ hb10) (fun hS_ => ?_)
                  clear hK K
                  try simp only [Act.put, List.setIfInBounds_toArray, List.set_cons_zero, List.set_cons_succ]
                  refine wpAnyH_take (i := 8) (oi := ({ dst := (some 114), op := (Op.move (Operand.tmp 122)), type := 47, pos := "law.go:57", after := #[{ on := 7, ground := Ground.data }], guard := none } : Oper)) (v := ?_) rfl (by kernel_rfl) (by kernel_rfl) (by kernel_rfl) (fun _ _ _ h => h) (Or.inl ⟨by rfl, ?_⟩) (by assumption) ?_
                  rotate_left
                  · (intro w_ hSw; (try dsimp only at hSw); go_simp; try with_reducible rfl)
                  try simp only [Act.put, List.setIfInBounds_toArray, List.set_cons_zero, List.set_cons_succ]
                  refine wpAnyH_take (i := 9) (oi := ({ dst := (some 123), op := (Op.extract (Operand.tmp 114) 0), type := 42, pos := "law.go:57", after := #[{ on := 8, ground := Ground.data }], guard := none } : Oper)) (v := ?_) rfl (by kernel_rfl) (by kernel_rfl) (by kernel_rfl) (fun _ _ _ h => h) (Or.inl ⟨by rfl, ?_⟩) (by assumption) ?_
                  rotate_left
                  · (intro w_ hSw; (try dsimp only at hSw); go_simp; try with_reducible rfl)
                  try simp only [Act.put, List.setIfInBounds_toArray, List.set_cons_zero, List.set_cons_succ]
                  refine wpAnyH_take (i := 10) (oi := ({ dst := (some 124), op := (Op.extract (Operand.tmp 114) 1), type := 22, pos := "law.go:57", after := #[{ on := 8, ground := Ground.data }, { on := 13, ground := (Ground.gcOnly Departure.lateStores) }], guard := none } : Oper)) (v := ?_) rfl (by kernel_rfl) (by kernel_rfl) (by kernel_rfl) (fun _ _ _ h => h) (Or.inl ⟨by rfl, ?_⟩) (by assumption) ?_
                  rotate_left
                  · (intro w_ hSw; (try dsimp only at hSw); go_simp; try with_reducible rfl)
                  try simp only [Act.put, List.setIfInBounds_toArray, List.set_cons_zero, List.set_cons_succ]
                  refine wpAnyH_take (i := 11) (oi := ({ dst := (some 125), op := (Op.extract (Operand.tmp 114) 2), type := 3, pos := "law.go:57", after := #[{ on := 8, ground := Ground.data }, { on := 14, ground := (Ground.gcOnly Departure.lateStores) }], guard := none } : Oper)) (v := ?_) rfl (by kernel_rfl) (by kernel_rfl) (by kernel_rfl) (fun _ _ _ h => h) (Or.inl ⟨by rfl, ?_⟩) (by assumption) ?_
                  rotate_left
                  · (intro w_ hSw; (try dsimp only at hSw); go_simp; try with_reducible rfl)
                  try simp only [Act.put, List.setIfInBounds_toArray, List.set_cons_zero, List.set_cons_succ]
                  refine wpAnyH_ready (rs := [12]) (by kernel_rfl) (by simp) ?_
                  refine AllReadyH.cons (o := ({ dst := (some 25), op := (Op.alloc 42), type := 0, pos := "law.go:57", after := #[], guard := none } : Oper)) rfl (fun K hK => ?_) ?_
                  · go_simp
                    refine hK.out _ _ (by exact bl_alloc hS_ _) (fun hS_ => ?_)
                    clear hK K
                    try simp only [Act.put, List.setIfInBounds_toArray, List.set_cons_zero, List.set_cons_succ]
                    refine wpAnyH_ready (rs := [13]) (by kernel_rfl) (by simp) ?_
                    refine AllReadyH.cons (o := ({ dst := none, op := (Op.store 42 (Operand.tmp 25) (Operand.tmp 123)), type := 0, pos := "law.go:57", after := #[{ on := 12, ground := Ground.data }, { on := 9, ground := Ground.data }, { on := 7, ground := Ground.chain }, { on := 0, ground := Ground.phase }, { on := 1, ground := Ground.phase }, { on := 2, ground := Ground.phase }, { on := 3, ground := Ground.phase }, { on := 4, ground := Ground.phase }, { on := 5, ground := Ground.phase }, { on := 6, ground := Ground.phase }, { on := 7, ground := Ground.phase }, { on := 8, ground := Ground.phase }, { on := 9, ground := Ground.phase }, { on := 10, ground := (Ground.textOnly Departure.lateStores) }, { on := 11, ground := (Ground.textOnly Departure.lateStores) }, { on := 12, ground := Ground.phase }], guard := none } : Oper)) rfl (fun K hK => ?_) ?_
                    · rw [if_pos (by rfl)]
                      refine wp_store_row 42 (.tmp 25) (.tmp 123) rfl w10.heap.size (rvs m2 (.slice aL2 L2.rows kL2) L2 (.slice aT2 m2.this.rows kT2) m2.this T) rfl rfl 42 _ (Blk.new w10 _ _) (by kernel_rfl) rfl (by kernel_rfl) ?_
                      rw [World.setRow_alloc_new]
                      simp only [Act.put, List.setIfInBounds_toArray, List.set_cons_zero, List.set_cons_succ]
                      refine hK.out _ _ (by exact bl_alloc (bnext (bnext (Below.drew (Below.refl _ _)) hb9) hb10) _) (fun hS_ => ?_)
                      clear hK K
                      try simp only [Act.put, List.setIfInBounds_toArray, List.set_cons_zero, List.set_cons_succ]
                      refine wpAnyH_take (i := 14) (oi := ({ dst := (some 26), op := (Op.assign (Operand.tmp 124)), type := 22, pos := "law.go:57", after := #[{ on := 10, ground := Ground.data }, { on := 13, ground := Ground.chain }, { on := 0, ground := Ground.phase }, { on := 1, ground := Ground.phase }, { on := 2, ground := Ground.phase }, { on := 3, ground := Ground.phase }, { on := 4, ground := Ground.phase }, { on := 5, ground := Ground.phase }, { on := 6, ground := Ground.phase }, { on := 7, ground := Ground.phase }, { on := 8, ground := Ground.phase }, { on := 9, ground := Ground.phase }, { on := 10, ground := Ground.phase }, { on := 11, ground := (Ground.textOnly Departure.lateStores) }, { on := 12, ground := Ground.phase }, { on := 13, ground := Ground.phase }], guard := none } : Oper)) (v := ?_) rfl (by kernel_rfl) (by kernel_rfl) (by kernel_rfl) (fun _ _ _ h => h) (Or.inl ⟨by rfl, ?_⟩) (by assumption) ?_
                      rotate_left
                      · (intro w_ hSw; (try dsimp only at hSw); go_simp; try with_reducible rfl)
                      try simp only [Act.put, List.setIfInBounds_toArray, List.set_cons_zero, List.set_cons_succ]
                      refine wpAnyH_take (i := 15) (oi := ({ dst := (some 27), op := (Op.assign (Operand.tmp 125)), type := 3, pos := "law.go:57", after := #[{ on := 11, ground := Ground.data }, { on := 14, ground := Ground.chain }, { on := 0, ground := Ground.phase }, { on := 1, ground := Ground.phase }, { on := 2, ground := Ground.phase }, { on := 3, ground := Ground.phase }, { on := 4, ground := Ground.phase }, { on := 5, ground := Ground.phase }, { on := 6, ground := Ground.phase }, { on := 7, ground := Ground.phase }, { on := 8, ground := Ground.phase }, { on := 9, ground := Ground.phase }, { on := 10, ground := Ground.phase }, { on := 11, ground := Ground.phase }, { on := 12, ground := Ground.phase }, { on := 13, ground := Ground.phase }, { on := 14, ground := Ground.phase }], guard := none } : Oper)) (v := ?_) rfl (by kernel_rfl) (by kernel_rfl) (by kernel_rfl) (fun _ _ _ h => h) (Or.inl ⟨by rfl, ?_⟩) (by assumption) ?_
                      rotate_left
                      · (intro w_ hSw; (try dsimp only at hSw); go_simp; try with_reducible rfl)
                      try simp only [Act.put, List.setIfInBounds_toArray, List.set_cons_zero, List.set_cons_succ]
                      refine wpAnyH_done (by kernel_rfl) ?_ _
                      refine NoPanic.normal ?_
                      have hbt : Below w8.heap.size w8 w10 := bnext (bnext (Below.drew (Below.refl _ _)) hb9) hb10
                      have HP := Lib.hid (hp10.alloc (.cells (rvs m2 (.slice aL2 L2.rows kL2) L2 (.slice aT2 m2.this.rows kT2) m2.this T) 42))
                      have HG := Lib.hid ((HG8.out.next hbt).alloc (.cells (rvs m2 (.slice aL2 L2.rows kL2) L2 (.slice aT2 m2.this.rows kT2) m2.this T) 42))
                      have HB_ := Lib.hid ((HB8.out.next hbt).alloc (.cells (rvs m2 (.slice aL2 L2.rows kL2) L2 (.slice aT2 m2.this.rows kT2) m2.this T) 42))
                      have HH := Lib.hid (Blk.new w10 42 (rvs m2 (.slice aL2 L2.rows kL2) L2 (.slice aT2 m2.this.rows kT2) m2.this T))
                      clear hbt HT8 HG8 HB8 hp_0 hp_1 hp10 hb9 hb10 hS_ HC1 HKY hcell8 HC4
                      generalize w10.heap.size = g3 at *
                      generalize w10.alloc (.cells (rvs m2 (.slice aL2 L2.rows kL2) L2 (.slice aT2 m2.this.rows kT2) m2.this T) 42) = w11 at *
                      have hxe : ((er : Int) != er) = false := by simp
                      have hxa : ((ak : Int) != (ak : Int)) = false := by simp
                      have hnr := HNR.out
                      go_upto_region 21 with fail
                      apply wp_region_lit
                      refine wpList_load_mid rfl 42 (.tmp 25) rfl g3 0 rfl (rvs m2 (.slice aL2 L2.rows kL2) L2 (.slice aT2 m2.this.rows kT2) m2.this T).toList _ HH.out.range Try.underlying42 rfl (by kernel_rfl) ?_
                      refine wpList_store_row rfl 42 (.tmp 18) (.tmp 135) rfl g2 (rvs m2 (.slice aL2 L2.rows kL2) L2 (.slice aT2 m2.this.rows kT2) m2.this T) rfl rfl 42 _ HG.out (by kernel_rfl) rfl (by kernel_rfl) ?_
                      go_upto_region 22 with fail
                      have HPX := Lib.hid ((HP.out.chg (chg_row (w := w11) (g := g2) (Or.inl (Or.inr rfl)) (rvs m2 (.slice aL2 L2.rows kL2) L2 (.slice aT2 m2.this.rows kT2) m2.this T))).fewer (G' := fun q => q = rr ∨ q = g2) (fun q hq => .inl hq))
                      have HGX := Lib.hid (HG.out.row (rvs m2 (.slice aL2 L2.rows kL2) L2 (.slice aT2 m2.this.rows kT2) m2.this T))
                      have HBX : Hid (Blk (w11.setRow g2 (rvs m2 (.slice aL2 L2.rows kL2) L2 (.slice aT2 m2.this.rows kT2) m2.this T)) rr 63 #[pv g, nv T]) := Lib.hid ((setRow_other w11 g2 rr (rvs m2 (.slice aL2 L2.rows kL2) L2 (.slice aT2 m2.this.rows kT2) m2.this T) hnr).trans HB_.out)
                      generalize w11.setRow g2 _ = w20 at *
                      clear HP HG HH HB_ hnr hxe hxa
                      have c4 : w20.cell? ⟨g2, 4, none⟩ = some (.int .i64 (m2.now : Int)) := HGX.out.cell 4
                      have hnm2 := HPX.out.oks.2.1.nowm
                      go_wp2_with fail
                      go_roundw
                      case rel => exact ⟨k + 1, max n1 m2.now, _, L2, _, m2, by omega, by go_num, by go_num, by omega, HPX, HGX, HBX⟩
                      case measure => simp [intOf]; omega
                    exact AllReadyH.nil
                  exact AllReadyH.nil
                refine AllReadyH.cons (o := ({ dst := (some 25), op := (Op.alloc 42), type := 0, pos := "law.go:57", after := #[], guard := none } : Oper)) rfl (fun K hK => ?_) ?_
                · go_simp
                  have hp_2 := hp_1.alloc (.cells #[.int .i64 0, .int .i64 0, .int .u64 0, .int .i64 0, .int .i64 0, .slice none 0 0, .int .i64 0, .int .u64 0, .int .u64 0, .slice none 0 0, .int .i64 0, .int .u64 0, .int .u64 0, .int .u64 0] 42)
                  have hq := Blk.new w9 42 #[.int .i64 0, .int .i64 0, .int .u64 0, .int .i64 0, .int .i64 0, .slice none 0 0, .int .i64 0, .int .u64 0, .int .u64 0, .slice none 0 0, .int .i64 0, .int .u64 0, .int .u64 0, .int .u64 0]
                  refine hK.out _ _ (by exact bl_alloc hS_ _) (fun hS_ => ?_)
                  clear hK K
                  try simp only [Act.put, List.setIfInBounds_toArray, List.set_cons_zero, List.set_cons_succ]
                  refine wpAnyH_ready (rs := [7]) (by kernel_rfl) (by simp) ?_
                  refine AllReadyH.cons (o := ({ dst := (some 122), op := (Op.call { callee := (Callee.value (Operand.func 20)), args := #[(Operand.tmp 115), (Operand.tmp 116), (Operand.tmp 121)], argTypes := #[42, 3, 9] }), type := 47, pos := "law.go:57", after := #[{ on := 0, ground := Ground.data }, { on := 1, ground := Ground.data }, { on := 6, ground := Ground.data }, { on := 6, ground := Ground.chain }], guard := none } : Oper)) rfl (fun K hK => ?_) ?_
                  · go_simp
                    refine (HC1.out _ _ hp_2).mono ?_
                    rintro e w10 ⟨vL2, L2, vT2, rfl, hp10, hb10⟩
                    obtain ⟨⟨aL2, kL2, rfl⟩, ⟨aT2, kT2, rfl⟩⟩ := hp10.slices
                    have hq := hq.next hb10
                    refine hK.out _ _ (by exact bnext hS_ hb10) (fun hS_ => ?_)
                    clear hK K
                    try simp only [Act.put, List.setIfInBounds_toArray, List.set_cons_zero, List.set_cons_succ]
                    refine wpAnyH_take (i := 8) (oi := ({ dst := (some 114), op := (Op.move (Operand.tmp 122)), type := 47, pos := "law.go:57", after := #[{ on := 7, ground := Ground.data }], guard := none } : Oper)) (v := ?_) rfl (by kernel_rfl) (by kernel_rfl) (by kernel_rfl) (fun _ _ _ h => h) (Or.inl ⟨by rfl, ?_⟩) (by assumption) ?_
                    rotate_left
                    · (intro w_ hSw; (try dsimp only at hSw); go_simp; try with_reducible rfl)
                    try simp only [Act.put, List.setIfInBounds_toArray, List.set_cons_zero, List.set_cons_succ]
                    refine wpAnyH_take (i := 9) (oi := ({ dst := (some 123), op := (Op.extract (Operand.tmp 114) 0), type := 42, pos := "law.go:57", after := #[{ on := 8, ground := Ground.data }], guard := none } : Oper)) (v := ?_) rfl (by kernel_rfl) (by kernel_rfl) (by kernel_rfl) (fun _ _ _ h => h) (Or.inl ⟨by rfl, ?_⟩) (by assumption) ?_
                    rotate_left
                    · (intro w_ hSw; (try dsimp only at hSw); go_simp; try with_reducible rfl)
                    try simp only [Act.put, List.setIfInBounds_toArray, List.set_cons_zero, List.set_cons_succ]
                    refine wpAnyH_take (i := 10) (oi := ({ dst := (some 124), op := (Op.extract (Operand.tmp 114) 1), type := 22, pos := "law.go:57", after := #[{ on := 8, ground := Ground.data }, { on := 13, ground := (Ground.gcOnly Departure.lateStores) }], guard := none } : Oper)) (v := ?_) rfl (by kernel_rfl) (by kernel_rfl) (by kernel_rfl) (fun _ _ _ h => h) (Or.inl ⟨by rfl, ?_⟩) (by assumption) ?_
                    rotate_left
                    · (intro w_ hSw; (try dsimp only at hSw); go_simp; try with_reducible rfl)
                    try simp only [Act.put, List.setIfInBounds_toArray, List.set_cons_zero, List.set_cons_succ]
                    refine wpAnyH_take (i := 11) (oi := ({ dst := (some 125), op := (Op.extract (Operand.tmp 114) 2), type := 3, pos := "law.go:57", after := #[{ on := 8, ground := Ground.data }, { on := 14, ground := (Ground.gcOnly Departure.lateStores) }], guard := none } : Oper)) (v := ?_) rfl (by kernel_rfl) (by kernel_rfl) (by kernel_rfl) (fun _ _ _ h => h) (Or.inl ⟨by rfl, ?_⟩) (by assumption) ?_
                    rotate_left
                    · (intro w_ hSw; (try dsimp only at hSw); go_simp; try with_reducible rfl)
                    try simp only [Act.put, List.setIfInBounds_toArray, List.set_cons_zero, List.set_cons_succ]
                    refine wpAnyH_ready (rs := [13]) (by kernel_rfl) (by simp) ?_
                    refine AllReadyH.cons (o := ({ dst := none, op := (Op.store 42 (Operand.tmp 25) (Operand.tmp 123)), type := 0, pos := "law.go:57", after := #[{ on := 12, ground := Ground.data }, { on := 9, ground := Ground.data }, { on := 7, ground := Ground.chain }, { on := 0, ground := Ground.phase }, { on := 1, ground := Ground.phase }, { on := 2, ground := Ground.phase }, { on := 3, ground := Ground.phase }, { on := 4, ground := Ground.phase }, { on := 5, ground := Ground.phase }, { on := 6, ground := Ground.phase }, { on := 7, ground := Ground.phase }, { on := 8, ground := Ground.phase }, { on := 9, ground := Ground.phase }, { on := 10, ground := (Ground.textOnly Departure.lateStores) }, { on := 11, ground := (Ground.textOnly Departure.lateStores) }, { on := 12, ground := Ground.phase }], guard := none } : Oper)) rfl (fun K hK => ?_) ?_
                    · rw [if_pos (by rfl)]
                      refine wp_store_row 42 (.tmp 25) (.tmp 123) rfl w9.heap.size (rvs m2 (.slice aL2 L2.rows kL2) L2 (.slice aT2 m2.this.rows kT2) m2.this T) rfl rfl 42 _ hq (by kernel_rfl) rfl (by kernel_rfl) ?_
                      simp only [Act.put, List.setIfInBounds_toArray, List.set_cons_zero, List.set_cons_succ]
                      refine hK.out _ _ (by exact below_setRow hS_ (Nat.le_trans (Nat.le_refl _) hb9.size) _) (fun hS_ => ?_)
                      clear hK K
                      try simp only [Act.put, List.setIfInBounds_toArray, List.set_cons_zero, List.set_cons_succ]
                      refine wpAnyH_take (i := 14) (oi := ({ dst := (some 26), op := (Op.assign (Operand.tmp 124)), type := 22, pos := "law.go:57", after := #[{ on := 10, ground := Ground.data }, { on := 13, ground := Ground.chain }, { on := 0, ground := Ground.phase }, { on := 1, ground := Ground.phase }, { on := 2, ground := Ground.phase }, { on := 3, ground := Ground.phase }, { on := 4, ground := Ground.phase }, { on := 5, ground := Ground.phase }, { on := 6, ground := Ground.phase }, { on := 7, ground := Ground.phase }, { on := 8, ground := Ground.phase }, { on := 9, ground := Ground.phase }, { on := 10, ground := Ground.phase }, { on := 11, ground := (Ground.textOnly Departure.lateStores) }, { on := 12, ground := Ground.phase }, { on := 13, ground := Ground.phase }], guard := none } : Oper)) (v := ?_) rfl (by kernel_rfl) (by kernel_rfl) (by kernel_rfl) (fun _ _ _ h => h) (Or.inl ⟨by rfl, ?_⟩) (by assumption) ?_
                      rotate_left
                      · (intro w_ hSw; (try dsimp only at hSw); go_simp; try with_reducible rfl)
                      try simp only [Act.put, List.setIfInBounds_toArray, List.set_cons_zero, List.set_cons_succ]
                      refine wpAnyH_take (i := 15) (oi := ({ dst := (some 27), op := (Op.assign (Operand.tmp 125)), type := 3, pos := "law.go:57", after := #[{ on := 11, ground := Ground.data }, { on := 14, ground := Ground.chain }, { on := 0, ground := Ground.phase }, { on := 1, ground := Ground.phase }, { on := 2, ground := Ground.phase }, { on := 3, ground := Ground.phase }, { on := 4, ground := Ground.phase }, { on := 5, ground := Ground.phase }, { on := 6, ground := Ground.phase }, { on := 7, ground := Ground.phase }, { on := 8, ground := Ground.phase }, { on := 9, ground := Ground.phase }, { on := 10, ground := Ground.phase }, { on := 11, ground := Ground.phase }, { on := 12, ground := Ground.phase }, { on := 13, ground := Ground.phase }, { on := 14, ground := Ground.phase }], guard := none } : Oper)) (v := ?_) rfl (by kernel_rfl) (by kernel_rfl) (by kernel_rfl) (fun _ _ _ h => h) (Or.inl ⟨by rfl, ?_⟩) (by assumption) ?_
                      rotate_left
                      · (intro w_ hSw; (try dsimp only at hSw); go_simp; try with_reducible rfl)
                      try simp only [Act.put, List.setIfInBounds_toArray, List.set_cons_zero, List.set_cons_succ]
                      refine wpAnyH_done (by kernel_rfl) ?_ _
                      refine NoPanic.normal ?_
                      have hbt : Below w8.heap.size w8 w10 := bnext (bl_alloc (bnext (Below.drew (Below.refl _ _)) hb9) _) hb10
                      have hle : w8.heap.size ≤ w9.heap.size := (Nat.le_trans (Nat.le_refl _) hb9.size)
                      have HP := Lib.hid (hp10.chg (chg_row (w := w10) (g := w9.heap.size) (.inr rfl) (rvs m2 (.slice aL2 L2.rows kL2) L2 (.slice aT2 m2.this.rows kT2) m2.this T)))
                      have HG : Hid (Blk (w10.setRow w9.heap.size (rvs m2 (.slice aL2 L2.rows kL2) L2 (.slice aT2 m2.this.rows kT2) m2.this T)) g2 42 (rvs m (.slice aL L.rows kL) L (.slice aT m.this.rows kT) m.this T)) := Lib.hid ((setRow_other w10 w9.heap.size g2 (rvs m2 (.slice aL2 L2.rows kL2) L2 (.slice aT2 m2.this.rows kT2) m2.this T) (Nat.ne_of_lt (Nat.lt_of_lt_of_le HG8.out.lt hle))).trans (HG8.out.next hbt))
                      have HB_ : Hid (Blk (w10.setRow w9.heap.size (rvs m2 (.slice aL2 L2.rows kL2) L2 (.slice aT2 m2.this.rows kT2) m2.this T)) rr 63 #[pv g, nv T]) := Lib.hid ((setRow_other w10 w9.heap.size rr (rvs m2 (.slice aL2 L2.rows kL2) L2 (.slice aT2 m2.this.rows kT2) m2.this T) (Nat.ne_of_lt (Nat.lt_of_lt_of_le HB8.out.lt hle))).trans (HB8.out.next hbt))
                      have HH := Lib.hid (hq.row (rvs m2 (.slice aL2 L2.rows kL2) L2 (.slice aT2 m2.this.rows kT2) m2.this T))
                      clear hle hbt HT8 HG8 HB8 hp_0 hp_1 hp_2 hp10 hb9 hb10 hS_ hq HC1 HKY hcell8 HC4
                      generalize w9.heap.size = g3 at *
                      generalize w10.setRow g3 _ = w11 at *
                      have hxe : ((er : Int) != er) = false := by simp
                      have hxa : ((ak : Int) != (ak : Int)) = false := by simp
                      have hnr := HNR.out
                      go_upto_region 21 with fail
                      apply wp_region_lit
                      refine wpList_load_mid rfl 42 (.tmp 25) rfl g3 0 rfl (rvs m2 (.slice aL2 L2.rows kL2) L2 (.slice aT2 m2.this.rows kT2) m2.this T).toList _ HH.out.range Try.underlying42 rfl (by kernel_rfl) ?_
                      refine wpList_store_row rfl 42 (.tmp 18) (.tmp 135) rfl g2 (rvs m2 (.slice aL2 L2.rows kL2) L2 (.slice aT2 m2.this.rows kT2) m2.this T) rfl rfl 42 _ HG.out (by kernel_rfl) rfl (by kernel_rfl) ?_
                      go_upto_region 22 with fail
                      have HPX := Lib.hid ((HP.out.chg (chg_row (w := w11) (g := g2) (Or.inl (Or.inr rfl)) (rvs m2 (.slice aL2 L2.rows kL2) L2 (.slice aT2 m2.this.rows kT2) m2.this T))).fewer (G' := fun q => q = rr ∨ q = g2) (fun q hq => .inl hq))
                      have HGX := Lib.hid (HG.out.row (rvs m2 (.slice aL2 L2.rows kL2) L2 (.slice aT2 m2.this.rows kT2) m2.this T))
                      have HBX : Hid (Blk (w11.setRow g2 (rvs m2 (.slice aL2 L2.rows kL2) L2 (.slice aT2 m2.this.rows kT2) m2.this T)) rr 63 #[pv g, nv T]) := Lib.hid ((setRow_other w11 g2 rr (rvs m2 (.slice aL2 L2.rows kL2) L2 (.slice aT2 m2.this.rows kT2) m2.this T) hnr).trans HB_.out)
                      generalize w11.setRow g2 _ = w20 at *
                      clear HP HG HH HB_ hnr hxe hxa
                      have c4 : w20.cell? ⟨g2, 4, none⟩ = some (.int .i64 (m2.now : Int)) := HGX.out.cell 4
                      have hnm2 := HPX.out.oks.2.1.nowm
                      go_wp2_with fail
                      go_roundw
                      case rel => exact ⟨k + 1, max n1 m2.now, _, L2, _, m2, by omega, by go_num, by go_num, by omega, HPX, HGX, HBX⟩
                      case measure => simp [intOf]; omega
                    exact AllReadyH.nil
                  exact AllReadyH.nil
                exact AllReadyH.nil
              refine AllReadyH.cons (o := ({ dst := (some 25), op := (Op.alloc 42), type := 0, pos := "law.go:57", after := #[], guard := none } : Oper)) rfl (fun K hK => ?_) ?_
              · go_simp
                have hp_1 := ((HT8.out.alloc (.cells #[.int .i64 0, .int .i64 0, .int .u64 0, .int .i64 0, .int .i64 0, .slice none 0 0, .int .i64 0, .int .u64 0, .int .u64 0, .slice none 0 0, .int .i64 0, .int .u64 0, .int .u64 0, .int .u64 0] 42)).next (Below.drew (Below.refl _ _))).1
                have hq := (Blk.new w8 42 #[.int .i64 0, .int .i64 0, .int .u64 0, .int .i64 0, .int .i64 0, .slice none 0 0, .int .i64 0, .int .u64 0, .int .u64 0, .slice none 0 0, .int .i64 0, .int .u64 0, .int .u64 0, .int .u64 0]).drew
                refine hK.out _ _ (by exact bl_alloc hS_ _) (fun hS_ => ?_)
                clear hK K
                try simp only [Act.put, List.setIfInBounds_toArray, List.set_cons_zero, List.set_cons_succ]
                refine wpAnyH_ready (rs := [6]) (by kernel_rfl) (by simp) ?_
                refine AllReadyH.cons (o := ({ dst := (some 121), op := (Op.call { callee := (Callee.value (Operand.func 19)), args := #[(Operand.tmp 120)], argTypes := #[5] }), type := 9, pos := "law.go:57", after := #[{ on := 5, ground := Ground.data }], guard := none } : Oper)) rfl (fun K hK => ?_) ?_
                · go_simp
                  refine (HKY.out _).mono ?_
                  rintro e w9 ⟨rfl, hb9⟩
                  have hp_2 := (hp_1.next hb9).1
                  have hq := hq.next hb9
                  refine hK.out _ _ (by exact bnext hS_ hb9) (fun hS_ => ?_)
                  clear hK K
                  try simp only [Act.put, List.setIfInBounds_toArray, List.set_cons_zero, List.set_cons_succ]
                  refine wpAnyH_ready (rs := [7]) (by kernel_rfl) (by simp) ?_
                  refine AllReadyH.cons (o := ({ dst := (some 122), op := (Op.call { callee := (Callee.value (Operand.func 20)), args := #[(Operand.tmp 115), (Operand.tmp 116), (Operand.tmp 121)], argTypes := #[42, 3, 9] }), type := 47, pos := "law.go:57", after := #[{ on := 0, ground := Ground.data }, { on := 1, ground := Ground.data }, { on := 6, ground := Ground.data }, { on := 6, ground := Ground.chain }], guard := none } : Oper)) rfl (fun K hK => ?_) ?_
                  · go_simp
                    refine (HC1.out _ _ hp_2).mono ?_
                    rintro e w10 ⟨vL2, L2, vT2, rfl, hp10, hb10⟩
                    obtain ⟨⟨aL2, kL2, rfl⟩, ⟨aT2, kT2, rfl⟩⟩ := hp10.slices
                    have hq := hq.next hb10
                    refine hK.out _ _ (by exact bnext hS_ hb10) (fun hS_ => ?_)
                    clear hK K
                    try simp only [Act.put, List.setIfInBounds_toArray, List.set_cons_zero, List.set_cons_succ]
                    refine wpAnyH_take (i := 8) (oi := ({ dst := (some 114), op := (Op.move (Operand.tmp 122)), type := 47, pos := "law.go:57", after := #[{ on := 7, ground := Ground.data }], guard := none } : Oper)) (v := ?_) rfl (by kernel_rfl) (by kernel_rfl) (by kernel_rfl) (fun _ _ _ h => h) (Or.inl ⟨by rfl, ?_⟩) (by assumption) ?_
                    rotate_left
                    · (intro w_ hSw; (try dsimp only at hSw); go_simp; try with_reducible rfl)
                    try simp only [Act.put, List.setIfInBounds_toArray, List.set_cons_zero, List.set_cons_succ]
                    refine wpAnyH_take (i := 9) (oi := ({ dst := (some 123), op := (Op.extract (Operand.tmp 114) 0), type := 42, pos := "law.go:57", after := #[{ on := 8, ground := Ground.data }], guard := none } : Oper)) (v := ?_) rfl (by kernel_rfl) (by kernel_rfl) (by kernel_rfl) (fun _ _ _ h => h) (Or.inl ⟨by rfl, ?_⟩) (by assumption) ?_
                    rotate_left
                    · (intro w_ hSw; (try dsimp only at hSw); go_simp; try with_reducible rfl)
                    try simp only [Act.put, List.setIfInBounds_toArray, List.set_cons_zero, List.set_cons_succ]
                    refine wpAnyH_take (i := 10) (oi := ({ dst := (some 124), op := (Op.extract (Operand.tmp 114) 1), type := 22, pos := "law.go:57", after := #[{ on := 8, ground := Ground.data }, { on := 13, ground := (Ground.gcOnly Departure.lateStores) }], guard := none } : Oper)) (v := ?_) rfl (by kernel_rfl) (by kernel_rfl) (by kernel_rfl) (fun _ _ _ h => h) (Or.inl ⟨by rfl, ?_⟩) (by assumption) ?_
                    rotate_left
                    · (intro w_ hSw; (try dsimp only at hSw); go_simp; try with_reducible rfl)
                    try simp only [Act.put, List.setIfInBounds_toArray, List.set_cons_zero, List.set_cons_succ]
                    refine wpAnyH_take (i := 11) (oi := ({ dst := (some 125), op := (Op.extract (Operand.tmp 114) 2), type := 3, pos := "law.go:57", after := #[{ on := 8, ground := Ground.data }, { on := 14, ground := (Ground.gcOnly Departure.lateStores) }], guard := none } : Oper)) (v := ?_) rfl (by kernel_rfl) (by kernel_rfl) (by kernel_rfl) (fun _ _ _ h => h) (Or.inl ⟨by rfl, ?_⟩) (by assumption) ?_
                    rotate_left
                    · (intro w_ hSw; (try dsimp only at hSw); go_simp; try with_reducible rfl)
                    try simp only [Act.put, List.setIfInBounds_toArray, List.set_cons_zero, List.set_cons_succ]
                    refine wpAnyH_ready (rs := [13]) (by kernel_rfl) (by simp) ?_
                    refine AllReadyH.cons (o := ({ dst := none, op := (Op.store 42 (Operand.tmp 25) (Operand.tmp 123)), type := 0, pos := "law.go:57", after := #[{ on := 12, ground := Ground.data }, { on := 9, ground := Ground.data }, { on := 7, ground := Ground.chain }, { on := 0, ground := Ground.phase }, { on := 1, ground := Ground.phase }, { on := 2, ground := Ground.phase }, { on := 3, ground := Ground.phase }, { on := 4, ground := Ground.phase }, { on := 5, ground := Ground.phase }, { on := 6, ground := Ground.phase }, { on := 7, ground := Ground.phase }, { on := 8, ground := Ground.phase }, { on := 9, ground := Ground.phase }, { on := 10, ground := (Ground.textOnly Departure.lateStores) }, { on := 11, ground := (Ground.textOnly Departure.lateStores) }, { on := 12, ground := Ground.phase }], guard := none } : Oper)) rfl (fun K hK => ?_) ?_
                    · rw [if_pos (by rfl)]
                      refine wp_store_row 42 (.tmp 25) (.tmp 123) rfl w8.heap.size (rvs m2 (.slice aL2 L2.rows kL2) L2 (.slice aT2 m2.this.rows kT2) m2.this T) rfl rfl 42 _ hq (by kernel_rfl) rfl (by kernel_rfl) ?_
                      simp only [Act.put, List.setIfInBounds_toArray, List.set_cons_zero, List.set_cons_succ]
                      refine hK.out _ _ (by exact below_setRow hS_ (Nat.le_refl _) _) (fun hS_ => ?_)
                      clear hK K
                      try simp only [Act.put, List.setIfInBounds_toArray, List.set_cons_zero, List.set_cons_succ]
                      refine wpAnyH_take (i := 14) (oi := ({ dst := (some 26), op := (Op.assign (Operand.tmp 124)), type := 22, pos := "law.go:57", after := #[{ on := 10, ground := Ground.data }, { on := 13, ground := Ground.chain }, { on := 0, ground := Ground.phase }, { on := 1, ground := Ground.phase }, { on := 2, ground := Ground.phase }, { on := 3, ground := Ground.phase }, { on := 4, ground := Ground.phase }, { on := 5, ground := Ground.phase }, { on := 6, ground := Ground.phase }, { on := 7, ground := Ground.phase }, { on := 8, ground := Ground.phase }, { on := 9, ground := Ground.phase }, { on := 10, ground := Ground.phase }, { on := 11, ground := (Ground.textOnly Departure.lateStores) }, { on := 12, ground := Ground.phase }, { on := 13, ground := Ground.phase }], guard := none } : Oper)) (v := ?_) rfl (by kernel_rfl) (by kernel_rfl) (by kernel_rfl) (fun _ _ _ h => h) (Or.inl ⟨by rfl, ?_⟩) (by assumption) ?_
                      rotate_left
                      · (intro w_ hSw; (try dsimp only at hSw); go_simp; try with_reducible rfl)
                      try simp only [Act.put, List.setIfInBounds_toArray, List.set_cons_zero, List.set_cons_succ]
                      refine wpAnyH_take (i := 15) (oi := ({ dst := (some 27), op := (Op.assign (Operand.tmp 125)), type := 3, pos := "law.go:57", after := #[{ on := 11, ground := Ground.data }, { on := 14, ground := Ground.chain }, { on := 0, ground := Ground.phase }, { on := 1, ground := Ground.phase }, { on := 2, ground := Ground.phase }, { on := 3, ground := Ground.phase }, { on := 4, ground := Ground.phase }, { on := 5, ground := Ground.phase }, { on := 6, ground := Ground.phase }, { on := 7, ground := Ground.phase }, { on := 8, ground := Ground.phase }, { on := 9, ground := Ground.phase }, { on := 10, ground := Ground.phase }, { on := 11, ground := Ground.phase }, { on := 12, ground := Ground.phase }, { on := 13, ground := Ground.phase }, { on := 14, ground := Ground.phase }], guard := none } : Oper)) (v := ?_) rfl (by kernel_rfl) (by kernel_rfl) (by kernel_rfl) (fun _ _ _ h => h) (Or.inl ⟨by rfl, ?_⟩) (by assumption) ?_
                      rotate_left
                      · (intro w_ hSw; (try dsimp only at hSw); go_simp; try with_reducible rfl)
                      try simp only [Act.put, List.setIfInBounds_toArray, List.set_cons_zero, List.set_cons_succ]
                      refine wpAnyH_done (by kernel_rfl) ?_ _
                      refine NoPanic.normal ?_
                      have hbt : Below w8.heap.size w8 w10 := bnext (bnext (Below.drew (bl_alloc (Below.refl _ _) _)) hb9) hb10
                      have hle : w8.heap.size ≤ w8.heap.size := (Nat.le_refl _)
                      have HP := Lib.hid (hp10.chg (chg_row (w := w10) (g := w8.heap.size) (.inr rfl) (rvs m2 (.slice aL2 L2.rows kL2) L2 (.slice aT2 m2.this.rows kT2) m2.this T)))
                      have HG : Hid (Blk (w10.setRow w8.heap.size (rvs m2 (.slice aL2 L2.rows kL2) L2 (.slice aT2 m2.this.rows kT2) m2.this T)) g2 42 (rvs m (.slice aL L.rows kL) L (.slice aT m.this.rows kT) m.this T)) := Lib.hid ((setRow_other w10 w8.heap.size g2 (rvs m2 (.slice aL2 L2.rows kL2) L2 (.slice aT2 m2.this.rows kT2) m2.this T) (Nat.ne_of_lt (Nat.lt_of_lt_of_le HG8.out.lt hle))).trans (HG8.out.next hbt))
                      have HB_ : Hid (Blk (w10.setRow w8.heap.size (rvs m2 (.slice aL2 L2.rows kL2) L2 (.slice aT2 m2.this.rows kT2) m2.this T)) rr 63 #[pv g, nv T]) := Lib.hid ((setRow_other w10 w8.heap.size rr (rvs m2 (.slice aL2 L2.rows kL2) L2 (.slice aT2 m2.this.rows kT2) m2.this T) (Nat.ne_of_lt (Nat.lt_of_lt_of_le HB8.out.lt hle))).trans (HB8.out.next hbt))
                      have HH := Lib.hid (hq.row (rvs m2 (.slice aL2 L2.rows kL2) L2 (.slice aT2 m2.this.rows kT2) m2.this T))
                      clear hle hbt HT8 HG8 HB8 hp_0 hp_1 hp_2 hp10 hb9 hb10 hS_ hq HC1 HKY hcell8 HC4
                      generalize w8.heap.size = g3 at *
                      generalize w10.setRow g3 _ = w11 at *
                      have hxe : ((er : Int) != er) = false := by simp
                      have hxa : ((ak : Int) != (ak : Int)) = false := by simp
                      have hnr := HNR.out
                      go_upto_region 21 with fail
                      apply wp_region_lit
                      refine wpList_load_mid rfl 42 (.tmp 25) rfl g3 0 rfl (rvs m2 (.slice aL2 L2.rows kL2) L2 (.slice aT2 m2.this.rows kT2) m2.this T).toList _ HH.out.range Try.underlying42 rfl (by kernel_rfl) ?_
                      refine wpList_store_row rfl 42 (.tmp 18) (.tmp 135) rfl g2 (rvs m2 (.slice aL2 L2.rows kL2) L2 (.slice aT2 m2.this.rows kT2) m2.this T) rfl rfl 42 _ HG.out (by kernel_rfl) rfl (by kernel_rfl) ?_
                      go_upto_region 22 with fail
                      have HPX := Lib.hid ((HP.out.chg (chg_row (w := w11) (g := g2) (Or.inl (Or.inr rfl)) (rvs m2 (.slice aL2 L2.rows kL2) L2 (.slice aT2 m2.this.rows kT2) m2.this T))).fewer (G' := fun q => q = rr ∨ q = g2) (fun q hq => .inl hq))
                      have HGX := Lib.hid (HG.out.row (rvs m2 (.slice aL2 L2.rows kL2) L2 (.slice aT2 m2.this.rows kT2) m2.this T))
                      have HBX : Hid (Blk (w11.setRow g2 (rvs m2 (.slice aL2 L2.rows kL2) L2 (.slice aT2 m2.this.rows kT2) m2.this T)) rr 63 #[pv g, nv T]) := Lib.hid ((setRow_other w11 g2 rr (rvs m2 (.slice aL2 L2.rows kL2) L2 (.slice aT2 m2.this.rows kT2) m2.this T) hnr).trans HB_.out)
                      generalize w11.setRow g2 _ = w20 at *
                      clear HP HG HH HB_ hnr hxe hxa
                      have c4 : w20.cell? ⟨g2, 4, none⟩ = some (.int .i64 (m2.now : Int)) := HGX.out.cell 4
                      have hnm2 := HPX.out.oks.2.1.nowm
                      go_wp2_with fail
                      go_roundw
                      case rel => exact ⟨k + 1, max n1 m2.now, _, L2, _, m2, by omega, by go_num, by go_num, by omega, HPX, HGX, HBX⟩
                      case measure => simp [intOf]; omega
                    exact AllReadyH.nil
                  exact AllReadyH.nil
                exact AllReadyH.nil
              exact AllReadyH.nil
          · as_aux_lemma =>
              go_wp2_with fail
              refine (HKY.out _).mono ?_
              rintro e w7 ⟨rfl, hb7⟩
              have HT7 := Lib.hid (HT.out.next hb7).1
              have HG7 := Lib.hid (HG.out.next hb7)
              have HB7 := Lib.hid (HBK.out.next hb7)
              have HAK := Lib.hid (HT7.out.rate (.inl rfl) HB7.out ((n1 : Int)) (keyS x) (keyS_size x))
              have HC1 := Lib.hid fun W G' (h : PairW w W g G' vL vT (m.ask ((n1 : Int)) (keyS x).data.toList) m L) => rr_ask T ((n1 : Int)) (keyS x) h (keyS_size x)
              obtain ⟨m2, hm2⟩ : ∃ m2, m2 = m.ask ((n1 : Int)) (keyS x).data.toList := ⟨_, rfl⟩
              obtain ⟨er, her⟩ : ∃ er, er = m.err ((n1 : Int)) := ⟨_, rfl⟩
              obtain ⟨ak, hak⟩ : ∃ ak, ak = m.askd T ((n1 : Int)) (keyS x).data.toList := ⟨_, rfl⟩
              rw [← hm2, ← her, ← hak] at HAK HC1
              have her2 : er = 0 ∨ er = 60 := by rw [her]; unfold Win.err; split; exact .inl rfl; exact .inr rfl
              have hwer : IntKind.i64.wrap er = er := by rcases her2 with h | h <;> rw [h] <;> rfl
              have her0 : 0 ≤ er ∧ er ≤ 60 := by omega
              clear hb7 HT HG HBK hcell hm2 her hak her2
              go_wp2_with fail
              refine HAK.out.mono ?_
              rintro e w8 ⟨rfl, hp8, hk8⟩
              have HG8 := Lib.hid (HG7.out.kept hk8 (.inr rfl))
              have HB8 := Lib.hid (HB7.out.kept hk8 (.inl rfl))
              have HT8 := Lib.hid hp8
              have hrc := fun W (hW : Below w8.heap.size w8 W) => (HC.out.1.below (bnext hp8.below hW)).cell k (by omega)
              rw [HX.out] at hrc
              have HRC := Lib.hid hrc
              obtain ⟨⟨aL, kL, rfl⟩, ⟨aT, kT, rfl⟩⟩ := hp8.slices
              have hcell8 := hrc w8 (Below.refl _ _)
              clear hrc hp8 hk8 HT7 HG7 HB7 HAK
              have HC4 : Hid (∀ W, Below w8.heap.size w8 W → W.cell? ⟨g2, 0, none⟩ = some (.int .i64 (m.rows : Int)) ∧ W.cell? ⟨g2, 1, none⟩ = some (.int .i64 (m.W : Int)) ∧ W.cell? ⟨g2, 2, none⟩ = some (uv m.seed) ∧ W.cell? ⟨g2, 3, none⟩ = some (.int .i64 (m.long : Int)) ∧ W.cell? ⟨g2, 4, none⟩ = some (.int .i64 (m.now : Int)) ∧ W.cell? ⟨g2, 5, none⟩ = some ((.slice aL L.rows kL)) ∧ W.cell? ⟨g2, 6, none⟩ = some (.int .i64 (L.W : Int)) ∧ W.cell? ⟨g2, 7, none⟩ = some (uv L.seed) ∧ W.cell? ⟨g2, 8, none⟩ = some (nv L.total) ∧ W.cell? ⟨g2, 9, none⟩ = some ((.slice aT m.this.rows kT)) ∧ W.cell? ⟨g2, 10, none⟩ = some (.int .i64 (m.this.W : Int)) ∧ W.cell? ⟨g2, 11, none⟩ = some (uv m.this.seed) ∧ W.cell? ⟨g2, 12, none⟩ = some (nv m.this.total) ∧ W.cell? ⟨g2, 13, none⟩ = some (nv T) ∧ W.cell? (adr ca k) = some (.int .u8 x) ∧ Below w8.heap.size w8 W) := Lib.hid fun W hW => ⟨(HG8.out.next hW).cell 0, (HG8.out.next hW).cell 1, (HG8.out.next hW).cell 2, (HG8.out.next hW).cell 3, (HG8.out.next hW).cell 4, (HG8.out.next hW).cell 5, (HG8.out.next hW).cell 6, (HG8.out.next hW).cell 7, (HG8.out.next hW).cell 8, (HG8.out.next hW).cell 9, (HG8.out.next hW).cell 10, (HG8.out.next hW).cell 11, (HG8.out.next hW).cell 12, (HG8.out.next hW).cell 13, HRC.out W hW, hW⟩
              have hp_0 := (HT8.out.next (Below.drew (Below.refl _ _))).1
              clear HRC
              go_upto_region 18 with fail
              refine wp_region_noPanic ?_
              refine wp_region_held_drew (S := (fun W => Below w8.heap.size w8 W)) (by kernel_rfl) (by exact Below.drew (Below.refl _ _)) (fun hS_ => ?_)
              refine wpAnyH_take (i := 0) (oi := ({ dst := (some 115), op := (Op.load 42 (Operand.tmp 18)), type := 42, pos := "law.go:57", after := #[], guard := none } : Oper)) (v := ?_) rfl (by kernel_rfl) (by kernel_rfl) (by kernel_rfl) (fun _ _ _ h => h) (Or.inl ⟨by rfl, ?_⟩) (by assumption) ?_
              rotate_left
              · (intro w_ hSw; (try dsimp only at hSw); obtain ⟨q0, q1, q2, q3, q4, q5, q6, q7, q8, q9, q10, q11, q12, q13, q14, q15⟩ := HC4.out w_ hSw; go_simp; try with_reducible rfl)
              try simp only [Act.put, List.setIfInBounds_toArray, List.set_cons_zero, List.set_cons_succ]
              refine wpAnyH_take (i := 1) (oi := ({ dst := (some 116), op := (Op.move (Operand.tmp 22)), type := 3, pos := "law.go:57", after := #[], guard := none } : Oper)) (v := ?_) rfl (by kernel_rfl) (by kernel_rfl) (by kernel_rfl) (fun _ _ _ h => h) (Or.inl ⟨by rfl, ?_⟩) (by assumption) ?_
              rotate_left
              · (intro w_ hSw; (try dsimp only at hSw); go_simp; try with_reducible rfl)
              try simp only [Act.put, List.setIfInBounds_toArray, List.set_cons_zero, List.set_cons_succ]
              refine wpAnyH_take (i := 2) (oi := ({ dst := (some 117), op := (Op.move (Operand.tmp 5)), type := 33, pos := "law.go:57", after := #[], guard := none } : Oper)) (v := ?_) rfl (by kernel_rfl) (by kernel_rfl) (by kernel_rfl) (fun _ _ _ h => h) (Or.inl ⟨by rfl, ?_⟩) (by assumption) ?_
              rotate_left
              · (intro w_ hSw; (try dsimp only at hSw); go_simp; try with_reducible rfl)
              try simp only [Act.put, List.setIfInBounds_toArray, List.set_cons_zero, List.set_cons_succ]
              refine wpAnyH_take (i := 3) (oi := ({ dst := (some 118), op := (Op.move (Operand.tmp 21)), type := 3, pos := "law.go:57", after := #[], guard := none } : Oper)) (v := ?_) rfl (by kernel_rfl) (by kernel_rfl) (by kernel_rfl) (fun _ _ _ h => h) (Or.inl ⟨by rfl, ?_⟩) (by assumption) ?_
              rotate_left
              · (intro w_ hSw; (try dsimp only at hSw); go_simp; try with_reducible rfl)
              try simp only [Act.put, List.setIfInBounds_toArray, List.set_cons_zero, List.set_cons_succ]
              refine wpAnyH_take (i := 4) (oi := ({ dst := (some 119), op := (Op.indexAddr 33 (Operand.tmp 117) (Operand.tmp 118)), type := 0, pos := "law.go:57", after := #[{ on := 2, ground := Ground.data }, { on := 3, ground := Ground.data }], guard := none } : Oper)) (v := ?_) rfl (by kernel_rfl) (by kernel_rfl) (by kernel_rfl) (fun _ _ _ h => h) (Or.inl ⟨by rfl, ?_⟩) (by assumption) ?_
              rotate_left
              · (intro w_ hSw; (try dsimp only at hSw); go_simp; try with_reducible rfl)
              try simp only [Act.put, List.setIfInBounds_toArray, List.set_cons_zero, List.set_cons_succ]
              refine wpAnyH_take (i := 5) (oi := ({ dst := (some 120), op := (Op.load 5 (Operand.tmp 119)), type := 5, pos := "law.go:57", after := #[{ on := 4, ground := Ground.data }], guard := none } : Oper)) (v := ?_) rfl (by kernel_rfl) (by kernel_rfl) (by kernel_rfl) (fun _ _ _ h => h) (Or.inl ⟨by rfl, ?_⟩) (by assumption) ?_
              rotate_left
              · (intro w_ hSw; (try dsimp only at hSw); obtain ⟨q0, q1, q2, q3, q4, q5, q6, q7, q8, q9, q10, q11, q12, q13, q14, q15⟩ := HC4.out w_ hSw; go_simp; try with_reducible rfl)
              try simp only [Act.put, List.setIfInBounds_toArray, List.set_cons_zero, List.set_cons_succ]
              refine wpAnyH_ready (rs := [6, 12]) (by kernel_rfl) (by simp) ?_
              refine AllReadyH.cons (o := ({ dst := (some 121), op := (Op.call { callee := (Callee.value (Operand.func 19)), args := #[(Operand.tmp 120)], argTypes := #[5] }), type := 9, pos := "law.go:57", after := #[{ on := 5, ground := Ground.data }], guard := none } : Oper)) rfl (fun K hK => ?_) ?_
              · go_simp
                refine (HKY.out _).mono ?_
                rintro e w9 ⟨rfl, hb9⟩
                have hp_1 := (hp_0.next hb9).1
                refine hK.out _ _ (by exact bnext hS_ hb9) (fun hS_ => ?_)
                clear hK K
                try simp only [Act.put, List.setIfInBounds_toArray, List.set_cons_zero, List.set_cons_succ]
                refine wpAnyH_ready (rs := [7, 12]) (by kernel_rfl) (by simp) ?_
                refine AllReadyH.cons (o := ({ dst := (some 122), op := (Op.call { callee := (Callee.value (Operand.func 20)), args := #[(Operand.tmp 115), (Operand.tmp 116), (Operand.tmp 121)], argTypes := #[42, 3, 9] }), type := 47, pos := "law.go:57", after := #[{ on := 0, ground := Ground.data }, { on := 1, ground := Ground.data }, { on := 6, ground := Ground.data }, { on := 6, ground := Ground.chain }], guard := none } : Oper)) rfl (fun K hK => ?_) ?_
                · go_simp
                  refine (HC1.out _ _ hp_1).mono ?_
                  rintro e w10 ⟨vL2, L2, vT2, rfl, hp10, hb10⟩
                  obtain ⟨⟨aL2, kL2, rfl⟩, ⟨aT2, kT2, rfl⟩⟩ := hp10.slices
                  refine hK.out _ _ (by exact bnext hS_ hb10) (fun hS_ => ?_)
                  clear hK K
                  try simp only [Act.put, List.setIfInBounds_toArray, List.set_cons_zero, List.set_cons_succ]
                  refine wpAnyH_take (i := 8) (oi := ({ dst := (some 114), op := (Op.move (Operand.tmp 122)), type := 47, pos := "law.go:57", after := #[{ on := 7, ground := Ground.data }], guard := none } : Oper)) (v := ?_) rfl (by kernel_rfl) (by kernel_rfl) (by kernel_rfl) (fun _ _ _ h => h) (Or.inl ⟨by rfl, ?_⟩) (by assumption) ?_
                  rotate_left
                  · (intro w_ hSw; (try dsimp only at hSw); go_simp; try with_reducible rfl)
                  try simp only [Act.put, List.setIfInBounds_toArray, List.set_cons_zero, List.set_cons_succ]
                  refine wpAnyH_take (i := 9) (oi := ({ dst := (some 123), op := (Op.extract (Operand.tmp 114) 0), type := 42, pos := "law.go:57", after := #[{ on := 8, ground := Ground.data }], guard := none } : Oper)) (v := ?_) rfl (by kernel_rfl) (by kernel_rfl) (by kernel_rfl) (fun _ _ _ h => h) (Or.inl ⟨by rfl, ?_⟩) (by assumption) ?_
                  rotate_left
                  · (intro w_ hSw; (try dsimp only at hSw); go_simp; try with_reducible rfl)
                  try simp only [Act.put, List.setIfInBounds_toArray, List.set_cons_zero, List.set_cons_succ]
                  refine wpAnyH_take (i := 10) (oi := ({ dst := (some 124), op := (Op.extract (Operand.tmp 114) 1), type := 22, pos := "law.go:57", after := #[{ on := 8, ground := Ground.data }, { on := 13, ground := (Ground.gcOnly Departure.lateStores) }], guard := none } : Oper)) (v := ?_) rfl (by kernel_rfl) (by kernel_rfl) (by kernel_rfl) (fun _ _ _ h => h) (Or.inl ⟨by rfl, ?_⟩) (by assumption) ?_
                  rotate_left
                  · (intro w_ hSw; (try dsimp only at hSw); go_simp; try with_reducible rfl)
                  try simp only [Act.put, List.setIfInBounds_toArray, List.set_cons_zero, List.set_cons_succ]
                  refine wpAnyH_take (i := 11) (oi := ({ dst := (some 125), op := (Op.extract (Operand.tmp 114) 2), type := 3, pos := "law.go:57", after := #[{ on := 8, ground := Ground.data }, { on := 14, ground := (Ground.gcOnly Departure.lateStores) }], guard := none } : Oper)) (v := ?_) rfl (by kernel_rfl) (by kernel_rfl) (by kernel_rfl) (fun _ _ _ h => h) (Or.inl ⟨by rfl, ?_⟩) (by assumption) ?_
                  rotate_left
                  · (intro w_ hSw; (try dsimp only at hSw); go_simp; try with_reducible rfl)
                  try simp only [Act.put, List.setIfInBounds_toArray, List.set_cons_zero, List.set_cons_succ]
                  refine wpAnyH_ready (rs := [12]) (by kernel_rfl) (by simp) ?_
                  refine AllReadyH.cons (o := ({ dst := (some 25), op := (Op.alloc 42), type := 0, pos := "law.go:57", after := #[], guard := none } : Oper)) rfl (fun K hK => ?_) ?_
                  · go_simp
                    refine hK.out _ _ (by exact bl_alloc hS_ _) (fun hS_ => ?_)
                    clear hK K
                    try simp only [Act.put, List.setIfInBounds_toArray, List.set_cons_zero, List.set_cons_succ]
                    refine wpAnyH_ready (rs := [13]) (by kernel_rfl) (by simp) ?_
                    refine AllReadyH.cons (o := ({ dst := none, op := (Op.store 42 (Operand.tmp 25) (Operand.tmp 123)), type := 0, pos := "law.go:57", after := #[{ on := 12, ground := Ground.data }, { on := 9, ground := Ground.data }, { on := 7, ground := Ground.chain }, { on := 0, ground := Ground.phase }, { on := 1, ground := Ground.phase }, { on := 2, ground := Ground.phase }, { on := 3, ground := Ground.phase }, { on := 4, ground := Ground.phase }, { on := 5, ground := Ground.phase }, { on := 6, ground := Ground.phase }, { on := 7, ground := Ground.phase }, { on := 8, ground := Ground.phase }, { on := 9, ground := Ground.phase }, { on := 10, ground := (Ground.textOnly Departure.lateStores) }, { on := 11, ground := (Ground.textOnly Departure.lateStores) }, { on := 12, ground := Ground.phase }], guard := none } : Oper)) rfl (fun K hK => ?_) ?_
                    · rw [if_pos (by rfl)]
                      refine wp_store_row 42 (.tmp 25) (.tmp 123) rfl w10.heap.size (rvs m2 (.slice aL2 L2.rows kL2) L2 (.slice aT2 m2.this.rows kT2) m2.this T) rfl rfl 42 _ (Blk.new w10 _ _) (by kernel_rfl) rfl (by kernel_rfl) ?_
                      rw [World.setRow_alloc_new]
                      simp only [Act.put, List.setIfInBounds_toArray, List.set_cons_zero, List.set_cons_succ]
                      refine hK.out _ _ (by exact bl_alloc (bnext (bnext (Below.drew (Below.refl _ _)) hb9) hb10) _) (fun hS_ => ?_)
                      clear hK K
                      try simp only [Act.put, List.setIfInBounds_toArray, List.set_cons_zero, List.set_cons_succ]
                      refine wpAnyH_take (i := 14) (oi := ({ dst := (some 26), op := (Op.assign (Operand.tmp 124)), type := 22, pos := "law.go:57", after := #[{ on := 10, ground := Ground.data }, { on := 13, ground := Ground.chain }, { on := 0, ground := Ground.phase }, { on := 1, ground := Ground.phase }, { on := 2, ground := Ground.phase }, { on := 3, ground := Ground.phase }, { on := 4, ground := Ground.phase }, { on := 5, ground := Ground.phase }, { on := 6, ground := Ground.phase }, { on := 7, ground := Ground.phase }, { on := 8, ground := Ground.phase }, { on := 9, ground := Ground.phase }, { on := 10, ground := Ground.phase }, { on := 11, ground := (Ground.textOnly Departure.lateStores) }, { on := 12, ground := Ground.phase }, { on := 13, ground := Ground.phase }], guard := none } : Oper)) (v := ?_) rfl (by kernel_rfl) (by kernel_rfl) (by kernel_rfl) (fun _ _ _ h => h) (Or.inl ⟨by rfl, ?_⟩) (by assumption) ?_
                      rotate_left
                      · (intro w_ hSw; (try dsimp only at hSw); go_simp; try with_reducible rfl)
                      try simp only [Act.put, List.setIfInBounds_toArray, List.set_cons_zero, List.set_cons_succ]
                      refine wpAnyH_take (i := 15) (oi := ({ dst := (some 27), op := (Op.assign (Operand.tmp 125)), type := 3, pos := "law.go:57", after := #[{ on := 11, ground := Ground.data }, { on := 14, ground := Ground.chain }, { on := 0, ground := Ground.phase }, { on := 1, ground := Ground.phase }, { on := 2, ground := Ground.phase }, { on := 3, ground := Ground.phase }, { on := 4, ground := Ground.phase }, { on := 5, ground := Ground.phase }, { on := 6, ground := Ground.phase }, { on := 7, ground := Ground.phase }, { on := 8, ground := Ground.phase }, { on := 9, ground := Ground.phase }, { on := 10, ground := Ground.phase }, { on := 11, ground := Ground.phase }, { on := 12, ground := Ground.phase }, { on := 13, ground := Ground.phase }, { on := 14, ground := Ground.phase }], guard := none } : Oper)) (v := ?_) rfl (by kernel_rfl) (by kernel_rfl) (by kernel_rfl) (fun _ _ _ h => h) (Or.inl ⟨by rfl, ?_⟩) (by assumption) ?_
                      rotate_left
                      · (intro w_ hSw; (try dsimp only at hSw); go_simp; try with_reducible rfl)
                      try simp only [Act.put, List.setIfInBounds_toArray, List.set_cons_zero, List.set_cons_succ]
                      refine wpAnyH_done (by kernel_rfl) ?_ _
                      refine NoPanic.normal ?_
                      have hbt : Below w8.heap.size w8 w10 := bnext (bnext (Below.drew (Below.refl _ _)) hb9) hb10
                      have HP := Lib.hid (hp10.alloc (.cells (rvs m2 (.slice aL2 L2.rows kL2) L2 (.slice aT2 m2.this.rows kT2) m2.this T) 42))
                      have HG := Lib.hid ((HG8.out.next hbt).alloc (.cells (rvs m2 (.slice aL2 L2.rows kL2) L2 (.slice aT2 m2.this.rows kT2) m2.this T) 42))
                      have HB_ := Lib.hid ((HB8.out.next hbt).alloc (.cells (rvs m2 (.slice aL2 L2.rows kL2) L2 (.slice aT2 m2.this.rows kT2) m2.this T) 42))
                      have HH := Lib.hid (Blk.new w10 42 (rvs m2 (.slice aL2 L2.rows kL2) L2 (.slice aT2 m2.this.rows kT2) m2.this T))
                      clear hbt HT8 HG8 HB8 hp_0 hp_1 hp10 hb9 hb10 hS_ HC1 HKY hcell8 HC4
                      generalize w10.heap.size = g3 at *
                      generalize w10.alloc (.cells (rvs m2 (.slice aL2 L2.rows kL2) L2 (.slice aT2 m2.this.rows kT2) m2.this T) 42) = w11 at *
                      have hxe : ((er : Int) != er) = false := by simp
                      have hxa : ((ak : Int) != (ak : Int)) = false := by simp
                      have hnr := HNR.out
                      go_upto_region 21 with fail
                      apply wp_region_lit
                      refine wpList_load_mid rfl 42 (.tmp 25) rfl g3 0 rfl (rvs m2 (.slice aL2 L2.rows kL2) L2 (.slice aT2 m2.this.rows kT2) m2.this T).toList _ HH.out.range Try.underlying42 rfl (by kernel_rfl) ?_
                      refine wpList_store_row rfl 42 (.tmp 18) (.tmp 135) rfl g2 (rvs m2 (.slice aL2 L2.rows kL2) L2 (.slice aT2 m2.this.rows kT2) m2.this T) rfl rfl 42 _ HG.out (by kernel_rfl) rfl (by kernel_rfl) ?_
                      go_upto_region 22 with fail
                      have HPX := Lib.hid ((HP.out.chg (chg_row (w := w11) (g := g2) (Or.inl (Or.inr rfl)) (rvs m2 (.slice aL2 L2.rows kL2) L2 (.slice aT2 m2.this.rows kT2) m2.this T))).fewer (G' := fun q => q = rr ∨ q = g2) (fun q hq => .inl hq))
                      have HGX := Lib.hid (HG.out.row (rvs m2 (.slice aL2 L2.rows kL2) L2 (.slice aT2 m2.this.rows kT2) m2.this T))
                      have HBX : Hid (Blk (w11.setRow g2 (rvs m2 (.slice aL2 L2.rows kL2) L2 (.slice aT2 m2.this.rows kT2) m2.this T)) rr 63 #[pv g, nv T]) := Lib.hid ((setRow_other w11 g2 rr (rvs m2 (.slice aL2 L2.rows kL2) L2 (.slice aT2 m2.this.rows kT2) m2.this T) hnr).trans HB_.out)
                      generalize w11.setRow g2 _ = w20 at *
                      clear HP HG HH HB_ hnr hxe hxa
                      have c4 : w20.cell? ⟨g2, 4, none⟩ = some (.int .i64 (m2.now : Int)) := HGX.out.cell 4
                      have hnm2 := HPX.out.oks.2.1.nowm
                      go_wp2_with fail
                      go_roundw
                      case rel => exact ⟨k + 1, max n1 m2.now, _, L2, _, m2, by omega, by go_num, by go_num, by omega, HPX, HGX, HBX⟩
                      case measure => simp [intOf]; omega
                    exact AllReadyH.nil
                  exact AllReadyH.nil
                refine AllReadyH.cons (o := ({ dst := (some 25), op := (Op.alloc 42), type := 0, pos := "law.go:57", after := #[], guard := none } : Oper)) rfl (fun K hK => ?_) ?_
                · go_simp
                  have hp_2 := hp_1.alloc (.cells #[.int .i64 0, .int .i64 0, .int .u64 0, .int .i64 0, .int .i64 0, .slice none 0 0, .int .i64 0, .int .u64 0, .int .u64 0, .slice none 0 0, .int .i64 0, .int .u64 0, .int .u64 0, .int .u64 0] 42)
                  have hq := Blk.new w9 42 #[.int .i64 0, .int .i64 0, .int .u64 0, .int .i64 0, .int .i64 0, .slice none 0 0, .int .i64 0, .int .u64 0, .int .u64 0, .slice none 0 0, .int .i64 0, .int .u64 0, .int .u64 0, .int .u64 0]
                  refine hK.out _ _ (by exact bl_alloc hS_ _) (fun hS_ => ?_)
                  clear hK K
                  try simp only [Act.put, List.setIfInBounds_toArray, List.set_cons_zero, List.set_cons_succ]
                  refine wpAnyH_ready (rs := [7]) (by kernel_rfl) (by simp) ?_
                  refine AllReadyH.cons (o := ({ dst := (some 122), op := (Op.call { callee := (Callee.value (Operand.func 20)), args := #[(Operand.tmp 115), (Operand.tmp 116), (Operand.tmp 121)], argTypes := #[42, 3, 9] }), type := 47, pos := "law.go:57", after := #[{ on := 0, ground := Ground.data }, { on := 1, ground := Ground.data }, { on := 6, ground := Ground.data }, { on := 6, ground := Ground.chain }], guard := none } : Oper)) rfl (fun K hK => ?_) ?_
                  · go_simp
                    refine (HC1.out _ _ hp_2).mono ?_
                    rintro e w10 ⟨vL2, L2, vT2, rfl, hp10, hb10⟩
                    obtain ⟨⟨aL2, kL2, rfl⟩, ⟨aT2, kT2, rfl⟩⟩ := hp10.slices
                    have hq := hq.next hb10
                    refine hK.out _ _ (by exact bnext hS_ hb10) (fun hS_ => ?_)
                    clear hK K
                    try simp only [Act.put, List.setIfInBounds_toArray, List.set_cons_zero, List.set_cons_succ]
                    refine wpAnyH_take (i := 8) (oi := ({ dst := (some 114), op := (Op.move (Operand.tmp 122)), type := 47, pos := "law.go:57", after := #[{ on := 7, ground := Ground.data }], guard := none } : Oper)) (v := ?_) rfl (by kernel_rfl) (by kernel_rfl) (by kernel_rfl) (fun _ _ _ h => h) (Or.inl ⟨by rfl, ?_⟩) (by assumption) ?_
                    rotate_left
                    · (intro w_ hSw; (try dsimp only at hSw); go_simp; try with_reducible rfl)
                    try simp only [Act.put, List.setIfInBounds_toArray, List.set_cons_zero, List.set_cons_succ]
                    refine wpAnyH_take (i := 9) (oi := ({ dst := (some 123), op := (Op.extract (Operand.tmp 114) 0), type := 42, pos := "law.go:57", after := #[{ on := 8, ground := Ground.data }], guard := none } : Oper)) (v := ?_) rfl (by kernel_rfl) (by kernel_rfl) (by kernel_rfl) (fun _ _ _ h => h) (Or.inl ⟨by rfl, ?_⟩) (by assumption) ?_
                    rotate_left
                    · (intro w_ hSw; (try dsimp only at hSw); go_simp; try with_reducible rfl)
                    try simp only [Act.put, List.setIfInBounds_toArray, List.set_cons_zero, List.set_cons_succ]
                    refine wpAnyH_take (i := 10) (oi := ({ dst := (some 124), op := (Op.extract (Operand.tmp 114) 1), type := 22, pos := "law.go:57", after := #[{ on := 8, ground := Ground.data }, { on := 13, ground := (Ground.gcOnly Departure.lateStores) }], guard := none } : Oper)) (v := ?_) rfl (by kernel_rfl) (by kernel_rfl) (by kernel_rfl) (fun _ _ _ h => h) (Or.inl ⟨by rfl, ?_⟩) (by assumption) ?_
                    rotate_left
                    · (intro w_ hSw; (try dsimp only at hSw); go_simp; try with_reducible rfl)
                    try simp only [Act.put, List.setIfInBounds_toArray, List.set_cons_zero, List.set_cons_succ]
                    refine wpAnyH_take (i := 11) (oi := ({ dst := (some 125), op := (Op.extract (Operand.tmp 114) 2), type := 3, pos := "law.go:57", after := #[{ on := 8, ground := Ground.data }, { on := 14, ground := (Ground.gcOnly Departure.lateStores) }], guard := none } : Oper)) (v := ?_) rfl (by kernel_rfl) (by kernel_rfl) (by kernel_rfl) (fun _ _ _ h => h) (Or.inl ⟨by rfl, ?_⟩) (by assumption) ?_
                    rotate_left
                    · (intro w_ hSw; (try dsimp only at hSw); go_simp; try with_reducible rfl)
                    try simp only [Act.put, List.setIfInBounds_toArray, List.set_cons_zero, List.set_cons_succ]
                    refine wpAnyH_ready (rs := [13]) (by kernel_rfl) (by simp) ?_
                    refine AllReadyH.cons (o := ({ dst := none, op := (Op.store 42 (Operand.tmp 25) (Operand.tmp 123)), type := 0, pos := "law.go:57", after := #[{ on := 12, ground := Ground.data }, { on := 9, ground := Ground.data }, { on := 7, ground := Ground.chain }, { on := 0, ground := Ground.phase }, { on := 1, ground := Ground.phase }, { on := 2, ground := Ground.phase }, { on := 3, ground := Ground.phase }, { on := 4, ground := Ground.phase }, { on := 5, ground := Ground.phase }, { on := 6, ground := Ground.phase }, { on := 7, ground := Ground.phase }, { on := 8, ground := Ground.phase }, { on := 9, ground := Ground.phase }, { on := 10, ground := (Ground.textOnly Departure.lateStores) }, { on := 11, ground := (Ground.textOnly Departure.lateStores) }, { on := 12, ground := Ground.phase }], guard := none } : Oper)) rfl (fun K hK => ?_) ?_
                    · rw [if_pos (by rfl)]
                      refine wp_store_row 42 (.tmp 25) (.tmp 123) rfl w9.heap.size (rvs m2 (.slice aL2 L2.rows kL2) L2 (.slice aT2 m2.this.rows kT2) m2.this T) rfl rfl 42 _ hq (by kernel_rfl) rfl (by kernel_rfl) ?_
                      simp only [Act.put, List.setIfInBounds_toArray, List.set_cons_zero, List.set_cons_succ]
                      refine hK.out _ _ (by exact below_setRow hS_ (Nat.le_trans (Nat.le_refl _) hb9.size) _) (fun hS_ => ?_)
                      clear hK K
                      try simp only [Act.put, List.setIfInBounds_toArray, List.set_cons_zero, List.set_cons_succ]
                      refine wpAnyH_take (i := 14) (oi := ({ dst := (some 26), op := (Op.assign (Operand.tmp 124)), type := 22, pos := "law.go:57", after := #[{ on := 10, ground := Ground.data }, { on := 13, ground := Ground.chain }, { on := 0, ground := Ground.phase }, { on := 1, ground := Ground.phase }, { on := 2, ground := Ground.phase }, { on := 3, ground := Ground.phase }, { on := 4, ground := Ground.phase }, { on := 5, ground := Ground.phase }, { on := 6, ground := Ground.phase }, { on := 7, ground := Ground.phase }, { on := 8, ground := Ground.phase }, { on := 9, ground := Ground.phase }, { on := 10, ground := Ground.phase }, { on := 11, ground := (Ground.textOnly Departure.lateStores) }, { on := 12, ground := Ground.phase }, { on := 13, ground := Ground.phase }], guard := none } : Oper)) (v := ?_) rfl (by kernel_rfl) (by kernel_rfl) (by kernel_rfl) (fun _ _ _ h => h) (Or.inl ⟨by rfl, ?_⟩) (by assumption) ?_
                      rotate_left
                      · (intro w_ hSw; (try dsimp only at hSw); go_simp; try with_reducible rfl)
                      try simp only [Act.put, List.setIfInBounds_toArray, List.set_cons_zero, List.set_cons_succ]
                      refine wpAnyH_take (i := 15) (oi := ({ dst := (some 27), op := (Op.assign (Operand.tmp 125)), type := 3, pos := "law.go:57", after := #[{ on := 11, ground := Ground.data }, { on := 14, ground := Ground.chain }, { on := 0, ground := Ground.phase }, { on := 1, ground := Ground.phase }, { on := 2, ground := Ground.phase }, { on := 3, ground := Ground.phase }, { on := 4, ground := Ground.phase }, { on := 5, ground := Ground.phase }, { on := 6, ground := Ground.phase }, { on := 7, ground := Ground.phase }, { on := 8, ground := Ground.phase }, { on := 9, ground := Ground.phase }, { on := 10, ground := Ground.phase }, { on := 11, ground := Ground.phase }, { on := 12, ground := Ground.phase }, { on := 13, ground := Ground.phase }, { on := 14, ground := Ground.phase }], guard := none } : Oper)) (v := ?_) rfl (by kernel_rfl) (by kernel_rfl) (by kernel_rfl) (fun _ _ _ h => h) (Or.inl ⟨by rfl, ?_⟩) (by assumption) ?_
                      rotate_left
                      · (intro w_ hSw; (try dsimp only at hSw); go_simp; try with_reducible rfl)
                      try simp only [Act.put, List.setIfInBounds_toArray, List.set_cons_zero, List.set_cons_succ]
                      refine wpAnyH_done (by kernel_rfl) ?_ _
                      refine NoPanic.normal ?_
                      have hbt : Below w8.heap.size w8 w10 := bnext (bl_alloc (bnext (Below.drew (Below.refl _ _)) hb9) _) hb10
                      have hle : w8.heap.size ≤ w9.heap.size := (Nat.le_trans (Nat.le_refl _) hb9.size)
                      have HP := Lib.hid (hp10.chg (chg_row (w := w10) (g := w9.heap.size) (.inr rfl) (rvs m2 (.slice aL2 L2.rows kL2) L2 (.slice aT2 m2.this.rows kT2) m2.this T)))
                      have HG : Hid (Blk (w10.setRow w9.heap.size (rvs m2 (.slice aL2 L2.rows kL2) L2 (.slice aT2 m2.this.rows kT2) m2.this T)) g2 42 (rvs m (.slice aL L.rows kL) L (.slice aT m.this.rows kT) m.this T)) := Lib.hid ((setRow_other w10 w9.heap.size g2 (rvs m2 (.slice aL2 L2.rows kL2) L2 (.slice aT2 m2.this.rows kT2) m2.this T) (Nat.ne_of_lt (Nat.lt_of_lt_of_le HG8.out.lt hle))).trans (HG8.out.next hbt))
                      have HB_ : Hid (Blk (w10.setRow w9.heap.size (rvs m2 (.slice aL2 L2.rows kL2) L2 (.slice aT2 m2.this.rows kT2) m2.this T)) rr 63 #[pv g, nv T]) := Lib.hid ((setRow_other w10 w9.heap.size rr (rvs m2 (.slice aL2 L2.rows kL2) L2 (.slice aT2 m2.this.rows kT2) m2.this T) (Nat.ne_of_lt (Nat.lt_of_lt_of_le HB8.out.lt hle))).trans (HB8.out.next hbt))
                      have HH := Lib.hid (hq.row (rvs m2 (.slice aL2 L2.rows kL2) L2 (.slice aT2 m2.this.rows kT2) m2.this T))
                      clear hle hbt HT8 HG8 HB8 hp_0 hp_1 hp_2 hp10 hb9 hb10 hS_ hq HC1 HKY hcell8 HC4
                      generalize w9.heap.size = g3 at *
                      generalize w10.setRow g3 _ = w11 at *
                      have hxe : ((er : Int) != er) = false := by simp
                      have hxa : ((ak : Int) != (ak : Int)) = false := by simp
                      have hnr := HNR.out
                      go_upto_region 21 with fail
                      apply wp_region_lit
                      refine wpList_load_mid rfl 42 (.tmp 25) rfl g3 0 rfl (rvs m2 (.slice aL2 L2.rows kL2) L2 (.slice aT2 m2.this.rows kT2) m2.this T).toList _ HH.out.range Try.underlying42 rfl (by kernel_rfl) ?_
                      refine wpList_store_row rfl 42 (.tmp 18) (.tmp 135) rfl g2 (rvs m2 (.slice aL2 L2.rows kL2) L2 (.slice aT2 m2.this.rows kT2) m2.this T) rfl rfl 42 _ HG.out (by kernel_rfl) rfl (by kernel_rfl) ?_
                      go_upto_region 22 with fail
                      have HPX := Lib.hid ((HP.out.chg (chg_row (w := w11) (g := g2) (Or.inl (Or.inr rfl)) (rvs m2 (.slice aL2 L2.rows kL2) L2 (.slice aT2 m2.this.rows kT2) m2.this T))).fewer (G' := fun q => q = rr ∨ q = g2) (fun q hq => .inl hq))
                      have HGX := Lib.hid (HG.out.row (rvs m2 (.slice aL2 L2.rows kL2) L2 (.slice aT2 m2.this.rows kT2) m2.this T))
                      have HBX : Hid (Blk (w11.setRow g2 (rvs m2 (.slice aL2 L2.rows kL2) L2 (.slice aT2 m2.this.rows kT2) m2.this T)) rr 63 #[pv g, nv T]) := Lib.hid ((setRow_other w11 g2 rr (rvs m2 (.slice aL2 L2.rows kL2) L2 (.slice aT2 m2.this.rows kT2) m2.this T) hnr).trans HB_.out)
                      generalize w11.setRow g2 _ = w20 at *
                      clear HP HG HH HB_ hnr hxe hxa
                      have c4 : w20.cell? ⟨g2, 4, none⟩ = some (.int .i64 (m2.now : Int)) := HGX.out.cell 4
                      have hnm2 := HPX.out.oks.2.1.nowm
                      go_wp2_with fail
                      go_roundw
                      case rel => exact ⟨k + 1, max n1 m2.now, _, L2, _, m2, by omega, by go_num, by go_num, by omega, HPX, HGX, HBX⟩
                      case measure => simp [intOf]; omega
                    exact AllReadyH.nil
                  exact AllReadyH.nil
                exact AllReadyH.nil
              refine AllReadyH.cons (o := ({ dst := (some 25), op := (Op.alloc 42), type := 0, pos := "law.go:57", after := #[], guard := none } : Oper)) rfl (fun K hK => ?_) ?_
              · go_simp
                have hp_1 := ((HT8.out.alloc (.cells #[.int .i64 0, .int .i64 0, .int .u64 0, .int .i64 0, .int .i64 0, .slice none 0 0, .int .i64 0, .int .u64 0, .int .u64 0, .slice none 0 0, .int .i64 0, .int .u64 0, .int .u64 0, .int .u64 0] 42)).next (Below.drew (Below.refl _ _))).1
                have hq := (Blk.new w8 42 #[.int .i64 0, .int .i64 0, .int .u64 0, .int .i64 0, .int .i64 0, .slice none 0 0, .int .i64 0, .int .u64 0, .int .u64 0, .slice none 0 0, .int .i64 0, .int .u64 0, .int .u64 0, .int .u64 0]).drew
                refine hK.out _ _ (by exact bl_alloc hS_ _) (fun hS_ => ?_)
                clear hK K
                try simp only [Act.put, List.setIfInBounds_toArray, List.set_cons_zero, List.set_cons_succ]
                refine wpAnyH_ready (rs := [6]) (by kernel_rfl) (by simp) ?_
                refine AllReadyH.cons (o := ({ dst := (some 121), op := (Op.call { callee := (Callee.value (Operand.func 19)), args := #[(Operand.tmp 120)], argTypes := #[5] }), type := 9, pos := "law.go:57", after := #[{ on := 5, ground := Ground.data }], guard := none } : Oper)) rfl (fun K hK => ?_) ?_
                · go_simp
                  refine (HKY.out _).mono ?_
                  rintro e w9 ⟨rfl, hb9⟩
                  have hp_2 := (hp_1.next hb9).1
                  have hq := hq.next hb9
                  refine hK.out _ _ (by exact bnext hS_ hb9) (fun hS_ => ?_)
                  clear hK K
                  try simp only [Act.put, List.setIfInBounds_toArray, List.set_cons_zero, List.set_cons_succ]
                  refine wpAnyH_ready (rs := [7]) (by kernel_rfl) (by simp) ?_
                  refine AllReadyH.cons (o := ({ dst := (some 122), op := (Op.call { callee := (Callee.value (Operand.func 20)), args := #[(Operand.tmp 115), (Operand.tmp 116), (Operand.tmp 121)], argTypes := #[42, 3, 9] }), type := 47, pos := "law.go:57", after := #[{ on := 0, ground := Ground.data }, { on := 1, ground := Ground.data }, { on := 6, ground := Ground.data }, { on := 6, ground := Ground.chain }], guard := none } : Oper)) rfl (fun K hK => ?_) ?_
                  · go_simp
                    refine (HC1.out _ _ hp_2).mono ?_
                    rintro e w10 ⟨vL2, L2, vT2, rfl, hp10, hb10⟩
                    obtain ⟨⟨aL2, kL2, rfl⟩, ⟨aT2, kT2, rfl⟩⟩ := hp10.slices
                    have hq := hq.next hb10
                    refine hK.out _ _ (by exact bnext hS_ hb10) (fun hS_ => ?_)
                    clear hK K
                    try simp only [Act.put, List.setIfInBounds_toArray, List.set_cons_zero, List.set_cons_succ]
                    refine wpAnyH_take (i := 8) (oi := ({ dst := (some 114), op := (Op.move (Operand.tmp 122)), type := 47, pos := "law.go:57", after := #[{ on := 7, ground := Ground.data }], guard := none } : Oper)) (v := ?_) rfl (by kernel_rfl) (by kernel_rfl) (by kernel_rfl) (fun _ _ _ h => h) (Or.inl ⟨by rfl, ?_⟩) (by assumption) ?_
                    rotate_left
                    · (intro w_ hSw; (try dsimp only at hSw); go_simp; try with_reducible rfl)
                    try simp only [Act.put, List.setIfInBounds_toArray, List.set_cons_zero, List.set_cons_succ]
                    refine wpAnyH_take (i := 9) (oi := ({ dst := (some 123), op := (Op.extract (Operand.tmp 114) 0), type := 42, pos := "law.go:57", after := #[{ on := 8, ground := Ground.data }], guard := none } : Oper)) (v := ?_) rfl (by kernel_rfl) (by kernel_rfl) (by kernel_rfl) (fun _ _ _ h => h) (Or.inl ⟨by rfl, ?_⟩) (by assumption) ?_
                    rotate_left
                    · (intro w_ hSw; (try dsimp only at hSw); go_simp; try with_reducible rfl)
                    try simp only [Act.put, List.setIfInBounds_toArray, List.set_cons_zero, List.set_cons_succ]
                    refine wpAnyH_take (i := 10) (oi := ({ dst := (some 124), op := (Op.extract (Operand.tmp 114) 1), type := 22, pos := "law.go:57", after := #[{ on := 8, ground := Ground.data }, { on := 13, ground := (Ground.gcOnly Departure.lateStores) }], guard := none } : Oper)) (v := ?_) rfl (by kernel_rfl) (by kernel_rfl) (by kernel_rfl) (fun _ _ _ h => h) (Or.inl ⟨by rfl, ?_⟩) (by assumption) ?_
                    rotate_left
                    · (intro w_ hSw; (try dsimp only at hSw); go_simp; try with_reducible rfl)
                    try simp only [Act.put, List.setIfInBounds_toArray, List.set_cons_zero, List.set_cons_succ]
                    refine wpAnyH_take (i := 11) (oi := ({ dst := (some 125), op := (Op.extract (Operand.tmp 114) 2), type := 3, pos := "law.go:57", after := #[{ on := 8, ground := Ground.data }, { on := 14, ground := (Ground.gcOnly Departure.lateStores) }], guard := none } : Oper)) (v := ?_) rfl (by kernel_rfl) (by kernel_rfl) (by kernel_rfl) (fun _ _ _ h => h) (Or.inl ⟨by rfl, ?_⟩) (by assumption) ?_
                    rotate_left
                    · (intro w_ hSw; (try dsimp only at hSw); go_simp; try with_reducible rfl)
                    try simp only [Act.put, List.setIfInBounds_toArray, List.set_cons_zero, List.set_cons_succ]
                    refine wpAnyH_ready (rs := [13]) (by kernel_rfl) (by simp) ?_
                    refine AllReadyH.cons (o := ({ dst := none, op := (Op.store 42 (Operand.tmp 25) (Operand.tmp 123)), type := 0, pos := "law.go:57", after := #[{ on := 12, ground := Ground.data }, { on := 9, ground := Ground.data }, { on := 7, ground := Ground.chain }, { on := 0, ground := Ground.phase }, { on := 1, ground := Ground.phase }, { on := 2, ground := Ground.phase }, { on := 3, ground := Ground.phase }, { on := 4, ground := Ground.phase }, { on := 5, ground := Ground.phase }, { on := 6, ground := Ground.phase }, { on := 7, ground := Ground.phase }, { on := 8, ground := Ground.phase }, { on := 9, ground := Ground.phase }, { on := 10, ground := (Ground.textOnly Departure.lateStores) }, { on := 11, ground := (Ground.textOnly Departure.lateStores) }, { on := 12, ground := Ground.phase }], guard := none } : Oper)) rfl (fun K hK => ?_) ?_
                    · rw [if_pos (by rfl)]
                      refine wp_store_row 42 (.tmp 25) (.tmp 123) rfl w8.heap.size (rvs m2 (.slice aL2 L2.rows kL2) L2 (.slice aT2 m2.this.rows kT2) m2.this T) rfl rfl 42 _ hq (by kernel_rfl) rfl (by kernel_rfl) ?_
                      simp only [Act.put, List.setIfInBounds_toArray, List.set_cons_zero, List.set_cons_succ]
                      refine hK.out _ _ (by exact below_setRow hS_ (Nat.le_refl _) _) (fun hS_ => ?_)
                      clear hK K
                      try simp only [Act.put, List.setIfInBounds_toArray, List.set_cons_zero, List.set_cons_succ]
                      refine wpAnyH_take (i := 14) (oi := ({ dst := (some 26), op := (Op.assign (Operand.tmp 124)), type := 22, pos := "law.go:57", after := #[{ on := 10, ground := Ground.data }, { on := 13, ground := Ground.chain }, { on := 0, ground := Ground.phase }, { on := 1, ground := Ground.phase }, { on := 2, ground := Ground.phase }, { on := 3, ground := Ground.phase }, { on := 4, ground := Ground.phase }, { on := 5, ground := Ground.phase }, { on := 6, ground := Ground.phase }, { on := 7, ground := Ground.phase }, { on := 8, ground := Ground.phase }, { on := 9, ground := Ground.phase }, { on := 10, ground := Ground.phase }, { on := 11, ground := (Ground.textOnly Departure.lateStores) }, { on := 12, ground := Ground.phase }, { on := 13, ground := Ground.phase }], guard := none } : Oper)) (v := ?_) rfl (by kernel_rfl) (by kernel_rfl) (by kernel_rfl) (fun _ _ _ h => h) (Or.inl ⟨by rfl, ?_⟩) (by assumption) ?_
                      rotate_left
                      · (intro w_ hSw; (try dsimp only at hSw); go_simp; try with_reducible rfl)
                      try simp only [Act.put, List.setIfInBounds_toArray, List.set_cons_zero, List.set_cons_succ]
                      refine wpAnyH_take (i := 15) (oi := ({ dst := (some 27), op := (Op.assign (Operand.tmp 125)), type := 3, pos := "law.go:57", after := #[{ on := 11, ground := Ground.data }, { on := 14, ground := Ground.chain }, { on := 0, ground := Ground.phase }, { on := 1, ground := Ground.phase }, { on := 2, ground := Ground.phase }, { on := 3, ground := Ground.phase }, { on := 4, ground := Ground.phase }, { on := 5, ground := Ground.phase }, { on := 6, ground := Ground.phase }, { on := 7, ground := Ground.phase }, { on := 8, ground := Ground.phase }, { on := 9, ground := Ground.phase }, { on := 10, ground := Ground.phase }, { on := 11, ground := Ground.phase }, { on := 12, ground := Ground.phase }, { on := 13, ground := Ground.phase }, { on := 14, ground := Ground.phase }], guard := none } : Oper)) (v := ?_) rfl (by kernel_rfl) (by kernel_rfl) (by kernel_rfl) (fun _ _ _ h => h) (Or.inl ⟨by rfl, ?_⟩) (by assumption) ?_
                      rotate_left
                      · (intro w_ hSw; (try dsimp only at hSw); go_simp; try with_reducible rfl)
                      try simp only [Act.put, List.setIfInBounds_toArray, List.set_cons_zero, List.set_cons_succ]
                      refine wpAnyH_done (by kernel_rfl) ?_ _
                      refine NoPanic.normal ?_
                      have hbt : Below w8.heap.size w8 w10 := bnext (bnext (Below.drew (bl_alloc (Below.refl _ _) _)) hb9) hb10
                      have hle : w8.heap.size ≤ w8.heap.size := (Nat.le_refl _)
                      have HP := Lib.hid (hp10.chg (chg_row (w := w10) (g := w8.heap.size) (.inr rfl) (rvs m2 (.slice aL2 L2.rows kL2) L2 (.slice aT2 m2.this.rows kT2) m2.this T)))
                      have HG : Hid (Blk (w10.setRow w8.heap.size (rvs m2 (.slice aL2 L2.rows kL2) L2 (.slice aT2 m2.this.rows kT2) m2.this T)) g2 42 (rvs m (.slice aL L.rows kL) L (.slice aT m.this.rows kT) m.this T)) := Lib.hid ((setRow_other w10 w8.heap.size g2 (rvs m2 (.slice aL2 L2.rows kL2) L2 (.slice aT2 m2.this.rows kT2) m2.this T) (Nat.ne_of_lt (Nat.lt_of_lt_of_le HG8.out.lt hle))).trans (HG8.out.next hbt))
                      have HB_ : Hid (Blk (w10.setRow w8.heap.size (rvs m2 (.slice aL2 L2.rows kL2) L2 (.slice aT2 m2.this.rows kT2) m2.this T)) rr 63 #[pv g, nv T]) := Lib.hid ((setRow_other w10 w8.heap.size rr (rvs m2 (.slice aL2 L2.rows kL2) L2 (.slice aT2 m2.this.rows kT2) m2.this T) (Nat.ne_of_lt (Nat.lt_of_lt_of_le HB8.out.lt hle))).trans (HB8.out.next hbt))
                      have HH := Lib.hid (hq.row (rvs m2 (.slice aL2 L2.rows kL2) L2 (.slice aT2 m2.this.rows kT2) m2.this T))
                      clear hle hbt HT8 HG8 HB8 hp_0 hp_1 hp_2 hp10 hb9 hb10 hS_ hq HC1 HKY hcell8 HC4
                      generalize w8.heap.size = g3 at *
                      generalize w10.setRow g3 _ = w11 at *
                      have hxe : ((er : Int) != er) = false := by simp
                      have hxa : ((ak : Int) != (ak : Int)) = false := by simp
                      have hnr := HNR.out
                      go_upto_region 21 with fail
                      apply wp_region_lit
                      refine wpList_load_mid rfl 42 (.tmp 25) rfl g3 0 rfl (rvs m2 (.slice aL2 L2.rows kL2) L2 (.slice aT2 m2.this.rows kT2) m2.this T).toList _ HH.out.range Try.underlying42 rfl (by kernel_rfl) ?_
                      refine wpList_store_row rfl 42 (.tmp 18) (.tmp 135) rfl g2 (rvs m2 (.slice aL2 L2.rows kL2) L2 (.slice aT2 m2.this.rows kT2) m2.this T) rfl rfl 42 _ HG.out (by kernel_rfl) rfl (by kernel_rfl) ?_
                      go_upto_region 22 with fail
                      have HPX := Lib.hid ((HP.out.chg (chg_row (w := w11) (g := g2) (Or.inl (Or.inr rfl)) (rvs m2 (.slice aL2 L2.rows kL2) L2 (.slice aT2 m2.this.rows kT2) m2.this T))).fewer (G' := fun q => q = rr ∨ q = g2) (fun q hq => .inl hq))
                      have HGX := Lib.hid (HG.out.row (rvs m2 (.slice aL2 L2.rows kL2) L2 (.slice aT2 m2.this.rows kT2) m2.this T))
                      have HBX : Hid (Blk (w11.setRow g2 (rvs m2 (.slice aL2 L2.rows kL2) L2 (.slice aT2 m2.this.rows kT2) m2.this T)) rr 63 #[pv g, nv T]) := Lib.hid ((setRow_other w11 g2 rr (rvs m2 (.slice aL2 L2.rows kL2) L2 (.slice aT2 m2.this.rows kT2) m2.this T) hnr).trans HB_.out)
                      generalize w11.setRow g2 _ = w20 at *
                      clear HP HG HH HB_ hnr hxe hxa
                      have c4 : w20.cell? ⟨g2, 4, none⟩ = some (.int .i64 (m2.now : Int)) := HGX.out.cell 4
                      have hnm2 := HPX.out.oks.2.1.nowm
                      go_wp2_with fail
                      go_roundw
                      case rel => exact ⟨k + 1, max n1 m2.now, _, L2, _, m2, by omega, by go_num, by go_num, by omega, HPX, HGX, HBX⟩
                      case measure => simp [intOf]; omega
                    exact AllReadyH.nil
                  exact AllReadyH.nil
                exact AllReadyH.nil
              exact AllReadyH.nil
        · obtain ⟨n1, hn1⟩ : ∃ n1 : Nat, n1 = nw := ⟨_, rfl⟩
          have hnw1 : n1 ≤ 1099511627776 + 3 * (k + 1) := by omega
          subst hn1
          as_aux_lemma =>
            go_wp2_with fail
            refine (HKY.out _).mono ?_
            rintro e w7 ⟨rfl, hb7⟩
            have HT7 := Lib.hid (HT.out.next hb7).1
            have HG7 := Lib.hid (HG.out.next hb7)
            have HB7 := Lib.hid (HBK.out.next hb7)
            have HAK := Lib.hid (HT7.out.rate (.inl rfl) HB7.out ((n1 : Int)) (keyS x) (keyS_size x))
            have HC1 := Lib.hid fun W G' (h : PairW w W g G' vL vT (m.ask ((n1 : Int)) (keyS x).data.toList) m L) => rr_ask T ((n1 : Int)) (keyS x) h (keyS_size x)
            obtain ⟨m2, hm2⟩ : ∃ m2, m2 = m.ask ((n1 : Int)) (keyS x).data.toList := ⟨_, rfl⟩
            obtain ⟨er, her⟩ : ∃ er, er = m.err ((n1 : Int)) := ⟨_, rfl⟩
            obtain ⟨ak, hak⟩ : ∃ ak, ak = m.askd T ((n1 : Int)) (keyS x).data.toList := ⟨_, rfl⟩
            rw [← hm2, ← her, ← hak] at HAK HC1
            have her2 : er = 0 ∨ er = 60 := by rw [her]; unfold Win.err; split; exact .inl rfl; exact .inr rfl
            have hwer : IntKind.i64.wrap er = er := by rcases her2 with h | h <;> rw [h] <;> rfl
            have her0 : 0 ≤ er ∧ er ≤ 60 := by omega
            clear hb7 HT HG HBK hcell hm2 her hak her2
            go_wp2_with fail
            refine HAK.out.mono ?_
            rintro e w8 ⟨rfl, hp8, hk8⟩
            have HG8 := Lib.hid (HG7.out.kept hk8 (.inr rfl))
            have HB8 := Lib.hid (HB7.out.kept hk8 (.inl rfl))
            have HT8 := Lib.hid hp8
            have hrc := fun W (hW : Below w8.heap.size w8 W) => (HC.out.1.below (bnext hp8.below hW)).cell k (by omega)
            rw [HX.out] at hrc
            have HRC := Lib.hid hrc
            obtain ⟨⟨aL, kL, rfl⟩, ⟨aT, kT, rfl⟩⟩ := hp8.slices
            have hcell8 := hrc w8 (Below.refl _ _)
            clear hrc hp8 hk8 HT7 HG7 HB7 HAK
            have HC4 : Hid (∀ W, Below w8.heap.size w8 W → W.cell? ⟨g2, 0, none⟩ = some (.int .i64 (m.rows : Int)) ∧ W.cell? ⟨g2, 1, none⟩ = some (.int .i64 (m.W : Int)) ∧ W.cell? ⟨g2, 2, none⟩ = some (uv m.seed) ∧ W.cell? ⟨g2, 3, none⟩ = some (.int .i64 (m.long : Int)) ∧ W.cell? ⟨g2, 4, none⟩ = some (.int .i64 (m.now : Int)) ∧ W.cell? ⟨g2, 5, none⟩ = some ((.slice aL L.rows kL)) ∧ W.cell? ⟨g2, 6, none⟩ = some (.int .i64 (L.W : Int)) ∧ W.cell? ⟨g2, 7, none⟩ = some (uv L.seed) ∧ W.cell? ⟨g2, 8, none⟩ = some (nv L.total) ∧ W.cell? ⟨g2, 9, none⟩ = some ((.slice aT m.this.rows kT)) ∧ W.cell? ⟨g2, 10, none⟩ = some (.int .i64 (m.this.W : Int)) ∧ W.cell? ⟨g2, 11, none⟩ = some (uv m.this.seed) ∧ W.cell? ⟨g2, 12, none⟩ = some (nv m.this.total) ∧ W.cell? ⟨g2, 13, none⟩ = some (nv T) ∧ W.cell? (adr ca k) = some (.int .u8 x) ∧ Below w8.heap.size w8 W) := Lib.hid fun W hW => ⟨(HG8.out.next hW).cell 0, (HG8.out.next hW).cell 1, (HG8.out.next hW).cell 2, (HG8.out.next hW).cell 3, (HG8.out.next hW).cell 4, (HG8.out.next hW).cell 5, (HG8.out.next hW).cell 6, (HG8.out.next hW).cell 7, (HG8.out.next hW).cell 8, (HG8.out.next hW).cell 9, (HG8.out.next hW).cell 10, (HG8.out.next hW).cell 11, (HG8.out.next hW).cell 12, (HG8.out.next hW).cell 13, HRC.out W hW, hW⟩
            have hp_0 := (HT8.out.next (Below.drew (Below.refl _ _))).1
            clear HRC
            go_upto_region 18 with fail
            refine wp_region_noPanic ?_
            refine wp_region_held_drew (S := (fun W => Below w8.heap.size w8 W)) (by kernel_rfl) (by exact Below.drew (Below.refl _ _)) (fun hS_ => ?_)
            refine wpAnyH_take (i := 0) (oi := ({ dst := (some 115), op := (Op.load 42 (Operand.tmp 18)), type := 42, pos := "law.go:57", after := #[], guard := none } : Oper)) (v := ?_) rfl (by kernel_rfl) (by kernel_rfl) (by kernel_rfl) (fun _ _ _ h => h) (Or.inl ⟨by rfl, ?_⟩) (by assumption) ?_
            rotate_left
            · (intro w_ hSw; (try dsimp only at hSw); obtain ⟨q0, q1, q2, q3, q4, q5, q6, q7, q8, q9, q10, q11, q12, q13, q14, q15⟩ := HC4.out w_ hSw; go_simp; try with_reducible rfl)
            try simp only [Act.put, List.setIfInBounds_toArray, List.set_cons_zero, List.set_cons_succ]
            refine wpAnyH_take (i := 1) (oi := ({ dst := (some 116), op := (Op.move (Operand.tmp 22)), type := 3, pos := "law.go:57", after := #[], guard := none } : Oper)) (v := ?_) rfl (by kernel_rfl) (by kernel_rfl) (by kernel_rfl) (fun _ _ _ h => h) (Or.inl ⟨by rfl, ?_⟩) (by assumption) ?_
            rotate_left
            · (intro w_ hSw; (try dsimp only at hSw); go_simp; try with_reducible rfl)
            try simp only [Act.put, List.setIfInBounds_toArray, List.set_cons_zero, List.set_cons_succ]
            refine wpAnyH_take (i := 2) (oi := ({ dst := (some 117), op := (Op.move (Operand.tmp 5)), type := 33, pos := "law.go:57", after := #[], guard := none } : Oper)) (v := ?_) rfl (by kernel_rfl) (by kernel_rfl) (by kernel_rfl) (fun _ _ _ h => h) (Or.inl ⟨by rfl, ?_⟩) (by assumption) ?_
            rotate_left
            · (intro w_ hSw; (try dsimp only at hSw); go_simp; try with_reducible rfl)
            try simp only [Act.put, List.setIfInBounds_toArray, List.set_cons_zero, List.set_cons_succ]
            refine wpAnyH_take (i := 3) (oi := ({ dst := (some 118), op := (Op.move (Operand.tmp 21)), type := 3, pos := "law.go:57", after := #[], guard := none } : Oper)) (v := ?_) rfl (by kernel_rfl) (by kernel_rfl) (by kernel_rfl) (fun _ _ _ h => h) (Or.inl ⟨by rfl, ?_⟩) (by assumption) ?_
            rotate_left
            · (intro w_ hSw; (try dsimp only at hSw); go_simp; try with_reducible rfl)
            try simp only [Act.put, List.setIfInBounds_toArray, List.set_cons_zero, List.set_cons_succ]
            refine wpAnyH_take (i := 4) (oi := ({ dst := (some 119), op := (Op.indexAddr 33 (Operand.tmp 117) (Operand.tmp 118)), type := 0, pos := "law.go:57", after := #[{ on := 2, ground := Ground.data }, { on := 3, ground := Ground.data }], guard := none } : Oper)) (v := ?_) rfl (by kernel_rfl) (by kernel_rfl) (by kernel_rfl) (fun _ _ _ h => h) (Or.inl ⟨by rfl, ?_⟩) (by assumption) ?_
            rotate_left
            · (intro w_ hSw; (try dsimp only at hSw); go_simp; try with_reducible rfl)
            try simp only [Act.put, List.setIfInBounds_toArray, List.set_cons_zero, List.set_cons_succ]
            refine wpAnyH_take (i := 5) (oi := ({ dst := (some 120), op := (Op.load 5 (Operand.tmp 119)), type := 5, pos := "law.go:57", after := #[{ on := 4, ground := Ground.data }], guard := none } : Oper)) (v := ?_) rfl (by kernel_rfl) (by kernel_rfl) (by kernel_rfl) (fun _ _ _ h => h) (Or.inl ⟨by rfl, ?_⟩) (by assumption) ?_
            rotate_left
            · (intro w_ hSw; (try dsimp only at hSw); obtain ⟨q0, q1, q2, q3, q4, q5, q6, q7, q8, q9, q10, q11, q12, q13, q14, q15⟩ := HC4.out w_ hSw; go_simp; try with_reducible rfl)
            try simp only [Act.put, List.setIfInBounds_toArray, List.set_cons_zero, List.set_cons_succ]
            refine wpAnyH_ready (rs := [6, 12]) (by kernel_rfl) (by simp) ?_
            refine AllReadyH.cons (o := ({ dst := (some 121), op := (Op.call { callee := (Callee.value (Operand.func 19)), args := #[(Operand.tmp 120)], argTypes := #[5] }), type := 9, pos := "law.go:57", after := #[{ on := 5, ground := Ground.data }], guard := none } : Oper)) rfl (fun K hK => ?_) ?_
            · go_simp
              refine (HKY.out _).mono ?_
              rintro e w9 ⟨rfl, hb9⟩
              have hp_1 := (hp_0.next hb9).1
              refine hK.out _ _ (by exact bnext hS_ hb9) (fun hS_ => ?_)
              clear hK K
              try simp only [Act.put, List.setIfInBounds_toArray, List.set_cons_zero, List.set_cons_succ]
              refine wpAnyH_ready (rs := [7, 12]) (by kernel_rfl) (by simp) ?_
              refine AllReadyH.cons (o := ({ dst := (some 122), op := (Op.call { callee := (Callee.value (Operand.func 20)), args := #[(Operand.tmp 115), (Operand.tmp 116), (Operand.tmp 121)], argTypes := #[42, 3, 9] }), type := 47, pos := "law.go:57", after := #[{ on := 0, ground := Ground.data }, { on := 1, ground := Ground.data }, { on := 6, ground := Ground.data }, { on := 6, ground := Ground.chain }], guard := none } : Oper)) rfl (fun K hK => ?_) ?_
              · go_simp
                refine (HC1.out _ _ hp_1).mono ?_
                rintro e w10 ⟨vL2, L2, vT2, rfl, hp10, hb10⟩
                obtain ⟨⟨aL2, kL2, rfl⟩, ⟨aT2, kT2, rfl⟩⟩ := hp10.slices
                refine hK.out _ _ (by exact bnext hS_ hb10) (fun hS_ => ?_)
                clear hK K
                try simp only [Act.put, List.setIfInBounds_toArray, List.set_cons_zero, List.set_cons_succ]
                refine wpAnyH_take (i := 8) (oi := ({ dst := (some 114), op := (Op.move (Operand.tmp 122)), type := 47, pos := "law.go:57", after := #[{ on := 7, ground := Ground.data }], guard := none } : Oper)) (v := ?_) rfl (by kernel_rfl) (by kernel_rfl) (by kernel_rfl) (fun _ _ _ h => h) (Or.inl ⟨by rfl, ?_⟩) (by assumption) ?_
                rotate_left
                · (intro w_ hSw; (try dsimp only at hSw); go_simp; try with_reducible rfl)
                try simp only [Act.put, List.setIfInBounds_toArray, List.set_cons_zero, List.set_cons_succ]
                refine wpAnyH_take (i := 9) (oi := ({ dst := (some 123), op := (Op.extract (Operand.tmp 114) 0), type := 42, pos := "law.go:57", after := #[{ on := 8, ground := Ground.data }], guard := none } : Oper)) (v := ?_) rfl (by kernel_rfl) (by kernel_rfl) (by kernel_rfl) (fun _ _ _ h => h) (Or.inl ⟨by rfl, ?_⟩) (by assumption) ?_
                rotate_left
                · (intro w_ hSw; (try dsimp only at hSw); go_simp; try with_reducible rfl)
                try simp only [Act.put, List.setIfInBounds_toArray, List.set_cons_zero, List.set_cons_succ]
                refine wpAnyH_take (i := 10) (oi := ({ dst := (some 124), op := (Op.extract (Operand.tmp 114) 1), type := 22, pos := "law.go:57", after := #[{ on := 8, ground := Ground.data }, { on := 13, ground := (Ground.gcOnly Departure.lateStores) }], guard := none } : Oper)) (v := ?_) rfl (by kernel_rfl) (by kernel_rfl) (by kernel_rfl) (fun _ _ _ h => h) (Or.inl ⟨by rfl, ?_⟩) (by assumption) ?_
                rotate_left
                · (intro w_ hSw; (try dsimp only at hSw); go_simp; try with_reducible rfl)
                try simp only [Act.put, List.setIfInBounds_toArray, List.set_cons_zero, List.set_cons_succ]
                refine wpAnyH_take (i := 11) (oi := ({ dst := (some 125), op := (Op.extract (Operand.tmp 114) 2), type := 3, pos := "law.go:57", after := #[{ on := 8, ground := Ground.data }, { on := 14, ground := (Ground.gcOnly Departure.lateStores) }], guard := none } : Oper)) (v := ?_) rfl (by kernel_rfl) (by kernel_rfl) (by kernel_rfl) (fun _ _ _ h => h) (Or.inl ⟨by rfl, ?_⟩) (by assumption) ?_
                rotate_left
                · (intro w_ hSw; (try dsimp only at hSw); go_simp; try with_reducible rfl)
                try simp only [Act.put, List.setIfInBounds_toArray, List.set_cons_zero, List.set_cons_succ]
                refine wpAnyH_ready (rs := [12]) (by kernel_rfl) (by simp) ?_
                refine AllReadyH.cons (o := ({ dst := (some 25), op := (Op.alloc 42), type := 0, pos := "law.go:57", after := #[], guard := none } : Oper)) rfl (fun K hK => ?_) ?_
                · go_simp
                  refine hK.out _ _ (by exact bl_alloc hS_ _) (fun hS_ => ?_)
                  clear hK K
                  try simp only [Act.put, List.setIfInBounds_toArray, List.set_cons_zero, List.set_cons_succ]
                  refine wpAnyH_ready (rs := [13]) (by kernel_rfl) (by simp) ?_
                  refine AllReadyH.cons (o := ({ dst := none, op := (Op.store 42 (Operand.tmp 25) (Operand.tmp 123)), type := 0, pos := "law.go:57", after := #[{ on := 12, ground := Ground.data }, { on := 9, ground := Ground.data }, { on := 7, ground := Ground.chain }, { on := 0, ground := Ground.phase }, { on := 1, ground := Ground.phase }, { on := 2, ground := Ground.phase }, { on := 3, ground := Ground.phase }, { on := 4, ground := Ground.phase }, { on := 5, ground := Ground.phase }, { on := 6, ground := Ground.phase }, { on := 7, ground := Ground.phase }, { on := 8, ground := Ground.phase }, { on := 9, ground := Ground.phase }, { on := 10, ground := (Ground.textOnly Departure.lateStores) }, { on := 11, ground := (Ground.textOnly Departure.lateStores) }, { on := 12, ground := Ground.phase }], guard := none } : Oper)) rfl (fun K hK => ?_) ?_
                  · rw [if_pos (by rfl)]
                    refine wp_store_row 42 (.tmp 25) (.tmp 123) rfl w10.heap.size (rvs m2 (.slice aL2 L2.rows kL2) L2 (.slice aT2 m2.this.rows kT2) m2.this T) rfl rfl 42 _ (Blk.new w10 _ _) (by kernel_rfl) rfl (by kernel_rfl) ?_
                    rw [World.setRow_alloc_new]
                    simp only [Act.put, List.setIfInBounds_toArray, List.set_cons_zero, List.set_cons_succ]
                    refine hK.out _ _ (by exact bl_alloc (bnext (bnext (Below.drew (Below.refl _ _)) hb9) hb10) _) (fun hS_ => ?_)
                    clear hK K
                    try simp only [Act.put, List.setIfInBounds_toArray, List.set_cons_zero, List.set_cons_succ]
                    refine wpAnyH_take (i := 14) (oi := ({ dst := (some 26), op := (Op.assign (Operand.tmp 124)), type := 22, pos := "law.go:57", after := #[{ on := 10, ground := Ground.data }, { on := 13, ground := Ground.chain }, { on := 0, ground := Ground.phase }, { on := 1, ground := Ground.phase }, { on := 2, ground := Ground.phase }, { on := 3, ground := Ground.phase }, { on := 4, ground := Ground.phase }, { on := 5, ground := Ground.phase }, { on := 6, ground := Ground.phase }, { on := 7, ground := Ground.phase }, { on := 8, ground := Ground.phase }, { on := 9, ground := Ground.phase }, { on := 10, ground := Ground.phase }, { on := 11, ground := (Ground.textOnly Departure.lateStores) }, { on := 12, ground := Ground.phase }, { on := 13, ground := Ground.phase }], guard := none } : Oper)) (v := ?_) rfl (by kernel_rfl) (by kernel_rfl) (by kernel_rfl) (fun _ _ _ h => h) (Or.inl ⟨by rfl, ?_⟩) (by assumption) ?_
                    rotate_left
                    · (intro w_ hSw; (try dsimp only at hSw); go_simp; try with_reducible rfl)
                    try simp only [Act.put, List.setIfInBounds_toArray, List.set_cons_zero, List.set_cons_succ]
                    refine wpAnyH_take (i := 15) (oi := ({ dst := (some 27), op := (Op.assign (Operand.tmp 125)), type := 3, pos := "law.go:57", after := #[{ on := 11, ground := Ground.data }, { on := 14, ground := Ground.chain }, { on := 0, ground := Ground.phase }, { on := 1, ground := Ground.phase }, { on := 2, ground := Ground.phase }, { on := 3, ground := Ground.phase }, { on := 4, ground := Ground.phase }, { on := 5, ground := Ground.phase }, { on := 6, ground := Ground.phase }, { on := 7, ground := Ground.phase }, { on := 8, ground := Ground.phase }, { on := 9, ground := Ground.phase }, { on := 10, ground := Ground.phase }, { on := 11, ground := Ground.phase }, { on := 12, ground := Ground.phase }, { on := 13, ground := Ground.phase }, { on := 14, ground := Ground.phase }], guard := none } : Oper)) (v := ?_) rfl (by kernel_rfl) (by kernel_rfl) (by kernel_rfl) (fun _ _ _ h => h) (Or.inl ⟨by rfl, ?_⟩) (by assumption) ?_
                    rotate_left
                    · (intro w_ hSw; (try dsimp only at hSw); go_simp; try with_reducible rfl)
                    try simp only [Act.put, List.setIfInBounds_toArray, List.set_cons_zero, List.set_cons_succ]
                    refine wpAnyH_done (by kernel_rfl) ?_ _
                    refine NoPanic.normal ?_
                    have hbt : Below w8.heap.size w8 w10 := bnext (bnext (Below.drew (Below.refl _ _)) hb9) hb10
                    have HP := Lib.hid (hp10.alloc (.cells (rvs m2 (.slice aL2 L2.rows kL2) L2 (.slice aT2 m2.this.rows kT2) m2.this T) 42))
                    have HG := Lib.hid ((HG8.out.next hbt).alloc (.cells (rvs m2 (.slice aL2 L2.rows kL2) L2 (.slice aT2 m2.this.rows kT2) m2.this T) 42))
                    have HB_ := Lib.hid ((HB8.out.next hbt).alloc (.cells (rvs m2 (.slice aL2 L2.rows kL2) L2 (.slice aT2 m2.this.rows kT2) m2.this T) 42))
                    have HH := Lib.hid (Blk.new w10 42 (rvs m2 (.slice aL2 L2.rows kL2) L2 (.slice aT2 m2.this.rows kT2) m2.this T))
                    clear hbt HT8 HG8 HB8 hp_0 hp_1 hp10 hb9 hb10 hS_ HC1 HKY hcell8 HC4
                    generalize w10.heap.size = g3 at *
                    generalize w10.alloc (.cells (rvs m2 (.slice aL2 L2.rows kL2) L2 (.slice aT2 m2.this.rows kT2) m2.this T) 42) = w11 at *
                    have hxe : ((er : Int) != er) = false := by simp
                    have hxa : ((ak : Int) != (ak : Int)) = false := by simp
                    have hnr := HNR.out
                    go_upto_region 21 with fail
                    apply wp_region_lit
                    refine wpList_load_mid rfl 42 (.tmp 25) rfl g3 0 rfl (rvs m2 (.slice aL2 L2.rows kL2) L2 (.slice aT2 m2.this.rows kT2) m2.this T).toList _ HH.out.range Try.underlying42 rfl (by kernel_rfl) ?_
                    refine wpList_store_row rfl 42 (.tmp 18) (.tmp 135) rfl g2 (rvs m2 (.slice aL2 L2.rows kL2) L2 (.slice aT2 m2.this.rows kT2) m2.this T) rfl rfl 42 _ HG.out (by kernel_rfl) rfl (by kernel_rfl) ?_
                    go_upto_region 22 with fail
                    have HPX := Lib.hid ((HP.out.chg (chg_row (w := w11) (g := g2) (Or.inl (Or.inr rfl)) (rvs m2 (.slice aL2 L2.rows kL2) L2 (.slice aT2 m2.this.rows kT2) m2.this T))).fewer (G' := fun q => q = rr ∨ q = g2) (fun q hq => .inl hq))
                    have HGX := Lib.hid (HG.out.row (rvs m2 (.slice aL2 L2.rows kL2) L2 (.slice aT2 m2.this.rows kT2) m2.this T))
                    have HBX : Hid (Blk (w11.setRow g2 (rvs m2 (.slice aL2 L2.rows kL2) L2 (.slice aT2 m2.this.rows kT2) m2.this T)) rr 63 #[pv g, nv T]) := Lib.hid ((setRow_other w11 g2 rr (rvs m2 (.slice aL2 L2.rows kL2) L2 (.slice aT2 m2.this.rows kT2) m2.this T) hnr).trans HB_.out)
                    generalize w11.setRow g2 _ = w20 at *
                    clear HP HG HH HB_ hnr hxe hxa
                    have c4 : w20.cell? ⟨g2, 4, none⟩ = some (.int .i64 (m2.now : Int)) := HGX.out.cell 4
                    have hnm2 := HPX.out.oks.2.1.nowm
                    go_wp2_with fail
                    go_roundw
                    case rel => exact ⟨k + 1, max n1 m2.now, _, L2, _, m2, by omega, by go_num, by go_num, by omega, HPX, HGX, HBX⟩
                    case measure => simp [intOf]; omega
                  exact AllReadyH.nil
                exact AllReadyH.nil
              refine AllReadyH.cons (o := ({ dst := (some 25), op := (Op.alloc 42), type := 0, pos := "law.go:57", after := #[], guard := none } : Oper)) rfl (fun K hK => ?_) ?_
              · go_simp
                have hp_2 := hp_1.alloc (.cells #[.int .i64 0, .int .i64 0, .int .u64 0, .int .i64 0, .int .i64 0, .slice none 0 0, .int .i64 0, .int .u64 0, .int .u64 0, .slice none 0 0, .int .i64 0, .int .u64 0, .int .u64 0, .int .u64 0] 42)
                have hq := Blk.new w9 42 #[.int .i64 0, .int .i64 0, .int .u64 0, .int .i64 0, .int .i64 0, .slice none 0 0, .int .i64 0, .int .u64 0, .int .u64 0, .slice none 0 0, .int .i64 0, .int .u64 0, .int .u64 0, .int .u64 0]
                refine hK.out _ _ (by exact bl_alloc hS_ _) (fun hS_ => ?_)
                clear hK K
                try simp only [Act.put, List.setIfInBounds_toArray, List.set_cons_zero, List.set_cons_succ]
                refine wpAnyH_ready (rs := [7]) (by kernel_rfl) (by simp) ?_
                refine AllReadyH.cons (o := ({ dst := (some 122), op := (Op.call { callee := (Callee.value (Operand.func 20)), args := #[(Operand.tmp 115), (Operand.tmp 116), (Operand.tmp 121)], argTypes := #[42, 3, 9] }), type := 47, pos := "law.go:57", after := #[{ on := 0, ground := Ground.data }, { on := 1, ground := Ground.data }, { on := 6, ground := Ground.data }, { on := 6, ground := Ground.chain }], guard := none } : Oper)) rfl (fun K hK => ?_) ?_
                · go_simp
                  refine (HC1.out _ _ hp_2).mono ?_
                  rintro e w10 ⟨vL2, L2, vT2, rfl, hp10, hb10⟩
                  obtain ⟨⟨aL2, kL2, rfl⟩, ⟨aT2, kT2, rfl⟩⟩ := hp10.slices
                  have hq := hq.next hb10
                  refine hK.out _ _ (by exact bnext hS_ hb10) (fun hS_ => ?_)
                  clear hK K
                  try simp only [Act.put, List.setIfInBounds_toArray, List.set_cons_zero, List.set_cons_succ]
                  refine wpAnyH_take (i := 8) (oi := ({ dst := (some 114), op := (Op.move (Operand.tmp 122)), type := 47, pos := "law.go:57", after := #[{ on := 7, ground := Ground.data }], guard := none } : Oper)) (v := ?_) rfl (by kernel_rfl) (by kernel_rfl) (by kernel_rfl) (fun _ _ _ h => h) (Or.inl ⟨by rfl, ?_⟩) (by assumption) ?_
                  rotate_left
                  · (intro w_ hSw; (try dsimp only at hSw); go_simp; try with_reducible rfl)
                  try simp only [Act.put, List.setIfInBounds_toArray, List.set_cons_zero, List.set_cons_succ]
                  refine wpAnyH_take (i := 9) (oi := ({ dst := (some 123), op := (Op.extract (Operand.tmp 114) 0), type := 42, pos := "law.go:57", after := #[{ on := 8, ground := Ground.data }], guard := none } : Oper)) (v := ?_) rfl (by kernel_rfl) (by kernel_rfl) (by kernel_rfl) (fun _ _ _ h => h) (Or.inl ⟨by rfl, ?_⟩) (by assumption) ?_
                  rotate_left
                  · (intro w_ hSw; (try dsimp only at hSw); go_simp; try with_reducible rfl)
                  try simp only [Act.put, List.setIfInBounds_toArray, List.set_cons_zero, List.set_cons_succ]
                  refine wpAnyH_take (i := 10) (oi := ({ dst := (some 124), op := (Op.extract (Operand.tmp 114) 1), type := 22, pos := "law.go:57", after := #[{ on := 8, ground := Ground.data }, { on := 13, ground := (Ground.gcOnly Departure.lateStores) }], guard := none } : Oper)) (v := ?_) rfl (by kernel_rfl) (by kernel_rfl) (by kernel_rfl) (fun _ _ _ h => h) (Or.inl ⟨by rfl, ?_⟩) (by assumption) ?_
                  rotate_left
                  · (intro w_ hSw; (try dsimp only at hSw); go_simp; try with_reducible rfl)
                  try simp only [Act.put, List.setIfInBounds_toArray, List.set_cons_zero, List.set_cons_succ]
                  refine wpAnyH_take (i := 11) (oi := ({ dst := (some 125), op := (Op.extract (Operand.tmp 114) 2), type := 3, pos := "law.go:57", after := #[{ on := 8, ground := Ground.data }, { on := 14, ground := (Ground.gcOnly Departure.lateStores) }], guard := none } : Oper)) (v := ?_) rfl (by kernel_rfl) (by kernel_rfl) (by kernel_rfl) (fun _ _ _ h => h) (Or.inl ⟨by rfl, ?_⟩) (by assumption) ?_
                  rotate_left
                  · (intro w_ hSw; (try dsimp only at hSw); go_simp; try with_reducible rfl)
                  try simp only [Act.put, List.setIfInBounds_toArray, List.set_cons_zero, List.set_cons_succ]
                  refine wpAnyH_ready (rs := [13]) (by kernel_rfl) (by simp) ?_
                  refine AllReadyH.cons (o := ({ dst := none, op := (Op.store 42 (Operand.tmp 25) (Operand.tmp 123)), type := 0, pos := "law.go:57", after := #[{ on := 12, ground := Ground.data }, { on := 9, ground := Ground.data }, { on := 7, ground := Ground.chain }, { on := 0, ground := Ground.phase }, { on := 1, ground := Ground.phase }, { on := 2, ground := Ground.phase }, { on := 3, ground := Ground.phase }, { on := 4, ground := Ground.phase }, { on := 5, ground := Ground.phase }, { on := 6, ground := Ground.phase }, { on := 7, ground := Ground.phase }, { on := 8, ground := Ground.phase }, { on := 9, ground := Ground.phase }, { on := 10, ground := (Ground.textOnly Departure.lateStores) }, { on := 11, ground := (Ground.textOnly Departure.lateStores) }, { on := 12, ground := Ground.phase }], guard := none } : Oper)) rfl (fun K hK => ?_) ?_
                  · rw [if_pos (by rfl)]
                    refine wp_store_row 42 (.tmp 25) (.tmp 123) rfl w9.heap.size (rvs m2 (.slice aL2 L2.rows kL2) L2 (.slice aT2 m2.this.rows kT2) m2.this T) rfl rfl 42 _ hq (by kernel_rfl) rfl (by kernel_rfl) ?_
                    simp only [Act.put, List.setIfInBounds_toArray, List.set_cons_zero, List.set_cons_succ]
                    refine hK.out _ _ (by exact below_setRow hS_ (Nat.le_trans (Nat.le_refl _) hb9.size) _) (fun hS_ => ?_)
                    clear hK K
                    try simp only [Act.put, List.setIfInBounds_toArray, List.set_cons_zero, List.set_cons_succ]
                    refine wpAnyH_take (i := 14) (oi := ({ dst := (some 26), op := (Op.assign (Operand.tmp 124)), type := 22, pos := "law.go:57", after := #[{ on := 10, ground := Ground.data }, { on := 13, ground := Ground.chain }, { on := 0, ground := Ground.phase }, { on := 1, ground := Ground.phase }, { on := 2, ground := Ground.phase }, { on := 3, ground := Ground.phase }, { on := 4, ground := Ground.phase }, { on := 5, ground := Ground.phase }, { on := 6, ground := Ground.phase }, { on := 7, ground := Ground.phase }, { on := 8, ground := Ground.phase }, { on := 9, ground := Ground.phase }, { on := 10, ground := Ground.phase }, { on := 11, ground := (Ground.textOnly Departure.lateStores) }, { on := 12, ground := Ground.phase }, { on := 13, ground := Ground.phase }], guard := none } : Oper)) (v := ?_) rfl (by kernel_rfl) (by kernel_rfl) (by kernel_rfl) (fun _ _ _ h => h) (Or.inl ⟨by rfl, ?_⟩) (by assumption) ?_
                    rotate_left
                    · (intro w_ hSw; (try dsimp only at hSw); go_simp; try with_reducible rfl)
                    try simp only [Act.put, List.setIfInBounds_toArray, List.set_cons_zero, List.set_cons_succ]
                    refine wpAnyH_take (i := 15) (oi := ({ dst := (some 27), op := (Op.assign (Operand.tmp 125)), type := 3, pos := "law.go:57", after := #[{ on := 11, ground := Ground.data }, { on := 14, ground := Ground.chain }, { on := 0, ground := Ground.phase }, { on := 1, ground := Ground.phase }, { on := 2, ground := Ground.phase }, { on := 3, ground := Ground.phase }, { on := 4, ground := Ground.phase }, { on := 5, ground := Ground.phase }, { on := 6, ground := Ground.phase }, { on := 7, ground := Ground.phase }, { on := 8, ground := Ground.phase }, { on := 9, ground := Ground.phase }, { on := 10, ground := Ground.phase }, { on := 11, ground := Ground.phase }, { on := 12, ground := Ground.phase }, { on := 13, ground := Ground.phase }, { on := 14, ground := Ground.phase }], guard := none } : Oper)) (v := ?_) rfl (by kernel_rfl) (by kernel_rfl) (by kernel_rfl) (fun _ _ _ h => h) (Or.inl ⟨by rfl, ?_⟩) (by assumption) ?_
                    rotate_left
                    · (intro w_ hSw; (try dsimp only at hSw); go_simp; try with_reducible rfl)
                    try simp only [Act.put, List.setIfInBounds_toArray, List.set_cons_zero, List.set_cons_succ]
                    refine wpAnyH_done (by kernel_rfl) ?_ _
                    refine NoPanic.normal ?_
                    have hbt : Below w8.heap.size w8 w10 := bnext (bl_alloc (bnext (Below.drew (Below.refl _ _)) hb9) _) hb10
                    have hle : w8.heap.size ≤ w9.heap.size := (Nat.le_trans (Nat.le_refl _) hb9.size)
                    have HP := Lib.hid (hp10.chg (chg_row (w := w10) (g := w9.heap.size) (.inr rfl) (rvs m2 (.slice aL2 L2.rows kL2) L2 (.slice aT2 m2.this.rows kT2) m2.this T)))
                    have HG : Hid (Blk (w10.setRow w9.heap.size (rvs m2 (.slice aL2 L2.rows kL2) L2 (.slice aT2 m2.this.rows kT2) m2.this T)) g2 42 (rvs m (.slice aL L.rows kL) L (.slice aT m.this.rows kT) m.this T)) := Lib.hid ((setRow_other w10 w9.heap.size g2 (rvs m2 (.slice aL2 L2.rows kL2) L2 (.slice aT2 m2.this.rows kT2) m2.this T) (Nat.ne_of_lt (Nat.lt_of_lt_of_le HG8.out.lt hle))).trans (HG8.out.next hbt))
                    have HB_ : Hid (Blk (w10.setRow w9.heap.size (rvs m2 (.slice aL2 L2.rows kL2) L2 (.slice aT2 m2.this.rows kT2) m2.this T)) rr 63 #[pv g, nv T]) := Lib.hid ((setRow_other w10 w9.heap.size rr (rvs m2 (.slice aL2 L2.rows kL2) L2 (.slice aT2 m2.this.rows kT2) m2.this T) (Nat.ne_of_lt (Nat.lt_of_lt_of_le HB8.out.lt hle))).trans (HB8.out.next hbt))
                    have HH := Lib.hid (hq.row (rvs m2 (.slice aL2 L2.rows kL2) L2 (.slice aT2 m2.this.rows kT2) m2.this T))
                    clear hle hbt HT8 HG8 HB8 hp_0 hp_1 hp_2 hp10 hb9 hb10 hS_ hq HC1 HKY hcell8 HC4
                    generalize w9.heap.size = g3 at *
                    generalize w10.setRow g3 _ = w11 at *
                    have hxe : ((er : Int) != er) = false := by simp
                    have hxa : ((ak : Int) != (ak : Int)) = false := by simp
                    have hnr := HNR.out
                    go_upto_region 21 with fail
                    apply wp_region_lit
                    refine wpList_load_mid rfl 42 (.tmp 25) rfl g3 0 rfl (rvs m2 (.slice aL2 L2.rows kL2) L2 (.slice aT2 m2.this.rows kT2) m2.this T).toList _ HH.out.range Try.underlying42 rfl (by kernel_rfl) ?_
                    refine wpList_store_row rfl 42 (.tmp 18) (.tmp 135) rfl g2 (rvs m2 (.slice aL2 L2.rows kL2) L2 (.slice aT2 m2.this.rows kT2) m2.this T) rfl rfl 42 _ HG.out (by kernel_rfl) rfl (by kernel_rfl) ?_
                    go_upto_region 22 with fail
                    have HPX := Lib.hid ((HP.out.chg (chg_row (w := w11) (g := g2) (Or.inl (Or.inr rfl)) (rvs m2 (.slice aL2 L2.rows kL2) L2 (.slice aT2 m2.this.rows kT2) m2.this T))).fewer (G' := fun q => q = rr ∨ q = g2) (fun q hq => .inl hq))
                    have HGX := Lib.hid (HG.out.row (rvs m2 (.slice aL2 L2.rows kL2) L2 (.slice aT2 m2.this.rows kT2) m2.this T))
                    have HBX : Hid (Blk (w11.setRow g2 (rvs m2 (.slice aL2 L2.rows kL2) L2 (.slice aT2 m2.this.rows kT2) m2.this T)) rr 63 #[pv g, nv T]) := Lib.hid ((setRow_other w11 g2 rr (rvs m2 (.slice aL2 L2.rows kL2) L2 (.slice aT2 m2.this.rows kT2) m2.this T) hnr).trans HB_.out)
                    generalize w11.setRow g2 _ = w20 at *
                    clear HP HG HH HB_ hnr hxe hxa
                    have c4 : w20.cell? ⟨g2, 4, none⟩ = some (.int .i64 (m2.now : Int)) := HGX.out.cell 4
                    have hnm2 := HPX.out.oks.2.1.nowm
                    go_wp2_with fail
                    go_roundw
                    case rel => exact ⟨k + 1, max n1 m2.now, _, L2, _, m2, by omega, by go_num, by go_num, by omega, HPX, HGX, HBX⟩
                    case measure => simp [intOf]; omega
                  exact AllReadyH.nil
                exact AllReadyH.nil
              exact AllReadyH.nil
            refine AllReadyH.cons (o := ({ dst := (some 25), op := (Op.alloc 42), type := 0, pos := "law.go:57", after := #[], guard := none } : Oper)) rfl (fun K hK => ?_) ?_
            · go_simp
              have hp_1 := ((HT8.out.alloc (.cells #[.int .i64 0, .int .i64 0, .int .u64 0, .int .i64 0, .int .i64 0, .slice none 0 0, .int .i64 0, .int .u64 0, .int .u64 0, .slice none 0 0, .int .i64 0, .int .u64 0, .int .u64 0, .int .u64 0] 42)).next (Below.drew (Below.refl _ _))).1
              have hq := (Blk.new w8 42 #[.int .i64 0, .int .i64 0, .int .u64 0, .int .i64 0, .int .i64 0, .slice none 0 0, .int .i64 0, .int .u64 0, .int .u64 0, .slice none 0 0, .int .i64 0, .int .u64 0, .int .u64 0, .int .u64 0]).drew
              refine hK.out _ _ (by exact bl_alloc hS_ _) (fun hS_ => ?_)
              clear hK K
              try simp only [Act.put, List.setIfInBounds_toArray, List.set_cons_zero, List.set_cons_succ]
              refine wpAnyH_ready (rs := [6]) (by kernel_rfl) (by simp) ?_
              refine AllReadyH.cons (o := ({ dst := (some 121), op := (Op.call { callee := (Callee.value (Operand.func 19)), args := #[(Operand.tmp 120)], argTypes := #[5] }), type := 9, pos := "law.go:57", after := #[{ on := 5, ground := Ground.data }], guard := none } : Oper)) rfl (fun K hK => ?_) ?_
              · go_simp
                refine (HKY.out _).mono ?_
                rintro e w9 ⟨rfl, hb9⟩
                have hp_2 := (hp_1.next hb9).1
                have hq := hq.next hb9
                refine hK.out _ _ (by exact bnext hS_ hb9) (fun hS_ => ?_)
                clear hK K
                try simp only [Act.put, List.setIfInBounds_toArray, List.set_cons_zero, List.set_cons_succ]
                refine wpAnyH_ready (rs := [7]) (by kernel_rfl) (by simp) ?_
                refine AllReadyH.cons (o := ({ dst := (some 122), op := (Op.call { callee := (Callee.value (Operand.func 20)), args := #[(Operand.tmp 115), (Operand.tmp 116), (Operand.tmp 121)], argTypes := #[42, 3, 9] }), type := 47, pos := "law.go:57", after := #[{ on := 0, ground := Ground.data }, { on := 1, ground := Ground.data }, { on := 6, ground := Ground.data }, { on := 6, ground := Ground.chain }], guard := none } : Oper)) rfl (fun K hK => ?_) ?_
                · go_simp
                  refine (HC1.out _ _ hp_2).mono ?_
                  rintro e w10 ⟨vL2, L2, vT2, rfl, hp10, hb10⟩
                  obtain ⟨⟨aL2, kL2, rfl⟩, ⟨aT2, kT2, rfl⟩⟩ := hp10.slices
                  have hq := hq.next hb10
                  refine hK.out _ _ (by exact bnext hS_ hb10) (fun hS_ => ?_)
                  clear hK K
                  try simp only [Act.put, List.setIfInBounds_toArray, List.set_cons_zero, List.set_cons_succ]
                  refine wpAnyH_take (i := 8) (oi := ({ dst := (some 114), op := (Op.move (Operand.tmp 122)), type := 47, pos := "law.go:57", after := #[{ on := 7, ground := Ground.data }], guard := none } : Oper)) (v := ?_) rfl (by kernel_rfl) (by kernel_rfl) (by kernel_rfl) (fun _ _ _ h => h) (Or.inl ⟨by rfl, ?_⟩) (by assumption) ?_
                  rotate_left
                  · (intro w_ hSw; (try dsimp only at hSw); go_simp; try with_reducible rfl)
                  try simp only [Act.put, List.setIfInBounds_toArray, List.set_cons_zero, List.set_cons_succ]
                  refine wpAnyH_take (i := 9) (oi := ({ dst := (some 123), op := (Op.extract (Operand.tmp 114) 0), type := 42, pos := "law.go:57", after := #[{ on := 8, ground := Ground.data }], guard := none } : Oper)) (v := ?_) rfl (by kernel_rfl) (by kernel_rfl) (by kernel_rfl) (fun _ _ _ h => h) (Or.inl ⟨by rfl, ?_⟩) (by assumption) ?_
                  rotate_left
                  · (intro w_ hSw; (try dsimp only at hSw); go_simp; try with_reducible rfl)
                  try simp only [Act.put, List.setIfInBounds_toArray, List.set_cons_zero, List.set_cons_succ]
                  refine wpAnyH_take (i := 10) (oi := ({ dst := (some 124), op := (Op.extract (Operand.tmp 114) 1), type := 22, pos := "law.go:57", after := #[{ on := 8, ground := Ground.data }, { on := 13, ground := (Ground.gcOnly Departure.lateStores) }], guard := none } : Oper)) (v := ?_) rfl (by kernel_rfl) (by kernel_rfl) (by kernel_rfl) (fun _ _ _ h => h) (Or.inl ⟨by rfl, ?_⟩) (by assumption) ?_
                  rotate_left
                  · (intro w_ hSw; (try dsimp only at hSw); go_simp; try with_reducible rfl)
                  try simp only [Act.put, List.setIfInBounds_toArray, List.set_cons_zero, List.set_cons_succ]
                  refine wpAnyH_take (i := 11) (oi := ({ dst := (some 125), op := (Op.extract (Operand.tmp 114) 2), type := 3, pos := "law.go:57", after := #[{ on := 8, ground := Ground.data }, { on := 14, ground := (Ground.gcOnly Departure.lateStores) }], guard := none } : Oper)) (v := ?_) rfl (by kernel_rfl) (by kernel_rfl) (by kernel_rfl) (fun _ _ _ h => h) (Or.inl ⟨by rfl, ?_⟩) (by assumption) ?_
                  rotate_left
                  · (intro w_ hSw; (try dsimp only at hSw); go_simp; try with_reducible rfl)
                  try simp only [Act.put, List.setIfInBounds_toArray, List.set_cons_zero, List.set_cons_succ]
                  refine wpAnyH_ready (rs := [13]) (by kernel_rfl) (by simp) ?_
                  refine AllReadyH.cons (o := ({ dst := none, op := (Op.store 42 (Operand.tmp 25) (Operand.tmp 123)), type := 0, pos := "law.go:57", after := #[{ on := 12, ground := Ground.data }, { on := 9, ground := Ground.data }, { on := 7, ground := Ground.chain }, { on := 0, ground := Ground.phase }, { on := 1, ground := Ground.phase }, { on := 2, ground := Ground.phase }, { on := 3, ground := Ground.phase }, { on := 4, ground := Ground.phase }, { on := 5, ground := Ground.phase }, { on := 6, ground := Ground.phase }, { on := 7, ground := Ground.phase }, { on := 8, ground := Ground.phase }, { on := 9, ground := Ground.phase }, { on := 10, ground := (Ground.textOnly Departure.lateStores) }, { on := 11, ground := (Ground.textOnly Departure.lateStores) }, { on := 12, ground := Ground.phase }], guard := none } : Oper)) rfl (fun K hK => ?_) ?_
                  · rw [if_pos (by rfl)]
                    refine wp_store_row 42 (.tmp 25) (.tmp 123) rfl w8.heap.size (rvs m2 (.slice aL2 L2.rows kL2) L2 (.slice aT2 m2.this.rows kT2) m2.this T) rfl rfl 42 _ hq (by kernel_rfl) rfl (by kernel_rfl) ?_
                    simp only [Act.put, List.setIfInBounds_toArray, List.set_cons_zero, List.set_cons_succ]
                    refine hK.out _ _ (by exact below_setRow hS_ (Nat.le_refl _) _) (fun hS_ => ?_)
                    clear hK K
                    try simp only [Act.put, List.setIfInBounds_toArray, List.set_cons_zero, List.set_cons_succ]
                    refine wpAnyH_take (i := 14) (oi := ({ dst := (some 26), op := (Op.assign (Operand.tmp 124)), type := 22, pos := "law.go:57", after := #[{ on := 10, ground := Ground.data }, { on := 13, ground := Ground.chain }, { on := 0, ground := Ground.phase }, { on := 1, ground := Ground.phase }, { on := 2, ground := Ground.phase }, { on := 3, ground := Ground.phase }, { on := 4, ground := Ground.phase }, { on := 5, ground := Ground.phase }, { on := 6, ground := Ground.phase }, { on := 7, ground := Ground.phase }, { on := 8, ground := Ground.phase }, { on := 9, ground := Ground.phase }, { on := 10, ground := Ground.phase }, { on := 11, ground := (Ground.textOnly Departure.lateStores) }, { on := 12, ground := Ground.phase }, { on := 13, ground := Ground.phase }], guard := none } : Oper)) (v := ?_) rfl (by kernel_rfl) (by kernel_rfl) (by kernel_rfl) (fun _ _ _ h => h) (Or.inl ⟨by rfl, ?_⟩) (by assumption) ?_
                    rotate_left
                    · (intro w_ hSw; (try dsimp only at hSw); go_simp; try with_reducible rfl)
                    try simp only [Act.put, List.setIfInBounds_toArray, List.set_cons_zero, List.set_cons_succ]
                    refine wpAnyH_take (i := 15) (oi := ({ dst := (some 27), op := (Op.assign (Operand.tmp 125)), type := 3, pos := "law.go:57", after := #[{ on := 11, ground := Ground.data }, { on := 14, ground := Ground.chain }, { on := 0, ground := Ground.phase }, { on := 1, ground := Ground.phase }, { on := 2, ground := Ground.phase }, { on := 3, ground := Ground.phase }, { on := 4, ground := Ground.phase }, { on := 5, ground := Ground.phase }, { on := 6, ground := Ground.phase }, { on := 7, ground := Ground.phase }, { on := 8, ground := Ground.phase }, { on := 9, ground := Ground.phase }, { on := 10, ground := Ground.phase }, { on := 11, ground := Ground.phase }, { on := 12, ground := Ground.phase }, { on := 13, ground := Ground.phase }, { on := 14, ground := Ground.phase }], guard := none } : Oper)) (v := ?_) rfl (by kernel_rfl) (by kernel_rfl) (by kernel_rfl) (fun _ _ _ h => h) (Or.inl ⟨by rfl, ?_⟩) (by assumption) ?_
                    rotate_left
                    · (intro w_ hSw; (try dsimp only at hSw); go_simp; try with_reducible rfl)
                    try simp only [Act.put, List.setIfInBounds_toArray, List.set_cons_zero, List.set_cons_succ]
                    refine wpAnyH_done (by kernel_rfl) ?_ _
                    refine NoPanic.normal ?_
                    have hbt : Below w8.heap.size w8 w10 := bnext (bnext (Below.drew (bl_alloc (Below.refl _ _) _)) hb9) hb10
                    have hle : w8.heap.size ≤ w8.heap.size := (Nat.le_refl _)
                    have HP := Lib.hid (hp10.chg (chg_row (w := w10) (g := w8.heap.size) (.inr rfl) (rvs m2 (.slice aL2 L2.rows kL2) L2 (.slice aT2 m2.this.rows kT2) m2.this T)))
                    have HG : Hid (Blk (w10.setRow w8.heap.size (rvs m2 (.slice aL2 L2.rows kL2) L2 (.slice aT2 m2.this.rows kT2) m2.this T)) g2 42 (rvs m (.slice aL L.rows kL) L (.slice aT m.this.rows kT) m.this T)) := Lib.hid ((setRow_other w10 w8.heap.size g2 (rvs m2 (.slice aL2 L2.rows kL2) L2 (.slice aT2 m2.this.rows kT2) m2.this T) (Nat.ne_of_lt (Nat.lt_of_lt_of_le HG8.out.lt hle))).trans (HG8.out.next hbt))
                    have HB_ : Hid (Blk (w10.setRow w8.heap.size (rvs m2 (.slice aL2 L2.rows kL2) L2 (.slice aT2 m2.this.rows kT2) m2.this T)) rr 63 #[pv g, nv T]) := Lib.hid ((setRow_other w10 w8.heap.size rr (rvs m2 (.slice aL2 L2.rows kL2) L2 (.slice aT2 m2.this.rows kT2) m2.this T) (Nat.ne_of_lt (Nat.lt_of_lt_of_le HB8.out.lt hle))).trans (HB8.out.next hbt))
                    have HH := Lib.hid (hq.row (rvs m2 (.slice aL2 L2.rows kL2) L2 (.slice aT2 m2.this.rows kT2) m2.this T))
                    clear hle hbt HT8 HG8 HB8 hp_0 hp_1 hp_2 hp10 hb9 hb10 hS_ hq HC1 HKY hcell8 HC4
                    generalize w8.heap.size = g3 at *
                    generalize w10.setRow g3 _ = w11 at *
                    have hxe : ((er : Int) != er) = false := by simp
                    have hxa : ((ak : Int) != (ak : Int)) = false := by simp
                    have hnr := HNR.out
                    go_upto_region 21 with fail
                    apply wp_region_lit
                    refine wpList_load_mid rfl 42 (.tmp 25) rfl g3 0 rfl (rvs m2 (.slice aL2 L2.rows kL2) L2 (.slice aT2 m2.this.rows kT2) m2.this T).toList _ HH.out.range Try.underlying42 rfl (by kernel_rfl) ?_
                    refine wpList_store_row rfl 42 (.tmp 18) (.tmp 135) rfl g2 (rvs m2 (.slice aL2 L2.rows kL2) L2 (.slice aT2 m2.this.rows kT2) m2.this T) rfl rfl 42 _ HG.out (by kernel_rfl) rfl (by kernel_rfl) ?_
                    go_upto_region 22 with fail
                    have HPX := Lib.hid ((HP.out.chg (chg_row (w := w11) (g := g2) (Or.inl (Or.inr rfl)) (rvs m2 (.slice aL2 L2.rows kL2) L2 (.slice aT2 m2.this.rows kT2) m2.this T))).fewer (G' := fun q => q = rr ∨ q = g2) (fun q hq => .inl hq))
                    have HGX := Lib.hid (HG.out.row (rvs m2 (.slice aL2 L2.rows kL2) L2 (.slice aT2 m2.this.rows kT2) m2.this T))
                    have HBX : Hid (Blk (w11.setRow g2 (rvs m2 (.slice aL2 L2.rows kL2) L2 (.slice aT2 m2.this.rows kT2) m2.this T)) rr 63 #[pv g, nv T]) := Lib.hid ((setRow_other w11 g2 rr (rvs m2 (.slice aL2 L2.rows kL2) L2 (.slice aT2 m2.this.rows kT2) m2.this T) hnr).trans HB_.out)
                    generalize w11.setRow g2 _ = w20 at *
                    clear HP HG HH HB_ hnr hxe hxa
                    have c4 : w20.cell? ⟨g2, 4, none⟩ = some (.int .i64 (m2.now : Int)) := HGX.out.cell 4
                    have hnm2 := HPX.out.oks.2.1.nowm
                    go_wp2_with fail
                    go_roundw
                    case rel => exact ⟨k + 1, max n1 m2.now, _, L2, _, m2, by omega, by go_num, by go_num, by omega, HPX, HGX, HBX⟩
                    case measure => simp [intOf]; omega
                  exact AllReadyH.nil
                exact AllReadyH.nil
              exact AllReadyH.nil
            exact AllReadyH.nil
      · have hbw := HT.out.below
        go_wp2
        go_ret
        exact ⟨rfl, hbw⟩
end Go.Proofs.Ytjpfamminemegaa.Tele
