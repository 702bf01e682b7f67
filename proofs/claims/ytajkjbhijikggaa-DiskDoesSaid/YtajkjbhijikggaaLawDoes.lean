/- The walk of the law DiskDoes. No conditions. -/
import Derived.Test.YtajkjbhijikggaaSame14
import Derived.Deep.RegionWith
namespace Go.Proofs.Ytajkjbhijikggaa.Tele
open Go.RowKit Go.Proofs.YtajkjbhijikggaaW.PrintWords
set_option linter.unusedVariables false
set_option linter.unusedSimpArgs false

theorem TwRel.mono {fs : Fs} {k : Nat} (h : TwRel fs k) : TwRel fs (k + 1) := ⟨Nat.le_succ_of_le h.len, fun p hp => by have := h.big p hp; omega⟩
theorem TwRel.del {fs : Fs} {k : Nat} (h : TwRel fs k) (no : Int) : TwRel (fs.del no) k :=
  ⟨Nat.le_trans (List.length_filter_le _ _) h.len, fun p hp => h.big p (List.mem_filter.1 hp).1⟩
theorem cstep_rel (n m : Nat) : ∀ (l : Fs) (a : Fs × Nat), (∀ p ∈ l, p.2.bytes.length ≤ m) → a.1.length ≤ n → (∀ p ∈ a.1, p.2.bytes.length ≤ m) → (l.foldl Fs.cstep a).1.length ≤ n + l.length ∧ ∀ p ∈ (l.foldl Fs.cstep a).1, p.2.bytes.length ≤ m
  | [], a, _, h1, h2 => ⟨by simpa using h1, h2⟩
  | p :: r, a, h, h1, h2 => by
    rw [List.foldl_cons]
    have hp := h p List.mem_cons_self
    have h3 : (Fs.cstep a p).1.length ≤ n + 1 ∧ ∀ q ∈ (Fs.cstep a p).1, q.2.bytes.length ≤ m := by
      unfold Fs.cstep
      simp only
      split
      · exact ⟨by omega, h2⟩
      · refine ⟨by rw [List.length_append, List.length_singleton]; omega, fun q hq => ?_⟩
        rcases List.mem_append.1 hq with hq | hq
        · exact h2 q hq
        · rw [List.mem_singleton.1 hq]
          simp only [List.length_take]
          omega
    obtain ⟨h4, h5⟩ := cstep_rel (n + 1) m r _ (fun q hq => h q (List.mem_cons_of_mem _ hq)) h3.1 h3.2
    exact ⟨by rw [List.length_cons]; omega, h5⟩
theorem TwRel.crash {fs : Fs} {k : Nat} (h : TwRel fs k) (x : Nat) : TwRel (fs.crash x) k := by
  unfold Fs.crash Fs.crashI
  rw [List.take_length]
  obtain ⟨h1, h2⟩ := cstep_rel 0 (k * 8) fs ([], x) h.big (by simp) (fun p hp => by cases hp)
  exact ⟨by have := h.len; omega, h2⟩
theorem TwRel.writeK {fs : Fs} {k : Nat} (h : TwRel fs k) (no : Int) (bs : List UInt8) (hb : bs.length ≤ 8) : TwRel (fs.writeK no bs) (k + 1) := by
  unfold Fs.writeK
  split
  · exact h.write no bs hb
  · exact h.mono
theorem pair_start {w0 w : World} {d : Nat} (h : MineD true w0 w d []) : Pair w0 (w.alloc (.cells #[.slice none 0 0] 50)) d w.heap.size (.slice none 0 0) (.slice none 0 0) [] [] := by
  obtain ⟨O, h1, h2, h3⟩ := h
  have hO : ∀ j, O j → j < w.heap.size := by obtain ⟨b, m, F, V, hh⟩ := h2; exact hh.hO
  have hA := bl_alloc (Below.refl w.heap.size w) (.cells #[.slice none 0 0] 50)
  exact ⟨O, fun _ => False, h1, h2.next hA, bnext h3 hA, Kd.V_nil _ _ _ _ _, fun q hq => hq.elim, Blk.new w _ _, fun ho => by have := hO _ ho; omega, h3.size⟩
theorem u64_of_wf {x : Int} (h : (Lit.int .u64 x).wf = true) : 0 ≤ x ∧ x ≤ 18446744073709551615 := by simpa [Lit.wf, IntKind.min, IntKind.max, IntKind.bits, IntKind.signed] using h
theorem sOf {w W : World} {ad : Addr} {a0 a1 a2 a3 : Int} (h : HeldW w ad a0 a1 a2 a3 W) : W.cell? ⟨ad.block, ad.off + 2, none⟩ = some (.int .u8 a2) ∧ W.cell? ⟨ad.block, ad.off + 3, none⟩ = some (.int .u8 a3) := ⟨h.2.2.1, h.2.2.2.1⟩
set_option maxRecDepth 8000 in
set_option maxHeartbeats 8000000 in
theorem diskDoes_walk (ca : Option Addr) (len cap : Nat) (zs : Nat → Nat → Int) (da : Option Addr) (dlen dcap : Nat) (ds : List Int) (raw : Int) (w : World) (hc : DeedRow [.u8, .u8, .u8, .u8] w ca len cap zs) (hl : len * 4 ≤ 140737488351232) (hd : IntRow .u64 w da dlen dcap ds) (hdl : dlen * 8 ≤ 140737488351232) (hraw : (Lit.int .i64 raw).wf = true) :
    Calls Try.prog 8 #[.slice ca len cap, .slice da dlen dcap, .int .i64 raw] w fun e w' => e = .returned (.bool true) ∧ Below w.heap.size w w' := by
  have DN := Lib.hid (dnew w)
  have HR := Lib.hid hc
  obtain ⟨hdr, hdw⟩ := hd
  have HD := Lib.hid hdr
  have HDW := Lib.hid hdw
  have HRAW := Lib.hid hraw
  obtain ⟨hr0, hr1⟩ := i64_of_wf hraw
  have hl9 : (len : Int) ≤ 140737488351232 := by omega
  have hdl9 : (dlen : Int) ≤ 140737488351232 := by omega
  clear hc hl hdr hdw hraw hdl
  by_cases hlen : 80 < (len : Int)
  · go_enter Try.func8, Try.ntmps8
    go_wp2_with fail
    refine DN.out.mono ?_
    rintro e w1 ⟨dd, rfl, hM⟩
    have HM := Lib.hid hM
    clear hM
    go_wp2_with fail
    refine (known_calls _).mono ?_
    rintro e w2 ⟨rfl, hb⟩
    go_wp2
    go_ret
    exact ⟨rfl, (HM.out.next hb).below⟩
  · go_enter Try.func8, Try.ntmps8
    go_wp2_with fail
    refine DN.out.mono ?_
    rintro e w1 ⟨dd, rfl, hM⟩
    have HM := Lib.hid hM
    clear hM
    go_wp2_with fail
    refine (known_calls _).mono ?_
    rintro e w2 ⟨rfl, hb⟩
    have HP := Lib.hid (pair_start (HM.out.next hb))
    clear hb HM
    go_wp2_with fail
    generalize w2.heap.size = g at *
    generalize w2.alloc (.cells #[.slice none 0 0] 50) = w3 at *
    go_loopw [7, 9] (fun dv i wr => ∃ (k dd : Nat) (v : Value) (fs : Fs), k ≤ len ∧ i = .int .i64 (k : Int) ∧ dv = .pointer (some ⟨dd, 0, none⟩) ∧ Hid (Pair w wr dd g v v fs fs) ∧ Hid (TwRel fs k)) (fun _ i _ => len - (intOf i).toNat)
    case atStart => exact ⟨0, dd, _, [], by omega, rfl, rfl, HP, Lib.hid ⟨by simp, by simp⟩⟩
    case round =>
      clear HP
      obtain ⟨k, dd, v, fs, hk, rfl, rfl, HT, HN⟩ := hrel
      by_cases hlt : (k : Int) < (len : Int)
      · have hrow := DeedRow.below HR.out HT.out.below
        have hix := fun W => hrow.index Try.prog 39 41 Try.underlying39 (by kernel_rfl) k (by omega) W
        have hS := heldW_of HR.out k (by omega) HT.out.below
        have HS := Lib.hid fun W hb => heldW_of (W := W) HR.out k (by omega) hb
        obtain ⟨p0, q0⟩ := u8_of_wf (hrow.field k (by omega) 0 _ rfl).2
        obtain ⟨p1, q1⟩ := u8_of_wf (hrow.field k (by omega) 1 _ rfl).2
        obtain ⟨p2, q2⟩ := u8_of_wf (hrow.field k (by omega) 2 _ rfl).2
        obtain ⟨p3, q3⟩ := u8_of_wf (hrow.field k (by omega) 3 _ rfl).2
        obtain ⟨z0, e0⟩ : ∃ z : Nat, zs k 0 = (z : Int) := ⟨(zs k 0).toNat, by omega⟩
        obtain ⟨z1, e1⟩ : ∃ z : Nat, zs k 1 = (z : Int) := ⟨(zs k 1).toNat, by omega⟩
        obtain ⟨z2, e2⟩ : ∃ z : Nat, zs k 2 = (z : Int) := ⟨(zs k 2).toNat, by omega⟩
        obtain ⟨z3, e3⟩ : ∃ z : Nat, zs k 3 = (z : Int) := ⟨(zs k 3).toNat, by omega⟩
        rw [e0, e1, e2, e3] at hS HS
        rw [e0] at p0 q0
        rw [e1] at p1 q1
        rw [e2] at p2 q2
        rw [e3] at p3 q3
        generalize adr ca (k * [IntKind.u8, .u8, .u8, .u8].length) = ad at *
        clear e0 e1 e2 e3 hrow
        have hr2 : (z1 : Int) % 4 = ((z1 % 4 : Nat) : Int) := by omega
        have hno4 : z1 % 4 < 4 := Nat.mod_lt _ (by omega)
        generalize z1 % 4 = nm at *
        have hwno : IntKind.i64.wrap (nm : Int) = (nm : Int) := IntWalk.i64_in _ (by omega)
        obtain ⟨rr, hrr⟩ : ∃ rr : Nat, rr = z0 % 7 := ⟨_, rfl⟩
        have hr7 : (z0 : Int) % 7 = (rr : Int) := by omega
        have hrl : rr < 7 := by omega
        clear hrr
        by_cases hz : (250 : Int) < (z1 : Int)
        · have HWN : Hid ((Lit.int .i64 raw).wf = true) := HRAW
          match rr, hrl with
          | 0, _ =>
            as_aux_lemma =>
              go_upto_region 11 with fail
              obtain ⟨bs, hbs⟩ : ∃ bs, bs = bytesM z2 z3 := ⟨_, rfl⟩
              have hbl : bs.length ≤ 8 := by rw [hbs, bytesM_len]; omega
              have HBY := Lib.hid fun W => bytes_calls z2 z3 W (by omega) (by omega)
              rw [← hbs] at HBY
              obtain ⟨E, hE⟩ : ∃ E : Int, E = wErr raw := ⟨_, rfl⟩
              have hEb : 0 ≤ E ∧ E ≤ 71 := by rw [hE]; first | (split <;> omega) | (unfold wErr; split <;> omega)
              obtain ⟨hE0, hE1⟩ := hEb
              have hEE : (E != E) = false := by simp
              have hEw : IntKind.i64.wrap E = E := IntWalk.i64_in _ (by omega)
              have HN2 := Lib.hid (HN.out.writeK raw bs hbl)
              have HSO := Lib.hid HT.out.sorted
              have hz8 : (((fs.get raw).map (·.bytes)).getD []).length + bs.length ≤ 1000000 := by have := Fs.get_big HN.out.big raw; omega
              have hln := HN.out.len
              have HB2 : Hid (∀ W, Below wr.heap.size wr W → Calls Try.prog 17 #[.int .u8 (z2 : Int), .int .u8 (z3 : Int)] W fun e w' => ∃ v5, e = .returned v5 ∧ HeldW w ad (z0 : Int) (z1 : Int) (z2 : Int) (z3 : Int) w' ∧ Calls Try.prog 11 #[.pointer (some ⟨dd, 0, none⟩), .int .i64 raw, v5] w' fun e w' => e = .returned (.int .u16 E) ∧ Pair w w' dd g v v (fs.writeK raw bs) fs ∧ HeldW w ad (z0 : Int) (z1 : Int) (z2 : Int) (z3 : Int) w') := Lib.hid fun W hW => by
                refine (HBY.out W).mono ?_
                rintro e w5 ⟨v5, rfl, hb5, ho5⟩
                have hm := HT.out.next hW
                refine ⟨v5, rfl, HS.out _ (hm.next hb5).below, (pwrite raw hm hb5 ho5 (by omega) hz8).mono ?_⟩
                rintro e w6 ⟨rfl, hm6⟩
                exact ⟨by rw [hE], hm6, HS.out _ hm6.below⟩
              have HB3 : Hid (∀ w6, Pair w w6 dd g v v (fs.writeK raw bs) fs → ∀ W, Below w6.heap.size w6 W → Calls Try.prog 17 #[.int .u8 (z2 : Int), .int .u8 (z3 : Int)] W fun e w' => ∃ v5, e = .returned v5 ∧ HeldW w ad (z0 : Int) (z1 : Int) (z2 : Int) (z3 : Int) w' ∧ w'.cell? ⟨g, 0, none⟩ = some v ∧ Calls Try.prog 20 #[.agg #[v], .int .i64 raw, v5] w' fun e w' => ∃ v', e = .returned (.tuple #[.agg #[v'], .int .i64 E]) ∧ Pair w w' dd g v v' (fs.writeK raw bs) (fs.writeK raw bs)) := Lib.hid fun w6 h6 W hW => by
                refine (HBY.out W).mono ?_
                rintro e w5 ⟨v5, rfl, hb5, ho5⟩
                have hm := h6.next hW
                refine ⟨v5, rfl, HS.out _ (hm.next hb5).below, (hm.next hb5).cell.1, (prwrite raw hm HSO.out hb5 ho5 (by omega) hz8).mono ?_⟩
                rintro e w8 ⟨v', rfl, hm8⟩
                exact ⟨v', by rw [hE], hm8⟩
              clear hE hbs hz8
              go_wp2_with fail
              go_region_held3 (fun W => W.cell? ad = some (.int .u8 (z0 : Int)) ∧ W.cell? ⟨ad.block, ad.off + 1, none⟩ = some (.int .u8 (z1 : Int)) ∧ W.cell? ⟨ad.block, ad.off + 2, none⟩ = some (.int .u8 (z2 : Int)) ∧ W.cell? ⟨ad.block, ad.off + 3, none⟩ = some (.int .u8 (z3 : Int)) ∧ Below w.heap.size w W)
                (first | assumption | exact HS.out _ (pw_below_drewN HT.out.below _) | exact HS.out _ (Below.drew HT.out.below) | go_keep)
                (first | (go_at_call 17; (with_reducible refine (HB2.out _ (by repeat (first | exact Below.refl _ _ | refine pw_below_drewN ?_ _ | refine Below.drew ?_))).mono ?_); rintro e w5 ⟨v5, rfl, hs5, hw5⟩) | (go_at_call 11; (with_reducible refine hw5.mono ?_); rintro e w6 ⟨rfl, hm6, hs6⟩))
              have HM6 := Lib.hid hm6
              obtain ⟨c0, c1, c2, c3, _⟩ := hs6
              have hc6 := hm6.cell.1
              have HB4 := Lib.hid (HB3.out w6 hm6)
              obtain ⟨fs2, hfs2⟩ : ∃ fs2, fs2 = fs.writeK raw bs := ⟨_, rfl⟩
              rw [← hfs2] at HM6 HN2 HB4
              clear hm6 hfs2 hS hs5 hw5 HBY HB2 HB3 HN
              go_wp2_with fail
              refine wp_region_noPanic ?_
              refine wp_region_held_drew (S := fun W => W.cell? ⟨ad.block, ad.off + 2, none⟩ = some (.int .u8 (z2 : Int)) ∧ W.cell? ⟨ad.block, ad.off + 3, none⟩ = some (.int .u8 (z3 : Int))) (by kernel_rfl) (by exact sOf (HS.out _ (Below.drew HM6.out.below))) (fun hS_ => ?_)
              refine wpAnyH_take (i := 1) (oi := ({ dst := (some 88), op := (Op.move (Operand.tmp 10)), type := 3, pos := "law.go:72", after := #[], guard := none } : Oper)) (v := ?_) rfl (by kernel_rfl) (by kernel_rfl) (by kernel_rfl) (fun _ _ _ h => h) (Or.inl ⟨by rfl, ?_⟩) (by assumption) ?_
              rotate_left
              · (intro w_ hSw; (try dsimp only at hSw); go_simp; try with_reducible rfl)
              try simp only [Act.put, List.setIfInBounds_toArray, List.set_cons_zero, List.set_cons_succ]
              refine wpAnyH_take (i := 2) (oi := ({ dst := (some 89), op := (Op.move (Operand.tmp 0)), type := 39, pos := "law.go:72", after := #[], guard := none } : Oper)) (v := ?_) rfl (by kernel_rfl) (by kernel_rfl) (by kernel_rfl) (fun _ _ _ h => h) (Or.inl ⟨by rfl, ?_⟩) (by assumption) ?_
              rotate_left
              · (intro w_ hSw; (try dsimp only at hSw); go_simp; try with_reducible rfl)
              try simp only [Act.put, List.setIfInBounds_toArray, List.set_cons_zero, List.set_cons_succ]
              refine wpAnyH_take (i := 3) (oi := ({ dst := (some 90), op := (Op.move (Operand.tmp 9)), type := 3, pos := "law.go:72", after := #[], guard := none } : Oper)) (v := ?_) rfl (by kernel_rfl) (by kernel_rfl) (by kernel_rfl) (fun _ _ _ h => h) (Or.inl ⟨by rfl, ?_⟩) (by assumption) ?_
              rotate_left
              · (intro w_ hSw; (try dsimp only at hSw); go_simp; try with_reducible rfl)
              try simp only [Act.put, List.setIfInBounds_toArray, List.set_cons_zero, List.set_cons_succ]
              refine wpAnyH_take (i := 4) (oi := ({ dst := (some 91), op := (Op.indexAddr 39 (Operand.tmp 89) (Operand.tmp 90)), type := 0, pos := "law.go:72", after := #[{ on := 2, ground := Ground.data }, { on := 3, ground := Ground.data }], guard := none } : Oper)) (v := ?_) rfl (by kernel_rfl) (by kernel_rfl) (by kernel_rfl) (fun _ _ _ h => h) (Or.inl ⟨by rfl, ?_⟩) (by assumption) ?_
              rotate_left
              · (intro w_ hSw; (try dsimp only at hSw); go_simp; try with_reducible rfl)
              try simp only [Act.put, List.setIfInBounds_toArray, List.set_cons_zero, List.set_cons_succ]
              refine wpAnyH_take (i := 5) (oi := ({ dst := (some 92), op := (Op.fieldAddr 41 (Operand.tmp 91) 2), type := 0, pos := "law.go:72", after := #[{ on := 4, ground := Ground.data }], guard := none } : Oper)) (v := ?_) rfl (by kernel_rfl) (by kernel_rfl) (by kernel_rfl) (fun _ _ _ h => h) (Or.inl ⟨by rfl, ?_⟩) (by assumption) ?_
              rotate_left
              · (intro w_ hSw; (try dsimp only at hSw); go_simp; try with_reducible rfl)
              try simp only [Act.put, List.setIfInBounds_toArray, List.set_cons_zero, List.set_cons_succ]
              refine wpAnyH_take (i := 6) (oi := ({ dst := (some 93), op := (Op.load 5 (Operand.tmp 92)), type := 5, pos := "law.go:72", after := #[{ on := 5, ground := Ground.data }], guard := none } : Oper)) (v := ?_) rfl (by kernel_rfl) (by kernel_rfl) (by kernel_rfl) (fun _ _ _ h => h) (Or.inl ⟨by rfl, ?_⟩) (by assumption) ?_
              rotate_left
              · (intro w_ hSw; (try dsimp only at hSw); go_simp; try with_reducible rfl)
              try simp only [Act.put, List.setIfInBounds_toArray, List.set_cons_zero, List.set_cons_succ]
              refine wpAnyH_take (i := 7) (oi := ({ dst := (some 94), op := (Op.move (Operand.tmp 0)), type := 39, pos := "law.go:72", after := #[], guard := none } : Oper)) (v := ?_) rfl (by kernel_rfl) (by kernel_rfl) (by kernel_rfl) (fun _ _ _ h => h) (Or.inl ⟨by rfl, ?_⟩) (by assumption) ?_
              rotate_left
              · (intro w_ hSw; (try dsimp only at hSw); go_simp; try with_reducible rfl)
              try simp only [Act.put, List.setIfInBounds_toArray, List.set_cons_zero, List.set_cons_succ]
              refine wpAnyH_take (i := 8) (oi := ({ dst := (some 95), op := (Op.move (Operand.tmp 9)), type := 3, pos := "law.go:72", after := #[], guard := none } : Oper)) (v := ?_) rfl (by kernel_rfl) (by kernel_rfl) (by kernel_rfl) (fun _ _ _ h => h) (Or.inl ⟨by rfl, ?_⟩) (by assumption) ?_
              rotate_left
              · (intro w_ hSw; (try dsimp only at hSw); go_simp; try with_reducible rfl)
              try simp only [Act.put, List.setIfInBounds_toArray, List.set_cons_zero, List.set_cons_succ]
              refine wpAnyH_take (i := 9) (oi := ({ dst := (some 96), op := (Op.indexAddr 39 (Operand.tmp 94) (Operand.tmp 95)), type := 0, pos := "law.go:72", after := #[{ on := 7, ground := Ground.data }, { on := 8, ground := Ground.data }], guard := none } : Oper)) (v := ?_) rfl (by kernel_rfl) (by kernel_rfl) (by kernel_rfl) (fun _ _ _ h => h) (Or.inl ⟨by rfl, ?_⟩) (by assumption) ?_
              rotate_left
              · (intro w_ hSw; (try dsimp only at hSw); go_simp; try with_reducible rfl)
              try simp only [Act.put, List.setIfInBounds_toArray, List.set_cons_zero, List.set_cons_succ]
              refine wpAnyH_take (i := 10) (oi := ({ dst := (some 97), op := (Op.fieldAddr 41 (Operand.tmp 96) 3), type := 0, pos := "law.go:72", after := #[{ on := 9, ground := Ground.data }], guard := none } : Oper)) (v := ?_) rfl (by kernel_rfl) (by kernel_rfl) (by kernel_rfl) (fun _ _ _ h => h) (Or.inl ⟨by rfl, ?_⟩) (by assumption) ?_
              rotate_left
              · (intro w_ hSw; (try dsimp only at hSw); go_simp; try with_reducible rfl)
              try simp only [Act.put, List.setIfInBounds_toArray, List.set_cons_zero, List.set_cons_succ]
              refine wpAnyH_take (i := 11) (oi := ({ dst := (some 98), op := (Op.load 5 (Operand.tmp 97)), type := 5, pos := "law.go:72", after := #[{ on := 10, ground := Ground.data }], guard := none } : Oper)) (v := ?_) rfl (by kernel_rfl) (by kernel_rfl) (by kernel_rfl) (fun _ _ _ h => h) (Or.inl ⟨by rfl, ?_⟩) (by assumption) ?_
              rotate_left
              · (intro w_ hSw; (try dsimp only at hSw); go_simp; try with_reducible rfl)
              try simp only [Act.put, List.setIfInBounds_toArray, List.set_cons_zero, List.set_cons_succ]
              refine wpAnyH_ready (rs := [0, 12]) (by kernel_rfl) (by simp) ?_
              refine AllReadyH.cons (o := ({ dst := (some 87), op := (Op.load 50 (Operand.tmp 8)), type := 50, pos := "law.go:72", after := #[], guard := none } : Oper)) rfl (fun K hK => ?_) ?_
              · go_simp
                refine hK.out _ _ (by first | exact hS_ | exact sOf hs7 | exact sOf (HS.out _ hm8.below) | exact sOf (HS.out _ (Pair.store hm8).below)) (fun hS_ => ?_)
                clear hK K
                try simp only [Act.put, List.setIfInBounds_toArray, List.set_cons_zero, List.set_cons_succ]
                refine wpAnyH_ready (rs := [12]) (by kernel_rfl) (by simp) ?_
                refine AllReadyH.cons (o := ({ dst := (some 99), op := (Op.call { callee := (Callee.value (Operand.func 17)), args := #[(Operand.tmp 93), (Operand.tmp 98)], argTypes := #[5, 5] }), type := 22, pos := "law.go:72", after := #[{ on := 6, ground := Ground.data }, { on := 11, ground := Ground.data }], guard := none } : Oper)) rfl (fun K hK => ?_) ?_
                · go_simp
                  refine (HB4.out _ (by repeat (first | exact Below.refl _ _ | refine pw_below_drewN ?_ _ | refine Below.drew ?_))).mono ?_
                  rintro e w7 ⟨v7, rfl, hs7, hc7, hw7⟩
                  refine hK.out _ _ (by first | exact hS_ | exact sOf hs7 | exact sOf (HS.out _ hm8.below) | exact sOf (HS.out _ (Pair.store hm8).below)) (fun hS_ => ?_)
                  clear hK K
                  try simp only [Act.put, List.setIfInBounds_toArray, List.set_cons_zero, List.set_cons_succ]
                  refine wpAnyH_ready (rs := [13]) (by kernel_rfl) (by simp) ?_
                  refine AllReadyH.cons (o := ({ dst := (some 100), op := (Op.call { callee := (Callee.value (Operand.func 20)), args := #[(Operand.tmp 87), (Operand.tmp 88), (Operand.tmp 99)], argTypes := #[50, 3, 22] }), type := 51, pos := "law.go:72", after := #[{ on := 0, ground := Ground.data }, { on := 1, ground := Ground.data }, { on := 12, ground := Ground.data }, { on := 12, ground := Ground.chain }], guard := none } : Oper)) rfl (fun K hK => ?_) ?_
                  · go_simp
                    refine hw7.mono ?_
                    rintro e w8 ⟨v8, rfl, hm8⟩
                    obtain ⟨a8, c8, rfl⟩ := hm8.slice
                    obtain ⟨hc8, hz8⟩ := hm8.cell
                    refine hK.out _ _ (by first | exact hS_ | exact sOf hs7 | exact sOf (HS.out _ hm8.below) | exact sOf (HS.out _ (Pair.store hm8).below)) (fun hS_ => ?_)
                    clear hK K
                    try simp only [Act.put, List.setIfInBounds_toArray, List.set_cons_zero, List.set_cons_succ]
                    refine wpAnyH_take (i := 14) (oi := ({ dst := (some 86), op := (Op.move (Operand.tmp 100)), type := 51, pos := "law.go:72", after := #[{ on := 13, ground := Ground.data }], guard := none } : Oper)) (v := ?_) rfl (by kernel_rfl) (by kernel_rfl) (by kernel_rfl) (fun _ _ _ h => h) (Or.inl ⟨by rfl, ?_⟩) (by assumption) ?_
                    rotate_left
                    · (intro w_ hSw; (try dsimp only at hSw); go_simp; try with_reducible rfl)
                    try simp only [Act.put, List.setIfInBounds_toArray, List.set_cons_zero, List.set_cons_succ]
                    refine wpAnyH_take (i := 15) (oi := ({ dst := (some 101), op := (Op.extract (Operand.tmp 86) 0), type := 50, pos := "law.go:72", after := #[{ on := 14, ground := Ground.data }], guard := none } : Oper)) (v := ?_) rfl (by kernel_rfl) (by kernel_rfl) (by kernel_rfl) (fun _ _ _ h => h) (Or.inl ⟨by rfl, ?_⟩) (by assumption) ?_
                    rotate_left
                    · (intro w_ hSw; (try dsimp only at hSw); go_simp; try with_reducible rfl)
                    try simp only [Act.put, List.setIfInBounds_toArray, List.set_cons_zero, List.set_cons_succ]
                    refine wpAnyH_take (i := 16) (oi := ({ dst := (some 102), op := (Op.extract (Operand.tmp 86) 1), type := 3, pos := "law.go:72", after := #[{ on := 14, ground := Ground.data }, { on := 17, ground := (Ground.gcOnly Departure.lateStores) }], guard := none } : Oper)) (v := ?_) rfl (by kernel_rfl) (by kernel_rfl) (by kernel_rfl) (fun _ _ _ h => h) (Or.inl ⟨by rfl, ?_⟩) (by assumption) ?_
                    rotate_left
                    · (intro w_ hSw; (try dsimp only at hSw); go_simp; try with_reducible rfl)
                    try simp only [Act.put, List.setIfInBounds_toArray, List.set_cons_zero, List.set_cons_succ]
                    refine wpAnyH_ready (rs := [17]) (by kernel_rfl) (by simp) ?_
                    refine AllReadyH.cons (o := ({ dst := none, op := (Op.store 50 (Operand.tmp 8) (Operand.tmp 101)), type := 0, pos := "law.go:72", after := #[{ on := 15, ground := Ground.data }, { on := 13, ground := Ground.chain }, { on := 0, ground := Ground.phase }, { on := 1, ground := Ground.phase }, { on := 2, ground := Ground.phase }, { on := 3, ground := Ground.phase }, { on := 4, ground := Ground.phase }, { on := 5, ground := Ground.phase }, { on := 6, ground := Ground.phase }, { on := 7, ground := Ground.phase }, { on := 8, ground := Ground.phase }, { on := 9, ground := Ground.phase }, { on := 10, ground := Ground.phase }, { on := 11, ground := Ground.phase }, { on := 12, ground := Ground.phase }, { on := 13, ground := Ground.phase }, { on := 14, ground := Ground.phase }, { on := 15, ground := Ground.phase }, { on := 16, ground := (Ground.textOnly Departure.lateStores) }], guard := none } : Oper)) rfl (fun K hK => ?_) ?_
                    · go_simp
                      refine hK.out _ _ (by first | exact hS_ | exact sOf hs7 | exact sOf (HS.out _ hm8.below) | exact sOf (HS.out _ (Pair.store hm8).below)) (fun hS_ => ?_)
                      clear hK K
                      try simp only [Act.put, List.setIfInBounds_toArray, List.set_cons_zero, List.set_cons_succ]
                      refine wpAnyH_take (i := 18) (oi := ({ dst := (some 11), op := (Op.assign (Operand.tmp 102)), type := 3, pos := "law.go:72", after := #[{ on := 16, ground := Ground.data }, { on := 17, ground := Ground.chain }, { on := 0, ground := Ground.phase }, { on := 1, ground := Ground.phase }, { on := 2, ground := Ground.phase }, { on := 3, ground := Ground.phase }, { on := 4, ground := Ground.phase }, { on := 5, ground := Ground.phase }, { on := 6, ground := Ground.phase }, { on := 7, ground := Ground.phase }, { on := 8, ground := Ground.phase }, { on := 9, ground := Ground.phase }, { on := 10, ground := Ground.phase }, { on := 11, ground := Ground.phase }, { on := 12, ground := Ground.phase }, { on := 13, ground := Ground.phase }, { on := 14, ground := Ground.phase }, { on := 15, ground := Ground.phase }, { on := 16, ground := Ground.phase }, { on := 17, ground := Ground.phase }], guard := none } : Oper)) (v := ?_) rfl (by kernel_rfl) (by kernel_rfl) (by kernel_rfl) (fun _ _ _ h => h) (Or.inl ⟨by rfl, ?_⟩) (by assumption) ?_
                      rotate_left
                      · (intro w_ hSw; (try dsimp only at hSw); go_simp; try with_reducible rfl)
                      try simp only [Act.put, List.setIfInBounds_toArray, List.set_cons_zero, List.set_cons_succ]
                      refine wpAnyH_done (by kernel_rfl) ?_ _
                      refine NoPanic.normal ?_
                      have HPX := Lib.hid (Pair.store hm8)
                      clear hm8 hs7 hc7 hw7 HB4 HM6 c0 c1 c2 c3 hc6
                      have HSA := Lib.hid (psame HPX.out (by have := HN2.out.len; omega))
                      clear HPX
                      go_wp2_with fail
                      refine HSA.out.mono ?_
                      rintro e w20 ⟨rfl, hp20⟩
                      have HRD := Lib.hid (pread raw hp20 HRAW.out)
                      clear hp20 HSA
                      go_wp2_with fail
                      refine HRD.out.mono ?_
                      rintro e w21 ⟨⟨a21, n21, c21, rfl⟩, hp21⟩
                      have hc21 := hp21.cell
                      obtain ⟨hc21a, hc21b⟩ := hc21
                      have HRR := Lib.hid (prread raw hp21 (by have := HN2.out.len; omega))
                      obtain ⟨a22, c22, hv22⟩ := hp21.slice
                      obtain ⟨G, hG⟩ : ∃ G : Int, G = (if (Fs.get fs2 raw).isSome = true then 0 else 71) := ⟨_, rfl⟩
                      have hGb : 0 ≤ G ∧ G ≤ 71 := by rw [hG]; split <;> omega
                      obtain ⟨hG0, hG1⟩ := hGb
                      rw [← hG] at HRR ⊢
                      have hGG : (G != G) = false := by simp
                      have hGw : IntKind.i64.wrap G = G := IntWalk.i64_in _ (by omega)
                      clear hp21 HRD hG hv22
                      go_wp2_with fail
                      refine HRR.out.mono ?_
                      rintro e w22 ⟨⟨u22, rfl⟩, hp22⟩
                      have HP22 := Lib.hid hp22
                      clear hp22 HRR hc21a hc21b
                      go_wp2_with fail
                      go_roundw
                      case rel => exact ⟨k + 1, dd, _, fs2, by omega, by go_num, rfl, HP22, HN2⟩
                      case measure => simp [intOf]; omega
                    exact AllReadyH.nil
                  exact AllReadyH.nil
                exact AllReadyH.nil
              refine AllReadyH.cons (o := ({ dst := (some 99), op := (Op.call { callee := (Callee.value (Operand.func 17)), args := #[(Operand.tmp 93), (Operand.tmp 98)], argTypes := #[5, 5] }), type := 22, pos := "law.go:72", after := #[{ on := 6, ground := Ground.data }, { on := 11, ground := Ground.data }], guard := none } : Oper)) rfl (fun K hK => ?_) ?_
              · go_simp
                refine (HB4.out _ (by repeat (first | exact Below.refl _ _ | refine pw_below_drewN ?_ _ | refine Below.drew ?_))).mono ?_
                rintro e w7 ⟨v7, rfl, hs7, hc7, hw7⟩
                refine hK.out _ _ (by first | exact hS_ | exact sOf hs7 | exact sOf (HS.out _ hm8.below) | exact sOf (HS.out _ (Pair.store hm8).below)) (fun hS_ => ?_)
                clear hK K
                try simp only [Act.put, List.setIfInBounds_toArray, List.set_cons_zero, List.set_cons_succ]
                refine wpAnyH_ready (rs := [0]) (by kernel_rfl) (by simp) ?_
                refine AllReadyH.cons (o := ({ dst := (some 87), op := (Op.load 50 (Operand.tmp 8)), type := 50, pos := "law.go:72", after := #[], guard := none } : Oper)) rfl (fun K hK => ?_) ?_
                · go_simp
                  refine hK.out _ _ (by first | exact hS_ | exact sOf hs7 | exact sOf (HS.out _ hm8.below) | exact sOf (HS.out _ (Pair.store hm8).below)) (fun hS_ => ?_)
                  clear hK K
                  try simp only [Act.put, List.setIfInBounds_toArray, List.set_cons_zero, List.set_cons_succ]
                  refine wpAnyH_ready (rs := [13]) (by kernel_rfl) (by simp) ?_
                  refine AllReadyH.cons (o := ({ dst := (some 100), op := (Op.call { callee := (Callee.value (Operand.func 20)), args := #[(Operand.tmp 87), (Operand.tmp 88), (Operand.tmp 99)], argTypes := #[50, 3, 22] }), type := 51, pos := "law.go:72", after := #[{ on := 0, ground := Ground.data }, { on := 1, ground := Ground.data }, { on := 12, ground := Ground.data }, { on := 12, ground := Ground.chain }], guard := none } : Oper)) rfl (fun K hK => ?_) ?_
                  · go_simp
                    refine hw7.mono ?_
                    rintro e w8 ⟨v8, rfl, hm8⟩
                    obtain ⟨a8, c8, rfl⟩ := hm8.slice
                    obtain ⟨hc8, hz8⟩ := hm8.cell
                    refine hK.out _ _ (by first | exact hS_ | exact sOf hs7 | exact sOf (HS.out _ hm8.below) | exact sOf (HS.out _ (Pair.store hm8).below)) (fun hS_ => ?_)
                    clear hK K
                    try simp only [Act.put, List.setIfInBounds_toArray, List.set_cons_zero, List.set_cons_succ]
                    refine wpAnyH_take (i := 14) (oi := ({ dst := (some 86), op := (Op.move (Operand.tmp 100)), type := 51, pos := "law.go:72", after := #[{ on := 13, ground := Ground.data }], guard := none } : Oper)) (v := ?_) rfl (by kernel_rfl) (by kernel_rfl) (by kernel_rfl) (fun _ _ _ h => h) (Or.inl ⟨by rfl, ?_⟩) (by assumption) ?_
                    rotate_left
                    · (intro w_ hSw; (try dsimp only at hSw); go_simp; try with_reducible rfl)
                    try simp only [Act.put, List.setIfInBounds_toArray, List.set_cons_zero, List.set_cons_succ]
                    refine wpAnyH_take (i := 15) (oi := ({ dst := (some 101), op := (Op.extract (Operand.tmp 86) 0), type := 50, pos := "law.go:72", after := #[{ on := 14, ground := Ground.data }], guard := none } : Oper)) (v := ?_) rfl (by kernel_rfl) (by kernel_rfl) (by kernel_rfl) (fun _ _ _ h => h) (Or.inl ⟨by rfl, ?_⟩) (by assumption) ?_
                    rotate_left
                    · (intro w_ hSw; (try dsimp only at hSw); go_simp; try with_reducible rfl)
                    try simp only [Act.put, List.setIfInBounds_toArray, List.set_cons_zero, List.set_cons_succ]
                    refine wpAnyH_take (i := 16) (oi := ({ dst := (some 102), op := (Op.extract (Operand.tmp 86) 1), type := 3, pos := "law.go:72", after := #[{ on := 14, ground := Ground.data }, { on := 17, ground := (Ground.gcOnly Departure.lateStores) }], guard := none } : Oper)) (v := ?_) rfl (by kernel_rfl) (by kernel_rfl) (by kernel_rfl) (fun _ _ _ h => h) (Or.inl ⟨by rfl, ?_⟩) (by assumption) ?_
                    rotate_left
                    · (intro w_ hSw; (try dsimp only at hSw); go_simp; try with_reducible rfl)
                    try simp only [Act.put, List.setIfInBounds_toArray, List.set_cons_zero, List.set_cons_succ]
                    refine wpAnyH_ready (rs := [17]) (by kernel_rfl) (by simp) ?_
                    refine AllReadyH.cons (o := ({ dst := none, op := (Op.store 50 (Operand.tmp 8) (Operand.tmp 101)), type := 0, pos := "law.go:72", after := #[{ on := 15, ground := Ground.data }, { on := 13, ground := Ground.chain }, { on := 0, ground := Ground.phase }, { on := 1, ground := Ground.phase }, { on := 2, ground := Ground.phase }, { on := 3, ground := Ground.phase }, { on := 4, ground := Ground.phase }, { on := 5, ground := Ground.phase }, { on := 6, ground := Ground.phase }, { on := 7, ground := Ground.phase }, { on := 8, ground := Ground.phase }, { on := 9, ground := Ground.phase }, { on := 10, ground := Ground.phase }, { on := 11, ground := Ground.phase }, { on := 12, ground := Ground.phase }, { on := 13, ground := Ground.phase }, { on := 14, ground := Ground.phase }, { on := 15, ground := Ground.phase }, { on := 16, ground := (Ground.textOnly Departure.lateStores) }], guard := none } : Oper)) rfl (fun K hK => ?_) ?_
                    · go_simp
                      refine hK.out _ _ (by first | exact hS_ | exact sOf hs7 | exact sOf (HS.out _ hm8.below) | exact sOf (HS.out _ (Pair.store hm8).below)) (fun hS_ => ?_)
                      clear hK K
                      try simp only [Act.put, List.setIfInBounds_toArray, List.set_cons_zero, List.set_cons_succ]
                      refine wpAnyH_take (i := 18) (oi := ({ dst := (some 11), op := (Op.assign (Operand.tmp 102)), type := 3, pos := "law.go:72", after := #[{ on := 16, ground := Ground.data }, { on := 17, ground := Ground.chain }, { on := 0, ground := Ground.phase }, { on := 1, ground := Ground.phase }, { on := 2, ground := Ground.phase }, { on := 3, ground := Ground.phase }, { on := 4, ground := Ground.phase }, { on := 5, ground := Ground.phase }, { on := 6, ground := Ground.phase }, { on := 7, ground := Ground.phase }, { on := 8, ground := Ground.phase }, { on := 9, ground := Ground.phase }, { on := 10, ground := Ground.phase }, { on := 11, ground := Ground.phase }, { on := 12, ground := Ground.phase }, { on := 13, ground := Ground.phase }, { on := 14, ground := Ground.phase }, { on := 15, ground := Ground.phase }, { on := 16, ground := Ground.phase }, { on := 17, ground := Ground.phase }], guard := none } : Oper)) (v := ?_) rfl (by kernel_rfl) (by kernel_rfl) (by kernel_rfl) (fun _ _ _ h => h) (Or.inl ⟨by rfl, ?_⟩) (by assumption) ?_
                      rotate_left
                      · (intro w_ hSw; (try dsimp only at hSw); go_simp; try with_reducible rfl)
                      try simp only [Act.put, List.setIfInBounds_toArray, List.set_cons_zero, List.set_cons_succ]
                      refine wpAnyH_done (by kernel_rfl) ?_ _
                      refine NoPanic.normal ?_
                      have HPX := Lib.hid (Pair.store hm8)
                      clear hm8 hs7 hc7 hw7 HB4 HM6 c0 c1 c2 c3 hc6
                      have HSA := Lib.hid (psame HPX.out (by have := HN2.out.len; omega))
                      clear HPX
                      go_wp2_with fail
                      refine HSA.out.mono ?_
                      rintro e w20 ⟨rfl, hp20⟩
                      have HRD := Lib.hid (pread raw hp20 HRAW.out)
                      clear hp20 HSA
                      go_wp2_with fail
                      refine HRD.out.mono ?_
                      rintro e w21 ⟨⟨a21, n21, c21, rfl⟩, hp21⟩
                      have hc21 := hp21.cell
                      obtain ⟨hc21a, hc21b⟩ := hc21
                      have HRR := Lib.hid (prread raw hp21 (by have := HN2.out.len; omega))
                      obtain ⟨a22, c22, hv22⟩ := hp21.slice
                      obtain ⟨G, hG⟩ : ∃ G : Int, G = (if (Fs.get fs2 raw).isSome = true then 0 else 71) := ⟨_, rfl⟩
                      have hGb : 0 ≤ G ∧ G ≤ 71 := by rw [hG]; split <;> omega
                      obtain ⟨hG0, hG1⟩ := hGb
                      rw [← hG] at HRR ⊢
                      have hGG : (G != G) = false := by simp
                      have hGw : IntKind.i64.wrap G = G := IntWalk.i64_in _ (by omega)
                      clear hp21 HRD hG hv22
                      go_wp2_with fail
                      refine HRR.out.mono ?_
                      rintro e w22 ⟨⟨u22, rfl⟩, hp22⟩
                      have HP22 := Lib.hid hp22
                      clear hp22 HRR hc21a hc21b
                      go_wp2_with fail
                      go_roundw
                      case rel => exact ⟨k + 1, dd, _, fs2, by omega, by go_num, rfl, HP22, HN2⟩
                      case measure => simp [intOf]; omega
                    exact AllReadyH.nil
                  exact AllReadyH.nil
                exact AllReadyH.nil
              exact AllReadyH.nil
          | 1, _ =>
            as_aux_lemma =>
              go_upto_region 11 with fail
              obtain ⟨bs, hbs⟩ : ∃ bs, bs = bytesM z2 z3 := ⟨_, rfl⟩
              have hbl : bs.length ≤ 8 := by rw [hbs, bytesM_len]; omega
              have HBY := Lib.hid fun W => bytes_calls z2 z3 W (by omega) (by omega)
              rw [← hbs] at HBY
              obtain ⟨E, hE⟩ : ∃ E : Int, E = wErr raw := ⟨_, rfl⟩
              have hEb : 0 ≤ E ∧ E ≤ 71 := by rw [hE]; first | (split <;> omega) | (unfold wErr; split <;> omega)
              obtain ⟨hE0, hE1⟩ := hEb
              have hEE : (E != E) = false := by simp
              have hEw : IntKind.i64.wrap E = E := IntWalk.i64_in _ (by omega)
              have HN2 := Lib.hid (HN.out.writeK raw bs hbl)
              have HSO := Lib.hid HT.out.sorted
              have hz8 : (((fs.get raw).map (·.bytes)).getD []).length + bs.length ≤ 1000000 := by have := Fs.get_big HN.out.big raw; omega
              have hln := HN.out.len
              have HB2 : Hid (∀ W, Below wr.heap.size wr W → Calls Try.prog 17 #[.int .u8 (z2 : Int), .int .u8 (z3 : Int)] W fun e w' => ∃ v5, e = .returned v5 ∧ HeldW w ad (z0 : Int) (z1 : Int) (z2 : Int) (z3 : Int) w' ∧ Calls Try.prog 11 #[.pointer (some ⟨dd, 0, none⟩), .int .i64 raw, v5] w' fun e w' => e = .returned (.int .u16 E) ∧ Pair w w' dd g v v (fs.writeK raw bs) fs ∧ HeldW w ad (z0 : Int) (z1 : Int) (z2 : Int) (z3 : Int) w') := Lib.hid fun W hW => by
                refine (HBY.out W).mono ?_
                rintro e w5 ⟨v5, rfl, hb5, ho5⟩
                have hm := HT.out.next hW
                refine ⟨v5, rfl, HS.out _ (hm.next hb5).below, (pwrite raw hm hb5 ho5 (by omega) hz8).mono ?_⟩
                rintro e w6 ⟨rfl, hm6⟩
                exact ⟨by rw [hE], hm6, HS.out _ hm6.below⟩
              have HB3 : Hid (∀ w6, Pair w w6 dd g v v (fs.writeK raw bs) fs → ∀ W, Below w6.heap.size w6 W → Calls Try.prog 17 #[.int .u8 (z2 : Int), .int .u8 (z3 : Int)] W fun e w' => ∃ v5, e = .returned v5 ∧ HeldW w ad (z0 : Int) (z1 : Int) (z2 : Int) (z3 : Int) w' ∧ w'.cell? ⟨g, 0, none⟩ = some v ∧ Calls Try.prog 20 #[.agg #[v], .int .i64 raw, v5] w' fun e w' => ∃ v', e = .returned (.tuple #[.agg #[v'], .int .i64 E]) ∧ Pair w w' dd g v v' (fs.writeK raw bs) (fs.writeK raw bs)) := Lib.hid fun w6 h6 W hW => by
                refine (HBY.out W).mono ?_
                rintro e w5 ⟨v5, rfl, hb5, ho5⟩
                have hm := h6.next hW
                refine ⟨v5, rfl, HS.out _ (hm.next hb5).below, (hm.next hb5).cell.1, (prwrite raw hm HSO.out hb5 ho5 (by omega) hz8).mono ?_⟩
                rintro e w8 ⟨v', rfl, hm8⟩
                exact ⟨v', by rw [hE], hm8⟩
              clear hE hbs hz8
              go_wp2_with fail
              go_region_held3 (fun W => W.cell? ad = some (.int .u8 (z0 : Int)) ∧ W.cell? ⟨ad.block, ad.off + 1, none⟩ = some (.int .u8 (z1 : Int)) ∧ W.cell? ⟨ad.block, ad.off + 2, none⟩ = some (.int .u8 (z2 : Int)) ∧ W.cell? ⟨ad.block, ad.off + 3, none⟩ = some (.int .u8 (z3 : Int)) ∧ Below w.heap.size w W)
                (first | assumption | exact HS.out _ (pw_below_drewN HT.out.below _) | exact HS.out _ (Below.drew HT.out.below) | go_keep)
                (first | (go_at_call 17; (with_reducible refine (HB2.out _ (by repeat (first | exact Below.refl _ _ | refine pw_below_drewN ?_ _ | refine Below.drew ?_))).mono ?_); rintro e w5 ⟨v5, rfl, hs5, hw5⟩) | (go_at_call 11; (with_reducible refine hw5.mono ?_); rintro e w6 ⟨rfl, hm6, hs6⟩))
              have HM6 := Lib.hid hm6
              obtain ⟨c0, c1, c2, c3, _⟩ := hs6
              have hc6 := hm6.cell.1
              have HB4 := Lib.hid (HB3.out w6 hm6)
              obtain ⟨fs2, hfs2⟩ : ∃ fs2, fs2 = fs.writeK raw bs := ⟨_, rfl⟩
              rw [← hfs2] at HM6 HN2 HB4
              clear hm6 hfs2 hS hs5 hw5 HBY HB2 HB3 HN
              go_wp2_with fail
              refine wp_region_noPanic ?_
              refine wp_region_held_drew (S := fun W => W.cell? ⟨ad.block, ad.off + 2, none⟩ = some (.int .u8 (z2 : Int)) ∧ W.cell? ⟨ad.block, ad.off + 3, none⟩ = some (.int .u8 (z3 : Int))) (by kernel_rfl) (by exact sOf (HS.out _ (Below.drew HM6.out.below))) (fun hS_ => ?_)
              refine wpAnyH_take (i := 1) (oi := ({ dst := (some 88), op := (Op.move (Operand.tmp 10)), type := 3, pos := "law.go:72", after := #[], guard := none } : Oper)) (v := ?_) rfl (by kernel_rfl) (by kernel_rfl) (by kernel_rfl) (fun _ _ _ h => h) (Or.inl ⟨by rfl, ?_⟩) (by assumption) ?_
              rotate_left
              · (intro w_ hSw; (try dsimp only at hSw); go_simp; try with_reducible rfl)
              try simp only [Act.put, List.setIfInBounds_toArray, List.set_cons_zero, List.set_cons_succ]
              refine wpAnyH_take (i := 2) (oi := ({ dst := (some 89), op := (Op.move (Operand.tmp 0)), type := 39, pos := "law.go:72", after := #[], guard := none } : Oper)) (v := ?_) rfl (by kernel_rfl) (by kernel_rfl) (by kernel_rfl) (fun _ _ _ h => h) (Or.inl ⟨by rfl, ?_⟩) (by assumption) ?_
              rotate_left
              · (intro w_ hSw; (try dsimp only at hSw); go_simp; try with_reducible rfl)
              try simp only [Act.put, List.setIfInBounds_toArray, List.set_cons_zero, List.set_cons_succ]
              refine wpAnyH_take (i := 3) (oi := ({ dst := (some 90), op := (Op.move (Operand.tmp 9)), type := 3, pos := "law.go:72", after := #[], guard := none } : Oper)) (v := ?_) rfl (by kernel_rfl) (by kernel_rfl) (by kernel_rfl) (fun _ _ _ h => h) (Or.inl ⟨by rfl, ?_⟩) (by assumption) ?_
              rotate_left
              · (intro w_ hSw; (try dsimp only at hSw); go_simp; try with_reducible rfl)
              try simp only [Act.put, List.setIfInBounds_toArray, List.set_cons_zero, List.set_cons_succ]
              refine wpAnyH_take (i := 4) (oi := ({ dst := (some 91), op := (Op.indexAddr 39 (Operand.tmp 89) (Operand.tmp 90)), type := 0, pos := "law.go:72", after := #[{ on := 2, ground := Ground.data }, { on := 3, ground := Ground.data }], guard := none } : Oper)) (v := ?_) rfl (by kernel_rfl) (by kernel_rfl) (by kernel_rfl) (fun _ _ _ h => h) (Or.inl ⟨by rfl, ?_⟩) (by assumption) ?_
              rotate_left
              · (intro w_ hSw; (try dsimp only at hSw); go_simp; try with_reducible rfl)
              try simp only [Act.put, List.setIfInBounds_toArray, List.set_cons_zero, List.set_cons_succ]
              refine wpAnyH_take (i := 5) (oi := ({ dst := (some 92), op := (Op.fieldAddr 41 (Operand.tmp 91) 2), type := 0, pos := "law.go:72", after := #[{ on := 4, ground := Ground.data }], guard := none } : Oper)) (v := ?_) rfl (by kernel_rfl) (by kernel_rfl) (by kernel_rfl) (fun _ _ _ h => h) (Or.inl ⟨by rfl, ?_⟩) (by assumption) ?_
              rotate_left
              · (intro w_ hSw; (try dsimp only at hSw); go_simp; try with_reducible rfl)
              try simp only [Act.put, List.setIfInBounds_toArray, List.set_cons_zero, List.set_cons_succ]
              refine wpAnyH_take (i := 6) (oi := ({ dst := (some 93), op := (Op.load 5 (Operand.tmp 92)), type := 5, pos := "law.go:72", after := #[{ on := 5, ground := Ground.data }], guard := none } : Oper)) (v := ?_) rfl (by kernel_rfl) (by kernel_rfl) (by kernel_rfl) (fun _ _ _ h => h) (Or.inl ⟨by rfl, ?_⟩) (by assumption) ?_
              rotate_left
              · (intro w_ hSw; (try dsimp only at hSw); go_simp; try with_reducible rfl)
              try simp only [Act.put, List.setIfInBounds_toArray, List.set_cons_zero, List.set_cons_succ]
              refine wpAnyH_take (i := 7) (oi := ({ dst := (some 94), op := (Op.move (Operand.tmp 0)), type := 39, pos := "law.go:72", after := #[], guard := none } : Oper)) (v := ?_) rfl (by kernel_rfl) (by kernel_rfl) (by kernel_rfl) (fun _ _ _ h => h) (Or.inl ⟨by rfl, ?_⟩) (by assumption) ?_
              rotate_left
              · (intro w_ hSw; (try dsimp only at hSw); go_simp; try with_reducible rfl)
              try simp only [Act.put, List.setIfInBounds_toArray, List.set_cons_zero, List.set_cons_succ]
              refine wpAnyH_take (i := 8) (oi := ({ dst := (some 95), op := (Op.move (Operand.tmp 9)), type := 3, pos := "law.go:72", after := #[], guard := none } : Oper)) (v := ?_) rfl (by kernel_rfl) (by kernel_rfl) (by kernel_rfl) (fun _ _ _ h => h) (Or.inl ⟨by rfl, ?_⟩) (by assumption) ?_
              rotate_left
              · (intro w_ hSw; (try dsimp only at hSw); go_simp; try with_reducible rfl)
              try simp only [Act.put, List.setIfInBounds_toArray, List.set_cons_zero, List.set_cons_succ]
              refine wpAnyH_take (i := 9) (oi := ({ dst := (some 96), op := (Op.indexAddr 39 (Operand.tmp 94) (Operand.tmp 95)), type := 0, pos := "law.go:72", after := #[{ on := 7, ground := Ground.data }, { on := 8, ground := Ground.data }], guard := none } : Oper)) (v := ?_) rfl (by kernel_rfl) (by kernel_rfl) (by kernel_rfl) (fun _ _ _ h => h) (Or.inl ⟨by rfl, ?_⟩) (by assumption) ?_
              rotate_left
              · (intro w_ hSw; (try dsimp only at hSw); go_simp; try with_reducible rfl)
              try simp only [Act.put, List.setIfInBounds_toArray, List.set_cons_zero, List.set_cons_succ]
              refine wpAnyH_take (i := 10) (oi := ({ dst := (some 97), op := (Op.fieldAddr 41 (Operand.tmp 96) 3), type := 0, pos := "law.go:72", after := #[{ on := 9, ground := Ground.data }], guard := none } : Oper)) (v := ?_) rfl (by kernel_rfl) (by kernel_rfl) (by kernel_rfl) (fun _ _ _ h => h) (Or.inl ⟨by rfl, ?_⟩) (by assumption) ?_
              rotate_left
              · (intro w_ hSw; (try dsimp only at hSw); go_simp; try with_reducible rfl)
              try simp only [Act.put, List.setIfInBounds_toArray, List.set_cons_zero, List.set_cons_succ]
              refine wpAnyH_take (i := 11) (oi := ({ dst := (some 98), op := (Op.load 5 (Operand.tmp 97)), type := 5, pos := "law.go:72", after := #[{ on := 10, ground := Ground.data }], guard := none } : Oper)) (v := ?_) rfl (by kernel_rfl) (by kernel_rfl) (by kernel_rfl) (fun _ _ _ h => h) (Or.inl ⟨by rfl, ?_⟩) (by assumption) ?_
              rotate_left
              · (intro w_ hSw; (try dsimp only at hSw); go_simp; try with_reducible rfl)
              try simp only [Act.put, List.setIfInBounds_toArray, List.set_cons_zero, List.set_cons_succ]
              refine wpAnyH_ready (rs := [0, 12]) (by kernel_rfl) (by simp) ?_
              refine AllReadyH.cons (o := ({ dst := (some 87), op := (Op.load 50 (Operand.tmp 8)), type := 50, pos := "law.go:72", after := #[], guard := none } : Oper)) rfl (fun K hK => ?_) ?_
              · go_simp
                refine hK.out _ _ (by first | exact hS_ | exact sOf hs7 | exact sOf (HS.out _ hm8.below) | exact sOf (HS.out _ (Pair.store hm8).below)) (fun hS_ => ?_)
                clear hK K
                try simp only [Act.put, List.setIfInBounds_toArray, List.set_cons_zero, List.set_cons_succ]
                refine wpAnyH_ready (rs := [12]) (by kernel_rfl) (by simp) ?_
                refine AllReadyH.cons (o := ({ dst := (some 99), op := (Op.call { callee := (Callee.value (Operand.func 17)), args := #[(Operand.tmp 93), (Operand.tmp 98)], argTypes := #[5, 5] }), type := 22, pos := "law.go:72", after := #[{ on := 6, ground := Ground.data }, { on := 11, ground := Ground.data }], guard := none } : Oper)) rfl (fun K hK => ?_) ?_
                · go_simp
                  refine (HB4.out _ (by repeat (first | exact Below.refl _ _ | refine pw_below_drewN ?_ _ | refine Below.drew ?_))).mono ?_
                  rintro e w7 ⟨v7, rfl, hs7, hc7, hw7⟩
                  refine hK.out _ _ (by first | exact hS_ | exact sOf hs7 | exact sOf (HS.out _ hm8.below) | exact sOf (HS.out _ (Pair.store hm8).below)) (fun hS_ => ?_)
                  clear hK K
                  try simp only [Act.put, List.setIfInBounds_toArray, List.set_cons_zero, List.set_cons_succ]
                  refine wpAnyH_ready (rs := [13]) (by kernel_rfl) (by simp) ?_
                  refine AllReadyH.cons (o := ({ dst := (some 100), op := (Op.call { callee := (Callee.value (Operand.func 20)), args := #[(Operand.tmp 87), (Operand.tmp 88), (Operand.tmp 99)], argTypes := #[50, 3, 22] }), type := 51, pos := "law.go:72", after := #[{ on := 0, ground := Ground.data }, { on := 1, ground := Ground.data }, { on := 12, ground := Ground.data }, { on := 12, ground := Ground.chain }], guard := none } : Oper)) rfl (fun K hK => ?_) ?_
                  · go_simp
                    refine hw7.mono ?_
                    rintro e w8 ⟨v8, rfl, hm8⟩
                    obtain ⟨a8, c8, rfl⟩ := hm8.slice
                    obtain ⟨hc8, hz8⟩ := hm8.cell
                    refine hK.out _ _ (by first | exact hS_ | exact sOf hs7 | exact sOf (HS.out _ hm8.below) | exact sOf (HS.out _ (Pair.store hm8).below)) (fun hS_ => ?_)
                    clear hK K
                    try simp only [Act.put, List.setIfInBounds_toArray, List.set_cons_zero, List.set_cons_succ]
                    refine wpAnyH_take (i := 14) (oi := ({ dst := (some 86), op := (Op.move (Operand.tmp 100)), type := 51, pos := "law.go:72", after := #[{ on := 13, ground := Ground.data }], guard := none } : Oper)) (v := ?_) rfl (by kernel_rfl) (by kernel_rfl) (by kernel_rfl) (fun _ _ _ h => h) (Or.inl ⟨by rfl, ?_⟩) (by assumption) ?_
                    rotate_left
                    · (intro w_ hSw; (try dsimp only at hSw); go_simp; try with_reducible rfl)
                    try simp only [Act.put, List.setIfInBounds_toArray, List.set_cons_zero, List.set_cons_succ]
                    refine wpAnyH_take (i := 15) (oi := ({ dst := (some 101), op := (Op.extract (Operand.tmp 86) 0), type := 50, pos := "law.go:72", after := #[{ on := 14, ground := Ground.data }], guard := none } : Oper)) (v := ?_) rfl (by kernel_rfl) (by kernel_rfl) (by kernel_rfl) (fun _ _ _ h => h) (Or.inl ⟨by rfl, ?_⟩) (by assumption) ?_
                    rotate_left
                    · (intro w_ hSw; (try dsimp only at hSw); go_simp; try with_reducible rfl)
                    try simp only [Act.put, List.setIfInBounds_toArray, List.set_cons_zero, List.set_cons_succ]
                    refine wpAnyH_take (i := 16) (oi := ({ dst := (some 102), op := (Op.extract (Operand.tmp 86) 1), type := 3, pos := "law.go:72", after := #[{ on := 14, ground := Ground.data }, { on := 17, ground := (Ground.gcOnly Departure.lateStores) }], guard := none } : Oper)) (v := ?_) rfl (by kernel_rfl) (by kernel_rfl) (by kernel_rfl) (fun _ _ _ h => h) (Or.inl ⟨by rfl, ?_⟩) (by assumption) ?_
                    rotate_left
                    · (intro w_ hSw; (try dsimp only at hSw); go_simp; try with_reducible rfl)
                    try simp only [Act.put, List.setIfInBounds_toArray, List.set_cons_zero, List.set_cons_succ]
                    refine wpAnyH_ready (rs := [17]) (by kernel_rfl) (by simp) ?_
                    refine AllReadyH.cons (o := ({ dst := none, op := (Op.store 50 (Operand.tmp 8) (Operand.tmp 101)), type := 0, pos := "law.go:72", after := #[{ on := 15, ground := Ground.data }, { on := 13, ground := Ground.chain }, { on := 0, ground := Ground.phase }, { on := 1, ground := Ground.phase }, { on := 2, ground := Ground.phase }, { on := 3, ground := Ground.phase }, { on := 4, ground := Ground.phase }, { on := 5, ground := Ground.phase }, { on := 6, ground := Ground.phase }, { on := 7, ground := Ground.phase }, { on := 8, ground := Ground.phase }, { on := 9, ground := Ground.phase }, { on := 10, ground := Ground.phase }, { on := 11, ground := Ground.phase }, { on := 12, ground := Ground.phase }, { on := 13, ground := Ground.phase }, { on := 14, ground := Ground.phase }, { on := 15, ground := Ground.phase }, { on := 16, ground := (Ground.textOnly Departure.lateStores) }], guard := none } : Oper)) rfl (fun K hK => ?_) ?_
                    · go_simp
                      refine hK.out _ _ (by first | exact hS_ | exact sOf hs7 | exact sOf (HS.out _ hm8.below) | exact sOf (HS.out _ (Pair.store hm8).below)) (fun hS_ => ?_)
                      clear hK K
                      try simp only [Act.put, List.setIfInBounds_toArray, List.set_cons_zero, List.set_cons_succ]
                      refine wpAnyH_take (i := 18) (oi := ({ dst := (some 11), op := (Op.assign (Operand.tmp 102)), type := 3, pos := "law.go:72", after := #[{ on := 16, ground := Ground.data }, { on := 17, ground := Ground.chain }, { on := 0, ground := Ground.phase }, { on := 1, ground := Ground.phase }, { on := 2, ground := Ground.phase }, { on := 3, ground := Ground.phase }, { on := 4, ground := Ground.phase }, { on := 5, ground := Ground.phase }, { on := 6, ground := Ground.phase }, { on := 7, ground := Ground.phase }, { on := 8, ground := Ground.phase }, { on := 9, ground := Ground.phase }, { on := 10, ground := Ground.phase }, { on := 11, ground := Ground.phase }, { on := 12, ground := Ground.phase }, { on := 13, ground := Ground.phase }, { on := 14, ground := Ground.phase }, { on := 15, ground := Ground.phase }, { on := 16, ground := Ground.phase }, { on := 17, ground := Ground.phase }], guard := none } : Oper)) (v := ?_) rfl (by kernel_rfl) (by kernel_rfl) (by kernel_rfl) (fun _ _ _ h => h) (Or.inl ⟨by rfl, ?_⟩) (by assumption) ?_
                      rotate_left
                      · (intro w_ hSw; (try dsimp only at hSw); go_simp; try with_reducible rfl)
                      try simp only [Act.put, List.setIfInBounds_toArray, List.set_cons_zero, List.set_cons_succ]
                      refine wpAnyH_done (by kernel_rfl) ?_ _
                      refine NoPanic.normal ?_
                      have HPX := Lib.hid (Pair.store hm8)
                      clear hm8 hs7 hc7 hw7 HB4 HM6 c0 c1 c2 c3 hc6
                      have HSA := Lib.hid (psame HPX.out (by have := HN2.out.len; omega))
                      clear HPX
                      go_wp2_with fail
                      refine HSA.out.mono ?_
                      rintro e w20 ⟨rfl, hp20⟩
                      have HRD := Lib.hid (pread raw hp20 HRAW.out)
                      clear hp20 HSA
                      go_wp2_with fail
                      refine HRD.out.mono ?_
                      rintro e w21 ⟨⟨a21, n21, c21, rfl⟩, hp21⟩
                      have hc21 := hp21.cell
                      obtain ⟨hc21a, hc21b⟩ := hc21
                      have HRR := Lib.hid (prread raw hp21 (by have := HN2.out.len; omega))
                      obtain ⟨a22, c22, hv22⟩ := hp21.slice
                      obtain ⟨G, hG⟩ : ∃ G : Int, G = (if (Fs.get fs2 raw).isSome = true then 0 else 71) := ⟨_, rfl⟩
                      have hGb : 0 ≤ G ∧ G ≤ 71 := by rw [hG]; split <;> omega
                      obtain ⟨hG0, hG1⟩ := hGb
                      rw [← hG] at HRR ⊢
                      have hGG : (G != G) = false := by simp
                      have hGw : IntKind.i64.wrap G = G := IntWalk.i64_in _ (by omega)
                      clear hp21 HRD hG hv22
                      go_wp2_with fail
                      refine HRR.out.mono ?_
                      rintro e w22 ⟨⟨u22, rfl⟩, hp22⟩
                      have HP22 := Lib.hid hp22
                      clear hp22 HRR hc21a hc21b
                      go_wp2_with fail
                      go_roundw
                      case rel => exact ⟨k + 1, dd, _, fs2, by omega, by go_num, rfl, HP22, HN2⟩
                      case measure => simp [intOf]; omega
                    exact AllReadyH.nil
                  exact AllReadyH.nil
                exact AllReadyH.nil
              refine AllReadyH.cons (o := ({ dst := (some 99), op := (Op.call { callee := (Callee.value (Operand.func 17)), args := #[(Operand.tmp 93), (Operand.tmp 98)], argTypes := #[5, 5] }), type := 22, pos := "law.go:72", after := #[{ on := 6, ground := Ground.data }, { on := 11, ground := Ground.data }], guard := none } : Oper)) rfl (fun K hK => ?_) ?_
              · go_simp
                refine (HB4.out _ (by repeat (first | exact Below.refl _ _ | refine pw_below_drewN ?_ _ | refine Below.drew ?_))).mono ?_
                rintro e w7 ⟨v7, rfl, hs7, hc7, hw7⟩
                refine hK.out _ _ (by first | exact hS_ | exact sOf hs7 | exact sOf (HS.out _ hm8.below) | exact sOf (HS.out _ (Pair.store hm8).below)) (fun hS_ => ?_)
                clear hK K
                try simp only [Act.put, List.setIfInBounds_toArray, List.set_cons_zero, List.set_cons_succ]
                refine wpAnyH_ready (rs := [0]) (by kernel_rfl) (by simp) ?_
                refine AllReadyH.cons (o := ({ dst := (some 87), op := (Op.load 50 (Operand.tmp 8)), type := 50, pos := "law.go:72", after := #[], guard := none } : Oper)) rfl (fun K hK => ?_) ?_
                · go_simp
                  refine hK.out _ _ (by first | exact hS_ | exact sOf hs7 | exact sOf (HS.out _ hm8.below) | exact sOf (HS.out _ (Pair.store hm8).below)) (fun hS_ => ?_)
                  clear hK K
                  try simp only [Act.put, List.setIfInBounds_toArray, List.set_cons_zero, List.set_cons_succ]
                  refine wpAnyH_ready (rs := [13]) (by kernel_rfl) (by simp) ?_
                  refine AllReadyH.cons (o := ({ dst := (some 100), op := (Op.call { callee := (Callee.value (Operand.func 20)), args := #[(Operand.tmp 87), (Operand.tmp 88), (Operand.tmp 99)], argTypes := #[50, 3, 22] }), type := 51, pos := "law.go:72", after := #[{ on := 0, ground := Ground.data }, { on := 1, ground := Ground.data }, { on := 12, ground := Ground.data }, { on := 12, ground := Ground.chain }], guard := none } : Oper)) rfl (fun K hK => ?_) ?_
                  · go_simp
                    refine hw7.mono ?_
                    rintro e w8 ⟨v8, rfl, hm8⟩
                    obtain ⟨a8, c8, rfl⟩ := hm8.slice
                    obtain ⟨hc8, hz8⟩ := hm8.cell
                    refine hK.out _ _ (by first | exact hS_ | exact sOf hs7 | exact sOf (HS.out _ hm8.below) | exact sOf (HS.out _ (Pair.store hm8).below)) (fun hS_ => ?_)
                    clear hK K
                    try simp only [Act.put, List.setIfInBounds_toArray, List.set_cons_zero, List.set_cons_succ]
                    refine wpAnyH_take (i := 14) (oi := ({ dst := (some 86), op := (Op.move (Operand.tmp 100)), type := 51, pos := "law.go:72", after := #[{ on := 13, ground := Ground.data }], guard := none } : Oper)) (v := ?_) rfl (by kernel_rfl) (by kernel_rfl) (by kernel_rfl) (fun _ _ _ h => h) (Or.inl ⟨by rfl, ?_⟩) (by assumption) ?_
                    rotate_left
                    · (intro w_ hSw; (try dsimp only at hSw); go_simp; try with_reducible rfl)
                    try simp only [Act.put, List.setIfInBounds_toArray, List.set_cons_zero, List.set_cons_succ]
                    refine wpAnyH_take (i := 15) (oi := ({ dst := (some 101), op := (Op.extract (Operand.tmp 86) 0), type := 50, pos := "law.go:72", after := #[{ on := 14, ground := Ground.data }], guard := none } : Oper)) (v := ?_) rfl (by kernel_rfl) (by kernel_rfl) (by kernel_rfl) (fun _ _ _ h => h) (Or.inl ⟨by rfl, ?_⟩) (by assumption) ?_
                    rotate_left
                    · (intro w_ hSw; (try dsimp only at hSw); go_simp; try with_reducible rfl)
                    try simp only [Act.put, List.setIfInBounds_toArray, List.set_cons_zero, List.set_cons_succ]
                    refine wpAnyH_take (i := 16) (oi := ({ dst := (some 102), op := (Op.extract (Operand.tmp 86) 1), type := 3, pos := "law.go:72", after := #[{ on := 14, ground := Ground.data }, { on := 17, ground := (Ground.gcOnly Departure.lateStores) }], guard := none } : Oper)) (v := ?_) rfl (by kernel_rfl) (by kernel_rfl) (by kernel_rfl) (fun _ _ _ h => h) (Or.inl ⟨by rfl, ?_⟩) (by assumption) ?_
                    rotate_left
                    · (intro w_ hSw; (try dsimp only at hSw); go_simp; try with_reducible rfl)
                    try simp only [Act.put, List.setIfInBounds_toArray, List.set_cons_zero, List.set_cons_succ]
                    refine wpAnyH_ready (rs := [17]) (by kernel_rfl) (by simp) ?_
                    refine AllReadyH.cons (o := ({ dst := none, op := (Op.store 50 (Operand.tmp 8) (Operand.tmp 101)), type := 0, pos := "law.go:72", after := #[{ on := 15, ground := Ground.data }, { on := 13, ground := Ground.chain }, { on := 0, ground := Ground.phase }, { on := 1, ground := Ground.phase }, { on := 2, ground := Ground.phase }, { on := 3, ground := Ground.phase }, { on := 4, ground := Ground.phase }, { on := 5, ground := Ground.phase }, { on := 6, ground := Ground.phase }, { on := 7, ground := Ground.phase }, { on := 8, ground := Ground.phase }, { on := 9, ground := Ground.phase }, { on := 10, ground := Ground.phase }, { on := 11, ground := Ground.phase }, { on := 12, ground := Ground.phase }, { on := 13, ground := Ground.phase }, { on := 14, ground := Ground.phase }, { on := 15, ground := Ground.phase }, { on := 16, ground := (Ground.textOnly Departure.lateStores) }], guard := none } : Oper)) rfl (fun K hK => ?_) ?_
                    · go_simp
                      refine hK.out _ _ (by first | exact hS_ | exact sOf hs7 | exact sOf (HS.out _ hm8.below) | exact sOf (HS.out _ (Pair.store hm8).below)) (fun hS_ => ?_)
                      clear hK K
                      try simp only [Act.put, List.setIfInBounds_toArray, List.set_cons_zero, List.set_cons_succ]
                      refine wpAnyH_take (i := 18) (oi := ({ dst := (some 11), op := (Op.assign (Operand.tmp 102)), type := 3, pos := "law.go:72", after := #[{ on := 16, ground := Ground.data }, { on := 17, ground := Ground.chain }, { on := 0, ground := Ground.phase }, { on := 1, ground := Ground.phase }, { on := 2, ground := Ground.phase }, { on := 3, ground := Ground.phase }, { on := 4, ground := Ground.phase }, { on := 5, ground := Ground.phase }, { on := 6, ground := Ground.phase }, { on := 7, ground := Ground.phase }, { on := 8, ground := Ground.phase }, { on := 9, ground := Ground.phase }, { on := 10, ground := Ground.phase }, { on := 11, ground := Ground.phase }, { on := 12, ground := Ground.phase }, { on := 13, ground := Ground.phase }, { on := 14, ground := Ground.phase }, { on := 15, ground := Ground.phase }, { on := 16, ground := Ground.phase }, { on := 17, ground := Ground.phase }], guard := none } : Oper)) (v := ?_) rfl (by kernel_rfl) (by kernel_rfl) (by kernel_rfl) (fun _ _ _ h => h) (Or.inl ⟨by rfl, ?_⟩) (by assumption) ?_
                      rotate_left
                      · (intro w_ hSw; (try dsimp only at hSw); go_simp; try with_reducible rfl)
                      try simp only [Act.put, List.setIfInBounds_toArray, List.set_cons_zero, List.set_cons_succ]
                      refine wpAnyH_done (by kernel_rfl) ?_ _
                      refine NoPanic.normal ?_
                      have HPX := Lib.hid (Pair.store hm8)
                      clear hm8 hs7 hc7 hw7 HB4 HM6 c0 c1 c2 c3 hc6
                      have HSA := Lib.hid (psame HPX.out (by have := HN2.out.len; omega))
                      clear HPX
                      go_wp2_with fail
                      refine HSA.out.mono ?_
                      rintro e w20 ⟨rfl, hp20⟩
                      have HRD := Lib.hid (pread raw hp20 HRAW.out)
                      clear hp20 HSA
                      go_wp2_with fail
                      refine HRD.out.mono ?_
                      rintro e w21 ⟨⟨a21, n21, c21, rfl⟩, hp21⟩
                      have hc21 := hp21.cell
                      obtain ⟨hc21a, hc21b⟩ := hc21
                      have HRR := Lib.hid (prread raw hp21 (by have := HN2.out.len; omega))
                      obtain ⟨a22, c22, hv22⟩ := hp21.slice
                      obtain ⟨G, hG⟩ : ∃ G : Int, G = (if (Fs.get fs2 raw).isSome = true then 0 else 71) := ⟨_, rfl⟩
                      have hGb : 0 ≤ G ∧ G ≤ 71 := by rw [hG]; split <;> omega
                      obtain ⟨hG0, hG1⟩ := hGb
                      rw [← hG] at HRR ⊢
                      have hGG : (G != G) = false := by simp
                      have hGw : IntKind.i64.wrap G = G := IntWalk.i64_in _ (by omega)
                      clear hp21 HRD hG hv22
                      go_wp2_with fail
                      refine HRR.out.mono ?_
                      rintro e w22 ⟨⟨u22, rfl⟩, hp22⟩
                      have HP22 := Lib.hid hp22
                      clear hp22 HRR hc21a hc21b
                      go_wp2_with fail
                      go_roundw
                      case rel => exact ⟨k + 1, dd, _, fs2, by omega, by go_num, rfl, HP22, HN2⟩
                      case measure => simp [intOf]; omega
                    exact AllReadyH.nil
                  exact AllReadyH.nil
                exact AllReadyH.nil
              exact AllReadyH.nil
          | 2, _ =>
            as_aux_lemma =>
              go_upto_region 11 with fail
              obtain ⟨bs, hbs⟩ : ∃ bs, bs = bytesM z2 z3 := ⟨_, rfl⟩
              have hbl : bs.length ≤ 8 := by rw [hbs, bytesM_len]; omega
              have HBY := Lib.hid fun W => bytes_calls z2 z3 W (by omega) (by omega)
              rw [← hbs] at HBY
              obtain ⟨E, hE⟩ : ∃ E : Int, E = wErr raw := ⟨_, rfl⟩
              have hEb : 0 ≤ E ∧ E ≤ 71 := by rw [hE]; first | (split <;> omega) | (unfold wErr; split <;> omega)
              obtain ⟨hE0, hE1⟩ := hEb
              have hEE : (E != E) = false := by simp
              have hEw : IntKind.i64.wrap E = E := IntWalk.i64_in _ (by omega)
              have HN2 := Lib.hid (HN.out.writeK raw bs hbl)
              have HSO := Lib.hid HT.out.sorted
              have hz8 : (((fs.get raw).map (·.bytes)).getD []).length + bs.length ≤ 1000000 := by have := Fs.get_big HN.out.big raw; omega
              have hln := HN.out.len
              have HB2 : Hid (∀ W, Below wr.heap.size wr W → Calls Try.prog 17 #[.int .u8 (z2 : Int), .int .u8 (z3 : Int)] W fun e w' => ∃ v5, e = .returned v5 ∧ HeldW w ad (z0 : Int) (z1 : Int) (z2 : Int) (z3 : Int) w' ∧ Calls Try.prog 11 #[.pointer (some ⟨dd, 0, none⟩), .int .i64 raw, v5] w' fun e w' => e = .returned (.int .u16 E) ∧ Pair w w' dd g v v (fs.writeK raw bs) fs ∧ HeldW w ad (z0 : Int) (z1 : Int) (z2 : Int) (z3 : Int) w') := Lib.hid fun W hW => by
                refine (HBY.out W).mono ?_
                rintro e w5 ⟨v5, rfl, hb5, ho5⟩
                have hm := HT.out.next hW
                refine ⟨v5, rfl, HS.out _ (hm.next hb5).below, (pwrite raw hm hb5 ho5 (by omega) hz8).mono ?_⟩
                rintro e w6 ⟨rfl, hm6⟩
                exact ⟨by rw [hE], hm6, HS.out _ hm6.below⟩
              have HB3 : Hid (∀ w6, Pair w w6 dd g v v (fs.writeK raw bs) fs → ∀ W, Below w6.heap.size w6 W → Calls Try.prog 17 #[.int .u8 (z2 : Int), .int .u8 (z3 : Int)] W fun e w' => ∃ v5, e = .returned v5 ∧ HeldW w ad (z0 : Int) (z1 : Int) (z2 : Int) (z3 : Int) w' ∧ w'.cell? ⟨g, 0, none⟩ = some v ∧ Calls Try.prog 20 #[.agg #[v], .int .i64 raw, v5] w' fun e w' => ∃ v', e = .returned (.tuple #[.agg #[v'], .int .i64 E]) ∧ Pair w w' dd g v v' (fs.writeK raw bs) (fs.writeK raw bs)) := Lib.hid fun w6 h6 W hW => by
                refine (HBY.out W).mono ?_
                rintro e w5 ⟨v5, rfl, hb5, ho5⟩
                have hm := h6.next hW
                refine ⟨v5, rfl, HS.out _ (hm.next hb5).below, (hm.next hb5).cell.1, (prwrite raw hm HSO.out hb5 ho5 (by omega) hz8).mono ?_⟩
                rintro e w8 ⟨v', rfl, hm8⟩
                exact ⟨v', by rw [hE], hm8⟩
              clear hE hbs hz8
              go_wp2_with fail
              go_region_held3 (fun W => W.cell? ad = some (.int .u8 (z0 : Int)) ∧ W.cell? ⟨ad.block, ad.off + 1, none⟩ = some (.int .u8 (z1 : Int)) ∧ W.cell? ⟨ad.block, ad.off + 2, none⟩ = some (.int .u8 (z2 : Int)) ∧ W.cell? ⟨ad.block, ad.off + 3, none⟩ = some (.int .u8 (z3 : Int)) ∧ Below w.heap.size w W)
                (first | assumption | exact HS.out _ (pw_below_drewN HT.out.below _) | exact HS.out _ (Below.drew HT.out.below) | go_keep)
                (first | (go_at_call 17; (with_reducible refine (HB2.out _ (by repeat (first | exact Below.refl _ _ | refine pw_below_drewN ?_ _ | refine Below.drew ?_))).mono ?_); rintro e w5 ⟨v5, rfl, hs5, hw5⟩) | (go_at_call 11; (with_reducible refine hw5.mono ?_); rintro e w6 ⟨rfl, hm6, hs6⟩))
              have HM6 := Lib.hid hm6
              obtain ⟨c0, c1, c2, c3, _⟩ := hs6
              have hc6 := hm6.cell.1
              have HB4 := Lib.hid (HB3.out w6 hm6)
              obtain ⟨fs2, hfs2⟩ : ∃ fs2, fs2 = fs.writeK raw bs := ⟨_, rfl⟩
              rw [← hfs2] at HM6 HN2 HB4
              clear hm6 hfs2 hS hs5 hw5 HBY HB2 HB3 HN
              go_wp2_with fail
              refine wp_region_noPanic ?_
              refine wp_region_held_drew (S := fun W => W.cell? ⟨ad.block, ad.off + 2, none⟩ = some (.int .u8 (z2 : Int)) ∧ W.cell? ⟨ad.block, ad.off + 3, none⟩ = some (.int .u8 (z3 : Int))) (by kernel_rfl) (by exact sOf (HS.out _ (Below.drew HM6.out.below))) (fun hS_ => ?_)
              refine wpAnyH_take (i := 1) (oi := ({ dst := (some 88), op := (Op.move (Operand.tmp 10)), type := 3, pos := "law.go:72", after := #[], guard := none } : Oper)) (v := ?_) rfl (by kernel_rfl) (by kernel_rfl) (by kernel_rfl) (fun _ _ _ h => h) (Or.inl ⟨by rfl, ?_⟩) (by assumption) ?_
              rotate_left
              · (intro w_ hSw; (try dsimp only at hSw); go_simp; try with_reducible rfl)
              try simp only [Act.put, List.setIfInBounds_toArray, List.set_cons_zero, List.set_cons_succ]
              refine wpAnyH_take (i := 2) (oi := ({ dst := (some 89), op := (Op.move (Operand.tmp 0)), type := 39, pos := "law.go:72", after := #[], guard := none } : Oper)) (v := ?_) rfl (by kernel_rfl) (by kernel_rfl) (by kernel_rfl) (fun _ _ _ h => h) (Or.inl ⟨by rfl, ?_⟩) (by assumption) ?_
              rotate_left
              · (intro w_ hSw; (try dsimp only at hSw); go_simp; try with_reducible rfl)
              try simp only [Act.put, List.setIfInBounds_toArray, List.set_cons_zero, List.set_cons_succ]
              refine wpAnyH_take (i := 3) (oi := ({ dst := (some 90), op := (Op.move (Operand.tmp 9)), type := 3, pos := "law.go:72", after := #[], guard := none } : Oper)) (v := ?_) rfl (by kernel_rfl) (by kernel_rfl) (by kernel_rfl) (fun _ _ _ h => h) (Or.inl ⟨by rfl, ?_⟩) (by assumption) ?_
              rotate_left
              · (intro w_ hSw; (try dsimp only at hSw); go_simp; try with_reducible rfl)
              try simp only [Act.put, List.setIfInBounds_toArray, List.set_cons_zero, List.set_cons_succ]
              refine wpAnyH_take (i := 4) (oi := ({ dst := (some 91), op := (Op.indexAddr 39 (Operand.tmp 89) (Operand.tmp 90)), type := 0, pos := "law.go:72", after := #[{ on := 2, ground := Ground.data }, { on := 3, ground := Ground.data }], guard := none } : Oper)) (v := ?_) rfl (by kernel_rfl) (by kernel_rfl) (by kernel_rfl) (fun _ _ _ h => h) (Or.inl ⟨by rfl, ?_⟩) (by assumption) ?_
              rotate_left
              · (intro w_ hSw; (try dsimp only at hSw); go_simp; try with_reducible rfl)
              try simp only [Act.put, List.setIfInBounds_toArray, List.set_cons_zero, List.set_cons_succ]
              refine wpAnyH_take (i := 5) (oi := ({ dst := (some 92), op := (Op.fieldAddr 41 (Operand.tmp 91) 2), type := 0, pos := "law.go:72", after := #[{ on := 4, ground := Ground.data }], guard := none } : Oper)) (v := ?_) rfl (by kernel_rfl) (by kernel_rfl) (by kernel_rfl) (fun _ _ _ h => h) (Or.inl ⟨by rfl, ?_⟩) (by assumption) ?_
              rotate_left
              · (intro w_ hSw; (try dsimp only at hSw); go_simp; try with_reducible rfl)
              try simp only [Act.put, List.setIfInBounds_toArray, List.set_cons_zero, List.set_cons_succ]
              refine wpAnyH_take (i := 6) (oi := ({ dst := (some 93), op := (Op.load 5 (Operand.tmp 92)), type := 5, pos := "law.go:72", after := #[{ on := 5, ground := Ground.data }], guard := none } : Oper)) (v := ?_) rfl (by kernel_rfl) (by kernel_rfl) (by kernel_rfl) (fun _ _ _ h => h) (Or.inl ⟨by rfl, ?_⟩) (by assumption) ?_
              rotate_left
              · (intro w_ hSw; (try dsimp only at hSw); go_simp; try with_reducible rfl)
              try simp only [Act.put, List.setIfInBounds_toArray, List.set_cons_zero, List.set_cons_succ]
              refine wpAnyH_take (i := 7) (oi := ({ dst := (some 94), op := (Op.move (Operand.tmp 0)), type := 39, pos := "law.go:72", after := #[], guard := none } : Oper)) (v := ?_) rfl (by kernel_rfl) (by kernel_rfl) (by kernel_rfl) (fun _ _ _ h => h) (Or.inl ⟨by rfl, ?_⟩) (by assumption) ?_
              rotate_left
              · (intro w_ hSw; (try dsimp only at hSw); go_simp; try with_reducible rfl)
              try simp only [Act.put, List.setIfInBounds_toArray, List.set_cons_zero, List.set_cons_succ]
              refine wpAnyH_take (i := 8) (oi := ({ dst := (some 95), op := (Op.move (Operand.tmp 9)), type := 3, pos := "law.go:72", after := #[], guard := none } : Oper)) (v := ?_) rfl (by kernel_rfl) (by kernel_rfl) (by kernel_rfl) (fun _ _ _ h => h) (Or.inl ⟨by rfl, ?_⟩) (by assumption) ?_
              rotate_left
              · (intro w_ hSw; (try dsimp only at hSw); go_simp; try with_reducible rfl)
              try simp only [Act.put, List.setIfInBounds_toArray, List.set_cons_zero, List.set_cons_succ]
              refine wpAnyH_take (i := 9) (oi := ({ dst := (some 96), op := (Op.indexAddr 39 (Operand.tmp 94) (Operand.tmp 95)), type := 0, pos := "law.go:72", after := #[{ on := 7, ground := Ground.data }, { on := 8, ground := Ground.data }], guard := none } : Oper)) (v := ?_) rfl (by kernel_rfl) (by kernel_rfl) (by kernel_rfl) (fun _ _ _ h => h) (Or.inl ⟨by rfl, ?_⟩) (by assumption) ?_
              rotate_left
              · (intro w_ hSw; (try dsimp only at hSw); go_simp; try with_reducible rfl)
              try simp only [Act.put, List.setIfInBounds_toArray, List.set_cons_zero, List.set_cons_succ]
              refine wpAnyH_take (i := 10) (oi := ({ dst := (some 97), op := (Op.fieldAddr 41 (Operand.tmp 96) 3), type := 0, pos := "law.go:72", after := #[{ on := 9, ground := Ground.data }], guard := none } : Oper)) (v := ?_) rfl (by kernel_rfl) (by kernel_rfl) (by kernel_rfl) (fun _ _ _ h => h) (Or.inl ⟨by rfl, ?_⟩) (by assumption) ?_
              rotate_left
              · (intro w_ hSw; (try dsimp only at hSw); go_simp; try with_reducible rfl)
              try simp only [Act.put, List.setIfInBounds_toArray, List.set_cons_zero, List.set_cons_succ]
              refine wpAnyH_take (i := 11) (oi := ({ dst := (some 98), op := (Op.load 5 (Operand.tmp 97)), type := 5, pos := "law.go:72", after := #[{ on := 10, ground := Ground.data }], guard := none } : Oper)) (v := ?_) rfl (by kernel_rfl) (by kernel_rfl) (by kernel_rfl) (fun _ _ _ h => h) (Or.inl ⟨by rfl, ?_⟩) (by assumption) ?_
              rotate_left
              · (intro w_ hSw; (try dsimp only at hSw); go_simp; try with_reducible rfl)
              try simp only [Act.put, List.setIfInBounds_toArray, List.set_cons_zero, List.set_cons_succ]
              refine wpAnyH_ready (rs := [0, 12]) (by kernel_rfl) (by simp) ?_
              refine AllReadyH.cons (o := ({ dst := (some 87), op := (Op.load 50 (Operand.tmp 8)), type := 50, pos := "law.go:72", after := #[], guard := none } : Oper)) rfl (fun K hK => ?_) ?_
              · go_simp
                refine hK.out _ _ (by first | exact hS_ | exact sOf hs7 | exact sOf (HS.out _ hm8.below) | exact sOf (HS.out _ (Pair.store hm8).below)) (fun hS_ => ?_)
                clear hK K
                try simp only [Act.put, List.setIfInBounds_toArray, List.set_cons_zero, List.set_cons_succ]
                refine wpAnyH_ready (rs := [12]) (by kernel_rfl) (by simp) ?_
                refine AllReadyH.cons (o := ({ dst := (some 99), op := (Op.call { callee := (Callee.value (Operand.func 17)), args := #[(Operand.tmp 93), (Operand.tmp 98)], argTypes := #[5, 5] }), type := 22, pos := "law.go:72", after := #[{ on := 6, ground := Ground.data }, { on := 11, ground := Ground.data }], guard := none } : Oper)) rfl (fun K hK => ?_) ?_
                · go_simp
                  refine (HB4.out _ (by repeat (first | exact Below.refl _ _ | refine pw_below_drewN ?_ _ | refine Below.drew ?_))).mono ?_
                  rintro e w7 ⟨v7, rfl, hs7, hc7, hw7⟩
                  refine hK.out _ _ (by first | exact hS_ | exact sOf hs7 | exact sOf (HS.out _ hm8.below) | exact sOf (HS.out _ (Pair.store hm8).below)) (fun hS_ => ?_)
                  clear hK K
                  try simp only [Act.put, List.setIfInBounds_toArray, List.set_cons_zero, List.set_cons_succ]
                  refine wpAnyH_ready (rs := [13]) (by kernel_rfl) (by simp) ?_
                  refine AllReadyH.cons (o := ({ dst := (some 100), op := (Op.call { callee := (Callee.value (Operand.func 20)), args := #[(Operand.tmp 87), (Operand.tmp 88), (Operand.tmp 99)], argTypes := #[50, 3, 22] }), type := 51, pos := "law.go:72", after := #[{ on := 0, ground := Ground.data }, { on := 1, ground := Ground.data }, { on := 12, ground := Ground.data }, { on := 12, ground := Ground.chain }], guard := none } : Oper)) rfl (fun K hK => ?_) ?_
                  · go_simp
                    refine hw7.mono ?_
                    rintro e w8 ⟨v8, rfl, hm8⟩
                    obtain ⟨a8, c8, rfl⟩ := hm8.slice
                    obtain ⟨hc8, hz8⟩ := hm8.cell
                    refine hK.out _ _ (by first | exact hS_ | exact sOf hs7 | exact sOf (HS.out _ hm8.below) | exact sOf (HS.out _ (Pair.store hm8).below)) (fun hS_ => ?_)
                    clear hK K
                    try simp only [Act.put, List.setIfInBounds_toArray, List.set_cons_zero, List.set_cons_succ]
                    refine wpAnyH_take (i := 14) (oi := ({ dst := (some 86), op := (Op.move (Operand.tmp 100)), type := 51, pos := "law.go:72", after := #[{ on := 13, ground := Ground.data }], guard := none } : Oper)) (v := ?_) rfl (by kernel_rfl) (by kernel_rfl) (by kernel_rfl) (fun _ _ _ h => h) (Or.inl ⟨by rfl, ?_⟩) (by assumption) ?_
                    rotate_left
                    · (intro w_ hSw; (try dsimp only at hSw); go_simp; try with_reducible rfl)
                    try simp only [Act.put, List.setIfInBounds_toArray, List.set_cons_zero, List.set_cons_succ]
                    refine wpAnyH_take (i := 15) (oi := ({ dst := (some 101), op := (Op.extract (Operand.tmp 86) 0), type := 50, pos := "law.go:72", after := #[{ on := 14, ground := Ground.data }], guard := none } : Oper)) (v := ?_) rfl (by kernel_rfl) (by kernel_rfl) (by kernel_rfl) (fun _ _ _ h => h) (Or.inl ⟨by rfl, ?_⟩) (by assumption) ?_
                    rotate_left
                    · (intro w_ hSw; (try dsimp only at hSw); go_simp; try with_reducible rfl)
                    try simp only [Act.put, List.setIfInBounds_toArray, List.set_cons_zero, List.set_cons_succ]
                    refine wpAnyH_take (i := 16) (oi := ({ dst := (some 102), op := (Op.extract (Operand.tmp 86) 1), type := 3, pos := "law.go:72", after := #[{ on := 14, ground := Ground.data }, { on := 17, ground := (Ground.gcOnly Departure.lateStores) }], guard := none } : Oper)) (v := ?_) rfl (by kernel_rfl) (by kernel_rfl) (by kernel_rfl) (fun _ _ _ h => h) (Or.inl ⟨by rfl, ?_⟩) (by assumption) ?_
                    rotate_left
                    · (intro w_ hSw; (try dsimp only at hSw); go_simp; try with_reducible rfl)
                    try simp only [Act.put, List.setIfInBounds_toArray, List.set_cons_zero, List.set_cons_succ]
                    refine wpAnyH_ready (rs := [17]) (by kernel_rfl) (by simp) ?_
                    refine AllReadyH.cons (o := ({ dst := none, op := (Op.store 50 (Operand.tmp 8) (Operand.tmp 101)), type := 0, pos := "law.go:72", after := #[{ on := 15, ground := Ground.data }, { on := 13, ground := Ground.chain }, { on := 0, ground := Ground.phase }, { on := 1, ground := Ground.phase }, { on := 2, ground := Ground.phase }, { on := 3, ground := Ground.phase }, { on := 4, ground := Ground.phase }, { on := 5, ground := Ground.phase }, { on := 6, ground := Ground.phase }, { on := 7, ground := Ground.phase }, { on := 8, ground := Ground.phase }, { on := 9, ground := Ground.phase }, { on := 10, ground := Ground.phase }, { on := 11, ground := Ground.phase }, { on := 12, ground := Ground.phase }, { on := 13, ground := Ground.phase }, { on := 14, ground := Ground.phase }, { on := 15, ground := Ground.phase }, { on := 16, ground := (Ground.textOnly Departure.lateStores) }], guard := none } : Oper)) rfl (fun K hK => ?_) ?_
                    · go_simp
                      refine hK.out _ _ (by first | exact hS_ | exact sOf hs7 | exact sOf (HS.out _ hm8.below) | exact sOf (HS.out _ (Pair.store hm8).below)) (fun hS_ => ?_)
                      clear hK K
                      try simp only [Act.put, List.setIfInBounds_toArray, List.set_cons_zero, List.set_cons_succ]
                      refine wpAnyH_take (i := 18) (oi := ({ dst := (some 11), op := (Op.assign (Operand.tmp 102)), type := 3, pos := "law.go:72", after := #[{ on := 16, ground := Ground.data }, { on := 17, ground := Ground.chain }, { on := 0, ground := Ground.phase }, { on := 1, ground := Ground.phase }, { on := 2, ground := Ground.phase }, { on := 3, ground := Ground.phase }, { on := 4, ground := Ground.phase }, { on := 5, ground := Ground.phase }, { on := 6, ground := Ground.phase }, { on := 7, ground := Ground.phase }, { on := 8, ground := Ground.phase }, { on := 9, ground := Ground.phase }, { on := 10, ground := Ground.phase }, { on := 11, ground := Ground.phase }, { on := 12, ground := Ground.phase }, { on := 13, ground := Ground.phase }, { on := 14, ground := Ground.phase }, { on := 15, ground := Ground.phase }, { on := 16, ground := Ground.phase }, { on := 17, ground := Ground.phase }], guard := none } : Oper)) (v := ?_) rfl (by kernel_rfl) (by kernel_rfl) (by kernel_rfl) (fun _ _ _ h => h) (Or.inl ⟨by rfl, ?_⟩) (by assumption) ?_
                      rotate_left
                      · (intro w_ hSw; (try dsimp only at hSw); go_simp; try with_reducible rfl)
                      try simp only [Act.put, List.setIfInBounds_toArray, List.set_cons_zero, List.set_cons_succ]
                      refine wpAnyH_done (by kernel_rfl) ?_ _
                      refine NoPanic.normal ?_
                      have HPX := Lib.hid (Pair.store hm8)
                      clear hm8 hs7 hc7 hw7 HB4 HM6 c0 c1 c2 c3 hc6
                      have HSA := Lib.hid (psame HPX.out (by have := HN2.out.len; omega))
                      clear HPX
                      go_wp2_with fail
                      refine HSA.out.mono ?_
                      rintro e w20 ⟨rfl, hp20⟩
                      have HRD := Lib.hid (pread raw hp20 HRAW.out)
                      clear hp20 HSA
                      go_wp2_with fail
                      refine HRD.out.mono ?_
                      rintro e w21 ⟨⟨a21, n21, c21, rfl⟩, hp21⟩
                      have hc21 := hp21.cell
                      obtain ⟨hc21a, hc21b⟩ := hc21
                      have HRR := Lib.hid (prread raw hp21 (by have := HN2.out.len; omega))
                      obtain ⟨a22, c22, hv22⟩ := hp21.slice
                      obtain ⟨G, hG⟩ : ∃ G : Int, G = (if (Fs.get fs2 raw).isSome = true then 0 else 71) := ⟨_, rfl⟩
                      have hGb : 0 ≤ G ∧ G ≤ 71 := by rw [hG]; split <;> omega
                      obtain ⟨hG0, hG1⟩ := hGb
                      rw [← hG] at HRR ⊢
                      have hGG : (G != G) = false := by simp
                      have hGw : IntKind.i64.wrap G = G := IntWalk.i64_in _ (by omega)
                      clear hp21 HRD hG hv22
                      go_wp2_with fail
                      refine HRR.out.mono ?_
                      rintro e w22 ⟨⟨u22, rfl⟩, hp22⟩
                      have HP22 := Lib.hid hp22
                      clear hp22 HRR hc21a hc21b
                      go_wp2_with fail
                      go_roundw
                      case rel => exact ⟨k + 1, dd, _, fs2, by omega, by go_num, rfl, HP22, HN2⟩
                      case measure => simp [intOf]; omega
                    exact AllReadyH.nil
                  exact AllReadyH.nil
                exact AllReadyH.nil
              refine AllReadyH.cons (o := ({ dst := (some 99), op := (Op.call { callee := (Callee.value (Operand.func 17)), args := #[(Operand.tmp 93), (Operand.tmp 98)], argTypes := #[5, 5] }), type := 22, pos := "law.go:72", after := #[{ on := 6, ground := Ground.data }, { on := 11, ground := Ground.data }], guard := none } : Oper)) rfl (fun K hK => ?_) ?_
              · go_simp
                refine (HB4.out _ (by repeat (first | exact Below.refl _ _ | refine pw_below_drewN ?_ _ | refine Below.drew ?_))).mono ?_
                rintro e w7 ⟨v7, rfl, hs7, hc7, hw7⟩
                refine hK.out _ _ (by first | exact hS_ | exact sOf hs7 | exact sOf (HS.out _ hm8.below) | exact sOf (HS.out _ (Pair.store hm8).below)) (fun hS_ => ?_)
                clear hK K
                try simp only [Act.put, List.setIfInBounds_toArray, List.set_cons_zero, List.set_cons_succ]
                refine wpAnyH_ready (rs := [0]) (by kernel_rfl) (by simp) ?_
                refine AllReadyH.cons (o := ({ dst := (some 87), op := (Op.load 50 (Operand.tmp 8)), type := 50, pos := "law.go:72", after := #[], guard := none } : Oper)) rfl (fun K hK => ?_) ?_
                · go_simp
                  refine hK.out _ _ (by first | exact hS_ | exact sOf hs7 | exact sOf (HS.out _ hm8.below) | exact sOf (HS.out _ (Pair.store hm8).below)) (fun hS_ => ?_)
                  clear hK K
                  try simp only [Act.put, List.setIfInBounds_toArray, List.set_cons_zero, List.set_cons_succ]
                  refine wpAnyH_ready (rs := [13]) (by kernel_rfl) (by simp) ?_
                  refine AllReadyH.cons (o := ({ dst := (some 100), op := (Op.call { callee := (Callee.value (Operand.func 20)), args := #[(Operand.tmp 87), (Operand.tmp 88), (Operand.tmp 99)], argTypes := #[50, 3, 22] }), type := 51, pos := "law.go:72", after := #[{ on := 0, ground := Ground.data }, { on := 1, ground := Ground.data }, { on := 12, ground := Ground.data }, { on := 12, ground := Ground.chain }], guard := none } : Oper)) rfl (fun K hK => ?_) ?_
                  · go_simp
                    refine hw7.mono ?_
                    rintro e w8 ⟨v8, rfl, hm8⟩
                    obtain ⟨a8, c8, rfl⟩ := hm8.slice
                    obtain ⟨hc8, hz8⟩ := hm8.cell
                    refine hK.out _ _ (by first | exact hS_ | exact sOf hs7 | exact sOf (HS.out _ hm8.below) | exact sOf (HS.out _ (Pair.store hm8).below)) (fun hS_ => ?_)
                    clear hK K
                    try simp only [Act.put, List.setIfInBounds_toArray, List.set_cons_zero, List.set_cons_succ]
                    refine wpAnyH_take (i := 14) (oi := ({ dst := (some 86), op := (Op.move (Operand.tmp 100)), type := 51, pos := "law.go:72", after := #[{ on := 13, ground := Ground.data }], guard := none } : Oper)) (v := ?_) rfl (by kernel_rfl) (by kernel_rfl) (by kernel_rfl) (fun _ _ _ h => h) (Or.inl ⟨by rfl, ?_⟩) (by assumption) ?_
                    rotate_left
                    · (intro w_ hSw; (try dsimp only at hSw); go_simp; try with_reducible rfl)
                    try simp only [Act.put, List.setIfInBounds_toArray, List.set_cons_zero, List.set_cons_succ]
                    refine wpAnyH_take (i := 15) (oi := ({ dst := (some 101), op := (Op.extract (Operand.tmp 86) 0), type := 50, pos := "law.go:72", after := #[{ on := 14, ground := Ground.data }], guard := none } : Oper)) (v := ?_) rfl (by kernel_rfl) (by kernel_rfl) (by kernel_rfl) (fun _ _ _ h => h) (Or.inl ⟨by rfl, ?_⟩) (by assumption) ?_
                    rotate_left
                    · (intro w_ hSw; (try dsimp only at hSw); go_simp; try with_reducible rfl)
                    try simp only [Act.put, List.setIfInBounds_toArray, List.set_cons_zero, List.set_cons_succ]
                    refine wpAnyH_take (i := 16) (oi := ({ dst := (some 102), op := (Op.extract (Operand.tmp 86) 1), type := 3, pos := "law.go:72", after := #[{ on := 14, ground := Ground.data }, { on := 17, ground := (Ground.gcOnly Departure.lateStores) }], guard := none } : Oper)) (v := ?_) rfl (by kernel_rfl) (by kernel_rfl) (by kernel_rfl) (fun _ _ _ h => h) (Or.inl ⟨by rfl, ?_⟩) (by assumption) ?_
                    rotate_left
                    · (intro w_ hSw; (try dsimp only at hSw); go_simp; try with_reducible rfl)
                    try simp only [Act.put, List.setIfInBounds_toArray, List.set_cons_zero, List.set_cons_succ]
                    refine wpAnyH_ready (rs := [17]) (by kernel_rfl) (by simp) ?_
                    refine AllReadyH.cons (o := ({ dst := none, op := (Op.store 50 (Operand.tmp 8) (Operand.tmp 101)), type := 0, pos := "law.go:72", after := #[{ on := 15, ground := Ground.data }, { on := 13, ground := Ground.chain }, { on := 0, ground := Ground.phase }, { on := 1, ground := Ground.phase }, { on := 2, ground := Ground.phase }, { on := 3, ground := Ground.phase }, { on := 4, ground := Ground.phase }, { on := 5, ground := Ground.phase }, { on := 6, ground := Ground.phase }, { on := 7, ground := Ground.phase }, { on := 8, ground := Ground.phase }, { on := 9, ground := Ground.phase }, { on := 10, ground := Ground.phase }, { on := 11, ground := Ground.phase }, { on := 12, ground := Ground.phase }, { on := 13, ground := Ground.phase }, { on := 14, ground := Ground.phase }, { on := 15, ground := Ground.phase }, { on := 16, ground := (Ground.textOnly Departure.lateStores) }], guard := none } : Oper)) rfl (fun K hK => ?_) ?_
                    · go_simp
                      refine hK.out _ _ (by first | exact hS_ | exact sOf hs7 | exact sOf (HS.out _ hm8.below) | exact sOf (HS.out _ (Pair.store hm8).below)) (fun hS_ => ?_)
                      clear hK K
                      try simp only [Act.put, List.setIfInBounds_toArray, List.set_cons_zero, List.set_cons_succ]
                      refine wpAnyH_take (i := 18) (oi := ({ dst := (some 11), op := (Op.assign (Operand.tmp 102)), type := 3, pos := "law.go:72", after := #[{ on := 16, ground := Ground.data }, { on := 17, ground := Ground.chain }, { on := 0, ground := Ground.phase }, { on := 1, ground := Ground.phase }, { on := 2, ground := Ground.phase }, { on := 3, ground := Ground.phase }, { on := 4, ground := Ground.phase }, { on := 5, ground := Ground.phase }, { on := 6, ground := Ground.phase }, { on := 7, ground := Ground.phase }, { on := 8, ground := Ground.phase }, { on := 9, ground := Ground.phase }, { on := 10, ground := Ground.phase }, { on := 11, ground := Ground.phase }, { on := 12, ground := Ground.phase }, { on := 13, ground := Ground.phase }, { on := 14, ground := Ground.phase }, { on := 15, ground := Ground.phase }, { on := 16, ground := Ground.phase }, { on := 17, ground := Ground.phase }], guard := none } : Oper)) (v := ?_) rfl (by kernel_rfl) (by kernel_rfl) (by kernel_rfl) (fun _ _ _ h => h) (Or.inl ⟨by rfl, ?_⟩) (by assumption) ?_
                      rotate_left
                      · (intro w_ hSw; (try dsimp only at hSw); go_simp; try with_reducible rfl)
                      try simp only [Act.put, List.setIfInBounds_toArray, List.set_cons_zero, List.set_cons_succ]
                      refine wpAnyH_done (by kernel_rfl) ?_ _
                      refine NoPanic.normal ?_
                      have HPX := Lib.hid (Pair.store hm8)
                      clear hm8 hs7 hc7 hw7 HB4 HM6 c0 c1 c2 c3 hc6
                      have HSA := Lib.hid (psame HPX.out (by have := HN2.out.len; omega))
                      clear HPX
                      go_wp2_with fail
                      refine HSA.out.mono ?_
                      rintro e w20 ⟨rfl, hp20⟩
                      have HRD := Lib.hid (pread raw hp20 HRAW.out)
                      clear hp20 HSA
                      go_wp2_with fail
                      refine HRD.out.mono ?_
                      rintro e w21 ⟨⟨a21, n21, c21, rfl⟩, hp21⟩
                      have hc21 := hp21.cell
                      obtain ⟨hc21a, hc21b⟩ := hc21
                      have HRR := Lib.hid (prread raw hp21 (by have := HN2.out.len; omega))
                      obtain ⟨a22, c22, hv22⟩ := hp21.slice
                      obtain ⟨G, hG⟩ : ∃ G : Int, G = (if (Fs.get fs2 raw).isSome = true then 0 else 71) := ⟨_, rfl⟩
                      have hGb : 0 ≤ G ∧ G ≤ 71 := by rw [hG]; split <;> omega
                      obtain ⟨hG0, hG1⟩ := hGb
                      rw [← hG] at HRR ⊢
                      have hGG : (G != G) = false := by simp
                      have hGw : IntKind.i64.wrap G = G := IntWalk.i64_in _ (by omega)
                      clear hp21 HRD hG hv22
                      go_wp2_with fail
                      refine HRR.out.mono ?_
                      rintro e w22 ⟨⟨u22, rfl⟩, hp22⟩
                      have HP22 := Lib.hid hp22
                      clear hp22 HRR hc21a hc21b
                      go_wp2_with fail
                      go_roundw
                      case rel => exact ⟨k + 1, dd, _, fs2, by omega, by go_num, rfl, HP22, HN2⟩
                      case measure => simp [intOf]; omega
                    exact AllReadyH.nil
                  exact AllReadyH.nil
                exact AllReadyH.nil
              exact AllReadyH.nil
          | 3, _ =>
            as_aux_lemma =>
              go_upto_region 11 with fail
              obtain ⟨E, hE⟩ : ∃ E : Int, E = (if (fs.get raw).isSome = true then 0 else 71) := ⟨_, rfl⟩
              have hEb : 0 ≤ E ∧ E ≤ 71 := by rw [hE]; first | (split <;> omega) | (unfold wErr; split <;> omega)
              obtain ⟨hE0, hE1⟩ := hEb
              have hEE : (E != E) = false := by simp
              have hEw : IntKind.i64.wrap E = E := IntWalk.i64_in _ (by omega)
              have HC1 := Lib.hid (psync raw HT.out HWN.out)
              have HE := Lib.hid hE
              clear hE
              go_wp2_with fail
              refine HC1.out.mono ?_
              clear hS hix
              rintro e w6 ⟨rfl, hm6⟩
              obtain ⟨hc6, hz6⟩ := hm6.cell
              obtain ⟨a6, c6, rfl⟩ := hm6.slice
              have HC2 := Lib.hid (prsync raw hm6 (Pair.sorted HT.out) (by have := HN.out.len; omega))
              clear hm6 HC1
              rw [← HE.out]
              go_wp2_with fail
              refine HC2.out.mono ?_
              rintro e w8 ⟨v8, rfl, hm8⟩
              rw [← HE.out]
              obtain ⟨a8, c8, rfl⟩ := hm8.slice
              obtain ⟨hc8, hz8⟩ := hm8.cell
              have HPX := Lib.hid (Pair.store hm8)
              have HN2 := Lib.hid ((HN.out.mono).sync raw)
              obtain ⟨fs2, hfs2⟩ : ∃ fs2, fs2 = fs.sync raw := ⟨_, rfl⟩
              rw [← hfs2] at HPX HN2 ⊢
              clear hm8 HC2 HE hfs2 hc6 hz6 HT HN
              have HSA := Lib.hid (psame HPX.out (by have := HN2.out.len; omega))
              clear HPX
              go_wp2_with fail
              refine HSA.out.mono ?_
              rintro e w20 ⟨rfl, hp20⟩
              have HRD := Lib.hid (pread raw hp20 HRAW.out)
              clear hp20 HSA
              go_wp2_with fail
              refine HRD.out.mono ?_
              rintro e w21 ⟨⟨a21, n21, c21, rfl⟩, hp21⟩
              have hc21 := hp21.cell
              obtain ⟨hc21a, hc21b⟩ := hc21
              have HRR := Lib.hid (prread raw hp21 (by have := HN2.out.len; omega))
              obtain ⟨a22, c22, hv22⟩ := hp21.slice
              obtain ⟨G, hG⟩ : ∃ G : Int, G = (if (Fs.get fs2 raw).isSome = true then 0 else 71) := ⟨_, rfl⟩
              have hGb : 0 ≤ G ∧ G ≤ 71 := by rw [hG]; split <;> omega
              obtain ⟨hG0, hG1⟩ := hGb
              rw [← hG] at HRR ⊢
              have hGG : (G != G) = false := by simp
              have hGw : IntKind.i64.wrap G = G := IntWalk.i64_in _ (by omega)
              clear hp21 HRD hG hv22
              go_wp2_with fail
              refine HRR.out.mono ?_
              rintro e w22 ⟨⟨u22, rfl⟩, hp22⟩
              have HP22 := Lib.hid hp22
              clear hp22 HRR hc21a hc21b
              go_wp2_with fail
              go_roundw
              case rel => exact ⟨k + 1, dd, _, fs2, by omega, by go_num, rfl, HP22, HN2⟩
              case measure => simp [intOf]; omega
          | 4, _ =>
            as_aux_lemma =>
              go_upto_region 11 with fail
              obtain ⟨E, hE⟩ : ∃ E : Int, E = (if (fs.get raw).isSome = true then 0 else 71) := ⟨_, rfl⟩
              have hEb : 0 ≤ E ∧ E ≤ 71 := by rw [hE]; first | (split <;> omega) | (unfold wErr; split <;> omega)
              obtain ⟨hE0, hE1⟩ := hEb
              have hEE : (E != E) = false := by simp
              have hEw : IntKind.i64.wrap E = E := IntWalk.i64_in _ (by omega)
              have HC1 := Lib.hid (premove raw HT.out HWN.out)
              have HE := Lib.hid hE
              clear hE
              go_wp2_with fail
              refine HC1.out.mono ?_
              clear hS hix
              rintro e w6 ⟨rfl, hm6⟩
              obtain ⟨hc6, hz6⟩ := hm6.cell
              obtain ⟨a6, c6, rfl⟩ := hm6.slice
              have HC2 := Lib.hid (prremove raw hm6 (by have := HN.out.len; omega))
              clear hm6 HC1
              rw [← HE.out]
              go_wp2_with fail
              refine HC2.out.mono ?_
              rintro e w8 ⟨v8, rfl, hm8⟩
              rw [← HE.out]
              obtain ⟨a8, c8, rfl⟩ := hm8.slice
              obtain ⟨hc8, hz8⟩ := hm8.cell
              have HPX := Lib.hid (Pair.store hm8)
              have HN2 := Lib.hid ((HN.out.mono).del raw)
              obtain ⟨fs2, hfs2⟩ : ∃ fs2, fs2 = fs.del raw := ⟨_, rfl⟩
              rw [← hfs2] at HPX HN2 ⊢
              clear hm8 HC2 HE hfs2 hc6 hz6 HT HN
              have HSA := Lib.hid (psame HPX.out (by have := HN2.out.len; omega))
              clear HPX
              go_wp2_with fail
              refine HSA.out.mono ?_
              rintro e w20 ⟨rfl, hp20⟩
              have HRD := Lib.hid (pread raw hp20 HRAW.out)
              clear hp20 HSA
              go_wp2_with fail
              refine HRD.out.mono ?_
              rintro e w21 ⟨⟨a21, n21, c21, rfl⟩, hp21⟩
              have hc21 := hp21.cell
              obtain ⟨hc21a, hc21b⟩ := hc21
              have HRR := Lib.hid (prread raw hp21 (by have := HN2.out.len; omega))
              obtain ⟨a22, c22, hv22⟩ := hp21.slice
              obtain ⟨G, hG⟩ : ∃ G : Int, G = (if (Fs.get fs2 raw).isSome = true then 0 else 71) := ⟨_, rfl⟩
              have hGb : 0 ≤ G ∧ G ≤ 71 := by rw [hG]; split <;> omega
              obtain ⟨hG0, hG1⟩ := hGb
              rw [← hG] at HRR ⊢
              have hGG : (G != G) = false := by simp
              have hGw : IntKind.i64.wrap G = G := IntWalk.i64_in _ (by omega)
              clear hp21 HRD hG hv22
              go_wp2_with fail
              refine HRR.out.mono ?_
              rintro e w22 ⟨⟨u22, rfl⟩, hp22⟩
              have HP22 := Lib.hid hp22
              clear hp22 HRR hc21a hc21b
              go_wp2_with fail
              go_roundw
              case rel => exact ⟨k + 1, dd, _, fs2, by omega, by go_num, rfl, HP22, HN2⟩
              case measure => simp [intOf]; omega
          | 5, _ =>
            as_aux_lemma =>
              go_upto_region 11 with fail
              have hEE : ((0 : Int) != (0 : Int)) = false := by simp
              by_cases hlt3 : (k : Int) < (dlen : Int)
              · have hrw := RowOf.below HD.out HT.out.below
                have hixd := fun W => hrw.index Try.prog 47 32 Try.underlying47 (by kernel_rfl) k (by omega) W
                have hcd := hrw.cell k (by omega)
                have hkd : k < ds.length := by have := hrw.len_eq; omega
                have hgd : ds.getD k 0 = ds[k] := by rw [List.getD_eq_getElem?_getD, List.getElem?_eq_getElem hkd]; rfl
                obtain ⟨x0, x1⟩ := u64_of_wf (HDW.out _ (List.getElem_mem hkd))
                rw [hgd] at hcd
                obtain ⟨DR, hDR⟩ : ∃ DR : Nat, ds[k] = (DR : Int) := ⟨ds[k].toNat, by omega⟩
                rw [hDR] at hcd x0 x1
                generalize adr da k = add at *
                clear hrw hgd hDR hkd
                have HC1 := Lib.hid (pcrash DR HT.out (by omega))
                go_wp2_with fail
                refine HC1.out.mono ?_
                clear hS
                rintro e w6 ⟨rfl, hm6⟩
                obtain ⟨hc6, hz6⟩ := hm6.cell
                obtain ⟨a6, c6, rfl⟩ := hm6.slice
                have HC2 := Lib.hid (prcrash DR hm6 (by have := HN.out.len; omega) (by omega) (fun p hp => ⟨((Pair.small HT.out) p hp).1, ((Pair.small HT.out) p hp).2.1⟩))
                clear hm6 HC1
                go_wp2_with fail
                refine HC2.out.mono ?_
                rintro e w8 ⟨v8, rfl, hm8⟩
                obtain ⟨a8, c8, rfl⟩ := hm8.slice
                obtain ⟨hc8, hz8⟩ := hm8.cell
                have HPX := Lib.hid (Pair.store hm8)
                have HN2 := Lib.hid ((HN.out.mono).crash DR)
                obtain ⟨fs2, hfs2⟩ : ∃ fs2, fs2 = fs.crash DR := ⟨_, rfl⟩
                rw [← hfs2] at HPX HN2 ⊢
                clear hm8 HC2 hfs2 hc6 hz6 HT HN
                have HSA := Lib.hid (psame HPX.out (by have := HN2.out.len; omega))
                clear HPX
                go_wp2_with fail
                refine HSA.out.mono ?_
                rintro e w20 ⟨rfl, hp20⟩
                have HRD := Lib.hid (pread raw hp20 HRAW.out)
                clear hp20 HSA
                go_wp2_with fail
                refine HRD.out.mono ?_
                rintro e w21 ⟨⟨a21, n21, c21, rfl⟩, hp21⟩
                have hc21 := hp21.cell
                obtain ⟨hc21a, hc21b⟩ := hc21
                have HRR := Lib.hid (prread raw hp21 (by have := HN2.out.len; omega))
                obtain ⟨a22, c22, hv22⟩ := hp21.slice
                obtain ⟨G, hG⟩ : ∃ G : Int, G = (if (Fs.get fs2 raw).isSome = true then 0 else 71) := ⟨_, rfl⟩
                have hGb : 0 ≤ G ∧ G ≤ 71 := by rw [hG]; split <;> omega
                obtain ⟨hG0, hG1⟩ := hGb
                rw [← hG] at HRR ⊢
                have hGG : (G != G) = false := by simp
                have hGw : IntKind.i64.wrap G = G := IntWalk.i64_in _ (by omega)
                clear hp21 HRD hG hv22
                go_wp2_with fail
                refine HRR.out.mono ?_
                rintro e w22 ⟨⟨u22, rfl⟩, hp22⟩
                have HP22 := Lib.hid hp22
                clear hp22 HRR hc21a hc21b
                go_wp2_with fail
                go_roundw
                case rel => exact ⟨k + 1, dd, _, fs2, by omega, by go_num, rfl, HP22, HN2⟩
                case measure => simp [intOf]; omega
              · have hwz : IntKind.u64.wrap (z2 : Int) = (z2 : Int) := by rw [IntKind.wrap_u64]; omega
                obtain ⟨DR, hDR⟩ : ∃ DR : Nat, DR = z2 := ⟨_, rfl⟩
                rw [← hDR] at hwz hS
                have q2' : (DR : Int) ≤ 255 := by rw [hDR]; exact q2
                clear hDR
                have HC1 := Lib.hid (pcrash DR HT.out (by omega))
                go_wp2_with fail
                refine HC1.out.mono ?_
                clear hS
                rintro e w6 ⟨rfl, hm6⟩
                obtain ⟨hc6, hz6⟩ := hm6.cell
                obtain ⟨a6, c6, rfl⟩ := hm6.slice
                have HC2 := Lib.hid (prcrash DR hm6 (by have := HN.out.len; omega) (by omega) (fun p hp => ⟨((Pair.small HT.out) p hp).1, ((Pair.small HT.out) p hp).2.1⟩))
                clear hm6 HC1
                go_wp2_with fail
                refine HC2.out.mono ?_
                rintro e w8 ⟨v8, rfl, hm8⟩
                obtain ⟨a8, c8, rfl⟩ := hm8.slice
                obtain ⟨hc8, hz8⟩ := hm8.cell
                have HPX := Lib.hid (Pair.store hm8)
                have HN2 := Lib.hid ((HN.out.mono).crash DR)
                obtain ⟨fs2, hfs2⟩ : ∃ fs2, fs2 = fs.crash DR := ⟨_, rfl⟩
                rw [← hfs2] at HPX HN2 ⊢
                clear hm8 HC2 hfs2 hc6 hz6 HT HN
                have HSA := Lib.hid (psame HPX.out (by have := HN2.out.len; omega))
                clear HPX
                go_wp2_with fail
                refine HSA.out.mono ?_
                rintro e w20 ⟨rfl, hp20⟩
                have HRD := Lib.hid (pread raw hp20 HRAW.out)
                clear hp20 HSA
                go_wp2_with fail
                refine HRD.out.mono ?_
                rintro e w21 ⟨⟨a21, n21, c21, rfl⟩, hp21⟩
                have hc21 := hp21.cell
                obtain ⟨hc21a, hc21b⟩ := hc21
                have HRR := Lib.hid (prread raw hp21 (by have := HN2.out.len; omega))
                obtain ⟨a22, c22, hv22⟩ := hp21.slice
                obtain ⟨G, hG⟩ : ∃ G : Int, G = (if (Fs.get fs2 raw).isSome = true then 0 else 71) := ⟨_, rfl⟩
                have hGb : 0 ≤ G ∧ G ≤ 71 := by rw [hG]; split <;> omega
                obtain ⟨hG0, hG1⟩ := hGb
                rw [← hG] at HRR ⊢
                have hGG : (G != G) = false := by simp
                have hGw : IntKind.i64.wrap G = G := IntWalk.i64_in _ (by omega)
                clear hp21 HRD hG hv22
                go_wp2_with fail
                refine HRR.out.mono ?_
                rintro e w22 ⟨⟨u22, rfl⟩, hp22⟩
                have HP22 := Lib.hid hp22
                clear hp22 HRR hc21a hc21b
                go_wp2_with fail
                go_roundw
                case rel => exact ⟨k + 1, dd, _, fs2, by omega, by go_num, rfl, HP22, HN2⟩
                case measure => simp [intOf]; omega
          | 6, _ =>
            as_aux_lemma =>
              go_upto_region 11 with fail
              have hEE : ((0 : Int) != (0 : Int)) = false := by simp
              have HC1 := Lib.hid (pcopy HT.out)
              go_wp2_with fail
              refine HC1.out.mono ?_
              clear hS hix
              rintro e w8 ⟨cc, rfl, hm8⟩
              obtain ⟨hc8, hz8⟩ := hm8.cell
              obtain ⟨a8, c8, hv8⟩ := hm8.slice
              subst hv8
              have HPX := Lib.hid hm8
              have HN2 := Lib.hid HN.out.mono
              clear hm8 HC1 HT HN
              have HSA := Lib.hid (psame HPX.out (by have := HN2.out.len; omega))
              clear HPX
              go_wp2_with fail
              refine HSA.out.mono ?_
              rintro e w20 ⟨rfl, hp20⟩
              have HRD := Lib.hid (pread raw hp20 HRAW.out)
              clear hp20 HSA
              go_wp2_with fail
              refine HRD.out.mono ?_
              rintro e w21 ⟨⟨a21, n21, c21, rfl⟩, hp21⟩
              have hc21 := hp21.cell
              obtain ⟨hc21a, hc21b⟩ := hc21
              have HRR := Lib.hid (prread raw hp21 (by have := HN2.out.len; omega))
              obtain ⟨a22, c22, hv22⟩ := hp21.slice
              obtain ⟨G, hG⟩ : ∃ G : Int, G = (if (Fs.get fs raw).isSome = true then 0 else 71) := ⟨_, rfl⟩
              have hGb : 0 ≤ G ∧ G ≤ 71 := by rw [hG]; split <;> omega
              obtain ⟨hG0, hG1⟩ := hGb
              rw [← hG] at HRR ⊢
              have hGG : (G != G) = false := by simp
              have hGw : IntKind.i64.wrap G = G := IntWalk.i64_in _ (by omega)
              clear hp21 HRD hG hv22
              go_wp2_with fail
              refine HRR.out.mono ?_
              rintro e w22 ⟨⟨u22, rfl⟩, hp22⟩
              have HP22 := Lib.hid hp22
              clear hp22 HRR hc21a hc21b
              go_wp2_with fail
              go_roundw
              case rel => exact ⟨k + 1, cc, _, fs, by omega, by go_num, rfl, HP22, HN2⟩
              case measure => simp [intOf]; omega
        · obtain ⟨no, hno⟩ : ∃ no : Int, no = (nm : Int) := ⟨_, rfl⟩
          have HWN : Hid ((Lit.int .i64 no).wf = true) := Lib.hid (by rw [hno]; exact wf_i64 (by omega) (by omega))
          rw [← hno] at hwno hr2
          clear hno4 hno
          match rr, hrl with
          | 0, _ =>
            as_aux_lemma =>
              go_upto_region 11 with fail
              clear hwno hr2
              obtain ⟨bs, hbs⟩ : ∃ bs, bs = bytesM z2 z3 := ⟨_, rfl⟩
              have hbl : bs.length ≤ 8 := by rw [hbs, bytesM_len]; omega
              have HBY := Lib.hid fun W => bytes_calls z2 z3 W (by omega) (by omega)
              rw [← hbs] at HBY
              obtain ⟨E, hE⟩ : ∃ E : Int, E = wErr no := ⟨_, rfl⟩
              have hEb : 0 ≤ E ∧ E ≤ 71 := by rw [hE]; first | (split <;> omega) | (unfold wErr; split <;> omega)
              obtain ⟨hE0, hE1⟩ := hEb
              have hEE : (E != E) = false := by simp
              have hEw : IntKind.i64.wrap E = E := IntWalk.i64_in _ (by omega)
              have HN2 := Lib.hid (HN.out.writeK no bs hbl)
              have HSO := Lib.hid HT.out.sorted
              have hz8 : (((fs.get no).map (·.bytes)).getD []).length + bs.length ≤ 1000000 := by have := Fs.get_big HN.out.big no; omega
              have hln := HN.out.len
              have HB2 : Hid (∀ W, Below wr.heap.size wr W → Calls Try.prog 17 #[.int .u8 (z2 : Int), .int .u8 (z3 : Int)] W fun e w' => ∃ v5, e = .returned v5 ∧ HeldW w ad (z0 : Int) (z1 : Int) (z2 : Int) (z3 : Int) w' ∧ Calls Try.prog 11 #[.pointer (some ⟨dd, 0, none⟩), .int .i64 no, v5] w' fun e w' => e = .returned (.int .u16 E) ∧ Pair w w' dd g v v (fs.writeK no bs) fs ∧ HeldW w ad (z0 : Int) (z1 : Int) (z2 : Int) (z3 : Int) w') := Lib.hid fun W hW => by
                refine (HBY.out W).mono ?_
                rintro e w5 ⟨v5, rfl, hb5, ho5⟩
                have hm := HT.out.next hW
                refine ⟨v5, rfl, HS.out _ (hm.next hb5).below, (pwrite no hm hb5 ho5 (by omega) hz8).mono ?_⟩
                rintro e w6 ⟨rfl, hm6⟩
                exact ⟨by rw [hE], hm6, HS.out _ hm6.below⟩
              have HB3 : Hid (∀ w6, Pair w w6 dd g v v (fs.writeK no bs) fs → ∀ W, Below w6.heap.size w6 W → Calls Try.prog 17 #[.int .u8 (z2 : Int), .int .u8 (z3 : Int)] W fun e w' => ∃ v5, e = .returned v5 ∧ HeldW w ad (z0 : Int) (z1 : Int) (z2 : Int) (z3 : Int) w' ∧ w'.cell? ⟨g, 0, none⟩ = some v ∧ Calls Try.prog 20 #[.agg #[v], .int .i64 no, v5] w' fun e w' => ∃ v', e = .returned (.tuple #[.agg #[v'], .int .i64 E]) ∧ Pair w w' dd g v v' (fs.writeK no bs) (fs.writeK no bs)) := Lib.hid fun w6 h6 W hW => by
                refine (HBY.out W).mono ?_
                rintro e w5 ⟨v5, rfl, hb5, ho5⟩
                have hm := h6.next hW
                refine ⟨v5, rfl, HS.out _ (hm.next hb5).below, (hm.next hb5).cell.1, (prwrite no hm HSO.out hb5 ho5 (by omega) hz8).mono ?_⟩
                rintro e w8 ⟨v', rfl, hm8⟩
                exact ⟨v', by rw [hE], hm8⟩
              clear hE hbs hz8
              go_wp2_with fail
              go_region_held3 (fun W => W.cell? ad = some (.int .u8 (z0 : Int)) ∧ W.cell? ⟨ad.block, ad.off + 1, none⟩ = some (.int .u8 (z1 : Int)) ∧ W.cell? ⟨ad.block, ad.off + 2, none⟩ = some (.int .u8 (z2 : Int)) ∧ W.cell? ⟨ad.block, ad.off + 3, none⟩ = some (.int .u8 (z3 : Int)) ∧ Below w.heap.size w W)
                (first | assumption | exact HS.out _ (pw_below_drewN HT.out.below _) | exact HS.out _ (Below.drew HT.out.below) | go_keep)
                (first | (go_at_call 17; (with_reducible refine (HB2.out _ (by repeat (first | exact Below.refl _ _ | refine pw_below_drewN ?_ _ | refine Below.drew ?_))).mono ?_); rintro e w5 ⟨v5, rfl, hs5, hw5⟩) | (go_at_call 11; (with_reducible refine hw5.mono ?_); rintro e w6 ⟨rfl, hm6, hs6⟩))
              have HM6 := Lib.hid hm6
              obtain ⟨c0, c1, c2, c3, _⟩ := hs6
              have hc6 := hm6.cell.1
              have HB4 := Lib.hid (HB3.out w6 hm6)
              obtain ⟨fs2, hfs2⟩ : ∃ fs2, fs2 = fs.writeK no bs := ⟨_, rfl⟩
              rw [← hfs2] at HM6 HN2 HB4
              clear hm6 hfs2 hS hs5 hw5 HBY HB2 HB3 HN
              go_wp2_with fail
              refine wp_region_noPanic ?_
              refine wp_region_held_drew (S := fun W => W.cell? ⟨ad.block, ad.off + 2, none⟩ = some (.int .u8 (z2 : Int)) ∧ W.cell? ⟨ad.block, ad.off + 3, none⟩ = some (.int .u8 (z3 : Int))) (by kernel_rfl) (by exact sOf (HS.out _ (Below.drew HM6.out.below))) (fun hS_ => ?_)
              refine wpAnyH_take (i := 1) (oi := ({ dst := (some 88), op := (Op.move (Operand.tmp 10)), type := 3, pos := "law.go:72", after := #[], guard := none } : Oper)) (v := ?_) rfl (by kernel_rfl) (by kernel_rfl) (by kernel_rfl) (fun _ _ _ h => h) (Or.inl ⟨by rfl, ?_⟩) (by assumption) ?_
              rotate_left
              · (intro w_ hSw; (try dsimp only at hSw); go_simp; try with_reducible rfl)
              try simp only [Act.put, List.setIfInBounds_toArray, List.set_cons_zero, List.set_cons_succ]
              refine wpAnyH_take (i := 2) (oi := ({ dst := (some 89), op := (Op.move (Operand.tmp 0)), type := 39, pos := "law.go:72", after := #[], guard := none } : Oper)) (v := ?_) rfl (by kernel_rfl) (by kernel_rfl) (by kernel_rfl) (fun _ _ _ h => h) (Or.inl ⟨by rfl, ?_⟩) (by assumption) ?_
              rotate_left
              · (intro w_ hSw; (try dsimp only at hSw); go_simp; try with_reducible rfl)
              try simp only [Act.put, List.setIfInBounds_toArray, List.set_cons_zero, List.set_cons_succ]
              refine wpAnyH_take (i := 3) (oi := ({ dst := (some 90), op := (Op.move (Operand.tmp 9)), type := 3, pos := "law.go:72", after := #[], guard := none } : Oper)) (v := ?_) rfl (by kernel_rfl) (by kernel_rfl) (by kernel_rfl) (fun _ _ _ h => h) (Or.inl ⟨by rfl, ?_⟩) (by assumption) ?_
              rotate_left
              · (intro w_ hSw; (try dsimp only at hSw); go_simp; try with_reducible rfl)
              try simp only [Act.put, List.setIfInBounds_toArray, List.set_cons_zero, List.set_cons_succ]
              refine wpAnyH_take (i := 4) (oi := ({ dst := (some 91), op := (Op.indexAddr 39 (Operand.tmp 89) (Operand.tmp 90)), type := 0, pos := "law.go:72", after := #[{ on := 2, ground := Ground.data }, { on := 3, ground := Ground.data }], guard := none } : Oper)) (v := ?_) rfl (by kernel_rfl) (by kernel_rfl) (by kernel_rfl) (fun _ _ _ h => h) (Or.inl ⟨by rfl, ?_⟩) (by assumption) ?_
              rotate_left
              · (intro w_ hSw; (try dsimp only at hSw); go_simp; try with_reducible rfl)
              try simp only [Act.put, List.setIfInBounds_toArray, List.set_cons_zero, List.set_cons_succ]
              refine wpAnyH_take (i := 5) (oi := ({ dst := (some 92), op := (Op.fieldAddr 41 (Operand.tmp 91) 2), type := 0, pos := "law.go:72", after := #[{ on := 4, ground := Ground.data }], guard := none } : Oper)) (v := ?_) rfl (by kernel_rfl) (by kernel_rfl) (by kernel_rfl) (fun _ _ _ h => h) (Or.inl ⟨by rfl, ?_⟩) (by assumption) ?_
              rotate_left
              · (intro w_ hSw; (try dsimp only at hSw); go_simp; try with_reducible rfl)
              try simp only [Act.put, List.setIfInBounds_toArray, List.set_cons_zero, List.set_cons_succ]
              refine wpAnyH_take (i := 6) (oi := ({ dst := (some 93), op := (Op.load 5 (Operand.tmp 92)), type := 5, pos := "law.go:72", after := #[{ on := 5, ground := Ground.data }], guard := none } : Oper)) (v := ?_) rfl (by kernel_rfl) (by kernel_rfl) (by kernel_rfl) (fun _ _ _ h => h) (Or.inl ⟨by rfl, ?_⟩) (by assumption) ?_
              rotate_left
              · (intro w_ hSw; (try dsimp only at hSw); go_simp; try with_reducible rfl)
              try simp only [Act.put, List.setIfInBounds_toArray, List.set_cons_zero, List.set_cons_succ]
              refine wpAnyH_take (i := 7) (oi := ({ dst := (some 94), op := (Op.move (Operand.tmp 0)), type := 39, pos := "law.go:72", after := #[], guard := none } : Oper)) (v := ?_) rfl (by kernel_rfl) (by kernel_rfl) (by kernel_rfl) (fun _ _ _ h => h) (Or.inl ⟨by rfl, ?_⟩) (by assumption) ?_
              rotate_left
              · (intro w_ hSw; (try dsimp only at hSw); go_simp; try with_reducible rfl)
              try simp only [Act.put, List.setIfInBounds_toArray, List.set_cons_zero, List.set_cons_succ]
              refine wpAnyH_take (i := 8) (oi := ({ dst := (some 95), op := (Op.move (Operand.tmp 9)), type := 3, pos := "law.go:72", after := #[], guard := none } : Oper)) (v := ?_) rfl (by kernel_rfl) (by kernel_rfl) (by kernel_rfl) (fun _ _ _ h => h) (Or.inl ⟨by rfl, ?_⟩) (by assumption) ?_
              rotate_left
              · (intro w_ hSw; (try dsimp only at hSw); go_simp; try with_reducible rfl)
              try simp only [Act.put, List.setIfInBounds_toArray, List.set_cons_zero, List.set_cons_succ]
              refine wpAnyH_take (i := 9) (oi := ({ dst := (some 96), op := (Op.indexAddr 39 (Operand.tmp 94) (Operand.tmp 95)), type := 0, pos := "law.go:72", after := #[{ on := 7, ground := Ground.data }, { on := 8, ground := Ground.data }], guard := none } : Oper)) (v := ?_) rfl (by kernel_rfl) (by kernel_rfl) (by kernel_rfl) (fun _ _ _ h => h) (Or.inl ⟨by rfl, ?_⟩) (by assumption) ?_
              rotate_left
              · (intro w_ hSw; (try dsimp only at hSw); go_simp; try with_reducible rfl)
              try simp only [Act.put, List.setIfInBounds_toArray, List.set_cons_zero, List.set_cons_succ]
              refine wpAnyH_take (i := 10) (oi := ({ dst := (some 97), op := (Op.fieldAddr 41 (Operand.tmp 96) 3), type := 0, pos := "law.go:72", after := #[{ on := 9, ground := Ground.data }], guard := none } : Oper)) (v := ?_) rfl (by kernel_rfl) (by kernel_rfl) (by kernel_rfl) (fun _ _ _ h => h) (Or.inl ⟨by rfl, ?_⟩) (by assumption) ?_
              rotate_left
              · (intro w_ hSw; (try dsimp only at hSw); go_simp; try with_reducible rfl)
              try simp only [Act.put, List.setIfInBounds_toArray, List.set_cons_zero, List.set_cons_succ]
              refine wpAnyH_take (i := 11) (oi := ({ dst := (some 98), op := (Op.load 5 (Operand.tmp 97)), type := 5, pos := "law.go:72", after := #[{ on := 10, ground := Ground.data }], guard := none } : Oper)) (v := ?_) rfl (by kernel_rfl) (by kernel_rfl) (by kernel_rfl) (fun _ _ _ h => h) (Or.inl ⟨by rfl, ?_⟩) (by assumption) ?_
              rotate_left
              · (intro w_ hSw; (try dsimp only at hSw); go_simp; try with_reducible rfl)
              try simp only [Act.put, List.setIfInBounds_toArray, List.set_cons_zero, List.set_cons_succ]
              refine wpAnyH_ready (rs := [0, 12]) (by kernel_rfl) (by simp) ?_
              refine AllReadyH.cons (o := ({ dst := (some 87), op := (Op.load 50 (Operand.tmp 8)), type := 50, pos := "law.go:72", after := #[], guard := none } : Oper)) rfl (fun K hK => ?_) ?_
              · go_simp
                refine hK.out _ _ (by first | exact hS_ | exact sOf hs7 | exact sOf (HS.out _ hm8.below) | exact sOf (HS.out _ (Pair.store hm8).below)) (fun hS_ => ?_)
                clear hK K
                try simp only [Act.put, List.setIfInBounds_toArray, List.set_cons_zero, List.set_cons_succ]
                refine wpAnyH_ready (rs := [12]) (by kernel_rfl) (by simp) ?_
                refine AllReadyH.cons (o := ({ dst := (some 99), op := (Op.call { callee := (Callee.value (Operand.func 17)), args := #[(Operand.tmp 93), (Operand.tmp 98)], argTypes := #[5, 5] }), type := 22, pos := "law.go:72", after := #[{ on := 6, ground := Ground.data }, { on := 11, ground := Ground.data }], guard := none } : Oper)) rfl (fun K hK => ?_) ?_
                · go_simp
                  refine (HB4.out _ (by repeat (first | exact Below.refl _ _ | refine pw_below_drewN ?_ _ | refine Below.drew ?_))).mono ?_
                  rintro e w7 ⟨v7, rfl, hs7, hc7, hw7⟩
                  refine hK.out _ _ (by first | exact hS_ | exact sOf hs7 | exact sOf (HS.out _ hm8.below) | exact sOf (HS.out _ (Pair.store hm8).below)) (fun hS_ => ?_)
                  clear hK K
                  try simp only [Act.put, List.setIfInBounds_toArray, List.set_cons_zero, List.set_cons_succ]
                  refine wpAnyH_ready (rs := [13]) (by kernel_rfl) (by simp) ?_
                  refine AllReadyH.cons (o := ({ dst := (some 100), op := (Op.call { callee := (Callee.value (Operand.func 20)), args := #[(Operand.tmp 87), (Operand.tmp 88), (Operand.tmp 99)], argTypes := #[50, 3, 22] }), type := 51, pos := "law.go:72", after := #[{ on := 0, ground := Ground.data }, { on := 1, ground := Ground.data }, { on := 12, ground := Ground.data }, { on := 12, ground := Ground.chain }], guard := none } : Oper)) rfl (fun K hK => ?_) ?_
                  · go_simp
                    refine hw7.mono ?_
                    rintro e w8 ⟨v8, rfl, hm8⟩
                    obtain ⟨a8, c8, rfl⟩ := hm8.slice
                    obtain ⟨hc8, hz8⟩ := hm8.cell
                    refine hK.out _ _ (by first | exact hS_ | exact sOf hs7 | exact sOf (HS.out _ hm8.below) | exact sOf (HS.out _ (Pair.store hm8).below)) (fun hS_ => ?_)
                    clear hK K
                    try simp only [Act.put, List.setIfInBounds_toArray, List.set_cons_zero, List.set_cons_succ]
                    refine wpAnyH_take (i := 14) (oi := ({ dst := (some 86), op := (Op.move (Operand.tmp 100)), type := 51, pos := "law.go:72", after := #[{ on := 13, ground := Ground.data }], guard := none } : Oper)) (v := ?_) rfl (by kernel_rfl) (by kernel_rfl) (by kernel_rfl) (fun _ _ _ h => h) (Or.inl ⟨by rfl, ?_⟩) (by assumption) ?_
                    rotate_left
                    · (intro w_ hSw; (try dsimp only at hSw); go_simp; try with_reducible rfl)
                    try simp only [Act.put, List.setIfInBounds_toArray, List.set_cons_zero, List.set_cons_succ]
                    refine wpAnyH_take (i := 15) (oi := ({ dst := (some 101), op := (Op.extract (Operand.tmp 86) 0), type := 50, pos := "law.go:72", after := #[{ on := 14, ground := Ground.data }], guard := none } : Oper)) (v := ?_) rfl (by kernel_rfl) (by kernel_rfl) (by kernel_rfl) (fun _ _ _ h => h) (Or.inl ⟨by rfl, ?_⟩) (by assumption) ?_
                    rotate_left
                    · (intro w_ hSw; (try dsimp only at hSw); go_simp; try with_reducible rfl)
                    try simp only [Act.put, List.setIfInBounds_toArray, List.set_cons_zero, List.set_cons_succ]
                    refine wpAnyH_take (i := 16) (oi := ({ dst := (some 102), op := (Op.extract (Operand.tmp 86) 1), type := 3, pos := "law.go:72", after := #[{ on := 14, ground := Ground.data }, { on := 17, ground := (Ground.gcOnly Departure.lateStores) }], guard := none } : Oper)) (v := ?_) rfl (by kernel_rfl) (by kernel_rfl) (by kernel_rfl) (fun _ _ _ h => h) (Or.inl ⟨by rfl, ?_⟩) (by assumption) ?_
                    rotate_left
                    · (intro w_ hSw; (try dsimp only at hSw); go_simp; try with_reducible rfl)
                    try simp only [Act.put, List.setIfInBounds_toArray, List.set_cons_zero, List.set_cons_succ]
                    refine wpAnyH_ready (rs := [17]) (by kernel_rfl) (by simp) ?_
                    refine AllReadyH.cons (o := ({ dst := none, op := (Op.store 50 (Operand.tmp 8) (Operand.tmp 101)), type := 0, pos := "law.go:72", after := #[{ on := 15, ground := Ground.data }, { on := 13, ground := Ground.chain }, { on := 0, ground := Ground.phase }, { on := 1, ground := Ground.phase }, { on := 2, ground := Ground.phase }, { on := 3, ground := Ground.phase }, { on := 4, ground := Ground.phase }, { on := 5, ground := Ground.phase }, { on := 6, ground := Ground.phase }, { on := 7, ground := Ground.phase }, { on := 8, ground := Ground.phase }, { on := 9, ground := Ground.phase }, { on := 10, ground := Ground.phase }, { on := 11, ground := Ground.phase }, { on := 12, ground := Ground.phase }, { on := 13, ground := Ground.phase }, { on := 14, ground := Ground.phase }, { on := 15, ground := Ground.phase }, { on := 16, ground := (Ground.textOnly Departure.lateStores) }], guard := none } : Oper)) rfl (fun K hK => ?_) ?_
                    · go_simp
                      refine hK.out _ _ (by first | exact hS_ | exact sOf hs7 | exact sOf (HS.out _ hm8.below) | exact sOf (HS.out _ (Pair.store hm8).below)) (fun hS_ => ?_)
                      clear hK K
                      try simp only [Act.put, List.setIfInBounds_toArray, List.set_cons_zero, List.set_cons_succ]
                      refine wpAnyH_take (i := 18) (oi := ({ dst := (some 11), op := (Op.assign (Operand.tmp 102)), type := 3, pos := "law.go:72", after := #[{ on := 16, ground := Ground.data }, { on := 17, ground := Ground.chain }, { on := 0, ground := Ground.phase }, { on := 1, ground := Ground.phase }, { on := 2, ground := Ground.phase }, { on := 3, ground := Ground.phase }, { on := 4, ground := Ground.phase }, { on := 5, ground := Ground.phase }, { on := 6, ground := Ground.phase }, { on := 7, ground := Ground.phase }, { on := 8, ground := Ground.phase }, { on := 9, ground := Ground.phase }, { on := 10, ground := Ground.phase }, { on := 11, ground := Ground.phase }, { on := 12, ground := Ground.phase }, { on := 13, ground := Ground.phase }, { on := 14, ground := Ground.phase }, { on := 15, ground := Ground.phase }, { on := 16, ground := Ground.phase }, { on := 17, ground := Ground.phase }], guard := none } : Oper)) (v := ?_) rfl (by kernel_rfl) (by kernel_rfl) (by kernel_rfl) (fun _ _ _ h => h) (Or.inl ⟨by rfl, ?_⟩) (by assumption) ?_
                      rotate_left
                      · (intro w_ hSw; (try dsimp only at hSw); go_simp; try with_reducible rfl)
                      try simp only [Act.put, List.setIfInBounds_toArray, List.set_cons_zero, List.set_cons_succ]
                      refine wpAnyH_done (by kernel_rfl) ?_ _
                      refine NoPanic.normal ?_
                      have HPX := Lib.hid (Pair.store hm8)
                      clear hm8 hs7 hc7 hw7 HB4 HM6 c0 c1 c2 c3 hc6
                      have HSA := Lib.hid (psame HPX.out (by have := HN2.out.len; omega))
                      clear HPX
                      go_wp2_with fail
                      refine HSA.out.mono ?_
                      rintro e w20 ⟨rfl, hp20⟩
                      have HRD := Lib.hid (pread raw hp20 HRAW.out)
                      clear hp20 HSA
                      go_wp2_with fail
                      refine HRD.out.mono ?_
                      rintro e w21 ⟨⟨a21, n21, c21, rfl⟩, hp21⟩
                      have hc21 := hp21.cell
                      obtain ⟨hc21a, hc21b⟩ := hc21
                      have HRR := Lib.hid (prread raw hp21 (by have := HN2.out.len; omega))
                      obtain ⟨a22, c22, hv22⟩ := hp21.slice
                      obtain ⟨G, hG⟩ : ∃ G : Int, G = (if (Fs.get fs2 raw).isSome = true then 0 else 71) := ⟨_, rfl⟩
                      have hGb : 0 ≤ G ∧ G ≤ 71 := by rw [hG]; split <;> omega
                      obtain ⟨hG0, hG1⟩ := hGb
                      rw [← hG] at HRR ⊢
                      have hGG : (G != G) = false := by simp
                      have hGw : IntKind.i64.wrap G = G := IntWalk.i64_in _ (by omega)
                      clear hp21 HRD hG hv22
                      go_wp2_with fail
                      refine HRR.out.mono ?_
                      rintro e w22 ⟨⟨u22, rfl⟩, hp22⟩
                      have HP22 := Lib.hid hp22
                      clear hp22 HRR hc21a hc21b
                      go_wp2_with fail
                      go_roundw
                      case rel => exact ⟨k + 1, dd, _, fs2, by omega, by go_num, rfl, HP22, HN2⟩
                      case measure => simp [intOf]; omega
                    exact AllReadyH.nil
                  exact AllReadyH.nil
                exact AllReadyH.nil
              refine AllReadyH.cons (o := ({ dst := (some 99), op := (Op.call { callee := (Callee.value (Operand.func 17)), args := #[(Operand.tmp 93), (Operand.tmp 98)], argTypes := #[5, 5] }), type := 22, pos := "law.go:72", after := #[{ on := 6, ground := Ground.data }, { on := 11, ground := Ground.data }], guard := none } : Oper)) rfl (fun K hK => ?_) ?_
              · go_simp
                refine (HB4.out _ (by repeat (first | exact Below.refl _ _ | refine pw_below_drewN ?_ _ | refine Below.drew ?_))).mono ?_
                rintro e w7 ⟨v7, rfl, hs7, hc7, hw7⟩
                refine hK.out _ _ (by first | exact hS_ | exact sOf hs7 | exact sOf (HS.out _ hm8.below) | exact sOf (HS.out _ (Pair.store hm8).below)) (fun hS_ => ?_)
                clear hK K
                try simp only [Act.put, List.setIfInBounds_toArray, List.set_cons_zero, List.set_cons_succ]
                refine wpAnyH_ready (rs := [0]) (by kernel_rfl) (by simp) ?_
                refine AllReadyH.cons (o := ({ dst := (some 87), op := (Op.load 50 (Operand.tmp 8)), type := 50, pos := "law.go:72", after := #[], guard := none } : Oper)) rfl (fun K hK => ?_) ?_
                · go_simp
                  refine hK.out _ _ (by first | exact hS_ | exact sOf hs7 | exact sOf (HS.out _ hm8.below) | exact sOf (HS.out _ (Pair.store hm8).below)) (fun hS_ => ?_)
                  clear hK K
                  try simp only [Act.put, List.setIfInBounds_toArray, List.set_cons_zero, List.set_cons_succ]
                  refine wpAnyH_ready (rs := [13]) (by kernel_rfl) (by simp) ?_
                  refine AllReadyH.cons (o := ({ dst := (some 100), op := (Op.call { callee := (Callee.value (Operand.func 20)), args := #[(Operand.tmp 87), (Operand.tmp 88), (Operand.tmp 99)], argTypes := #[50, 3, 22] }), type := 51, pos := "law.go:72", after := #[{ on := 0, ground := Ground.data }, { on := 1, ground := Ground.data }, { on := 12, ground := Ground.data }, { on := 12, ground := Ground.chain }], guard := none } : Oper)) rfl (fun K hK => ?_) ?_
                  · go_simp
                    refine hw7.mono ?_
                    rintro e w8 ⟨v8, rfl, hm8⟩
                    obtain ⟨a8, c8, rfl⟩ := hm8.slice
                    obtain ⟨hc8, hz8⟩ := hm8.cell
                    refine hK.out _ _ (by first | exact hS_ | exact sOf hs7 | exact sOf (HS.out _ hm8.below) | exact sOf (HS.out _ (Pair.store hm8).below)) (fun hS_ => ?_)
                    clear hK K
                    try simp only [Act.put, List.setIfInBounds_toArray, List.set_cons_zero, List.set_cons_succ]
                    refine wpAnyH_take (i := 14) (oi := ({ dst := (some 86), op := (Op.move (Operand.tmp 100)), type := 51, pos := "law.go:72", after := #[{ on := 13, ground := Ground.data }], guard := none } : Oper)) (v := ?_) rfl (by kernel_rfl) (by kernel_rfl) (by kernel_rfl) (fun _ _ _ h => h) (Or.inl ⟨by rfl, ?_⟩) (by assumption) ?_
                    rotate_left
                    · (intro w_ hSw; (try dsimp only at hSw); go_simp; try with_reducible rfl)
                    try simp only [Act.put, List.setIfInBounds_toArray, List.set_cons_zero, List.set_cons_succ]
                    refine wpAnyH_take (i := 15) (oi := ({ dst := (some 101), op := (Op.extract (Operand.tmp 86) 0), type := 50, pos := "law.go:72", after := #[{ on := 14, ground := Ground.data }], guard := none } : Oper)) (v := ?_) rfl (by kernel_rfl) (by kernel_rfl) (by kernel_rfl) (fun _ _ _ h => h) (Or.inl ⟨by rfl, ?_⟩) (by assumption) ?_
                    rotate_left
                    · (intro w_ hSw; (try dsimp only at hSw); go_simp; try with_reducible rfl)
                    try simp only [Act.put, List.setIfInBounds_toArray, List.set_cons_zero, List.set_cons_succ]
                    refine wpAnyH_take (i := 16) (oi := ({ dst := (some 102), op := (Op.extract (Operand.tmp 86) 1), type := 3, pos := "law.go:72", after := #[{ on := 14, ground := Ground.data }, { on := 17, ground := (Ground.gcOnly Departure.lateStores) }], guard := none } : Oper)) (v := ?_) rfl (by kernel_rfl) (by kernel_rfl) (by kernel_rfl) (fun _ _ _ h => h) (Or.inl ⟨by rfl, ?_⟩) (by assumption) ?_
                    rotate_left
                    · (intro w_ hSw; (try dsimp only at hSw); go_simp; try with_reducible rfl)
                    try simp only [Act.put, List.setIfInBounds_toArray, List.set_cons_zero, List.set_cons_succ]
                    refine wpAnyH_ready (rs := [17]) (by kernel_rfl) (by simp) ?_
                    refine AllReadyH.cons (o := ({ dst := none, op := (Op.store 50 (Operand.tmp 8) (Operand.tmp 101)), type := 0, pos := "law.go:72", after := #[{ on := 15, ground := Ground.data }, { on := 13, ground := Ground.chain }, { on := 0, ground := Ground.phase }, { on := 1, ground := Ground.phase }, { on := 2, ground := Ground.phase }, { on := 3, ground := Ground.phase }, { on := 4, ground := Ground.phase }, { on := 5, ground := Ground.phase }, { on := 6, ground := Ground.phase }, { on := 7, ground := Ground.phase }, { on := 8, ground := Ground.phase }, { on := 9, ground := Ground.phase }, { on := 10, ground := Ground.phase }, { on := 11, ground := Ground.phase }, { on := 12, ground := Ground.phase }, { on := 13, ground := Ground.phase }, { on := 14, ground := Ground.phase }, { on := 15, ground := Ground.phase }, { on := 16, ground := (Ground.textOnly Departure.lateStores) }], guard := none } : Oper)) rfl (fun K hK => ?_) ?_
                    · go_simp
                      refine hK.out _ _ (by first | exact hS_ | exact sOf hs7 | exact sOf (HS.out _ hm8.below) | exact sOf (HS.out _ (Pair.store hm8).below)) (fun hS_ => ?_)
                      clear hK K
                      try simp only [Act.put, List.setIfInBounds_toArray, List.set_cons_zero, List.set_cons_succ]
                      refine wpAnyH_take (i := 18) (oi := ({ dst := (some 11), op := (Op.assign (Operand.tmp 102)), type := 3, pos := "law.go:72", after := #[{ on := 16, ground := Ground.data }, { on := 17, ground := Ground.chain }, { on := 0, ground := Ground.phase }, { on := 1, ground := Ground.phase }, { on := 2, ground := Ground.phase }, { on := 3, ground := Ground.phase }, { on := 4, ground := Ground.phase }, { on := 5, ground := Ground.phase }, { on := 6, ground := Ground.phase }, { on := 7, ground := Ground.phase }, { on := 8, ground := Ground.phase }, { on := 9, ground := Ground.phase }, { on := 10, ground := Ground.phase }, { on := 11, ground := Ground.phase }, { on := 12, ground := Ground.phase }, { on := 13, ground := Ground.phase }, { on := 14, ground := Ground.phase }, { on := 15, ground := Ground.phase }, { on := 16, ground := Ground.phase }, { on := 17, ground := Ground.phase }], guard := none } : Oper)) (v := ?_) rfl (by kernel_rfl) (by kernel_rfl) (by kernel_rfl) (fun _ _ _ h => h) (Or.inl ⟨by rfl, ?_⟩) (by assumption) ?_
                      rotate_left
                      · (intro w_ hSw; (try dsimp only at hSw); go_simp; try with_reducible rfl)
                      try simp only [Act.put, List.setIfInBounds_toArray, List.set_cons_zero, List.set_cons_succ]
                      refine wpAnyH_done (by kernel_rfl) ?_ _
                      refine NoPanic.normal ?_
                      have HPX := Lib.hid (Pair.store hm8)
                      clear hm8 hs7 hc7 hw7 HB4 HM6 c0 c1 c2 c3 hc6
                      have HSA := Lib.hid (psame HPX.out (by have := HN2.out.len; omega))
                      clear HPX
                      go_wp2_with fail
                      refine HSA.out.mono ?_
                      rintro e w20 ⟨rfl, hp20⟩
                      have HRD := Lib.hid (pread raw hp20 HRAW.out)
                      clear hp20 HSA
                      go_wp2_with fail
                      refine HRD.out.mono ?_
                      rintro e w21 ⟨⟨a21, n21, c21, rfl⟩, hp21⟩
                      have hc21 := hp21.cell
                      obtain ⟨hc21a, hc21b⟩ := hc21
                      have HRR := Lib.hid (prread raw hp21 (by have := HN2.out.len; omega))
                      obtain ⟨a22, c22, hv22⟩ := hp21.slice
                      obtain ⟨G, hG⟩ : ∃ G : Int, G = (if (Fs.get fs2 raw).isSome = true then 0 else 71) := ⟨_, rfl⟩
                      have hGb : 0 ≤ G ∧ G ≤ 71 := by rw [hG]; split <;> omega
                      obtain ⟨hG0, hG1⟩ := hGb
                      rw [← hG] at HRR ⊢
                      have hGG : (G != G) = false := by simp
                      have hGw : IntKind.i64.wrap G = G := IntWalk.i64_in _ (by omega)
                      clear hp21 HRD hG hv22
                      go_wp2_with fail
                      refine HRR.out.mono ?_
                      rintro e w22 ⟨⟨u22, rfl⟩, hp22⟩
                      have HP22 := Lib.hid hp22
                      clear hp22 HRR hc21a hc21b
                      go_wp2_with fail
                      go_roundw
                      case rel => exact ⟨k + 1, dd, _, fs2, by omega, by go_num, rfl, HP22, HN2⟩
                      case measure => simp [intOf]; omega
                    exact AllReadyH.nil
                  exact AllReadyH.nil
                exact AllReadyH.nil
              exact AllReadyH.nil
          | 1, _ =>
            as_aux_lemma =>
              go_upto_region 11 with fail
              clear hwno hr2
              obtain ⟨bs, hbs⟩ : ∃ bs, bs = bytesM z2 z3 := ⟨_, rfl⟩
              have hbl : bs.length ≤ 8 := by rw [hbs, bytesM_len]; omega
              have HBY := Lib.hid fun W => bytes_calls z2 z3 W (by omega) (by omega)
              rw [← hbs] at HBY
              obtain ⟨E, hE⟩ : ∃ E : Int, E = wErr no := ⟨_, rfl⟩
              have hEb : 0 ≤ E ∧ E ≤ 71 := by rw [hE]; first | (split <;> omega) | (unfold wErr; split <;> omega)
              obtain ⟨hE0, hE1⟩ := hEb
              have hEE : (E != E) = false := by simp
              have hEw : IntKind.i64.wrap E = E := IntWalk.i64_in _ (by omega)
              have HN2 := Lib.hid (HN.out.writeK no bs hbl)
              have HSO := Lib.hid HT.out.sorted
              have hz8 : (((fs.get no).map (·.bytes)).getD []).length + bs.length ≤ 1000000 := by have := Fs.get_big HN.out.big no; omega
              have hln := HN.out.len
              have HB2 : Hid (∀ W, Below wr.heap.size wr W → Calls Try.prog 17 #[.int .u8 (z2 : Int), .int .u8 (z3 : Int)] W fun e w' => ∃ v5, e = .returned v5 ∧ HeldW w ad (z0 : Int) (z1 : Int) (z2 : Int) (z3 : Int) w' ∧ Calls Try.prog 11 #[.pointer (some ⟨dd, 0, none⟩), .int .i64 no, v5] w' fun e w' => e = .returned (.int .u16 E) ∧ Pair w w' dd g v v (fs.writeK no bs) fs ∧ HeldW w ad (z0 : Int) (z1 : Int) (z2 : Int) (z3 : Int) w') := Lib.hid fun W hW => by
                refine (HBY.out W).mono ?_
                rintro e w5 ⟨v5, rfl, hb5, ho5⟩
                have hm := HT.out.next hW
                refine ⟨v5, rfl, HS.out _ (hm.next hb5).below, (pwrite no hm hb5 ho5 (by omega) hz8).mono ?_⟩
                rintro e w6 ⟨rfl, hm6⟩
                exact ⟨by rw [hE], hm6, HS.out _ hm6.below⟩
              have HB3 : Hid (∀ w6, Pair w w6 dd g v v (fs.writeK no bs) fs → ∀ W, Below w6.heap.size w6 W → Calls Try.prog 17 #[.int .u8 (z2 : Int), .int .u8 (z3 : Int)] W fun e w' => ∃ v5, e = .returned v5 ∧ HeldW w ad (z0 : Int) (z1 : Int) (z2 : Int) (z3 : Int) w' ∧ w'.cell? ⟨g, 0, none⟩ = some v ∧ Calls Try.prog 20 #[.agg #[v], .int .i64 no, v5] w' fun e w' => ∃ v', e = .returned (.tuple #[.agg #[v'], .int .i64 E]) ∧ Pair w w' dd g v v' (fs.writeK no bs) (fs.writeK no bs)) := Lib.hid fun w6 h6 W hW => by
                refine (HBY.out W).mono ?_
                rintro e w5 ⟨v5, rfl, hb5, ho5⟩
                have hm := h6.next hW
                refine ⟨v5, rfl, HS.out _ (hm.next hb5).below, (hm.next hb5).cell.1, (prwrite no hm HSO.out hb5 ho5 (by omega) hz8).mono ?_⟩
                rintro e w8 ⟨v', rfl, hm8⟩
                exact ⟨v', by rw [hE], hm8⟩
              clear hE hbs hz8
              go_wp2_with fail
              go_region_held3 (fun W => W.cell? ad = some (.int .u8 (z0 : Int)) ∧ W.cell? ⟨ad.block, ad.off + 1, none⟩ = some (.int .u8 (z1 : Int)) ∧ W.cell? ⟨ad.block, ad.off + 2, none⟩ = some (.int .u8 (z2 : Int)) ∧ W.cell? ⟨ad.block, ad.off + 3, none⟩ = some (.int .u8 (z3 : Int)) ∧ Below w.heap.size w W)
                (first | assumption | exact HS.out _ (pw_below_drewN HT.out.below _) | exact HS.out _ (Below.drew HT.out.below) | go_keep)
                (first | (go_at_call 17; (with_reducible refine (HB2.out _ (by repeat (first | exact Below.refl _ _ | refine pw_below_drewN ?_ _ | refine Below.drew ?_))).mono ?_); rintro e w5 ⟨v5, rfl, hs5, hw5⟩) | (go_at_call 11; (with_reducible refine hw5.mono ?_); rintro e w6 ⟨rfl, hm6, hs6⟩))
              have HM6 := Lib.hid hm6
              obtain ⟨c0, c1, c2, c3, _⟩ := hs6
              have hc6 := hm6.cell.1
              have HB4 := Lib.hid (HB3.out w6 hm6)
              obtain ⟨fs2, hfs2⟩ : ∃ fs2, fs2 = fs.writeK no bs := ⟨_, rfl⟩
              rw [← hfs2] at HM6 HN2 HB4
              clear hm6 hfs2 hS hs5 hw5 HBY HB2 HB3 HN
              go_wp2_with fail
              refine wp_region_noPanic ?_
              refine wp_region_held_drew (S := fun W => W.cell? ⟨ad.block, ad.off + 2, none⟩ = some (.int .u8 (z2 : Int)) ∧ W.cell? ⟨ad.block, ad.off + 3, none⟩ = some (.int .u8 (z3 : Int))) (by kernel_rfl) (by exact sOf (HS.out _ (Below.drew HM6.out.below))) (fun hS_ => ?_)
              refine wpAnyH_take (i := 1) (oi := ({ dst := (some 88), op := (Op.move (Operand.tmp 10)), type := 3, pos := "law.go:72", after := #[], guard := none } : Oper)) (v := ?_) rfl (by kernel_rfl) (by kernel_rfl) (by kernel_rfl) (fun _ _ _ h => h) (Or.inl ⟨by rfl, ?_⟩) (by assumption) ?_
              rotate_left
              · (intro w_ hSw; (try dsimp only at hSw); go_simp; try with_reducible rfl)
              try simp only [Act.put, List.setIfInBounds_toArray, List.set_cons_zero, List.set_cons_succ]
              refine wpAnyH_take (i := 2) (oi := ({ dst := (some 89), op := (Op.move (Operand.tmp 0)), type := 39, pos := "law.go:72", after := #[], guard := none } : Oper)) (v := ?_) rfl (by kernel_rfl) (by kernel_rfl) (by kernel_rfl) (fun _ _ _ h => h) (Or.inl ⟨by rfl, ?_⟩) (by assumption) ?_
              rotate_left
              · (intro w_ hSw; (try dsimp only at hSw); go_simp; try with_reducible rfl)
              try simp only [Act.put, List.setIfInBounds_toArray, List.set_cons_zero, List.set_cons_succ]
              refine wpAnyH_take (i := 3) (oi := ({ dst := (some 90), op := (Op.move (Operand.tmp 9)), type := 3, pos := "law.go:72", after := #[], guard := none } : Oper)) (v := ?_) rfl (by kernel_rfl) (by kernel_rfl) (by kernel_rfl) (fun _ _ _ h => h) (Or.inl ⟨by rfl, ?_⟩) (by assumption) ?_
              rotate_left
              · (intro w_ hSw; (try dsimp only at hSw); go_simp; try with_reducible rfl)
              try simp only [Act.put, List.setIfInBounds_toArray, List.set_cons_zero, List.set_cons_succ]
              refine wpAnyH_take (i := 4) (oi := ({ dst := (some 91), op := (Op.indexAddr 39 (Operand.tmp 89) (Operand.tmp 90)), type := 0, pos := "law.go:72", after := #[{ on := 2, ground := Ground.data }, { on := 3, ground := Ground.data }], guard := none } : Oper)) (v := ?_) rfl (by kernel_rfl) (by kernel_rfl) (by kernel_rfl) (fun _ _ _ h => h) (Or.inl ⟨by rfl, ?_⟩) (by assumption) ?_
              rotate_left
              · (intro w_ hSw; (try dsimp only at hSw); go_simp; try with_reducible rfl)
              try simp only [Act.put, List.setIfInBounds_toArray, List.set_cons_zero, List.set_cons_succ]
              refine wpAnyH_take (i := 5) (oi := ({ dst := (some 92), op := (Op.fieldAddr 41 (Operand.tmp 91) 2), type := 0, pos := "law.go:72", after := #[{ on := 4, ground := Ground.data }], guard := none } : Oper)) (v := ?_) rfl (by kernel_rfl) (by kernel_rfl) (by kernel_rfl) (fun _ _ _ h => h) (Or.inl ⟨by rfl, ?_⟩) (by assumption) ?_
              rotate_left
              · (intro w_ hSw; (try dsimp only at hSw); go_simp; try with_reducible rfl)
              try simp only [Act.put, List.setIfInBounds_toArray, List.set_cons_zero, List.set_cons_succ]
              refine wpAnyH_take (i := 6) (oi := ({ dst := (some 93), op := (Op.load 5 (Operand.tmp 92)), type := 5, pos := "law.go:72", after := #[{ on := 5, ground := Ground.data }], guard := none } : Oper)) (v := ?_) rfl (by kernel_rfl) (by kernel_rfl) (by kernel_rfl) (fun _ _ _ h => h) (Or.inl ⟨by rfl, ?_⟩) (by assumption) ?_
              rotate_left
              · (intro w_ hSw; (try dsimp only at hSw); go_simp; try with_reducible rfl)
              try simp only [Act.put, List.setIfInBounds_toArray, List.set_cons_zero, List.set_cons_succ]
              refine wpAnyH_take (i := 7) (oi := ({ dst := (some 94), op := (Op.move (Operand.tmp 0)), type := 39, pos := "law.go:72", after := #[], guard := none } : Oper)) (v := ?_) rfl (by kernel_rfl) (by kernel_rfl) (by kernel_rfl) (fun _ _ _ h => h) (Or.inl ⟨by rfl, ?_⟩) (by assumption) ?_
              rotate_left
              · (intro w_ hSw; (try dsimp only at hSw); go_simp; try with_reducible rfl)
              try simp only [Act.put, List.setIfInBounds_toArray, List.set_cons_zero, List.set_cons_succ]
              refine wpAnyH_take (i := 8) (oi := ({ dst := (some 95), op := (Op.move (Operand.tmp 9)), type := 3, pos := "law.go:72", after := #[], guard := none } : Oper)) (v := ?_) rfl (by kernel_rfl) (by kernel_rfl) (by kernel_rfl) (fun _ _ _ h => h) (Or.inl ⟨by rfl, ?_⟩) (by assumption) ?_
              rotate_left
              · (intro w_ hSw; (try dsimp only at hSw); go_simp; try with_reducible rfl)
              try simp only [Act.put, List.setIfInBounds_toArray, List.set_cons_zero, List.set_cons_succ]
              refine wpAnyH_take (i := 9) (oi := ({ dst := (some 96), op := (Op.indexAddr 39 (Operand.tmp 94) (Operand.tmp 95)), type := 0, pos := "law.go:72", after := #[{ on := 7, ground := Ground.data }, { on := 8, ground := Ground.data }], guard := none } : Oper)) (v := ?_) rfl (by kernel_rfl) (by kernel_rfl) (by kernel_rfl) (fun _ _ _ h => h) (Or.inl ⟨by rfl, ?_⟩) (by assumption) ?_
              rotate_left
              · (intro w_ hSw; (try dsimp only at hSw); go_simp; try with_reducible rfl)
              try simp only [Act.put, List.setIfInBounds_toArray, List.set_cons_zero, List.set_cons_succ]
              refine wpAnyH_take (i := 10) (oi := ({ dst := (some 97), op := (Op.fieldAddr 41 (Operand.tmp 96) 3), type := 0, pos := "law.go:72", after := #[{ on := 9, ground := Ground.data }], guard := none } : Oper)) (v := ?_) rfl (by kernel_rfl) (by kernel_rfl) (by kernel_rfl) (fun _ _ _ h => h) (Or.inl ⟨by rfl, ?_⟩) (by assumption) ?_
              rotate_left
              · (intro w_ hSw; (try dsimp only at hSw); go_simp; try with_reducible rfl)
              try simp only [Act.put, List.setIfInBounds_toArray, List.set_cons_zero, List.set_cons_succ]
              refine wpAnyH_take (i := 11) (oi := ({ dst := (some 98), op := (Op.load 5 (Operand.tmp 97)), type := 5, pos := "law.go:72", after := #[{ on := 10, ground := Ground.data }], guard := none } : Oper)) (v := ?_) rfl (by kernel_rfl) (by kernel_rfl) (by kernel_rfl) (fun _ _ _ h => h) (Or.inl ⟨by rfl, ?_⟩) (by assumption) ?_
              rotate_left
              · (intro w_ hSw; (try dsimp only at hSw); go_simp; try with_reducible rfl)
              try simp only [Act.put, List.setIfInBounds_toArray, List.set_cons_zero, List.set_cons_succ]
              refine wpAnyH_ready (rs := [0, 12]) (by kernel_rfl) (by simp) ?_
              refine AllReadyH.cons (o := ({ dst := (some 87), op := (Op.load 50 (Operand.tmp 8)), type := 50, pos := "law.go:72", after := #[], guard := none } : Oper)) rfl (fun K hK => ?_) ?_
              · go_simp
                refine hK.out _ _ (by first | exact hS_ | exact sOf hs7 | exact sOf (HS.out _ hm8.below) | exact sOf (HS.out _ (Pair.store hm8).below)) (fun hS_ => ?_)
                clear hK K
                try simp only [Act.put, List.setIfInBounds_toArray, List.set_cons_zero, List.set_cons_succ]
                refine wpAnyH_ready (rs := [12]) (by kernel_rfl) (by simp) ?_
                refine AllReadyH.cons (o := ({ dst := (some 99), op := (Op.call { callee := (Callee.value (Operand.func 17)), args := #[(Operand.tmp 93), (Operand.tmp 98)], argTypes := #[5, 5] }), type := 22, pos := "law.go:72", after := #[{ on := 6, ground := Ground.data }, { on := 11, ground := Ground.data }], guard := none } : Oper)) rfl (fun K hK => ?_) ?_
                · go_simp
                  refine (HB4.out _ (by repeat (first | exact Below.refl _ _ | refine pw_below_drewN ?_ _ | refine Below.drew ?_))).mono ?_
                  rintro e w7 ⟨v7, rfl, hs7, hc7, hw7⟩
                  refine hK.out _ _ (by first | exact hS_ | exact sOf hs7 | exact sOf (HS.out _ hm8.below) | exact sOf (HS.out _ (Pair.store hm8).below)) (fun hS_ => ?_)
                  clear hK K
                  try simp only [Act.put, List.setIfInBounds_toArray, List.set_cons_zero, List.set_cons_succ]
                  refine wpAnyH_ready (rs := [13]) (by kernel_rfl) (by simp) ?_
                  refine AllReadyH.cons (o := ({ dst := (some 100), op := (Op.call { callee := (Callee.value (Operand.func 20)), args := #[(Operand.tmp 87), (Operand.tmp 88), (Operand.tmp 99)], argTypes := #[50, 3, 22] }), type := 51, pos := "law.go:72", after := #[{ on := 0, ground := Ground.data }, { on := 1, ground := Ground.data }, { on := 12, ground := Ground.data }, { on := 12, ground := Ground.chain }], guard := none } : Oper)) rfl (fun K hK => ?_) ?_
                  · go_simp
                    refine hw7.mono ?_
                    rintro e w8 ⟨v8, rfl, hm8⟩
                    obtain ⟨a8, c8, rfl⟩ := hm8.slice
                    obtain ⟨hc8, hz8⟩ := hm8.cell
                    refine hK.out _ _ (by first | exact hS_ | exact sOf hs7 | exact sOf (HS.out _ hm8.below) | exact sOf (HS.out _ (Pair.store hm8).below)) (fun hS_ => ?_)
                    clear hK K
                    try simp only [Act.put, List.setIfInBounds_toArray, List.set_cons_zero, List.set_cons_succ]
                    refine wpAnyH_take (i := 14) (oi := ({ dst := (some 86), op := (Op.move (Operand.tmp 100)), type := 51, pos := "law.go:72", after := #[{ on := 13, ground := Ground.data }], guard := none } : Oper)) (v := ?_) rfl (by kernel_rfl) (by kernel_rfl) (by kernel_rfl) (fun _ _ _ h => h) (Or.inl ⟨by rfl, ?_⟩) (by assumption) ?_
                    rotate_left
                    · (intro w_ hSw; (try dsimp only at hSw); go_simp; try with_reducible rfl)
                    try simp only [Act.put, List.setIfInBounds_toArray, List.set_cons_zero, List.set_cons_succ]
                    refine wpAnyH_take (i := 15) (oi := ({ dst := (some 101), op := (Op.extract (Operand.tmp 86) 0), type := 50, pos := "law.go:72", after := #[{ on := 14, ground := Ground.data }], guard := none } : Oper)) (v := ?_) rfl (by kernel_rfl) (by kernel_rfl) (by kernel_rfl) (fun _ _ _ h => h) (Or.inl ⟨by rfl, ?_⟩) (by assumption) ?_
                    rotate_left
                    · (intro w_ hSw; (try dsimp only at hSw); go_simp; try with_reducible rfl)
                    try simp only [Act.put, List.setIfInBounds_toArray, List.set_cons_zero, List.set_cons_succ]
                    refine wpAnyH_take (i := 16) (oi := ({ dst := (some 102), op := (Op.extract (Operand.tmp 86) 1), type := 3, pos := "law.go:72", after := #[{ on := 14, ground := Ground.data }, { on := 17, ground := (Ground.gcOnly Departure.lateStores) }], guard := none } : Oper)) (v := ?_) rfl (by kernel_rfl) (by kernel_rfl) (by kernel_rfl) (fun _ _ _ h => h) (Or.inl ⟨by rfl, ?_⟩) (by assumption) ?_
                    rotate_left
                    · (intro w_ hSw; (try dsimp only at hSw); go_simp; try with_reducible rfl)
                    try simp only [Act.put, List.setIfInBounds_toArray, List.set_cons_zero, List.set_cons_succ]
                    refine wpAnyH_ready (rs := [17]) (by kernel_rfl) (by simp) ?_
                    refine AllReadyH.cons (o := ({ dst := none, op := (Op.store 50 (Operand.tmp 8) (Operand.tmp 101)), type := 0, pos := "law.go:72", after := #[{ on := 15, ground := Ground.data }, { on := 13, ground := Ground.chain }, { on := 0, ground := Ground.phase }, { on := 1, ground := Ground.phase }, { on := 2, ground := Ground.phase }, { on := 3, ground := Ground.phase }, { on := 4, ground := Ground.phase }, { on := 5, ground := Ground.phase }, { on := 6, ground := Ground.phase }, { on := 7, ground := Ground.phase }, { on := 8, ground := Ground.phase }, { on := 9, ground := Ground.phase }, { on := 10, ground := Ground.phase }, { on := 11, ground := Ground.phase }, { on := 12, ground := Ground.phase }, { on := 13, ground := Ground.phase }, { on := 14, ground := Ground.phase }, { on := 15, ground := Ground.phase }, { on := 16, ground := (Ground.textOnly Departure.lateStores) }], guard := none } : Oper)) rfl (fun K hK => ?_) ?_
                    · go_simp
                      refine hK.out _ _ (by first | exact hS_ | exact sOf hs7 | exact sOf (HS.out _ hm8.below) | exact sOf (HS.out _ (Pair.store hm8).below)) (fun hS_ => ?_)
                      clear hK K
                      try simp only [Act.put, List.setIfInBounds_toArray, List.set_cons_zero, List.set_cons_succ]
                      refine wpAnyH_take (i := 18) (oi := ({ dst := (some 11), op := (Op.assign (Operand.tmp 102)), type := 3, pos := "law.go:72", after := #[{ on := 16, ground := Ground.data }, { on := 17, ground := Ground.chain }, { on := 0, ground := Ground.phase }, { on := 1, ground := Ground.phase }, { on := 2, ground := Ground.phase }, { on := 3, ground := Ground.phase }, { on := 4, ground := Ground.phase }, { on := 5, ground := Ground.phase }, { on := 6, ground := Ground.phase }, { on := 7, ground := Ground.phase }, { on := 8, ground := Ground.phase }, { on := 9, ground := Ground.phase }, { on := 10, ground := Ground.phase }, { on := 11, ground := Ground.phase }, { on := 12, ground := Ground.phase }, { on := 13, ground := Ground.phase }, { on := 14, ground := Ground.phase }, { on := 15, ground := Ground.phase }, { on := 16, ground := Ground.phase }, { on := 17, ground := Ground.phase }], guard := none } : Oper)) (v := ?_) rfl (by kernel_rfl) (by kernel_rfl) (by kernel_rfl) (fun _ _ _ h => h) (Or.inl ⟨by rfl, ?_⟩) (by assumption) ?_
                      rotate_left
                      · (intro w_ hSw; (try dsimp only at hSw); go_simp; try with_reducible rfl)
                      try simp only [Act.put, List.setIfInBounds_toArray, List.set_cons_zero, List.set_cons_succ]
                      refine wpAnyH_done (by kernel_rfl) ?_ _
                      refine NoPanic.normal ?_
                      have HPX := Lib.hid (Pair.store hm8)
                      clear hm8 hs7 hc7 hw7 HB4 HM6 c0 c1 c2 c3 hc6
                      have HSA := Lib.hid (psame HPX.out (by have := HN2.out.len; omega))
                      clear HPX
                      go_wp2_with fail
                      refine HSA.out.mono ?_
                      rintro e w20 ⟨rfl, hp20⟩
                      have HRD := Lib.hid (pread raw hp20 HRAW.out)
                      clear hp20 HSA
                      go_wp2_with fail
                      refine HRD.out.mono ?_
                      rintro e w21 ⟨⟨a21, n21, c21, rfl⟩, hp21⟩
                      have hc21 := hp21.cell
                      obtain ⟨hc21a, hc21b⟩ := hc21
                      have HRR := Lib.hid (prread raw hp21 (by have := HN2.out.len; omega))
                      obtain ⟨a22, c22, hv22⟩ := hp21.slice
                      obtain ⟨G, hG⟩ : ∃ G : Int, G = (if (Fs.get fs2 raw).isSome = true then 0 else 71) := ⟨_, rfl⟩
                      have hGb : 0 ≤ G ∧ G ≤ 71 := by rw [hG]; split <;> omega
                      obtain ⟨hG0, hG1⟩ := hGb
                      rw [← hG] at HRR ⊢
                      have hGG : (G != G) = false := by simp
                      have hGw : IntKind.i64.wrap G = G := IntWalk.i64_in _ (by omega)
                      clear hp21 HRD hG hv22
                      go_wp2_with fail
                      refine HRR.out.mono ?_
                      rintro e w22 ⟨⟨u22, rfl⟩, hp22⟩
                      have HP22 := Lib.hid hp22
                      clear hp22 HRR hc21a hc21b
                      go_wp2_with fail
                      go_roundw
                      case rel => exact ⟨k + 1, dd, _, fs2, by omega, by go_num, rfl, HP22, HN2⟩
                      case measure => simp [intOf]; omega
                    exact AllReadyH.nil
                  exact AllReadyH.nil
                exact AllReadyH.nil
              refine AllReadyH.cons (o := ({ dst := (some 99), op := (Op.call { callee := (Callee.value (Operand.func 17)), args := #[(Operand.tmp 93), (Operand.tmp 98)], argTypes := #[5, 5] }), type := 22, pos := "law.go:72", after := #[{ on := 6, ground := Ground.data }, { on := 11, ground := Ground.data }], guard := none } : Oper)) rfl (fun K hK => ?_) ?_
              · go_simp
                refine (HB4.out _ (by repeat (first | exact Below.refl _ _ | refine pw_below_drewN ?_ _ | refine Below.drew ?_))).mono ?_
                rintro e w7 ⟨v7, rfl, hs7, hc7, hw7⟩
                refine hK.out _ _ (by first | exact hS_ | exact sOf hs7 | exact sOf (HS.out _ hm8.below) | exact sOf (HS.out _ (Pair.store hm8).below)) (fun hS_ => ?_)
                clear hK K
                try simp only [Act.put, List.setIfInBounds_toArray, List.set_cons_zero, List.set_cons_succ]
                refine wpAnyH_ready (rs := [0]) (by kernel_rfl) (by simp) ?_
                refine AllReadyH.cons (o := ({ dst := (some 87), op := (Op.load 50 (Operand.tmp 8)), type := 50, pos := "law.go:72", after := #[], guard := none } : Oper)) rfl (fun K hK => ?_) ?_
                · go_simp
                  refine hK.out _ _ (by first | exact hS_ | exact sOf hs7 | exact sOf (HS.out _ hm8.below) | exact sOf (HS.out _ (Pair.store hm8).below)) (fun hS_ => ?_)
                  clear hK K
                  try simp only [Act.put, List.setIfInBounds_toArray, List.set_cons_zero, List.set_cons_succ]
                  refine wpAnyH_ready (rs := [13]) (by kernel_rfl) (by simp) ?_
                  refine AllReadyH.cons (o := ({ dst := (some 100), op := (Op.call { callee := (Callee.value (Operand.func 20)), args := #[(Operand.tmp 87), (Operand.tmp 88), (Operand.tmp 99)], argTypes := #[50, 3, 22] }), type := 51, pos := "law.go:72", after := #[{ on := 0, ground := Ground.data }, { on := 1, ground := Ground.data }, { on := 12, ground := Ground.data }, { on := 12, ground := Ground.chain }], guard := none } : Oper)) rfl (fun K hK => ?_) ?_
                  · go_simp
                    refine hw7.mono ?_
                    rintro e w8 ⟨v8, rfl, hm8⟩
                    obtain ⟨a8, c8, rfl⟩ := hm8.slice
                    obtain ⟨hc8, hz8⟩ := hm8.cell
                    refine hK.out _ _ (by first | exact hS_ | exact sOf hs7 | exact sOf (HS.out _ hm8.below) | exact sOf (HS.out _ (Pair.store hm8).below)) (fun hS_ => ?_)
                    clear hK K
                    try simp only [Act.put, List.setIfInBounds_toArray, List.set_cons_zero, List.set_cons_succ]
                    refine wpAnyH_take (i := 14) (oi := ({ dst := (some 86), op := (Op.move (Operand.tmp 100)), type := 51, pos := "law.go:72", after := #[{ on := 13, ground := Ground.data }], guard := none } : Oper)) (v := ?_) rfl (by kernel_rfl) (by kernel_rfl) (by kernel_rfl) (fun _ _ _ h => h) (Or.inl ⟨by rfl, ?_⟩) (by assumption) ?_
                    rotate_left
                    · (intro w_ hSw; (try dsimp only at hSw); go_simp; try with_reducible rfl)
                    try simp only [Act.put, List.setIfInBounds_toArray, List.set_cons_zero, List.set_cons_succ]
                    refine wpAnyH_take (i := 15) (oi := ({ dst := (some 101), op := (Op.extract (Operand.tmp 86) 0), type := 50, pos := "law.go:72", after := #[{ on := 14, ground := Ground.data }], guard := none } : Oper)) (v := ?_) rfl (by kernel_rfl) (by kernel_rfl) (by kernel_rfl) (fun _ _ _ h => h) (Or.inl ⟨by rfl, ?_⟩) (by assumption) ?_
                    rotate_left
                    · (intro w_ hSw; (try dsimp only at hSw); go_simp; try with_reducible rfl)
                    try simp only [Act.put, List.setIfInBounds_toArray, List.set_cons_zero, List.set_cons_succ]
                    refine wpAnyH_take (i := 16) (oi := ({ dst := (some 102), op := (Op.extract (Operand.tmp 86) 1), type := 3, pos := "law.go:72", after := #[{ on := 14, ground := Ground.data }, { on := 17, ground := (Ground.gcOnly Departure.lateStores) }], guard := none } : Oper)) (v := ?_) rfl (by kernel_rfl) (by kernel_rfl) (by kernel_rfl) (fun _ _ _ h => h) (Or.inl ⟨by rfl, ?_⟩) (by assumption) ?_
                    rotate_left
                    · (intro w_ hSw; (try dsimp only at hSw); go_simp; try with_reducible rfl)
                    try simp only [Act.put, List.setIfInBounds_toArray, List.set_cons_zero, List.set_cons_succ]
                    refine wpAnyH_ready (rs := [17]) (by kernel_rfl) (by simp) ?_
                    refine AllReadyH.cons (o := ({ dst := none, op := (Op.store 50 (Operand.tmp 8) (Operand.tmp 101)), type := 0, pos := "law.go:72", after := #[{ on := 15, ground := Ground.data }, { on := 13, ground := Ground.chain }, { on := 0, ground := Ground.phase }, { on := 1, ground := Ground.phase }, { on := 2, ground := Ground.phase }, { on := 3, ground := Ground.phase }, { on := 4, ground := Ground.phase }, { on := 5, ground := Ground.phase }, { on := 6, ground := Ground.phase }, { on := 7, ground := Ground.phase }, { on := 8, ground := Ground.phase }, { on := 9, ground := Ground.phase }, { on := 10, ground := Ground.phase }, { on := 11, ground := Ground.phase }, { on := 12, ground := Ground.phase }, { on := 13, ground := Ground.phase }, { on := 14, ground := Ground.phase }, { on := 15, ground := Ground.phase }, { on := 16, ground := (Ground.textOnly Departure.lateStores) }], guard := none } : Oper)) rfl (fun K hK => ?_) ?_
                    · go_simp
                      refine hK.out _ _ (by first | exact hS_ | exact sOf hs7 | exact sOf (HS.out _ hm8.below) | exact sOf (HS.out _ (Pair.store hm8).below)) (fun hS_ => ?_)
                      clear hK K
                      try simp only [Act.put, List.setIfInBounds_toArray, List.set_cons_zero, List.set_cons_succ]
                      refine wpAnyH_take (i := 18) (oi := ({ dst := (some 11), op := (Op.assign (Operand.tmp 102)), type := 3, pos := "law.go:72", after := #[{ on := 16, ground := Ground.data }, { on := 17, ground := Ground.chain }, { on := 0, ground := Ground.phase }, { on := 1, ground := Ground.phase }, { on := 2, ground := Ground.phase }, { on := 3, ground := Ground.phase }, { on := 4, ground := Ground.phase }, { on := 5, ground := Ground.phase }, { on := 6, ground := Ground.phase }, { on := 7, ground := Ground.phase }, { on := 8, ground := Ground.phase }, { on := 9, ground := Ground.phase }, { on := 10, ground := Ground.phase }, { on := 11, ground := Ground.phase }, { on := 12, ground := Ground.phase }, { on := 13, ground := Ground.phase }, { on := 14, ground := Ground.phase }, { on := 15, ground := Ground.phase }, { on := 16, ground := Ground.phase }, { on := 17, ground := Ground.phase }], guard := none } : Oper)) (v := ?_) rfl (by kernel_rfl) (by kernel_rfl) (by kernel_rfl) (fun _ _ _ h => h) (Or.inl ⟨by rfl, ?_⟩) (by assumption) ?_
                      rotate_left
                      · (intro w_ hSw; (try dsimp only at hSw); go_simp; try with_reducible rfl)
                      try simp only [Act.put, List.setIfInBounds_toArray, List.set_cons_zero, List.set_cons_succ]
                      refine wpAnyH_done (by kernel_rfl) ?_ _
                      refine NoPanic.normal ?_
                      have HPX := Lib.hid (Pair.store hm8)
                      clear hm8 hs7 hc7 hw7 HB4 HM6 c0 c1 c2 c3 hc6
                      have HSA := Lib.hid (psame HPX.out (by have := HN2.out.len; omega))
                      clear HPX
                      go_wp2_with fail
                      refine HSA.out.mono ?_
                      rintro e w20 ⟨rfl, hp20⟩
                      have HRD := Lib.hid (pread raw hp20 HRAW.out)
                      clear hp20 HSA
                      go_wp2_with fail
                      refine HRD.out.mono ?_
                      rintro e w21 ⟨⟨a21, n21, c21, rfl⟩, hp21⟩
                      have hc21 := hp21.cell
                      obtain ⟨hc21a, hc21b⟩ := hc21
                      have HRR := Lib.hid (prread raw hp21 (by have := HN2.out.len; omega))
                      obtain ⟨a22, c22, hv22⟩ := hp21.slice
                      obtain ⟨G, hG⟩ : ∃ G : Int, G = (if (Fs.get fs2 raw).isSome = true then 0 else 71) := ⟨_, rfl⟩
                      have hGb : 0 ≤ G ∧ G ≤ 71 := by rw [hG]; split <;> omega
                      obtain ⟨hG0, hG1⟩ := hGb
                      rw [← hG] at HRR ⊢
                      have hGG : (G != G) = false := by simp
                      have hGw : IntKind.i64.wrap G = G := IntWalk.i64_in _ (by omega)
                      clear hp21 HRD hG hv22
                      go_wp2_with fail
                      refine HRR.out.mono ?_
                      rintro e w22 ⟨⟨u22, rfl⟩, hp22⟩
                      have HP22 := Lib.hid hp22
                      clear hp22 HRR hc21a hc21b
                      go_wp2_with fail
                      go_roundw
                      case rel => exact ⟨k + 1, dd, _, fs2, by omega, by go_num, rfl, HP22, HN2⟩
                      case measure => simp [intOf]; omega
                    exact AllReadyH.nil
                  exact AllReadyH.nil
                exact AllReadyH.nil
              exact AllReadyH.nil
          | 2, _ =>
            as_aux_lemma =>
              go_upto_region 11 with fail
              clear hwno hr2
              obtain ⟨bs, hbs⟩ : ∃ bs, bs = bytesM z2 z3 := ⟨_, rfl⟩
              have hbl : bs.length ≤ 8 := by rw [hbs, bytesM_len]; omega
              have HBY := Lib.hid fun W => bytes_calls z2 z3 W (by omega) (by omega)
              rw [← hbs] at HBY
              obtain ⟨E, hE⟩ : ∃ E : Int, E = wErr no := ⟨_, rfl⟩
              have hEb : 0 ≤ E ∧ E ≤ 71 := by rw [hE]; first | (split <;> omega) | (unfold wErr; split <;> omega)
              obtain ⟨hE0, hE1⟩ := hEb
              have hEE : (E != E) = false := by simp
              have hEw : IntKind.i64.wrap E = E := IntWalk.i64_in _ (by omega)
              have HN2 := Lib.hid (HN.out.writeK no bs hbl)
              have HSO := Lib.hid HT.out.sorted
              have hz8 : (((fs.get no).map (·.bytes)).getD []).length + bs.length ≤ 1000000 := by have := Fs.get_big HN.out.big no; omega
              have hln := HN.out.len
              have HB2 : Hid (∀ W, Below wr.heap.size wr W → Calls Try.prog 17 #[.int .u8 (z2 : Int), .int .u8 (z3 : Int)] W fun e w' => ∃ v5, e = .returned v5 ∧ HeldW w ad (z0 : Int) (z1 : Int) (z2 : Int) (z3 : Int) w' ∧ Calls Try.prog 11 #[.pointer (some ⟨dd, 0, none⟩), .int .i64 no, v5] w' fun e w' => e = .returned (.int .u16 E) ∧ Pair w w' dd g v v (fs.writeK no bs) fs ∧ HeldW w ad (z0 : Int) (z1 : Int) (z2 : Int) (z3 : Int) w') := Lib.hid fun W hW => by
                refine (HBY.out W).mono ?_
                rintro e w5 ⟨v5, rfl, hb5, ho5⟩
                have hm := HT.out.next hW
                refine ⟨v5, rfl, HS.out _ (hm.next hb5).below, (pwrite no hm hb5 ho5 (by omega) hz8).mono ?_⟩
                rintro e w6 ⟨rfl, hm6⟩
                exact ⟨by rw [hE], hm6, HS.out _ hm6.below⟩
              have HB3 : Hid (∀ w6, Pair w w6 dd g v v (fs.writeK no bs) fs → ∀ W, Below w6.heap.size w6 W → Calls Try.prog 17 #[.int .u8 (z2 : Int), .int .u8 (z3 : Int)] W fun e w' => ∃ v5, e = .returned v5 ∧ HeldW w ad (z0 : Int) (z1 : Int) (z2 : Int) (z3 : Int) w' ∧ w'.cell? ⟨g, 0, none⟩ = some v ∧ Calls Try.prog 20 #[.agg #[v], .int .i64 no, v5] w' fun e w' => ∃ v', e = .returned (.tuple #[.agg #[v'], .int .i64 E]) ∧ Pair w w' dd g v v' (fs.writeK no bs) (fs.writeK no bs)) := Lib.hid fun w6 h6 W hW => by
                refine (HBY.out W).mono ?_
                rintro e w5 ⟨v5, rfl, hb5, ho5⟩
                have hm := h6.next hW
                refine ⟨v5, rfl, HS.out _ (hm.next hb5).below, (hm.next hb5).cell.1, (prwrite no hm HSO.out hb5 ho5 (by omega) hz8).mono ?_⟩
                rintro e w8 ⟨v', rfl, hm8⟩
                exact ⟨v', by rw [hE], hm8⟩
              clear hE hbs hz8
              go_wp2_with fail
              go_region_held3 (fun W => W.cell? ad = some (.int .u8 (z0 : Int)) ∧ W.cell? ⟨ad.block, ad.off + 1, none⟩ = some (.int .u8 (z1 : Int)) ∧ W.cell? ⟨ad.block, ad.off + 2, none⟩ = some (.int .u8 (z2 : Int)) ∧ W.cell? ⟨ad.block, ad.off + 3, none⟩ = some (.int .u8 (z3 : Int)) ∧ Below w.heap.size w W)
                (first | assumption | exact HS.out _ (pw_below_drewN HT.out.below _) | exact HS.out _ (Below.drew HT.out.below) | go_keep)
                (first | (go_at_call 17; (with_reducible refine (HB2.out _ (by repeat (first | exact Below.refl _ _ | refine pw_below_drewN ?_ _ | refine Below.drew ?_))).mono ?_); rintro e w5 ⟨v5, rfl, hs5, hw5⟩) | (go_at_call 11; (with_reducible refine hw5.mono ?_); rintro e w6 ⟨rfl, hm6, hs6⟩))
              have HM6 := Lib.hid hm6
              obtain ⟨c0, c1, c2, c3, _⟩ := hs6
              have hc6 := hm6.cell.1
              have HB4 := Lib.hid (HB3.out w6 hm6)
              obtain ⟨fs2, hfs2⟩ : ∃ fs2, fs2 = fs.writeK no bs := ⟨_, rfl⟩
              rw [← hfs2] at HM6 HN2 HB4
              clear hm6 hfs2 hS hs5 hw5 HBY HB2 HB3 HN
              go_wp2_with fail
              refine wp_region_noPanic ?_
              refine wp_region_held_drew (S := fun W => W.cell? ⟨ad.block, ad.off + 2, none⟩ = some (.int .u8 (z2 : Int)) ∧ W.cell? ⟨ad.block, ad.off + 3, none⟩ = some (.int .u8 (z3 : Int))) (by kernel_rfl) (by exact sOf (HS.out _ (Below.drew HM6.out.below))) (fun hS_ => ?_)
              refine wpAnyH_take (i := 1) (oi := ({ dst := (some 88), op := (Op.move (Operand.tmp 10)), type := 3, pos := "law.go:72", after := #[], guard := none } : Oper)) (v := ?_) rfl (by kernel_rfl) (by kernel_rfl) (by kernel_rfl) (fun _ _ _ h => h) (Or.inl ⟨by rfl, ?_⟩) (by assumption) ?_
              rotate_left
              · (intro w_ hSw; (try dsimp only at hSw); go_simp; try with_reducible rfl)
              try simp only [Act.put, List.setIfInBounds_toArray, List.set_cons_zero, List.set_cons_succ]
              refine wpAnyH_take (i := 2) (oi := ({ dst := (some 89), op := (Op.move (Operand.tmp 0)), type := 39, pos := "law.go:72", after := #[], guard := none } : Oper)) (v := ?_) rfl (by kernel_rfl) (by kernel_rfl) (by kernel_rfl) (fun _ _ _ h => h) (Or.inl ⟨by rfl, ?_⟩) (by assumption) ?_
              rotate_left
              · (intro w_ hSw; (try dsimp only at hSw); go_simp; try with_reducible rfl)
              try simp only [Act.put, List.setIfInBounds_toArray, List.set_cons_zero, List.set_cons_succ]
              refine wpAnyH_take (i := 3) (oi := ({ dst := (some 90), op := (Op.move (Operand.tmp 9)), type := 3, pos := "law.go:72", after := #[], guard := none } : Oper)) (v := ?_) rfl (by kernel_rfl) (by kernel_rfl) (by kernel_rfl) (fun _ _ _ h => h) (Or.inl ⟨by rfl, ?_⟩) (by assumption) ?_
              rotate_left
              · (intro w_ hSw; (try dsimp only at hSw); go_simp; try with_reducible rfl)
              try simp only [Act.put, List.setIfInBounds_toArray, List.set_cons_zero, List.set_cons_succ]
              refine wpAnyH_take (i := 4) (oi := ({ dst := (some 91), op := (Op.indexAddr 39 (Operand.tmp 89) (Operand.tmp 90)), type := 0, pos := "law.go:72", after := #[{ on := 2, ground := Ground.data }, { on := 3, ground := Ground.data }], guard := none } : Oper)) (v := ?_) rfl (by kernel_rfl) (by kernel_rfl) (by kernel_rfl) (fun _ _ _ h => h) (Or.inl ⟨by rfl, ?_⟩) (by assumption) ?_
              rotate_left
              · (intro w_ hSw; (try dsimp only at hSw); go_simp; try with_reducible rfl)
              try simp only [Act.put, List.setIfInBounds_toArray, List.set_cons_zero, List.set_cons_succ]
              refine wpAnyH_take (i := 5) (oi := ({ dst := (some 92), op := (Op.fieldAddr 41 (Operand.tmp 91) 2), type := 0, pos := "law.go:72", after := #[{ on := 4, ground := Ground.data }], guard := none } : Oper)) (v := ?_) rfl (by kernel_rfl) (by kernel_rfl) (by kernel_rfl) (fun _ _ _ h => h) (Or.inl ⟨by rfl, ?_⟩) (by assumption) ?_
              rotate_left
              · (intro w_ hSw; (try dsimp only at hSw); go_simp; try with_reducible rfl)
              try simp only [Act.put, List.setIfInBounds_toArray, List.set_cons_zero, List.set_cons_succ]
              refine wpAnyH_take (i := 6) (oi := ({ dst := (some 93), op := (Op.load 5 (Operand.tmp 92)), type := 5, pos := "law.go:72", after := #[{ on := 5, ground := Ground.data }], guard := none } : Oper)) (v := ?_) rfl (by kernel_rfl) (by kernel_rfl) (by kernel_rfl) (fun _ _ _ h => h) (Or.inl ⟨by rfl, ?_⟩) (by assumption) ?_
              rotate_left
              · (intro w_ hSw; (try dsimp only at hSw); go_simp; try with_reducible rfl)
              try simp only [Act.put, List.setIfInBounds_toArray, List.set_cons_zero, List.set_cons_succ]
              refine wpAnyH_take (i := 7) (oi := ({ dst := (some 94), op := (Op.move (Operand.tmp 0)), type := 39, pos := "law.go:72", after := #[], guard := none } : Oper)) (v := ?_) rfl (by kernel_rfl) (by kernel_rfl) (by kernel_rfl) (fun _ _ _ h => h) (Or.inl ⟨by rfl, ?_⟩) (by assumption) ?_
              rotate_left
              · (intro w_ hSw; (try dsimp only at hSw); go_simp; try with_reducible rfl)
              try simp only [Act.put, List.setIfInBounds_toArray, List.set_cons_zero, List.set_cons_succ]
              refine wpAnyH_take (i := 8) (oi := ({ dst := (some 95), op := (Op.move (Operand.tmp 9)), type := 3, pos := "law.go:72", after := #[], guard := none } : Oper)) (v := ?_) rfl (by kernel_rfl) (by kernel_rfl) (by kernel_rfl) (fun _ _ _ h => h) (Or.inl ⟨by rfl, ?_⟩) (by assumption) ?_
              rotate_left
              · (intro w_ hSw; (try dsimp only at hSw); go_simp; try with_reducible rfl)
              try simp only [Act.put, List.setIfInBounds_toArray, List.set_cons_zero, List.set_cons_succ]
              refine wpAnyH_take (i := 9) (oi := ({ dst := (some 96), op := (Op.indexAddr 39 (Operand.tmp 94) (Operand.tmp 95)), type := 0, pos := "law.go:72", after := #[{ on := 7, ground := Ground.data }, { on := 8, ground := Ground.data }], guard := none } : Oper)) (v := ?_) rfl (by kernel_rfl) (by kernel_rfl) (by kernel_rfl) (fun _ _ _ h => h) (Or.inl ⟨by rfl, ?_⟩) (by assumption) ?_
              rotate_left
              · (intro w_ hSw; (try dsimp only at hSw); go_simp; try with_reducible rfl)
              try simp only [Act.put, List.setIfInBounds_toArray, List.set_cons_zero, List.set_cons_succ]
              refine wpAnyH_take (i := 10) (oi := ({ dst := (some 97), op := (Op.fieldAddr 41 (Operand.tmp 96) 3), type := 0, pos := "law.go:72", after := #[{ on := 9, ground := Ground.data }], guard := none } : Oper)) (v := ?_) rfl (by kernel_rfl) (by kernel_rfl) (by kernel_rfl) (fun _ _ _ h => h) (Or.inl ⟨by rfl, ?_⟩) (by assumption) ?_
              rotate_left
              · (intro w_ hSw; (try dsimp only at hSw); go_simp; try with_reducible rfl)
              try simp only [Act.put, List.setIfInBounds_toArray, List.set_cons_zero, List.set_cons_succ]
              refine wpAnyH_take (i := 11) (oi := ({ dst := (some 98), op := (Op.load 5 (Operand.tmp 97)), type := 5, pos := "law.go:72", after := #[{ on := 10, ground := Ground.data }], guard := none } : Oper)) (v := ?_) rfl (by kernel_rfl) (by kernel_rfl) (by kernel_rfl) (fun _ _ _ h => h) (Or.inl ⟨by rfl, ?_⟩) (by assumption) ?_
              rotate_left
              · (intro w_ hSw; (try dsimp only at hSw); go_simp; try with_reducible rfl)
              try simp only [Act.put, List.setIfInBounds_toArray, List.set_cons_zero, List.set_cons_succ]
              refine wpAnyH_ready (rs := [0, 12]) (by kernel_rfl) (by simp) ?_
              refine AllReadyH.cons (o := ({ dst := (some 87), op := (Op.load 50 (Operand.tmp 8)), type := 50, pos := "law.go:72", after := #[], guard := none } : Oper)) rfl (fun K hK => ?_) ?_
              · go_simp
                refine hK.out _ _ (by first | exact hS_ | exact sOf hs7 | exact sOf (HS.out _ hm8.below) | exact sOf (HS.out _ (Pair.store hm8).below)) (fun hS_ => ?_)
                clear hK K
                try simp only [Act.put, List.setIfInBounds_toArray, List.set_cons_zero, List.set_cons_succ]
                refine wpAnyH_ready (rs := [12]) (by kernel_rfl) (by simp) ?_
                refine AllReadyH.cons (o := ({ dst := (some 99), op := (Op.call { callee := (Callee.value (Operand.func 17)), args := #[(Operand.tmp 93), (Operand.tmp 98)], argTypes := #[5, 5] }), type := 22, pos := "law.go:72", after := #[{ on := 6, ground := Ground.data }, { on := 11, ground := Ground.data }], guard := none } : Oper)) rfl (fun K hK => ?_) ?_
                · go_simp
                  refine (HB4.out _ (by repeat (first | exact Below.refl _ _ | refine pw_below_drewN ?_ _ | refine Below.drew ?_))).mono ?_
                  rintro e w7 ⟨v7, rfl, hs7, hc7, hw7⟩
                  refine hK.out _ _ (by first | exact hS_ | exact sOf hs7 | exact sOf (HS.out _ hm8.below) | exact sOf (HS.out _ (Pair.store hm8).below)) (fun hS_ => ?_)
                  clear hK K
                  try simp only [Act.put, List.setIfInBounds_toArray, List.set_cons_zero, List.set_cons_succ]
                  refine wpAnyH_ready (rs := [13]) (by kernel_rfl) (by simp) ?_
                  refine AllReadyH.cons (o := ({ dst := (some 100), op := (Op.call { callee := (Callee.value (Operand.func 20)), args := #[(Operand.tmp 87), (Operand.tmp 88), (Operand.tmp 99)], argTypes := #[50, 3, 22] }), type := 51, pos := "law.go:72", after := #[{ on := 0, ground := Ground.data }, { on := 1, ground := Ground.data }, { on := 12, ground := Ground.data }, { on := 12, ground := Ground.chain }], guard := none } : Oper)) rfl (fun K hK => ?_) ?_
                  · go_simp
                    refine hw7.mono ?_
                    rintro e w8 ⟨v8, rfl, hm8⟩
                    obtain ⟨a8, c8, rfl⟩ := hm8.slice
                    obtain ⟨hc8, hz8⟩ := hm8.cell
                    refine hK.out _ _ (by first | exact hS_ | exact sOf hs7 | exact sOf (HS.out _ hm8.below) | exact sOf (HS.out _ (Pair.store hm8).below)) (fun hS_ => ?_)
                    clear hK K
                    try simp only [Act.put, List.setIfInBounds_toArray, List.set_cons_zero, List.set_cons_succ]
                    refine wpAnyH_take (i := 14) (oi := ({ dst := (some 86), op := (Op.move (Operand.tmp 100)), type := 51, pos := "law.go:72", after := #[{ on := 13, ground := Ground.data }], guard := none } : Oper)) (v := ?_) rfl (by kernel_rfl) (by kernel_rfl) (by kernel_rfl) (fun _ _ _ h => h) (Or.inl ⟨by rfl, ?_⟩) (by assumption) ?_
                    rotate_left
                    · (intro w_ hSw; (try dsimp only at hSw); go_simp; try with_reducible rfl)
                    try simp only [Act.put, List.setIfInBounds_toArray, List.set_cons_zero, List.set_cons_succ]
                    refine wpAnyH_take (i := 15) (oi := ({ dst := (some 101), op := (Op.extract (Operand.tmp 86) 0), type := 50, pos := "law.go:72", after := #[{ on := 14, ground := Ground.data }], guard := none } : Oper)) (v := ?_) rfl (by kernel_rfl) (by kernel_rfl) (by kernel_rfl) (fun _ _ _ h => h) (Or.inl ⟨by rfl, ?_⟩) (by assumption) ?_
                    rotate_left
                    · (intro w_ hSw; (try dsimp only at hSw); go_simp; try with_reducible rfl)
                    try simp only [Act.put, List.setIfInBounds_toArray, List.set_cons_zero, List.set_cons_succ]
                    refine wpAnyH_take (i := 16) (oi := ({ dst := (some 102), op := (Op.extract (Operand.tmp 86) 1), type := 3, pos := "law.go:72", after := #[{ on := 14, ground := Ground.data }, { on := 17, ground := (Ground.gcOnly Departure.lateStores) }], guard := none } : Oper)) (v := ?_) rfl (by kernel_rfl) (by kernel_rfl) (by kernel_rfl) (fun _ _ _ h => h) (Or.inl ⟨by rfl, ?_⟩) (by assumption) ?_
                    rotate_left
                    · (intro w_ hSw; (try dsimp only at hSw); go_simp; try with_reducible rfl)
                    try simp only [Act.put, List.setIfInBounds_toArray, List.set_cons_zero, List.set_cons_succ]
                    refine wpAnyH_ready (rs := [17]) (by kernel_rfl) (by simp) ?_
                    refine AllReadyH.cons (o := ({ dst := none, op := (Op.store 50 (Operand.tmp 8) (Operand.tmp 101)), type := 0, pos := "law.go:72", after := #[{ on := 15, ground := Ground.data }, { on := 13, ground := Ground.chain }, { on := 0, ground := Ground.phase }, { on := 1, ground := Ground.phase }, { on := 2, ground := Ground.phase }, { on := 3, ground := Ground.phase }, { on := 4, ground := Ground.phase }, { on := 5, ground := Ground.phase }, { on := 6, ground := Ground.phase }, { on := 7, ground := Ground.phase }, { on := 8, ground := Ground.phase }, { on := 9, ground := Ground.phase }, { on := 10, ground := Ground.phase }, { on := 11, ground := Ground.phase }, { on := 12, ground := Ground.phase }, { on := 13, ground := Ground.phase }, { on := 14, ground := Ground.phase }, { on := 15, ground := Ground.phase }, { on := 16, ground := (Ground.textOnly Departure.lateStores) }], guard := none } : Oper)) rfl (fun K hK => ?_) ?_
                    · go_simp
                      refine hK.out _ _ (by first | exact hS_ | exact sOf hs7 | exact sOf (HS.out _ hm8.below) | exact sOf (HS.out _ (Pair.store hm8).below)) (fun hS_ => ?_)
                      clear hK K
                      try simp only [Act.put, List.setIfInBounds_toArray, List.set_cons_zero, List.set_cons_succ]
                      refine wpAnyH_take (i := 18) (oi := ({ dst := (some 11), op := (Op.assign (Operand.tmp 102)), type := 3, pos := "law.go:72", after := #[{ on := 16, ground := Ground.data }, { on := 17, ground := Ground.chain }, { on := 0, ground := Ground.phase }, { on := 1, ground := Ground.phase }, { on := 2, ground := Ground.phase }, { on := 3, ground := Ground.phase }, { on := 4, ground := Ground.phase }, { on := 5, ground := Ground.phase }, { on := 6, ground := Ground.phase }, { on := 7, ground := Ground.phase }, { on := 8, ground := Ground.phase }, { on := 9, ground := Ground.phase }, { on := 10, ground := Ground.phase }, { on := 11, ground := Ground.phase }, { on := 12, ground := Ground.phase }, { on := 13, ground := Ground.phase }, { on := 14, ground := Ground.phase }, { on := 15, ground := Ground.phase }, { on := 16, ground := Ground.phase }, { on := 17, ground := Ground.phase }], guard := none } : Oper)) (v := ?_) rfl (by kernel_rfl) (by kernel_rfl) (by kernel_rfl) (fun _ _ _ h => h) (Or.inl ⟨by rfl, ?_⟩) (by assumption) ?_
                      rotate_left
                      · (intro w_ hSw; (try dsimp only at hSw); go_simp; try with_reducible rfl)
                      try simp only [Act.put, List.setIfInBounds_toArray, List.set_cons_zero, List.set_cons_succ]
                      refine wpAnyH_done (by kernel_rfl) ?_ _
                      refine NoPanic.normal ?_
                      have HPX := Lib.hid (Pair.store hm8)
                      clear hm8 hs7 hc7 hw7 HB4 HM6 c0 c1 c2 c3 hc6
                      have HSA := Lib.hid (psame HPX.out (by have := HN2.out.len; omega))
                      clear HPX
                      go_wp2_with fail
                      refine HSA.out.mono ?_
                      rintro e w20 ⟨rfl, hp20⟩
                      have HRD := Lib.hid (pread raw hp20 HRAW.out)
                      clear hp20 HSA
                      go_wp2_with fail
                      refine HRD.out.mono ?_
                      rintro e w21 ⟨⟨a21, n21, c21, rfl⟩, hp21⟩
                      have hc21 := hp21.cell
                      obtain ⟨hc21a, hc21b⟩ := hc21
                      have HRR := Lib.hid (prread raw hp21 (by have := HN2.out.len; omega))
                      obtain ⟨a22, c22, hv22⟩ := hp21.slice
                      obtain ⟨G, hG⟩ : ∃ G : Int, G = (if (Fs.get fs2 raw).isSome = true then 0 else 71) := ⟨_, rfl⟩
                      have hGb : 0 ≤ G ∧ G ≤ 71 := by rw [hG]; split <;> omega
                      obtain ⟨hG0, hG1⟩ := hGb
                      rw [← hG] at HRR ⊢
                      have hGG : (G != G) = false := by simp
                      have hGw : IntKind.i64.wrap G = G := IntWalk.i64_in _ (by omega)
                      clear hp21 HRD hG hv22
                      go_wp2_with fail
                      refine HRR.out.mono ?_
                      rintro e w22 ⟨⟨u22, rfl⟩, hp22⟩
                      have HP22 := Lib.hid hp22
                      clear hp22 HRR hc21a hc21b
                      go_wp2_with fail
                      go_roundw
                      case rel => exact ⟨k + 1, dd, _, fs2, by omega, by go_num, rfl, HP22, HN2⟩
                      case measure => simp [intOf]; omega
                    exact AllReadyH.nil
                  exact AllReadyH.nil
                exact AllReadyH.nil
              refine AllReadyH.cons (o := ({ dst := (some 99), op := (Op.call { callee := (Callee.value (Operand.func 17)), args := #[(Operand.tmp 93), (Operand.tmp 98)], argTypes := #[5, 5] }), type := 22, pos := "law.go:72", after := #[{ on := 6, ground := Ground.data }, { on := 11, ground := Ground.data }], guard := none } : Oper)) rfl (fun K hK => ?_) ?_
              · go_simp
                refine (HB4.out _ (by repeat (first | exact Below.refl _ _ | refine pw_below_drewN ?_ _ | refine Below.drew ?_))).mono ?_
                rintro e w7 ⟨v7, rfl, hs7, hc7, hw7⟩
                refine hK.out _ _ (by first | exact hS_ | exact sOf hs7 | exact sOf (HS.out _ hm8.below) | exact sOf (HS.out _ (Pair.store hm8).below)) (fun hS_ => ?_)
                clear hK K
                try simp only [Act.put, List.setIfInBounds_toArray, List.set_cons_zero, List.set_cons_succ]
                refine wpAnyH_ready (rs := [0]) (by kernel_rfl) (by simp) ?_
                refine AllReadyH.cons (o := ({ dst := (some 87), op := (Op.load 50 (Operand.tmp 8)), type := 50, pos := "law.go:72", after := #[], guard := none } : Oper)) rfl (fun K hK => ?_) ?_
                · go_simp
                  refine hK.out _ _ (by first | exact hS_ | exact sOf hs7 | exact sOf (HS.out _ hm8.below) | exact sOf (HS.out _ (Pair.store hm8).below)) (fun hS_ => ?_)
                  clear hK K
                  try simp only [Act.put, List.setIfInBounds_toArray, List.set_cons_zero, List.set_cons_succ]
                  refine wpAnyH_ready (rs := [13]) (by kernel_rfl) (by simp) ?_
                  refine AllReadyH.cons (o := ({ dst := (some 100), op := (Op.call { callee := (Callee.value (Operand.func 20)), args := #[(Operand.tmp 87), (Operand.tmp 88), (Operand.tmp 99)], argTypes := #[50, 3, 22] }), type := 51, pos := "law.go:72", after := #[{ on := 0, ground := Ground.data }, { on := 1, ground := Ground.data }, { on := 12, ground := Ground.data }, { on := 12, ground := Ground.chain }], guard := none } : Oper)) rfl (fun K hK => ?_) ?_
                  · go_simp
                    refine hw7.mono ?_
                    rintro e w8 ⟨v8, rfl, hm8⟩
                    obtain ⟨a8, c8, rfl⟩ := hm8.slice
                    obtain ⟨hc8, hz8⟩ := hm8.cell
                    refine hK.out _ _ (by first | exact hS_ | exact sOf hs7 | exact sOf (HS.out _ hm8.below) | exact sOf (HS.out _ (Pair.store hm8).below)) (fun hS_ => ?_)
                    clear hK K
                    try simp only [Act.put, List.setIfInBounds_toArray, List.set_cons_zero, List.set_cons_succ]
                    refine wpAnyH_take (i := 14) (oi := ({ dst := (some 86), op := (Op.move (Operand.tmp 100)), type := 51, pos := "law.go:72", after := #[{ on := 13, ground := Ground.data }], guard := none } : Oper)) (v := ?_) rfl (by kernel_rfl) (by kernel_rfl) (by kernel_rfl) (fun _ _ _ h => h) (Or.inl ⟨by rfl, ?_⟩) (by assumption) ?_
                    rotate_left
                    · (intro w_ hSw; (try dsimp only at hSw); go_simp; try with_reducible rfl)
                    try simp only [Act.put, List.setIfInBounds_toArray, List.set_cons_zero, List.set_cons_succ]
                    refine wpAnyH_take (i := 15) (oi := ({ dst := (some 101), op := (Op.extract (Operand.tmp 86) 0), type := 50, pos := "law.go:72", after := #[{ on := 14, ground := Ground.data }], guard := none } : Oper)) (v := ?_) rfl (by kernel_rfl) (by kernel_rfl) (by kernel_rfl) (fun _ _ _ h => h) (Or.inl ⟨by rfl, ?_⟩) (by assumption) ?_
                    rotate_left
                    · (intro w_ hSw; (try dsimp only at hSw); go_simp; try with_reducible rfl)
                    try simp only [Act.put, List.setIfInBounds_toArray, List.set_cons_zero, List.set_cons_succ]
                    refine wpAnyH_take (i := 16) (oi := ({ dst := (some 102), op := (Op.extract (Operand.tmp 86) 1), type := 3, pos := "law.go:72", after := #[{ on := 14, ground := Ground.data }, { on := 17, ground := (Ground.gcOnly Departure.lateStores) }], guard := none } : Oper)) (v := ?_) rfl (by kernel_rfl) (by kernel_rfl) (by kernel_rfl) (fun _ _ _ h => h) (Or.inl ⟨by rfl, ?_⟩) (by assumption) ?_
                    rotate_left
                    · (intro w_ hSw; (try dsimp only at hSw); go_simp; try with_reducible rfl)
                    try simp only [Act.put, List.setIfInBounds_toArray, List.set_cons_zero, List.set_cons_succ]
                    refine wpAnyH_ready (rs := [17]) (by kernel_rfl) (by simp) ?_
                    refine AllReadyH.cons (o := ({ dst := none, op := (Op.store 50 (Operand.tmp 8) (Operand.tmp 101)), type := 0, pos := "law.go:72", after := #[{ on := 15, ground := Ground.data }, { on := 13, ground := Ground.chain }, { on := 0, ground := Ground.phase }, { on := 1, ground := Ground.phase }, { on := 2, ground := Ground.phase }, { on := 3, ground := Ground.phase }, { on := 4, ground := Ground.phase }, { on := 5, ground := Ground.phase }, { on := 6, ground := Ground.phase }, { on := 7, ground := Ground.phase }, { on := 8, ground := Ground.phase }, { on := 9, ground := Ground.phase }, { on := 10, ground := Ground.phase }, { on := 11, ground := Ground.phase }, { on := 12, ground := Ground.phase }, { on := 13, ground := Ground.phase }, { on := 14, ground := Ground.phase }, { on := 15, ground := Ground.phase }, { on := 16, ground := (Ground.textOnly Departure.lateStores) }], guard := none } : Oper)) rfl (fun K hK => ?_) ?_
                    · go_simp
                      refine hK.out _ _ (by first | exact hS_ | exact sOf hs7 | exact sOf (HS.out _ hm8.below) | exact sOf (HS.out _ (Pair.store hm8).below)) (fun hS_ => ?_)
                      clear hK K
                      try simp only [Act.put, List.setIfInBounds_toArray, List.set_cons_zero, List.set_cons_succ]
                      refine wpAnyH_take (i := 18) (oi := ({ dst := (some 11), op := (Op.assign (Operand.tmp 102)), type := 3, pos := "law.go:72", after := #[{ on := 16, ground := Ground.data }, { on := 17, ground := Ground.chain }, { on := 0, ground := Ground.phase }, { on := 1, ground := Ground.phase }, { on := 2, ground := Ground.phase }, { on := 3, ground := Ground.phase }, { on := 4, ground := Ground.phase }, { on := 5, ground := Ground.phase }, { on := 6, ground := Ground.phase }, { on := 7, ground := Ground.phase }, { on := 8, ground := Ground.phase }, { on := 9, ground := Ground.phase }, { on := 10, ground := Ground.phase }, { on := 11, ground := Ground.phase }, { on := 12, ground := Ground.phase }, { on := 13, ground := Ground.phase }, { on := 14, ground := Ground.phase }, { on := 15, ground := Ground.phase }, { on := 16, ground := Ground.phase }, { on := 17, ground := Ground.phase }], guard := none } : Oper)) (v := ?_) rfl (by kernel_rfl) (by kernel_rfl) (by kernel_rfl) (fun _ _ _ h => h) (Or.inl ⟨by rfl, ?_⟩) (by assumption) ?_
                      rotate_left
                      · (intro w_ hSw; (try dsimp only at hSw); go_simp; try with_reducible rfl)
                      try simp only [Act.put, List.setIfInBounds_toArray, List.set_cons_zero, List.set_cons_succ]
                      refine wpAnyH_done (by kernel_rfl) ?_ _
                      refine NoPanic.normal ?_
                      have HPX := Lib.hid (Pair.store hm8)
                      clear hm8 hs7 hc7 hw7 HB4 HM6 c0 c1 c2 c3 hc6
                      have HSA := Lib.hid (psame HPX.out (by have := HN2.out.len; omega))
                      clear HPX
                      go_wp2_with fail
                      refine HSA.out.mono ?_
                      rintro e w20 ⟨rfl, hp20⟩
                      have HRD := Lib.hid (pread raw hp20 HRAW.out)
                      clear hp20 HSA
                      go_wp2_with fail
                      refine HRD.out.mono ?_
                      rintro e w21 ⟨⟨a21, n21, c21, rfl⟩, hp21⟩
                      have hc21 := hp21.cell
                      obtain ⟨hc21a, hc21b⟩ := hc21
                      have HRR := Lib.hid (prread raw hp21 (by have := HN2.out.len; omega))
                      obtain ⟨a22, c22, hv22⟩ := hp21.slice
                      obtain ⟨G, hG⟩ : ∃ G : Int, G = (if (Fs.get fs2 raw).isSome = true then 0 else 71) := ⟨_, rfl⟩
                      have hGb : 0 ≤ G ∧ G ≤ 71 := by rw [hG]; split <;> omega
                      obtain ⟨hG0, hG1⟩ := hGb
                      rw [← hG] at HRR ⊢
                      have hGG : (G != G) = false := by simp
                      have hGw : IntKind.i64.wrap G = G := IntWalk.i64_in _ (by omega)
                      clear hp21 HRD hG hv22
                      go_wp2_with fail
                      refine HRR.out.mono ?_
                      rintro e w22 ⟨⟨u22, rfl⟩, hp22⟩
                      have HP22 := Lib.hid hp22
                      clear hp22 HRR hc21a hc21b
                      go_wp2_with fail
                      go_roundw
                      case rel => exact ⟨k + 1, dd, _, fs2, by omega, by go_num, rfl, HP22, HN2⟩
                      case measure => simp [intOf]; omega
                    exact AllReadyH.nil
                  exact AllReadyH.nil
                exact AllReadyH.nil
              exact AllReadyH.nil
          | 3, _ =>
            as_aux_lemma =>
              go_upto_region 11 with fail
              clear hwno hr2
              obtain ⟨E, hE⟩ : ∃ E : Int, E = (if (fs.get no).isSome = true then 0 else 71) := ⟨_, rfl⟩
              have hEb : 0 ≤ E ∧ E ≤ 71 := by rw [hE]; first | (split <;> omega) | (unfold wErr; split <;> omega)
              obtain ⟨hE0, hE1⟩ := hEb
              have hEE : (E != E) = false := by simp
              have hEw : IntKind.i64.wrap E = E := IntWalk.i64_in _ (by omega)
              have HC1 := Lib.hid (psync no HT.out HWN.out)
              have HE := Lib.hid hE
              clear hE
              go_wp2_with fail
              refine HC1.out.mono ?_
              clear hS hix
              rintro e w6 ⟨rfl, hm6⟩
              obtain ⟨hc6, hz6⟩ := hm6.cell
              obtain ⟨a6, c6, rfl⟩ := hm6.slice
              have HC2 := Lib.hid (prsync no hm6 (Pair.sorted HT.out) (by have := HN.out.len; omega))
              clear hm6 HC1
              rw [← HE.out]
              go_wp2_with fail
              refine HC2.out.mono ?_
              rintro e w8 ⟨v8, rfl, hm8⟩
              rw [← HE.out]
              obtain ⟨a8, c8, rfl⟩ := hm8.slice
              obtain ⟨hc8, hz8⟩ := hm8.cell
              have HPX := Lib.hid (Pair.store hm8)
              have HN2 := Lib.hid ((HN.out.mono).sync no)
              obtain ⟨fs2, hfs2⟩ : ∃ fs2, fs2 = fs.sync no := ⟨_, rfl⟩
              rw [← hfs2] at HPX HN2 ⊢
              clear hm8 HC2 HE hfs2 hc6 hz6 HT HN
              have HSA := Lib.hid (psame HPX.out (by have := HN2.out.len; omega))
              clear HPX
              go_wp2_with fail
              refine HSA.out.mono ?_
              rintro e w20 ⟨rfl, hp20⟩
              have HRD := Lib.hid (pread raw hp20 HRAW.out)
              clear hp20 HSA
              go_wp2_with fail
              refine HRD.out.mono ?_
              rintro e w21 ⟨⟨a21, n21, c21, rfl⟩, hp21⟩
              have hc21 := hp21.cell
              obtain ⟨hc21a, hc21b⟩ := hc21
              have HRR := Lib.hid (prread raw hp21 (by have := HN2.out.len; omega))
              obtain ⟨a22, c22, hv22⟩ := hp21.slice
              obtain ⟨G, hG⟩ : ∃ G : Int, G = (if (Fs.get fs2 raw).isSome = true then 0 else 71) := ⟨_, rfl⟩
              have hGb : 0 ≤ G ∧ G ≤ 71 := by rw [hG]; split <;> omega
              obtain ⟨hG0, hG1⟩ := hGb
              rw [← hG] at HRR ⊢
              have hGG : (G != G) = false := by simp
              have hGw : IntKind.i64.wrap G = G := IntWalk.i64_in _ (by omega)
              clear hp21 HRD hG hv22
              go_wp2_with fail
              refine HRR.out.mono ?_
              rintro e w22 ⟨⟨u22, rfl⟩, hp22⟩
              have HP22 := Lib.hid hp22
              clear hp22 HRR hc21a hc21b
              go_wp2_with fail
              go_roundw
              case rel => exact ⟨k + 1, dd, _, fs2, by omega, by go_num, rfl, HP22, HN2⟩
              case measure => simp [intOf]; omega
          | 4, _ =>
            as_aux_lemma =>
              go_upto_region 11 with fail
              clear hwno hr2
              obtain ⟨E, hE⟩ : ∃ E : Int, E = (if (fs.get no).isSome = true then 0 else 71) := ⟨_, rfl⟩
              have hEb : 0 ≤ E ∧ E ≤ 71 := by rw [hE]; first | (split <;> omega) | (unfold wErr; split <;> omega)
              obtain ⟨hE0, hE1⟩ := hEb
              have hEE : (E != E) = false := by simp
              have hEw : IntKind.i64.wrap E = E := IntWalk.i64_in _ (by omega)
              have HC1 := Lib.hid (premove no HT.out HWN.out)
              have HE := Lib.hid hE
              clear hE
              go_wp2_with fail
              refine HC1.out.mono ?_
              clear hS hix
              rintro e w6 ⟨rfl, hm6⟩
              obtain ⟨hc6, hz6⟩ := hm6.cell
              obtain ⟨a6, c6, rfl⟩ := hm6.slice
              have HC2 := Lib.hid (prremove no hm6 (by have := HN.out.len; omega))
              clear hm6 HC1
              rw [← HE.out]
              go_wp2_with fail
              refine HC2.out.mono ?_
              rintro e w8 ⟨v8, rfl, hm8⟩
              rw [← HE.out]
              obtain ⟨a8, c8, rfl⟩ := hm8.slice
              obtain ⟨hc8, hz8⟩ := hm8.cell
              have HPX := Lib.hid (Pair.store hm8)
              have HN2 := Lib.hid ((HN.out.mono).del no)
              obtain ⟨fs2, hfs2⟩ : ∃ fs2, fs2 = fs.del no := ⟨_, rfl⟩
              rw [← hfs2] at HPX HN2 ⊢
              clear hm8 HC2 HE hfs2 hc6 hz6 HT HN
              have HSA := Lib.hid (psame HPX.out (by have := HN2.out.len; omega))
              clear HPX
              go_wp2_with fail
              refine HSA.out.mono ?_
              rintro e w20 ⟨rfl, hp20⟩
              have HRD := Lib.hid (pread raw hp20 HRAW.out)
              clear hp20 HSA
              go_wp2_with fail
              refine HRD.out.mono ?_
              rintro e w21 ⟨⟨a21, n21, c21, rfl⟩, hp21⟩
              have hc21 := hp21.cell
              obtain ⟨hc21a, hc21b⟩ := hc21
              have HRR := Lib.hid (prread raw hp21 (by have := HN2.out.len; omega))
              obtain ⟨a22, c22, hv22⟩ := hp21.slice
              obtain ⟨G, hG⟩ : ∃ G : Int, G = (if (Fs.get fs2 raw).isSome = true then 0 else 71) := ⟨_, rfl⟩
              have hGb : 0 ≤ G ∧ G ≤ 71 := by rw [hG]; split <;> omega
              obtain ⟨hG0, hG1⟩ := hGb
              rw [← hG] at HRR ⊢
              have hGG : (G != G) = false := by simp
              have hGw : IntKind.i64.wrap G = G := IntWalk.i64_in _ (by omega)
              clear hp21 HRD hG hv22
              go_wp2_with fail
              refine HRR.out.mono ?_
              rintro e w22 ⟨⟨u22, rfl⟩, hp22⟩
              have HP22 := Lib.hid hp22
              clear hp22 HRR hc21a hc21b
              go_wp2_with fail
              go_roundw
              case rel => exact ⟨k + 1, dd, _, fs2, by omega, by go_num, rfl, HP22, HN2⟩
              case measure => simp [intOf]; omega
          | 5, _ =>
            as_aux_lemma =>
              go_upto_region 11 with fail
              clear hwno hr2
              have hEE : ((0 : Int) != (0 : Int)) = false := by simp
              by_cases hlt3 : (k : Int) < (dlen : Int)
              · have hrw := RowOf.below HD.out HT.out.below
                have hixd := fun W => hrw.index Try.prog 47 32 Try.underlying47 (by kernel_rfl) k (by omega) W
                have hcd := hrw.cell k (by omega)
                have hkd : k < ds.length := by have := hrw.len_eq; omega
                have hgd : ds.getD k 0 = ds[k] := by rw [List.getD_eq_getElem?_getD, List.getElem?_eq_getElem hkd]; rfl
                obtain ⟨x0, x1⟩ := u64_of_wf (HDW.out _ (List.getElem_mem hkd))
                rw [hgd] at hcd
                obtain ⟨DR, hDR⟩ : ∃ DR : Nat, ds[k] = (DR : Int) := ⟨ds[k].toNat, by omega⟩
                rw [hDR] at hcd x0 x1
                generalize adr da k = add at *
                clear hrw hgd hDR hkd
                have HC1 := Lib.hid (pcrash DR HT.out (by omega))
                go_wp2_with fail
                refine HC1.out.mono ?_
                clear hS
                rintro e w6 ⟨rfl, hm6⟩
                obtain ⟨hc6, hz6⟩ := hm6.cell
                obtain ⟨a6, c6, rfl⟩ := hm6.slice
                have HC2 := Lib.hid (prcrash DR hm6 (by have := HN.out.len; omega) (by omega) (fun p hp => ⟨((Pair.small HT.out) p hp).1, ((Pair.small HT.out) p hp).2.1⟩))
                clear hm6 HC1
                go_wp2_with fail
                refine HC2.out.mono ?_
                rintro e w8 ⟨v8, rfl, hm8⟩
                obtain ⟨a8, c8, rfl⟩ := hm8.slice
                obtain ⟨hc8, hz8⟩ := hm8.cell
                have HPX := Lib.hid (Pair.store hm8)
                have HN2 := Lib.hid ((HN.out.mono).crash DR)
                obtain ⟨fs2, hfs2⟩ : ∃ fs2, fs2 = fs.crash DR := ⟨_, rfl⟩
                rw [← hfs2] at HPX HN2 ⊢
                clear hm8 HC2 hfs2 hc6 hz6 HT HN
                have HSA := Lib.hid (psame HPX.out (by have := HN2.out.len; omega))
                clear HPX
                go_wp2_with fail
                refine HSA.out.mono ?_
                rintro e w20 ⟨rfl, hp20⟩
                have HRD := Lib.hid (pread raw hp20 HRAW.out)
                clear hp20 HSA
                go_wp2_with fail
                refine HRD.out.mono ?_
                rintro e w21 ⟨⟨a21, n21, c21, rfl⟩, hp21⟩
                have hc21 := hp21.cell
                obtain ⟨hc21a, hc21b⟩ := hc21
                have HRR := Lib.hid (prread raw hp21 (by have := HN2.out.len; omega))
                obtain ⟨a22, c22, hv22⟩ := hp21.slice
                obtain ⟨G, hG⟩ : ∃ G : Int, G = (if (Fs.get fs2 raw).isSome = true then 0 else 71) := ⟨_, rfl⟩
                have hGb : 0 ≤ G ∧ G ≤ 71 := by rw [hG]; split <;> omega
                obtain ⟨hG0, hG1⟩ := hGb
                rw [← hG] at HRR ⊢
                have hGG : (G != G) = false := by simp
                have hGw : IntKind.i64.wrap G = G := IntWalk.i64_in _ (by omega)
                clear hp21 HRD hG hv22
                go_wp2_with fail
                refine HRR.out.mono ?_
                rintro e w22 ⟨⟨u22, rfl⟩, hp22⟩
                have HP22 := Lib.hid hp22
                clear hp22 HRR hc21a hc21b
                go_wp2_with fail
                go_roundw
                case rel => exact ⟨k + 1, dd, _, fs2, by omega, by go_num, rfl, HP22, HN2⟩
                case measure => simp [intOf]; omega
              · have hwz : IntKind.u64.wrap (z2 : Int) = (z2 : Int) := by rw [IntKind.wrap_u64]; omega
                obtain ⟨DR, hDR⟩ : ∃ DR : Nat, DR = z2 := ⟨_, rfl⟩
                rw [← hDR] at hwz hS
                have q2' : (DR : Int) ≤ 255 := by rw [hDR]; exact q2
                clear hDR
                have HC1 := Lib.hid (pcrash DR HT.out (by omega))
                go_wp2_with fail
                refine HC1.out.mono ?_
                clear hS
                rintro e w6 ⟨rfl, hm6⟩
                obtain ⟨hc6, hz6⟩ := hm6.cell
                obtain ⟨a6, c6, rfl⟩ := hm6.slice
                have HC2 := Lib.hid (prcrash DR hm6 (by have := HN.out.len; omega) (by omega) (fun p hp => ⟨((Pair.small HT.out) p hp).1, ((Pair.small HT.out) p hp).2.1⟩))
                clear hm6 HC1
                go_wp2_with fail
                refine HC2.out.mono ?_
                rintro e w8 ⟨v8, rfl, hm8⟩
                obtain ⟨a8, c8, rfl⟩ := hm8.slice
                obtain ⟨hc8, hz8⟩ := hm8.cell
                have HPX := Lib.hid (Pair.store hm8)
                have HN2 := Lib.hid ((HN.out.mono).crash DR)
                obtain ⟨fs2, hfs2⟩ : ∃ fs2, fs2 = fs.crash DR := ⟨_, rfl⟩
                rw [← hfs2] at HPX HN2 ⊢
                clear hm8 HC2 hfs2 hc6 hz6 HT HN
                have HSA := Lib.hid (psame HPX.out (by have := HN2.out.len; omega))
                clear HPX
                go_wp2_with fail
                refine HSA.out.mono ?_
                rintro e w20 ⟨rfl, hp20⟩
                have HRD := Lib.hid (pread raw hp20 HRAW.out)
                clear hp20 HSA
                go_wp2_with fail
                refine HRD.out.mono ?_
                rintro e w21 ⟨⟨a21, n21, c21, rfl⟩, hp21⟩
                have hc21 := hp21.cell
                obtain ⟨hc21a, hc21b⟩ := hc21
                have HRR := Lib.hid (prread raw hp21 (by have := HN2.out.len; omega))
                obtain ⟨a22, c22, hv22⟩ := hp21.slice
                obtain ⟨G, hG⟩ : ∃ G : Int, G = (if (Fs.get fs2 raw).isSome = true then 0 else 71) := ⟨_, rfl⟩
                have hGb : 0 ≤ G ∧ G ≤ 71 := by rw [hG]; split <;> omega
                obtain ⟨hG0, hG1⟩ := hGb
                rw [← hG] at HRR ⊢
                have hGG : (G != G) = false := by simp
                have hGw : IntKind.i64.wrap G = G := IntWalk.i64_in _ (by omega)
                clear hp21 HRD hG hv22
                go_wp2_with fail
                refine HRR.out.mono ?_
                rintro e w22 ⟨⟨u22, rfl⟩, hp22⟩
                have HP22 := Lib.hid hp22
                clear hp22 HRR hc21a hc21b
                go_wp2_with fail
                go_roundw
                case rel => exact ⟨k + 1, dd, _, fs2, by omega, by go_num, rfl, HP22, HN2⟩
                case measure => simp [intOf]; omega
          | 6, _ =>
            as_aux_lemma =>
              go_upto_region 11 with fail
              clear hwno hr2
              have hEE : ((0 : Int) != (0 : Int)) = false := by simp
              have HC1 := Lib.hid (pcopy HT.out)
              go_wp2_with fail
              refine HC1.out.mono ?_
              clear hS hix
              rintro e w8 ⟨cc, rfl, hm8⟩
              obtain ⟨hc8, hz8⟩ := hm8.cell
              obtain ⟨a8, c8, hv8⟩ := hm8.slice
              subst hv8
              have HPX := Lib.hid hm8
              have HN2 := Lib.hid HN.out.mono
              clear hm8 HC1 HT HN
              have HSA := Lib.hid (psame HPX.out (by have := HN2.out.len; omega))
              clear HPX
              go_wp2_with fail
              refine HSA.out.mono ?_
              rintro e w20 ⟨rfl, hp20⟩
              have HRD := Lib.hid (pread raw hp20 HRAW.out)
              clear hp20 HSA
              go_wp2_with fail
              refine HRD.out.mono ?_
              rintro e w21 ⟨⟨a21, n21, c21, rfl⟩, hp21⟩
              have hc21 := hp21.cell
              obtain ⟨hc21a, hc21b⟩ := hc21
              have HRR := Lib.hid (prread raw hp21 (by have := HN2.out.len; omega))
              obtain ⟨a22, c22, hv22⟩ := hp21.slice
              obtain ⟨G, hG⟩ : ∃ G : Int, G = (if (Fs.get fs raw).isSome = true then 0 else 71) := ⟨_, rfl⟩
              have hGb : 0 ≤ G ∧ G ≤ 71 := by rw [hG]; split <;> omega
              obtain ⟨hG0, hG1⟩ := hGb
              rw [← hG] at HRR ⊢
              have hGG : (G != G) = false := by simp
              have hGw : IntKind.i64.wrap G = G := IntWalk.i64_in _ (by omega)
              clear hp21 HRD hG hv22
              go_wp2_with fail
              refine HRR.out.mono ?_
              rintro e w22 ⟨⟨u22, rfl⟩, hp22⟩
              have HP22 := Lib.hid hp22
              clear hp22 HRR hc21a hc21b
              go_wp2_with fail
              go_roundw
              case rel => exact ⟨k + 1, cc, _, fs, by omega, by go_num, rfl, HP22, HN2⟩
              case measure => simp [intOf]; omega
      · have HB := Lib.hid HT.out.below
        clear HT HN
        go_wp2_with fail
        go_ret
        exact ⟨rfl, HB.out⟩
end Go.Proofs.Ytajkjbhijikggaa.Tele
