/- The walk of the reference's Crash. No conditions. -/
import Derived.Test.YtajkjbhijikggaaRWrite
import Derived.Deep.RegionLaw
namespace Go.Proofs.Ytajkjbhijikggaa.Tele
open Go.RowKit Go.Proofs.YtajkjbhijikggaaW.PrintWords
set_option linter.unusedVariables false
set_option linter.unusedSimpArgs false

/-- One file is laid behind those that were; B: the first block of the call's own. -/
theorem lay_file2 {W : World} {ops : Array Oper} {rest : List Oper} {o : Oper} {a : Act} {Q : Exit → Act → World → Prop} (B : Nat) (hgd : o.guard = none) (s x : Operand)
    (ho : o.op = .call { callee := .builtin .append, args := #[s, x], argTypes := #[48, 48] }) (vo : Value) (out : Fs) (k : Int) (u : Value) (su : Int) (f : FileM) (Ok P' : Nat → Prop)
    (hs : a.eval s = vo) (hx : a.eval x = .slice (some ⟨W.heap.size, 0, none⟩) 1 1) (hsu : su = (f.sure : Int)) (hu : BV W P' u f.bytes) (hP : ∀ q, P' q → Ok q ∧ q < B) (hOk : ∀ q, B ≤ q → Ok q)
    (HO : Kd.N kF 72 W B Ok vo out) (HB : B ≤ W.heap.size) (hl : out.length ≤ 200000)
    (h : ∀ v1 w1, Kd.N kF 72 w1 B Ok v1 (out ++ [(k, f)]) → Below B W w1 → wpList Try.prog ops Q rest (a.put o.dst v1) w1) :
    wpList Try.prog ops Q (o :: rest) a (W.alloc (.cells #[.int .i64 k, u, .int .i64 su] 72)) := by
  subst hsu
  refine Kd.N_append kF (w0 := W) B hgd s x 48 72 (.agg #[(.int .i64 0), (.slice none 0 0), (.int .i64 0)]) 40 ho Try.underlying48 infoF rfl (by decide) (by omega) vo out (k, f) [.int .i64 k, u, .int .i64 (f.sure : Int)] Ok P' hs hx (kF_mk (x := (k, f)) hu) ?_ ?_ HO (Below.refl _ _) HB (by omega) ?_
  · intro q hq
    obtain ⟨h1, h2⟩ := hP q hq
    refine ⟨h1, fun e => ?_⟩
    have := Kd.N_base HO q e.symm
    omega
  · intro q hq
    exact hOk q (Nat.le_trans HB hq)
  · intro v1 w1 ho1 hb1 _ _
    exact h v1 w1 ho1 hb1
/-- The same as one step of a region that draws its order. -/
theorem lay_file_step {W : World} {ops : Array Oper} {o : Oper} {a : Act} {K : Act → World → Prop} {Q : Exit → Act → World → Prop} {E : Prop} (B : Nat) (hgd : o.guard = none) (s x : Operand)
    (ho : o.op = .call { callee := .builtin .append, args := #[s, x], argTypes := #[48, 48] }) (vo : Value) (out : Fs) (k : Int) (u : Value) (su : Int) (f : FileM) (Ok P' : Nat → Prop)
    (hs : a.eval s = vo) (hx : a.eval x = .slice (some ⟨W.heap.size, 0, none⟩) 1 1) (hsu : su = (f.sure : Int)) (hu : BV W P' u f.bytes) (hP : ∀ q, P' q → Ok q ∧ q < B) (hOk : ∀ q, B ≤ q → Ok q)
    (HO : Kd.N kF 72 W B Ok vo out) (HB : B ≤ W.heap.size) (hl : out.length ≤ 200000)
    (h : ∀ v1 w1, Kd.N kF 72 w1 B Ok v1 (out ++ [(k, f)]) → Below B W w1 → K (a.put o.dst v1) w1) :
    if Region.wanted o (yielded ops a.tmps) = true then Oper.wp Try.prog o a (W.alloc (.cells #[.int .i64 k, u, .int .i64 su] 72)) K Q else E := by
  subst hsu
  have hw : Region.wanted o (yielded ops a.tmps) = true := by simp [Region.wanted, hgd]
  have h1 := Kd.N_append_step (Q := Q) (Kc := K) kF (w0 := W) B hw s x 48 72 (.agg #[(.int .i64 0), (.slice none 0 0), (.int .i64 0)]) 40 ho Try.underlying48 infoF rfl (by decide) (by omega) vo out (k, f) [.int .i64 k, u, .int .i64 (f.sure : Int)] Ok P' hs hx (kF_mk (x := (k, f)) hu) (fun q hq => by
    obtain ⟨h1, h2⟩ := hP q hq
    refine ⟨h1, fun e => ?_⟩
    have := Kd.N_base HO q e.symm
    omega) (fun q hq => hOk q (Nat.le_trans HB hq)) HO (Below.refl _ _) HB (by omega) (fun v1 w1 ho1 hb1 _ _ => h v1 w1 ho1 hb1)
  rw [if_pos hw] at h1 ⊢
  exact h1
theorem bv_take {w : World} {P : Nat → Prop} {a : Option Addr} {n c : Nat} {bs : List UInt8} (h : BV w P (.slice a n c) bs) (m : Nat) (hm : m ≤ bs.length) : BV w P (.slice a m m) (bs.take m) := by
  obtain ⟨_, _, hf⟩ := Kd.V_at h
  have h1 := Kd.F_take hf (m := m) (by rw [ints_len]; exact hm)
  have e : (ints bs).take m = ints (bs.take m) := by unfold ints; rw [List.map_take]
  have e2 : (ints (bs.take m)).length = m := by rw [ints_len, List.length_take]; omega
  rw [e] at h1
  refine ⟨a, m, by rw [e2], by rw [e2]; exact Nat.le_refl _, h1⟩
set_option maxRecDepth 8000 in
set_option maxHeartbeats 2000000 in
theorem rcrash_calls (P : Nat → Prop) (v : Value) (fs : Fs) (draw : Nat) (w : World) (h : FV w P v fs) (hl : fs.length ≤ 100000) (hd : draw < 18446744073709551616) (hsm : ∀ p ∈ fs, p.2.sure ≤ p.2.bytes.length ∧ p.2.bytes.length ≤ 1000000) :
    Calls Try.prog 23 #[.agg #[v], .int .u64 (draw : Int)] w fun e w' => ∃ v', e = .returned (.agg #[v']) ∧ FV w' (fun q => P q ∨ w.heap.size ≤ q) v' (fs.crash draw) ∧ Below w.heap.size w w' := by
  obtain ⟨a, c, rfl⟩ := Kd.V_slice h
  obtain ⟨n, hn⟩ : ∃ n, n = fs.length := ⟨_, rfl⟩
  rw [← hn] at h hl ⊢
  generalize hw3 : ((w.alloc (.cells #[.slice a n c] 50)).alloc (.cells #[.slice none 0 0] 50)).alloc (.cells #[.slice none 0 0] 50) = w3
  have hb0 := bl_alloc (bl_alloc (bl_alloc (Below.refl w.heap.size w) (.cells #[.slice a n c] 50)) (.cells #[.slice none 0 0] 50)) (.cells #[.slice none 0 0] 50)
  have k0 := ((Blk.new w 50 #[.slice a n c]).alloc (.cells #[.slice none 0 0] 50)).alloc (.cells #[.slice none 0 0] 50)
  have k1 := (Blk.new (w.alloc (.cells #[.slice a n c] 50)) 50 #[.slice none 0 0]).alloc (.cells #[.slice none 0 0] 50)
  have k2 := Blk.new ((w.alloc (.cells #[.slice a n c] 50)).alloc (.cells #[.slice none 0 0] 50)) 50 #[.slice none 0 0]
  rw [hw3] at hb0 k0 k1 k2
  rw [World.size_alloc] at k1
  rw [World.size_alloc, World.size_alloc] at k2
  have hz3 : w3.heap.size = w.heap.size + 3 := by rw [← hw3]; simp [World.size_alloc]
  have HW3 := Lib.hid hw3
  have HZ3 := Lib.hid hz3
  have HB0 := Lib.hid hb0
  have HK0 := Lib.hid k0
  have HK1 := Lib.hid k1
  have HK2 := Lib.hid k2
  have HN := Lib.hid hn
  have HV := Lib.hid (Kd.V_below (Kd.V_bound h) hb0)
  have HSM := Lib.hid hsm
  have hOk : ∀ q, w3.heap.size ≤ q → ((P q ∧ q < w.heap.size) ∨ w3.heap.size ≤ q) := fun q hq => .inr hq
  have hPb : ∀ q, (P q ∧ q < w.heap.size) → ((P q ∧ q < w.heap.size) ∨ w3.heap.size ≤ q) ∧ q < w3.heap.size := fun q hq => ⟨.inl hq, by omega⟩
  clear h hn hb0 k0 k1 k2 hw3 hsm
  go_enter Try.func23, Try.ntmps23
  go_wp2_with fail
  go_loopw [1, 6] (fun dd ii wr => ∃ (j x : Nat) (out : Fs) (vo : Value), j ≤ n ∧ ii = .int .i64 (j : Int) ∧ dd = .int .u64 (x : Int) ∧ x < 18446744073709551616 ∧ out.length ≤ j ∧ Hid (fs.crashI draw j = (out, x)) ∧ Hid (Chg (fun q => q = w.heap.size + 1 + 1) w3 wr) ∧ Hid (Blk wr (w.heap.size + 1 + 1) 50 #[vo]) ∧ Hid (Kd.N kF 72 wr w3.heap.size (fun q => (P q ∧ q < w.heap.size) ∨ w3.heap.size ≤ q) vo out)) (fun _ ii _ => n - (intOf ii).toNat)
  case atStart =>
    rw [HW3.out]
    exact ⟨0, draw, [], .slice none 0 0, by omega, rfl, rfl, hd, by simp, Lib.hid rfl, Lib.hid (Chg.refl _ _), HK2, Lib.hid (Kd.N_nil _ _ _ _ _)⟩
  case round =>
    obtain ⟨j, x, out, vo, hj, rfl, rfl, hx, hol, HI, HC, HKO, HO⟩ := hrel
    have hsw := HC.out.size
    have k0 := HK0.out.chg HC.out (by show ¬ w.heap.size = w.heap.size + 1 + 1; omega)
    have k1 := HK1.out.chg HC.out (by show ¬ w.heap.size + 1 = w.heap.size + 1 + 1; omega)
    have c0 : wr.cell? ⟨w.heap.size, 0, none⟩ = some (.slice a n c) := k0.cell 0
    have hvr : FV wr (fun q => P q ∧ q < w.heap.size) (.slice a n c) fs := Kd.V_step HV.out (fun q hq _ => HC.out.block q (by omega) (by show ¬ q = w.heap.size + 1 + 1; omega))
    have HVR := Lib.hid hvr
    by_cases hlt : (j : Int) < (n : Int)
    · have hjf : j < fs.length := by rw [← HN.out]; omega
      obtain ⟨ad, u, hix, hrc, hbu⟩ := FV.pick hvr j hjf
      obtain ⟨s1, s2⟩ := HSM.out _ (List.getElem_mem hjf)
      have hstep := Fs.crashI_succ fs draw j hjf
      rw [HI.out] at hstep
      generalize fs[j] = kf at *
      obtain ⟨k, f⟩ := kf
      simp only at s1 s2 hrc hbu
      obtain ⟨r0, r1, r2⟩ := hrc wr (Below.refl _ _)
      obtain ⟨a2, c2, rfl⟩ := Kd.V_slice hbu
      rw [ints_len] at hbu r1
      have hc2 := (Kd.V_reads' hbu).2.1
      unfold Fs.cstep at hstep
      simp only at hstep
      have hle := Fs.left_le f x s1
      obtain ⟨bl, hbl⟩ : ∃ bl, bl = f.bytes.length := ⟨_, rfl⟩
      obtain ⟨su, hsu⟩ : ∃ su, su = f.sure := ⟨_, rfl⟩
      obtain ⟨lf, hlf⟩ : ∃ lf, lf = Fs.left f x := ⟨_, rfl⟩
      have hlfe : lf = su + x % (bl - su + 1) := by rw [hlf, hsu, hbl]; rfl
      rw [← hbl] at s1 s2 hle hc2 hstep r1
      rw [← hsu] at s1 hstep r2
      rw [← hlf] at hle hstep
      obtain ⟨q, hq⟩ : ∃ q : Nat, q = bl - su := ⟨_, rfl⟩
      have hqi : (bl : Int) - (su : Int) = (q : Int) := by omega
      have hxq : (x : Int) % ((q : Int) + 1) = ((x % (q + 1) : Nat) : Int) := by rw [show ((q : Int) + 1) = ((q + 1 : Nat) : Int) by omega]; exact (Int.natCast_emod _ _).symm
      have hxd : (x : Int) / ((q : Int) + 1) = ((x / (q + 1) : Nat) : Int) := by rw [show ((q : Int) + 1) = ((q + 1 : Nat) : Int) by omega]; exact (Int.natCast_ediv _ _).symm
      have hq0 : ((q : Int) + 1 == 0) = false := by rw [beq_eq_false_iff_ne]; omega
      have hq1 : ¬ ((q : Int) + 1) = 0 := by omega
      have hsum : (su : Int) + ((x % (q + 1) : Nat) : Int) = (lf : Int) := by rw [hlfe, hq]; omega
      have hxdlt : x / (q + 1) ≤ x := Nat.div_le_self _ _
      have hmodlt : x % (q + 1) ≤ q := by have := Nat.mod_lt x (show 0 < q + 1 by omega); omega
      rw [← hq] at hstep
      generalize x % (q + 1) = xm at *
      generalize x / (q + 1) = xd at *
      have HST := Lib.hid hstep
      have HBU := Lib.hid hbu
      have HBL := Lib.hid hbl
      have HSU := Lib.hid hsu
      have hbl9 : (bl : Int) ≤ 1000000 := by omega
      clear hstep hbu hrc hbl hsu hlf hlfe hq hvr HI
      go_upto_region 6 with fail
      have hA := bl_alloc (Below.refl wr.heap.size wr) (.cells #[.int .i64 k, .slice a2 bl c2, .int .i64 (su : Int)] 72)
      have k5 := Blk.new wr 72 #[.int .i64 k, .slice a2 bl c2, .int .i64 (su : Int)]
      generalize wr.alloc (.cells #[.int .i64 k, .slice a2 bl c2, .int .i64 (su : Int)] 72) = w5 at *
      have d0 : w5.cell? ⟨wr.heap.size, 0, none⟩ = some (.int .i64 k) := k5.cell 0
      have d1 : w5.cell? ⟨wr.heap.size, 1, none⟩ = some (.slice a2 bl c2) := k5.cell 1
      have d2 : w5.cell? ⟨wr.heap.size, 2, none⟩ = some (.int .i64 (su : Int)) := k5.cell 2
      have HBU5 := Lib.hid (Kd.V_below HBU.out hA)
      have HO5 := Lib.hid (Kd.N_below HO.out hA)
      have HKO5 := Lib.hid (HKO.out.next hA)
      have HC5 := Lib.hid (HC.out.thenB hA)
      have hs5 := hA.size
      have o0 : w5.cell? ⟨w.heap.size + 1 + 1, 0, none⟩ = some vo := (HKO.out.next hA).cell 0
      have z0 := (HKO.out.next hA).frozen 0
      have hcut := fun W => cut_run a2 bl c2 lf (by omega) W
      clear hA k5 c0 r0 r1 r2 k0 k1 hix HBU HO HKO HC
      by_cases hl0 : lf = 0
      · have hli : ¬ (0 : Int) < (lf : Int) := by omega
        have HST2 : Hid (fs.crashI draw (j + 1) = (out, xd)) := Lib.hid (by rw [HST.out, if_pos hl0])
        clear hcut
        go_wp2_with fail
        go_quiet (fail)
        go_wp2_with fail
        go_roundw
        case rel => exact ⟨j + 1, xd, out, vo, by omega, by go_num, by go_num, by omega, by omega, HST2, Lib.hid (by repeat (first | exact HC5.out | refine Chg.drewN ?_ _)), Lib.hid (by repeat (first | exact HKO5.out | refine Blk.drewN ?_ _)), Lib.hid (by repeat (first | exact HO5.out | refine Kd.N_drewN ?_ _))⟩
        case measure => simp [intOf]; omega
      · have hli : (0 : Int) < (lf : Int) := by omega
        have HST2 : Hid (fs.crashI draw (j + 1) = (out ++ [(k, ⟨f.bytes.take lf, lf⟩)], xd)) := Lib.hid (by rw [HST.out, if_neg hl0])
        go_wp2_with fail
        go_quiet (fail)
        have hbt : ∀ W, Below w5.heap.size w5 W → BV W (fun q => P q ∧ q < w.heap.size) (.slice a2 lf lf) (f.bytes.take lf) := fun W hB => bv_take (Kd.V_below HBU5.out hB) lf (by rw [← HBL.out]; exact hle)
        have HBT := Lib.hid hbt
        have htl : (f.bytes.take lf).length = lf := by rw [List.length_take, ← HBL.out]; omega
        clear hbt hl0 hz3
        go_wp2_with fail
        have HEND : Hid (∀ W vv, Below w3.heap.size w5 W → Kd.N kF 72 W w3.heap.size (fun q => (P q ∧ q < w.heap.size) ∨ w3.heap.size ≤ q) vv (out ++ [(k, ⟨f.bytes.take lf, lf⟩)]) → Hid (Chg (fun q => q = w.heap.size + 1 + 1) w3 (W.setCell ⟨w.heap.size + 1 + 1, 0, none⟩ vv)) ∧ Hid (Blk (W.setCell ⟨w.heap.size + 1 + 1, 0, none⟩ vv) (w.heap.size + 1 + 1) 50 #[vv]) ∧ Hid (Kd.N kF 72 (W.setCell ⟨w.heap.size + 1 + 1, 0, none⟩ vv) w3.heap.size (fun q => (P q ∧ q < w.heap.size) ∨ w3.heap.size ≤ q) vv (out ++ [(k, ⟨f.bytes.take lf, lf⟩)]))) := Lib.hid fun W vv hB hN => by
          have h1 := HC5.out
          have h0 := HZ3.out
          refine ⟨Lib.hid (Chg.setCell (p := ⟨w.heap.size + 1 + 1, 0, none⟩) (S := fun q => q = w.heap.size + 1 + 1) ⟨hB.os.trans h1.os, hB.tape.trans h1.tape, hB.output.trans h1.output, Nat.le_trans h1.size hB.size, fun q hq hs => (hB.block q hq).trans (h1.block q hq hs)⟩ (.inl rfl) vv), Lib.hid ((HKO5.out.below hB (by omega)).set_ 0 vv), Lib.hid (Kd.N_far hN (fun q hq => ?_) vv)⟩
          show q ≠ w.heap.size + 1 + 1
          rcases hq with hq | hq <;> omega
        have o0A : ((w5.drewN (nq + 1)).alloc (.cells #[.int .i64 k, .slice a2 lf lf, .int .i64 (lf : Int)] 72)).cell? ⟨w.heap.size + 1 + 1, 0, none⟩ = some vo := ((HKO5.out.drewN (nq + 1)).alloc _).cell 0
        go_region_law (refine lay_file_step w3.heap.size rfl (.tmp 44) (.tmp 54) rfl vo out k (.slice a2 lf lf) (lf : Int) ⟨f.bytes.take lf, lf⟩ (fun q => (P q ∧ q < w.heap.size) ∨ w3.heap.size ≤ q) (fun q => P q ∧ q < w.heap.size) (by simp [Act.eval, Act.put]) (by simp [Act.eval, Act.put]) rfl (HBT.out _ (by repeat (first | exact Below.refl _ _ | refine pw_below_drewN ?_ _ | refine Below.drew ?_))) hPb hOk (by repeat (first | exact HO5.out | refine Kd.N_drewN ?_ _ | refine Kd.N_drew ?_)) (by show w3.heap.size ≤ w5.heap.size; omega) (by omega) ?_; intro v9 w9 ho9 hb9; have HO9 := Lib.hid ho9; have HB9 := Lib.hid (show Below w3.heap.size w5 w9 from ⟨hb9.os, hb9.tape, hb9.output, hb9.size, hb9.block⟩); have k9 := HKO5.out.below HB9.out (by have := HZ3.out; omega); have o9 : w9.cell? ⟨w.heap.size + 1 + 1, 0, none⟩ = some vo := k9.cell 0; have z9 := k9.frozen 0; obtain ⟨A9, c9, rfl⟩ := Kd.N_slice HO9.out; clear ho9 hb9)
        all_goals
          have hend := HEND.out _ _ HB9.out HO9.out
          simp only [List.length_append, List.length_singleton] at hend
          have HE9 := Lib.hid hend
          clear hend
          go_wp2_with fail
          go_roundw
          case rel => exact ⟨j + 1, xd, _, _, by omega, by go_num, by go_num, by omega, by rw [List.length_append, List.length_singleton]; omega, HST2, HE9.out⟩
          case measure => simp [intOf]; omega
    · have hin : j = fs.length := by rw [← HN.out]; omega
      have hfin : fs.crash draw = out := by unfold Fs.crash; rw [← hin, HI.out]
      have HF := Lib.hid hfin
      have e1 : wr.cell? ⟨w.heap.size + 1, 0, none⟩ = some (.slice none 0 0) := k1.cell 0
      have e2 : wr.cell? ⟨w.heap.size + 1 + 1, 0, none⟩ = some vo := HKO.out.cell 0
      have z1 := k1.frozen 0
      obtain ⟨A9, c9, rfl⟩ := Kd.N_slice HO.out
      have hbw : Below w.heap.size w wr := by
        have h1 := HC.out
        have h2 := HB0.out
        exact ⟨h1.os.trans h2.os, h1.tape.trans h2.tape, h1.output.trans h2.output, Nat.le_trans h2.size h1.size, fun q hq => (h1.block q (by omega) (by show ¬ q = w.heap.size + 1 + 1; omega)).trans (h2.block q hq)⟩
      have HE : Hid (FV (wr.setCell ⟨w.heap.size + 1, 0, none⟩ (.slice A9 out.length c9)) (fun q => P q ∨ w.heap.size ≤ q) (.slice A9 out.length c9) out ∧ Below w.heap.size w (wr.setCell ⟨w.heap.size + 1, 0, none⟩ (.slice A9 out.length c9))) := Lib.hid ⟨Kd.V_mono (Kd.V_far (p := ⟨w.heap.size + 1, 0, none⟩) (Kd.N_V HO.out) (fun q hq => by show q ≠ w.heap.size + 1; rcases hq with hq | hq <;> omega) _) (fun q hq => hq.elim (fun hh => .inl hh.1) (fun hh => .inr (by omega))), below_set hbw (by omega)⟩
      clear hin hfin hbw HI hz3
      go_wp2_with fail
      refine bodyPost_ret (results_cell_row rfl _ _ (w.heap.size + 1) 50 #[.slice A9 out.length c9] (0, 0) _ rfl (k1.set_ 0 _) Try.underlying50 rfl (by kernel_rfl)) rfl ?_
      rw [HF.out]
      exact ⟨_, rfl, HE.out⟩
end Go.Proofs.Ytajkjbhijikggaa.Tele
