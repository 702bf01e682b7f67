/- The walk of the reference's put. No conditions. -/
import Derived.Test.YtajkjbhijikggaaRef14
namespace Go.Proofs.Ytajkjbhijikggaa.Tele
open Go.RowKit Go.Proofs.YtajkjbhijikggaaW.PrintWords
set_option linter.unusedVariables false
set_option linter.unusedSimpArgs false

namespace Fs
/-- One file more has been looked at. -/
def pstep (k : Int) (f : FileM) (a : Fs × Bool) (p : Int × FileM) : Fs × Bool :=
  (if p.1 = k then (if a.2 = false ∧ k ≤ p.1 then a.1 ++ [(k, f)] else a.1) else (if a.2 = false ∧ k ≤ p.1 then a.1 ++ [(k, f)] else a.1) ++ [p], a.2 || decide (k ≤ p.1))
def putI (l : Fs) (k : Int) (f : FileM) (i : Nat) : Fs × Bool := (l.take i).foldl (pstep k f) ([], false)
def putL (l : Fs) (k : Int) (f : FileM) : Fs := if (l.putI k f l.length).2 = true then (l.putI k f l.length).1 else (l.putI k f l.length).1 ++ [(k, f)]
theorem putI_succ (l : Fs) (k : Int) (f : FileM) (i : Nat) (h : i < l.length) : l.putI k f (i + 1) = pstep k f (l.putI k f i) l[i] := by
  unfold putI
  rw [List.take_succ_eq_append_getElem h, List.foldl_append]
  rfl
theorem putI_len (l : Fs) (k : Int) (f : FileM) : ∀ i, i ≤ l.length → (l.putI k f i).1.length + (if (l.putI k f i).2 = true then 0 else 1) ≤ i + 1
  | 0, _ => by simp [putI]
  | i + 1, h => by
    have ih := putI_len l k f i (by omega)
    rw [putI_succ l k f i h]
    unfold pstep
    simp only
    generalize l.putI k f i = a at *
    obtain ⟨o, d⟩ := a
    simp only at ih ⊢
    cases d <;> by_cases h1 : k ≤ (l[i]'h).1 <;> by_cases h2 : (l[i]'h).1 = k <;> simp [h1, h2] at ih ⊢ <;> omega
end Fs
/-- One file is laid behind those that were. -/
theorem lay_file {w3 W : World} {ops : Array Oper} {rest : List Oper} {o : Oper} {a : Act} {Q : Exit → Act → World → Prop} (hgd : o.guard = none) (s x : Operand)
    (ho : o.op = .call { callee := .builtin .append, args := #[s, x], argTypes := #[48, 48] }) (vo : Value) (out : Fs) (k : Int) (u : Value) (su : Int) (f : FileM) (Ok P' : Nat → Prop)
    (hs : a.eval s = vo) (hx : a.eval x = .slice (some ⟨W.heap.size, 0, none⟩) 1 1) (hsu : su = (f.sure : Int)) (hu : BV w3 P' u f.bytes) (hP : ∀ q, P' q → Ok q ∧ q < w3.heap.size) (hOk : ∀ q, w3.heap.size ≤ q → Ok q)
    (HO : Kd.N kF 72 W w3.heap.size Ok vo out) (HB : Below w3.heap.size w3 W) (hl : out.length ≤ 200000)
    (h : ∀ v1 w1, Kd.N kF 72 w1 w3.heap.size Ok v1 (out ++ [(k, f)]) → Below w3.heap.size w3 w1 → wpList Try.prog ops Q rest (a.put o.dst v1) w1) :
    wpList Try.prog ops Q (o :: rest) a (W.alloc (.cells #[.int .i64 k, u, .int .i64 su] 72)) := by
  subst hsu
  refine Kd.N_append kF (w0 := w3) w3.heap.size hgd s x 48 72 (.agg #[(.int .i64 0), (.slice none 0 0), (.int .i64 0)]) 40 ho Try.underlying48 infoF rfl (by decide) (by omega) vo out (k, f) [.int .i64 k, u, .int .i64 (f.sure : Int)] Ok P' hs hx ?_ ?_ ?_ HO HB HB.size (by omega) ?_
  · exact Kd.FK_below (kF_mk (x := (k, f)) hu) HB
  · intro q hq
    obtain ⟨h1, h2⟩ := hP q hq
    refine ⟨h1, fun e => ?_⟩
    have := Kd.N_base HO q e.symm
    omega
  · intro q hq
    exact hOk q (Nat.le_trans HB.size hq)
  · intro v1 w1 ho1 hb1 _ _
    exact h v1 w1 ho1 hb1
set_option maxRecDepth 8000 in
set_option maxHeartbeats 2000000 in
theorem rput_calls (P : Nat → Prop) (v : Value) (fs : Fs) (k : Int) (u : Value) (f : FileM) (w : World) (h : FV w P v fs) (hu : BV w P u f.bytes) (hl : fs.length ≤ 100000) :
    Calls Try.prog 30 #[.agg #[v], .agg #[.int .i64 k, u, .int .i64 (f.sure : Int)]] w fun e w' => ∃ v', e = .returned (.agg #[v']) ∧ FV w' (fun q => P q ∨ w.heap.size ≤ q) v' (fs.putL k f) ∧ Below w.heap.size w w' := by
  obtain ⟨a, c, rfl⟩ := Kd.V_slice h
  obtain ⟨a1, c1, rfl⟩ := Kd.V_slice hu
  generalize hw3 : ((w.alloc (.cells #[.slice a fs.length c] 50)).alloc (.cells #[.int .i64 k, .slice a1 (ints f.bytes).length c1, .int .i64 (f.sure : Int)] 72)).alloc (.cells #[.slice none 0 0] 50) = w3
  have hb0 := bl_alloc (bl_alloc (bl_alloc (Below.refl w.heap.size w) (.cells #[.slice a fs.length c] 50)) (.cells #[.int .i64 k, .slice a1 (ints f.bytes).length c1, .int .i64 (f.sure : Int)] 72)) (.cells #[.slice none 0 0] 50)
  have k0 := ((Blk.new w 50 #[.slice a fs.length c]).alloc (.cells #[.int .i64 k, .slice a1 (ints f.bytes).length c1, .int .i64 (f.sure : Int)] 72)).alloc (.cells #[.slice none 0 0] 50)
  have k1 := (Blk.new (w.alloc (.cells #[.slice a fs.length c] 50)) 72 #[.int .i64 k, .slice a1 (ints f.bytes).length c1, .int .i64 (f.sure : Int)]).alloc (.cells #[.slice none 0 0] 50)
  have k2 := Blk.new ((w.alloc (.cells #[.slice a fs.length c] 50)).alloc (.cells #[.int .i64 k, .slice a1 (ints f.bytes).length c1, .int .i64 (f.sure : Int)] 72)) 50 #[.slice none 0 0]
  rw [hw3] at hb0 k0 k1 k2
  rw [World.size_alloc] at k1
  rw [World.size_alloc, World.size_alloc] at k2
  have hsz : w3.heap.size = w.heap.size + 3 := by rw [← hw3]; simp [World.size_alloc]
  obtain ⟨n, hn⟩ : ∃ n, n = fs.length := ⟨_, rfl⟩
  have HN := Lib.hid hn
  have HK0 := Lib.hid k0
  have HK1 := Lib.hid k1
  have HK2 := Lib.hid k2
  rw [← hn] at HK0 ⊢ hl h
  clear k0 k1 k2
  have HV := Lib.hid (Kd.V_below (Kd.V_bound h) hb0)
  have HU := Lib.hid (Kd.V_below (Kd.V_bound hu) hb0)
  have hPb : ∀ q, (P q ∧ q < w.heap.size) → ((P q ∧ q < w.heap.size) ∨ w3.heap.size ≤ q) ∧ q < w3.heap.size := fun q hq => ⟨.inl hq, by omega⟩
  have hOk : ∀ q, w3.heap.size ≤ q → ((P q ∧ q < w.heap.size) ∨ w3.heap.size ≤ q) := fun q hq => .inr hq
  rw [← hn] at hw3
  have HW3 := Lib.hid hw3
  clear hw3 hn
  go_enter Try.func30, Try.ntmps30
  go_wp2_with fail
  go_loopw [5, 6, 7] (fun vo dn i wr => ∃ (j : Nat) (b : Bool) (out : Fs), j ≤ n ∧ i = .int .i64 (j : Int) ∧ dn = .bool b ∧ Hid (fs.putI k f j = (out, b)) ∧ Hid (Below w3.heap.size w3 wr) ∧ Hid (Kd.N kF 72 wr w3.heap.size (fun q => (P q ∧ q < w.heap.size) ∨ w3.heap.size ≤ q) vo out)) (fun _ _ i _ => n - (intOf i).toNat)
  case atStart => exact ⟨0, false, [], by omega, rfl, rfl, Lib.hid rfl, Lib.hid (by rw [HW3.out]; exact Below.refl _ _), Lib.hid (Kd.N_nil _ _ _ _ _)⟩
  case round =>
    obtain ⟨j, b, out, hj, rfl, rfl, HI, HB, HO⟩ := hrel
    have k0 := HK0.out.next HB.out
    have k1 := HK1.out.next HB.out
    have k2 := HK2.out.next HB.out
    have c0 : wr.cell? ⟨w.heap.size, 0, none⟩ = some (.slice a n c) := k0.cell 0
    have d0 : wr.cell? ⟨w.heap.size + 1, 0, none⟩ = some (.int .i64 k) := k1.cell 0
    have d1 : wr.cell? ⟨w.heap.size + 1, 1, none⟩ = some (.slice a1 (ints f.bytes).length c1) := k1.cell 1
    have d2 : wr.cell? ⟨w.heap.size + 1, 2, none⟩ = some (.int .i64 (f.sure : Int)) := k1.cell 2
    have hol := Fs.putI_len fs k f j (by have := HN.out; omega)
    rw [HI.out] at hol
    simp only at hol
    by_cases hlt : (j : Int) < (n : Int)
    · have hjf : j < fs.length := by rw [← HN.out]; omega
      obtain ⟨ad, u, hix, hrc, hbu⟩ := FV.pick HV.out j hjf
      obtain ⟨r0, r1, r2⟩ := hrc wr HB.out
      have hstep := Fs.putI_succ fs k f j hjf
      rw [HI.out] at hstep
      unfold Fs.pstep at hstep
      simp only at hstep
      generalize fs[j] = x at r0 r2 hbu hrc hstep
      obtain ⟨xk, xf⟩ := x
      simp only at hbu hrc r0 r1 r2 hstep
      have HBU := Lib.hid hbu
      have HRC := Lib.hid hrc
      clear hbu hrc k0 k1 k2 hjf HI
      cases b with
      | true =>
        by_cases hxk : xk = k
        · have hbeq : (xk != k) = false := by simpa using hxk
          have HST : Hid (fs.putI k f (j + 1) = (out, true)) := Lib.hid (by rw [hstep, if_pos hxk, if_neg (by simp)]; rfl)
          clear hxk hstep
          go_wp2_with fail
          go_quiet (fail)
          go_wp2_with fail
          go_quiet (fail)
          go_wp2_with fail
          go_roundw
          case rel => exact ⟨j + 1, true, out, by omega, by go_num, rfl, HST, Lib.hid (by repeat (first | exact HB.out | refine pw_below_drewN ?_ _)), Lib.hid (by repeat (first | exact HO.out | refine Kd.N_drewN ?_ _))⟩
          case measure => simp [intOf]; omega
        · have hbeq : (xk != k) = true := by simpa using hxk
          have HST : Hid (fs.putI k f (j + 1) = (out ++ [(xk, xf)], true)) := Lib.hid (by rw [hstep, if_neg hxk, if_neg (by simp)]; rfl)
          clear hxk hstep
          go_wp2_with fail
          go_quiet (fail)
          go_wp2_with fail
          go_quiet (fail)
          go_wp2_with (at_builtin; refine lay_file rfl (.tmp 41) (.tmp 47) rfl _ out xk u (xf.sure : Int) xf (fun q => (P q ∧ q < w.heap.size) ∨ w3.heap.size ≤ q) (fun q => P q ∧ q < w.heap.size) rfl rfl rfl HBU.out hPb hOk (by repeat (first | exact HO.out | refine Kd.N_drewN ?_ _)) (by repeat (first | exact HB.out | refine pw_below_drewN ?_ _)) (by omega) ?_; intro v1 w1 ho1 hb1; have HO1 := Lib.hid ho1; have HB1 := Lib.hid hb1; have k0 := HK0.out.next HB1.out; have k1 := HK1.out.next HB1.out; have c0 : w1.cell? ⟨w.heap.size, 0, none⟩ = some (.slice a n c) := k0.cell 0; have d0 : w1.cell? ⟨w.heap.size + 1, 0, none⟩ = some (.int .i64 k) := k1.cell 0; obtain ⟨r0, r1, r2⟩ := HRC.out w1 HB1.out; clear k0 k1; clear ho1 hb1)
          go_roundw
          case rel => exact ⟨j + 1, true, (out ++ [(xk, xf)]), by omega, by go_num, rfl, HST, Lib.hid (by repeat (first | exact HB1.out | refine pw_below_drewN ?_ _)), Lib.hid (by repeat (first | exact HO1.out | refine Kd.N_drewN ?_ _))⟩
          case measure => simp [intOf]; omega
      | false =>
        rw [if_neg (by simp)] at hol
        by_cases hxk : xk = k
        · have hge : ¬ xk < k := by omega
          have hbeq : (xk != k) = false := by simpa using hxk
          have HST : Hid (fs.putI k f (j + 1) = (out ++ [(k, f)], true)) := Lib.hid (by rw [hstep, if_pos hxk, if_pos ⟨rfl, by omega⟩]; simp; omega)
          clear hxk hstep
          go_wp2_with fail
          go_quiet (fail)
          go_wp2_with (at_builtin; refine lay_file rfl (.tmp 28) (.tmp 30) rfl _ out k (.slice a1 (ints f.bytes).length c1) (f.sure : Int) f (fun q => (P q ∧ q < w.heap.size) ∨ w3.heap.size ≤ q) (fun q => P q ∧ q < w.heap.size) rfl rfl rfl HU.out hPb hOk (by repeat (first | exact HO.out | refine Kd.N_drewN ?_ _)) (by repeat (first | exact HB.out | refine pw_below_drewN ?_ _)) (by omega) ?_; intro v1 w1 ho1 hb1; have HO1 := Lib.hid ho1; have HB1 := Lib.hid hb1; have k0 := HK0.out.next HB1.out; have k1 := HK1.out.next HB1.out; have c0 : w1.cell? ⟨w.heap.size, 0, none⟩ = some (.slice a n c) := k0.cell 0; have d0 : w1.cell? ⟨w.heap.size + 1, 0, none⟩ = some (.int .i64 k) := k1.cell 0; obtain ⟨r0, r1, r2⟩ := HRC.out w1 HB1.out; clear k0 k1; clear ho1 hb1)
          go_quiet (fail)
          go_wp2_with fail
          go_roundw
          case rel => exact ⟨j + 1, true, (out ++ [(k, f)]), by omega, by go_num, rfl, HST, Lib.hid (by repeat (first | exact HB1.out | refine pw_below_drewN ?_ _)), Lib.hid (by repeat (first | exact HO1.out | refine Kd.N_drewN ?_ _))⟩
          case measure => simp [intOf]; omega
        · by_cases hlx : xk < k
          · have hge : xk < k := by omega
            have hbeq : (xk != k) = true := by simpa using hxk
            have HST : Hid (fs.putI k f (j + 1) = (out ++ [(xk, xf)], false)) := Lib.hid (by rw [hstep, if_neg hxk, if_neg (by omega)]; simp; omega)
            clear hxk hstep
            go_wp2_with fail
            go_quiet (fail)
            go_wp2_with fail
            go_quiet (fail)
            go_wp2_with (at_builtin; refine lay_file rfl (.tmp 41) (.tmp 47) rfl _ out xk u (xf.sure : Int) xf (fun q => (P q ∧ q < w.heap.size) ∨ w3.heap.size ≤ q) (fun q => P q ∧ q < w.heap.size) rfl rfl rfl HBU.out hPb hOk (by repeat (first | exact HO.out | refine Kd.N_drewN ?_ _)) (by repeat (first | exact HB.out | refine pw_below_drewN ?_ _)) (by omega) ?_; intro v1 w1 ho1 hb1; have HO1 := Lib.hid ho1; have HB1 := Lib.hid hb1; have k0 := HK0.out.next HB1.out; have k1 := HK1.out.next HB1.out; have c0 : w1.cell? ⟨w.heap.size, 0, none⟩ = some (.slice a n c) := k0.cell 0; have d0 : w1.cell? ⟨w.heap.size + 1, 0, none⟩ = some (.int .i64 k) := k1.cell 0; obtain ⟨r0, r1, r2⟩ := HRC.out w1 HB1.out; clear k0 k1; clear ho1 hb1)
            go_roundw
            case rel => exact ⟨j + 1, false, (out ++ [(xk, xf)]), by omega, by go_num, rfl, HST, Lib.hid (by repeat (first | exact HB1.out | refine pw_below_drewN ?_ _)), Lib.hid (by repeat (first | exact HO1.out | refine Kd.N_drewN ?_ _))⟩
            case measure => simp [intOf]; omega
          · have hge : ¬ xk < k := by omega
            have hbeq : (xk != k) = true := by simpa using hxk
            have HST : Hid (fs.putI k f (j + 1) = (out ++ [(k, f)] ++ [(xk, xf)], true)) := Lib.hid (by rw [hstep, if_neg hxk, if_pos ⟨rfl, by omega⟩]; simp; omega)
            clear hxk hstep
            go_wp2_with fail
            go_quiet (fail)
            go_wp2_with (at_builtin; refine lay_file rfl (.tmp 28) (.tmp 30) rfl _ out k (.slice a1 (ints f.bytes).length c1) (f.sure : Int) f (fun q => (P q ∧ q < w.heap.size) ∨ w3.heap.size ≤ q) (fun q => P q ∧ q < w.heap.size) rfl rfl rfl HU.out hPb hOk (by repeat (first | exact HO.out | refine Kd.N_drewN ?_ _)) (by repeat (first | exact HB.out | refine pw_below_drewN ?_ _)) (by omega) ?_; intro v1 w1 ho1 hb1; have HO1 := Lib.hid ho1; have HB1 := Lib.hid hb1; have k0 := HK0.out.next HB1.out; have k1 := HK1.out.next HB1.out; have c0 : w1.cell? ⟨w.heap.size, 0, none⟩ = some (.slice a n c) := k0.cell 0; have d0 : w1.cell? ⟨w.heap.size + 1, 0, none⟩ = some (.int .i64 k) := k1.cell 0; obtain ⟨r0, r1, r2⟩ := HRC.out w1 HB1.out; clear k0 k1; clear ho1 hb1)
            go_quiet (fail)
            go_wp2_with (at_builtin; refine lay_file rfl (.tmp 41) (.tmp 47) rfl _ (out ++ [(k, f)]) xk u (xf.sure : Int) xf (fun q => (P q ∧ q < w.heap.size) ∨ w3.heap.size ≤ q) (fun q => P q ∧ q < w.heap.size) rfl rfl rfl HBU.out hPb hOk (by repeat (first | exact HO1.out | refine Kd.N_drewN ?_ _)) (by repeat (first | exact HB1.out | refine pw_below_drewN ?_ _)) (by rw [List.length_append, List.length_singleton]; omega) ?_; intro v2 w2 ho2 hb2; have HO2 := Lib.hid ho2; have HB2 := Lib.hid hb2; have k0 := HK0.out.next HB2.out; have k1 := HK1.out.next HB2.out; have c0 : w2.cell? ⟨w.heap.size, 0, none⟩ = some (.slice a n c) := k0.cell 0; have d0 : w2.cell? ⟨w.heap.size + 1, 0, none⟩ = some (.int .i64 k) := k1.cell 0; obtain ⟨r0, r1, r2⟩ := HRC.out w2 HB2.out; clear k0 k1; clear ho2 hb2)
            go_roundw
            case rel => exact ⟨j + 1, true, (out ++ [(k, f)] ++ [(xk, xf)]), by omega, by go_num, rfl, HST, Lib.hid (by repeat (first | exact HB2.out | refine pw_below_drewN ?_ _)), Lib.hid (by repeat (first | exact HO2.out | refine Kd.N_drewN ?_ _))⟩
            case measure => simp [intOf]; omega
    · have hin : j = fs.length := by rw [← HN.out]; omega
      have hfin := HI.out
      rw [hin] at hfin
      have e2 : fs.putL k f = if b = true then out else out ++ [(k, f)] := by unfold Fs.putL; rw [hfin]
      clear hfin hin k0 k1 HI
      have z2 := k2.frozen 0
      have e0 : wr.cell? ⟨w.heap.size + 1 + 1, 0, none⟩ = some (.slice none 0 0) := k2.cell 0
      have HBW := Lib.hid hb0
      have hfin : ∀ W vv, Below w3.heap.size w3 W → Kd.N kF 72 W w3.heap.size (fun q => (P q ∧ q < w.heap.size) ∨ w3.heap.size ≤ q) vv (fs.putL k f) → FV (W.setCell ⟨w.heap.size + 1 + 1, 0, none⟩ vv) (fun q => P q ∨ w.heap.size ≤ q) vv (fs.putL k f) ∧ Below w.heap.size w (W.setCell ⟨w.heap.size + 1 + 1, 0, none⟩ vv) := fun W vv hB hN => by
        have hbw : Below w.heap.size w W := bnext HBW.out hB
        refine ⟨?_, below_set hbw (by omega)⟩
        exact Kd.V_mono (Kd.V_far (p := ⟨w.heap.size + 1 + 1, 0, none⟩) (Kd.N_V hN) (fun q hq => by show q ≠ w.heap.size + 1 + 1; rcases hq with hq | hq <;> omega) vv) (fun q hq => hq.elim (fun hh => .inl hh.1) (fun hh => .inr (by omega)))
      have HFIN := Lib.hid hfin
      clear hfin
      cases b with
      | true =>
        rw [if_pos rfl] at e2
        rw [← e2] at HO
        have HE := Lib.hid e2
        clear e2
        obtain ⟨A9, c9, rfl⟩ := Kd.N_slice HO.out
        go_wp2_with fail
        refine bodyPost_ret (results_cell_row rfl _ _ (w.heap.size + 1 + 1) 50 #[.slice A9 (fs.putL k f).length c9] (0, 0) _ rfl (k2.set_ 0 _) Try.underlying50 rfl (by kernel_rfl)) rfl ?_
        exact ⟨_, rfl, HFIN.out _ _ HB.out HO.out⟩
      | false =>
        rw [if_neg (by simp)] at e2 hol
        have HE := Lib.hid e2
        clear e2
        go_wp2_with (at_builtin; refine lay_file rfl (.tmp 51) (.tmp 53) rfl _ out k (.slice a1 (ints f.bytes).length c1) (f.sure : Int) f (fun q => (P q ∧ q < w.heap.size) ∨ w3.heap.size ≤ q) (fun q => P q ∧ q < w.heap.size) rfl rfl rfl HU.out hPb hOk HO.out HB.out (by omega) ?_; intro v1 w1 ho1 hb1; rw [← HE.out] at ho1; have HO1 := Lib.hid ho1; have HB1 := Lib.hid hb1; have k2 := HK2.out.next HB1.out; have z2 := k2.frozen 0; have e0 : w1.cell? ⟨w.heap.size + 1 + 1, 0, none⟩ = some (.slice none 0 0) := k2.cell 0; clear ho1 hb1; obtain ⟨A9, c9, rfl⟩ := Kd.N_slice HO1.out)
        refine bodyPost_ret (results_cell_row rfl _ _ (w.heap.size + 1 + 1) 50 #[.slice A9 (fs.putL k f).length c9] (0, 0) _ rfl (k2.set_ 0 _) Try.underlying50 rfl (by kernel_rfl)) rfl ?_
        exact ⟨_, rfl, HFIN.out _ _ HB1.out HO1.out⟩
end Go.Proofs.Ytajkjbhijikggaa.Tele
