/- The walk of the law SendAll. No conditions. -/
import Derived.Test.YtelodofjokmfjaaPAll
import Derived.Maps.AppendAt
import Derived.Laws.OwnMore
namespace Go.Proofs.Ytelodofjokmfjaa.Tele
open Go.RowKit
set_option linter.unusedVariables false
set_option linter.unusedSimpArgs false

/-- Nothing is laid behind. -/
theorem wpList_append_none {P : Program} (w : World) {ops : Array Oper} {rest : List Oper} {o : Oper} {a : Act} {Q : Exit → Act → World → Prop} (hgd : o.guard = none) (s x : Operand) (t : TypeId)
    (ho : o.op = .call { callee := .builtin .append, args := #[s, x], argTypes := #[t, t] }) (v xv : Value) (hs : a.eval s = v) (hx : a.eval x = xv)
    (hr : (Builtin.append_ #[t, t] o.type #[v, xv]).run P w = .ok v w) (h : wpList P ops Q rest (a.put o.dst v) w) : wpList P ops Q (o :: rest) a w := by
  refine wpList_plain hgd fun K hK => ?_
  unfold Oper.wp execOp
  simp only [ho, resolve, invoke, builtin, Sem.run_bind, Sem.run_pure, Result.andThen_ok, List.map_toArray, List.map_cons, List.map_nil, hs, hx, hr]
  exact hK _ _ h
theorem IsS.grown {w w' : World} {O : Nat → Prop} {p : Nat} {s : St} {row : Option Nat} (h : IsS w O p s) (k : w.grownBy w' row) (hr : ∀ j, row = some j → ¬ O j) : IsS w' O p s := by
  obtain ⟨b, m, F, h⟩ := h
  have hn : ∀ j, O j → some j ≠ row := fun j hj he => hr j he.symm hj
  exact ⟨b, m, F, { h with st := h.st.grown k (hn p h.hp), mp := h.mp.grown k (hn b h.hb), fl := fun e he => (h.fl e he).grown k (hn e.2 (h.hm e he)), hO := fun j hj => Nat.lt_of_lt_of_le (h.hO j hj) k.size }⟩
theorem IsS.lt {w : World} {O : Nat → Prop} {p : Nat} {s : St} (h : IsS w O p s) : ∀ j, O j → j < w.heap.size := by
  obtain ⟨b, m, F, h⟩ := h
  exact h.hO
theorem below_row {w w1 w2 : World} {row : Option Nat} (h : Below w.heap.size w w1) (k : w1.grownBy w2 row) (hr : ∀ j, row = some j → w.heap.size ≤ j) : Below w.heap.size w w2 :=
  ⟨k.os.trans h.os, k.tape.trans h.tape, k.output.trans h.output, by have := h.size; have := k.size; omega, fun j hj => (k.block j (by have := h.size; omega) (by intro he; have := hr j he.symm; omega)).trans (h.block j hj)⟩
theorem ownsRow_far {w w' : World} {base : Nat} {e : TypeId} {v : Value} {n : Nat} {xs : List Value} {S : Nat → Prop} (h : w.ownsRow base e 1 v n xs) (k : Chg S w w') (hS : ∀ j, S j → j < base) : w'.ownsRow base e 1 v n xs := ownsRow_chg h k hS
set_option maxRecDepth 8000 in
set_option maxHeartbeats 4000000 in
theorem sendAll_walk (y : Int) (ca : Option Addr) (len cap : Nat) (cs : List Int) (d : Int) (w : World) (hy : (Lit.int .u8 y).wf = true) (hc : IntRow .u8 w ca len cap cs) (hl : len * 1 ≤ 140737488351232) (hd : (Lit.int .u64 d).wf = true) :
    Calls Try.prog 7 #[.int .u8 y, .slice ca len cap, .int .u64 d] w fun e w' => e = .returned (.bool true) ∧ Below w.heap.size w w' := by
  obtain ⟨hy0, hy1⟩ := u8_of_wf hy
  obtain ⟨X, rfl⟩ := u_of_wf hd
  obtain ⟨fly, hfly, hf1, hf2⟩ : ∃ fly : Nat, 1 + y % 10 = (fly : Int) ∧ 1 ≤ fly ∧ fly ≤ 10 := ⟨(1 + y % 10).toNat, by omega, by omega, by omega⟩
  have HN := Lib.hid fun w => mine_new fly 3 9 w hf1 (by omega) (by omega) (by omega) (by omega)
  obtain ⟨i0, hi, hz0, hz1, hz2⟩ := info_parts infoInt
  have HI := Lib.hid hi
  have HZ0 := Lib.hid hz0
  have HZ1 := Lib.hid hz1
  have HZ2 := Lib.hid hz2
  have HAN := Lib.hid fun (W : World) (base : Nat) (v : Value) (n : Nat) (xs : List Value) (h : W.ownsRow base 3 1 v n xs) => run_append_owned_none (P := Try.prog) W base 31 31 3 i0 1 Try.underlying31 hi v n xs h
  obtain ⟨hrow, hwf⟩ := hc
  have HWF := Lib.hid hwf
  have HLEN := Lib.hid hrow.len_eq
  have HR := Lib.hid hrow
  clear hy hd hwf hl hrow hi hz0 hz1 hz2
  by_cases hlen : 60 < (len : Int)
  · go_enter Try.func7, Try.ntmps7
    go_wp2_with fail
    refine (HN.out _).mono ?_
    rintro e w1 ⟨p, rfl, hM⟩
    have HM := Lib.hid hM
    clear hM
    go_wp2_with fail
    refine (known_calls _).mono ?_
    rintro e w2 ⟨rfl, hb⟩
    go_wp2
    go_ret
    obtain ⟨O, h1, h2, h3⟩ := HM.out
    exact ⟨rfl, bnext h3 hb⟩
  · go_enter Try.func7, Try.ntmps7
    go_wp2_with fail
    refine (HN.out _).mono ?_
    rintro e w1 ⟨p, rfl, hM⟩
    obtain ⟨s0, hs0⟩ : ∃ s0 : St, s0 = ⟨[], fly, 3, 9, 0⟩ := ⟨_, rfl⟩
    rw [← hs0] at hM
    have HM := Lib.hid hM
    have HS0 := Lib.hid hs0
    clear hM hs0
    go_wp2_with fail
    go_loopw [8] (fun i wr => ∃ k : Nat, k ≤ len ∧ i = .int .i64 (k : Int) ∧ Hid (Mine w wr p (s0.puts (cs.take k)))) (fun i _ => len - (intOf i).toNat)
    case atStart => exact ⟨0, by omega, rfl, HM⟩
    case round =>
      clear HM
      obtain ⟨k, hk, rfl, HM⟩ := hrel
      have HBW : Hid (Below w.heap.size w wr) := Lib.hid (by obtain ⟨O, _, _, h3⟩ := HM.out; exact h3)
      have hpl := St.puts_len (cs.take k) s0
      rw [show s0.l.length = 0 by rw [HS0.out]; rfl, List.length_take] at hpl
      have hpl2 : (s0.puts (cs.take k)).l.length ≤ 60 := by omega
      clear hpl
      by_cases hlt : (k : Int) < (len : Int)
      · have hrow := RowOf.below HR.out HBW.out
        have hix := fun W => hrow.index Try.prog 26 5 Try.underlying26 (by kernel_rfl) k (by omega) W
        have hcell := hrow.cell k (by omega)
        have hkc : k < cs.length := by rw [HLEN.out]; omega
        have hgd : cs.getD k 0 = cs[k] := by rw [List.getD_eq_getElem?_getD, List.getElem?_eq_getElem hkc]; rfl
        rw [hgd] at hcell
        obtain ⟨z0, z1⟩ := u8_of_wf (HWF.out _ (List.getElem_mem hkc))
        have HSN := Lib.hid (St.puts_snoc s0 cs k hkc)
        generalize cs[k] = z at *
        have HP := Lib.hid (mine_put w p (s0.puts (cs.take k)) z wr HM.out (wf_i64 (by omega) (by omega)) (by omega))
        generalize adr ca k = ad at *
        clear hrow hgd hkc
        go_wp2_with fail
        refine HP.out.mono ?_
        rintro e w3 ⟨rfl, hM⟩
        rw [← HSN.out] at hM
        have HM2 := Lib.hid hM
        clear hM
        go_wp2_with fail
        go_roundw
        case rel => exact ⟨k + 1, by omega, by go_num, HM2⟩
        case measure => simp [intOf]; omega
      · have hkl : k = len := by omega
        have hall : cs.take k = cs := List.take_of_length_le (by rw [HLEN.out]; omega)
        rw [hall] at HM hpl2
        have hfr := St.puts_fresh cs s0 (by rw [HS0.out]; exact ⟨by simp, List.Pairwise.nil, rfl⟩)
        obtain ⟨e1, e2, e3, e4⟩ := St.puts_same cs s0
        rw [HS0.out] at e1 e2 e3 e4
        simp only at e1 e2 e3 e4
        rw [← HS0.out] at e1 e2 e3 e4
        obtain ⟨s, hs⟩ : ∃ s, s = s0.puts cs := ⟨_, rfl⟩
        rw [← hs] at HM hpl2 hfr e1 e2 e3 e4
        clear hs
        clear hall hkl HBW
        obtain ⟨O, hO1, hS, hbw⟩ := HM.out
        have HO1 := Lib.hid hO1
        have HS := Lib.hid hS
        have HBW := Lib.hid hbw
        have HOLT := Lib.hid hS.lt
        have HFR := Lib.hid hfr
        obtain ⟨n, hn⟩ : ∃ n, n = s.l.length := ⟨_, rfl⟩
        have hn60 : n ≤ 60 := by omega
        have HNN := Lib.hid hn
        have LN := Lib.hid (by have := len_calls O p s wr hS; rw [← hn] at this; exact this)
        have E1 := Lib.hid e1
        have E2 := Lib.hid e2
        have E3 := Lib.hid e3
        obtain ⟨B, hB⟩ : ∃ B, B = wr.heap.size := ⟨_, rfl⟩
        have HB := Lib.hid hB
        have hBw : w.heap.size ≤ B := by rw [hB]; exact hbw.size
        rw [← hB] at HOLT
        clear HM hO1 hS hbw hfr hn e1 e2 e3 e4 hpl2 hB
        go_wp2_with fail
        refine LN.out.mono ?_
        rintro e w2 ⟨rfl, rfl⟩
        go_wp2_with fail
        go_loopw [10, 11] (fun al kk wq => ∃ (k : Nat) (L : List Int) (t : St), k ≤ n + 1 ∧ kk = .int .i64 (k : Int) ∧ Hid (wq.ownsRow B 3 1 al L.length (L.map (Value.int .i64))) ∧ Hid (IsS wq O p t) ∧ Hid (Below w.heap.size w wq) ∧ Hid (St.AllMid s k L t) ∧ Hid (B ≤ wq.heap.size)) (fun _ kk _ => n + 1 - (intOf kk).toNat)
        case atStart => exact ⟨0, [], s, by omega, rfl, Lib.hid ⟨rfl, .inl ⟨rfl, rfl⟩⟩, HS, HBW, Lib.hid (St.allMid_start s HFR.out), Lib.hid (by rw [HB.out]; exact Nat.le_refl _)⟩
        case round =>
          clear HS HBW LN HB
          obtain ⟨k, L, t, hk, rfl, HAL, HT, HBQ, HMID, HBS⟩ := hrel
          by_cases hlt2 : (k : Int) ≤ (n : Int)
          · have hfr := HMID.out.fr
            have hDUE := due_form O p t k X wr HT.out (by omega) (fun q hq => by rw [hfr.fl q hq]; decide) (by rw [hfr.zero]; omega)
            rw [St.doneI_start t k X hfr] at hDUE
            have hol := St.outs_len t k X hfr
            obtain ⟨M, hM⟩ : ∃ M, M = t.outs k X := ⟨_, rfl⟩
            rw [← hM] at hDUE hol
            have HDUE := Lib.hid hDUE
            have HSTEP := Lib.hid (fun i hi => by
              have := St.doneI_step t k X i hfr (by rw [HMID.out.base, E2.out]; decide) (by rw [HMID.out.base, HMID.out.most, E2.out, E3.out]; decide) hi
              rw [← hM] at this
              exact this)
            have HNEXT := Lib.hid (by have := St.allMid_next s k L t k X HMID.out; rw [← hM] at this; exact this)
            obtain ⟨ml, hml⟩ : ∃ ml, ml = min t.l.length t.fly := ⟨_, rfl⟩
            have hMl : M.length = ml := by rw [hol, hml]
            have htf : t.fly ≤ 10 := by rw [HMID.out.fly, E1.out]; exact hf2
            have hml9 : ml ≤ 64 := by
              have h1 := HMID.out.fly
              rw [E1.out] at h1
              omega
            rw [← hml] at HSTEP HNEXT
            have hLlen : L.length ≤ 60 := by rw [HMID.out.out, List.length_take, List.length_map, ← HNN.out]; omega
            have HMK : Hid (∀ x ∈ M, 0 ≤ x ∧ x ≤ 9223372036854775807) := Lib.hid (by
              intro x hx
              rw [hM] at hx
              obtain ⟨f1, _⟩ := St.first_look t k X hfr
              rw [f1] at hx
              have hx2 := List.mem_of_mem_take hx
              obtain ⟨b, m, F, h⟩ := HT.out
              rw [h.abs, List.map_map] at hx2
              obtain ⟨e, he, hek⟩ := List.mem_map.1 hx2
              have := h.keys e he
              have hek' : e.1 = x := hek
              rw [← hek']
              exact this)
            have HML := Lib.hid hMl
            have hwq := HBQ.out.size
            clear hfr hDUE hol hM hml hMl HMID
            go_wp2_with fail
            refine HDUE.out.mono ?_
            rintro e w3 ⟨v, rfl, hints, hS3, hc3, hform⟩
            have HI3 := Lib.hid hints
            have HS3 := Lib.hid hS3
            have HB3 := Lib.hid (bchg HBQ.out hc3 HO1.out)
            have HAL3 := Lib.hid (ownsRow_chg HAL.out hc3 HOLT.out)
            have HSZ3 := Lib.hid (Nat.le_trans HBS.out hc3.size)
            have HWQ3 := Lib.hid (Nat.le_trans HBS.out (Nat.le_refl wr.heap.size))
            have HFO := Lib.hid hform
            obtain ⟨a1, cap1, hv, hr1, hb1⟩ := HI3.out
            rw [HML.out] at hv hr1
            have HV := Lib.hid hv
            rw [hv]
            clear hints hS3 hc3 hform hv hr1 hb1
            go_wp2_with fail
            go_loopw [13] (fun ii wx => ∃ i : Nat, i ≤ ml ∧ ii = .int .i64 (i : Int) ∧ Hid (IsS wx O p (t.doneI (k : Int) X i)) ∧ Hid (Chg O w3 wx)) (fun ii _ => ml - (intOf ii).toNat)
            case atStart => exact ⟨0, by omega, rfl, HS3, Lib.hid (Chg.refl _ _)⟩
            case round =>
              clear HS3
              obtain ⟨i, hi, rfl, HSI, HCI⟩ := hrel
              by_cases hlt3 : (i : Int) < (ml : Int)
              · obtain ⟨f, m1, m2, m3, m4⟩ := HSTEP.out i (by omega)
                have hii := HI3.out.chg HCI.out (fun j hj => Nat.lt_of_lt_of_le (HOLT.out j hj) HWQ3.out)
                obtain ⟨a2, cap2, hv2, hr2, _⟩ := hii
                rw [HML.out] at hr2 hv2
                rw [HV.out] at hv2
                injection hv2 with q1 q2 q3
                subst q1 q3
                have hix := fun W => hr2.index Try.prog 31 3 Try.underlying31 (by kernel_rfl) i (by omega) W
                have hcell := hr2.cell i (by omega)
                have hmk := HMK.out (M.getD i 0) (by rw [List.getD_eq_getElem?_getD, List.getElem?_eq_getElem (by rw [HML.out]; omega)]; exact List.getElem_mem _)
                have hDN := done_yes O p (t.doneI (k : Int) X i) (M.getD i 0) f wr HSI.out (wf_i64 (by omega) hmk.2) m1 m2 (by have := m3; have h5 := E1.out; omega)
                rw [m4] at hDN
                have HDN := Lib.hid hDN
                generalize M.getD i 0 = z at *
                generalize adr a1 i = ad at *
                clear m1 m2 m3 m4 hr2 hDN hmk q2
                go_wp2_with fail
                refine HDN.out.mono ?_
                rintro e w4 ⟨rfl, hS4, hc4⟩
                have HS4 := Lib.hid hS4
                have HC4 := Lib.hid (HCI.out.then hc4)
                clear hS4 hc4
                go_wp2_with fail
                go_roundw
                case rel => exact ⟨i + 1, by omega, by go_num, HS4, HC4⟩
                case measure => simp [intOf]; omega
              · have him : i = ml := by omega
                subst him
                have hal := ownsRow_chg HAL3.out HCI.out HOLT.out
                have hii := HI3.out.chg HCI.out (fun j hj => Nat.lt_of_lt_of_le (HOLT.out j hj) HWQ3.out)
                have HBX := Lib.hid (bchg HB3.out HCI.out HO1.out)
                have HSX := Lib.hid (Nat.le_trans HSZ3.out HCI.out.size)
                obtain ⟨a2, cap2, hv2, hr2, _⟩ := hii
                rw [HML.out] at hr2 hv2
                rw [HV.out] at hv2
                injection hv2 with q1 q2 q3
                subst q1 q3
                rcases HFO.out with hf | ⟨ad, kx, cx, hf⟩
                · rw [HV.out] at hf
                  injection hf with q1 q2 q3
                  have hM0 : M = [] := List.length_eq_zero_iff.1 (by rw [HML.out]; exact q2)
                  have hap := HAN.out wr B _ _ _ hal
                  have HAL4 := Lib.hid hal
                  have HM0 := Lib.hid hM0
                  have HQ2 := Lib.hid q2
                  subst q1
                  rw [q2, q3]
                  have HAP := Lib.hid hap
                  clear hal hr2 hM0 q2 q3 hap
                  go_wp2_with (at_builtin; refine wpList_append_none _ rfl _ _ 31 rfl _ _ rfl rfl HAP.out ?_)
                  go_roundw
                  case rel => exact ⟨k + 1, L ++ M, t.doneI (k : Int) X i, by omega, by go_num, Lib.hid (by rw [HM0.out, List.append_nil]; exact HAL4.out), HSI, HBX, HNEXT, HSX⟩
                  case measure => simp [intOf]; omega
                · rw [HV.out] at hf
                  injection hf with q1 q2 q3
                  subst q1
                  have hnews : ∀ j u, (M.map (Value.int .i64))[j]? = some u → wr.cell? (ad.add j) = some u := fun j u hj => by
                    have hjm : j < M.length := by
                      have := (List.getElem?_eq_some_iff.1 hj).1
                      simpa using this
                    have h1 := hr2.cell j (by rw [← HML.out]; exact hjm)
                    rw [List.getElem?_map, List.getElem?_eq_getElem hjm] at hj
                    rw [List.getD_eq_getElem?_getD, List.getElem?_eq_getElem hjm] at h1
                    exact h1.trans hj
                  have hone : ∀ u ∈ M.map (Value.int .i64), u.oneCell' = true := fun u hu => by
                    obtain ⟨x, _, rfl⟩ := List.mem_map.1 hu
                    rfl
                  have hlenM : (M.map (Value.int .i64)).length = i * 1 := by rw [List.length_map, HML.out, Nat.mul_one]
                  have HGE := Lib.hid (own_ge hal)
                  have hi1 := HI.out
                  have hz0 := HZ0.out
                  have hz1 := HZ1.out
                  have hz2 := HZ2.out
                  have hBx := HSX.out
                  clear hr2 q2 q3
                  go_wp2_with (at_builtin; refine wpList_append_own_at _ rfl _ _ _ rfl B 3 i0 _ 1 8 Try.underlying31 hi1 hz0 hz1 hz2 rfl (by decide) _ L.length _ rfl hal ad i cap1 (M.map (Value.int .i64)) rfl hlenM hnews hone (by show _ ≤ 2 ^ 63 - 1; omega) (by omega) hBx ?_; intro v1 w9 hown1 hgrow1 hnil1 hat1)
                  go_roundw
                  case rel =>
                    have hnO : ∀ j, Value.ownBlock _ = some j → ¬ O j := fun j hj ho => by
                      have h1 := HGE.out j hj
                      have h2 := HOLT.out j ho
                      omega
                    exact ⟨k + 1, L ++ M, t.doneI (k : Int) X i, by omega, by go_num, Lib.hid (by rw [List.length_append, List.map_append, HML.out]; exact hown1), Lib.hid (HSI.out.grown hgrow1 hnO), Lib.hid (below_row HBX.out hgrow1 (fun j hj => Nat.le_trans hBw (HGE.out j hj))), HNEXT, Lib.hid (Nat.le_trans HSX.out hgrow1.size)⟩
                  case measure => simp [intOf]; omega
          · have hkn : k = n + 1 := by omega
            subst hkn
            have hfy : 1 ≤ s.fly := by rw [E1.out]; exact hf1
            have hmid : St.AllMid s (s.l.length + 1) L t := by rw [← HNN.out]; exact HMID.out
            obtain ⟨r1, r2⟩ := St.allMid_end s L t hmid hfy
            have hup : L.Pairwise (· < ·) := by rw [r2]; exact List.pairwise_map.2 HFR.out.up
            have hLn : L.length = n := by rw [r2, List.length_map, HNN.out]
            have hz := HMID.out.fr.zero
            have NX := Lib.hid fun W h => next_calls O p t W h
            have LN2 := Lib.hid fun W h => by have := len_calls O p t W h; rw [r1, show ([] : List (Int × Fl)).length = 0 from rfl] at this; exact this
            have FN2 := Lib.hid fun W h => by have := flying_calls O p t W h; rw [hz] at this; exact this
            have HR1 := Lib.hid r1
            have HUP := Lib.hid hup
            have HLN := Lib.hid hLn
            obtain ⟨a1, cap1, hv, hr, _⟩ := ints_of rfl HAL.out
            rw [hLn] at hv hr
            have HRO := Lib.hid hr
            rw [hv]
            clear hmid hfy r1 r2 hup hLn hz hv hr HMID HAL
            go_wp2_with fail
            go_loopw [14] (fun i wx => ∃ k nd : Nat, 1 ≤ k ∧ i = .int .i64 (k : Int) ∧ k ≤ 61 ∧ (k ≤ n ∨ k = 1) ∧ wx = wr.drewN nd) (fun i _ => 61 - (intOf i).toNat)
            case atStart => exact ⟨1, 0, by omega, rfl, by omega, .inr rfl, rfl⟩
            case round =>
              obtain ⟨k, nd, hk1, rfl, hk61, hkn, rfl⟩ := hrel
              by_cases hlt3 : (k : Int) < (n : Int)
              · have i1 := fun W => HRO.out.index Try.prog 31 3 Try.underlying31 (by kernel_rfl) k (by omega) W
                have i2 := fun W => HRO.out.index Try.prog 31 3 Try.underlying31 (by kernel_rfl) (k - 1) (by omega) W
                rw [show ((k - 1 : Nat) : Int) = (k : Int) - 1 by omega] at i2
                have d1 := HRO.out.cell k (by omega)
                have d2 := HRO.out.cell (k - 1) (by omega)
                have hup2 : L.getD (k - 1) 0 < L.getD k 0 := by
                  have hp := List.pairwise_iff_getElem.1 HUP.out (k - 1) k (by rw [HLN.out]; omega) (by rw [HLN.out]; omega) (by omega)
                  rw [List.getD_eq_getElem?_getD, List.getD_eq_getElem?_getD, List.getElem?_eq_getElem (by rw [HLN.out]; omega), List.getElem?_eq_getElem (by rw [HLN.out]; omega)]
                  exact hp
                generalize L.getD (k - 1) 0 = z2 at *
                generalize L.getD k 0 = z1 at *
                generalize adr a1 k = p1 at *
                generalize adr a1 (k - 1) = p2 at *
                go_wp2_with fail
                go_quiet (fail)
                go_wp2_with fail
                go_roundw
                case rel => exact ⟨k + 1, nd + nq, by omega, by go_num, by omega, by omega, rfl⟩
                case measure => simp [intOf]; omega
              · have hq : ((n : Int) == (n : Int)) = true := by simp
                have HT2 := Lib.hid (HT.out.next (pw_below_drewN (Below.refl _ _) nd))
                have HB2 := Lib.hid (pw_below_drewN HBQ.out nd)
                go_wp2_with fail
                refine (NX.out _ HT2.out).mono ?_
                rintro e w5 ⟨o, rfl, hbest, hb5⟩
                have ho : o = none := by
                  cases o with
                  | none => rfl
                  | some a' =>
                    obtain ⟨q, hq, _⟩ := hbest.2 a' rfl
                    rw [HR1.out] at hq
                    simp at hq
                rw [ho, show (none : Option Int).getD 0 = 0 from rfl, show (none : Option Int).isSome = false from rfl]
                have HT5 := Lib.hid (HT2.out.next hb5)
                have HB5 := Lib.hid (bnext HB2.out hb5)
                clear hbest ho hb5
                go_wp2_with fail
                refine (known_calls _).mono ?_
                rintro e w6 ⟨rfl, hb6⟩
                have HT6 := Lib.hid (HT5.out.next hb6)
                have HB6 := Lib.hid (bnext HB5.out hb6)
                clear hb6
                go_wp2_with fail
                refine (LN2.out _ HT6.out).mono ?_
                rintro e w7 ⟨rfl, rfl⟩
                go_wp2_with fail
                refine (FN2.out _ HT6.out).mono ?_
                rintro e w7 ⟨rfl, rfl⟩
                go_wp2
                go_ret
                exact ⟨rfl, HB6.out⟩
end Go.Proofs.Ytelodofjokmfjaa.Tele
