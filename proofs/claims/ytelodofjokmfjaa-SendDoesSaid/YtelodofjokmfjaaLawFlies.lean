/- The walk of the law SendFlies. No conditions. -/
import Derived.Test.YtelodofjokmfjaaSame17
import Derived.Test.YtelodofjokmfjaaPFlies
namespace Go.Proofs.Ytelodofjokmfjaa.Tele
open Go.RowKit
set_option linter.unusedVariables false
set_option linter.unusedSimpArgs false

/-- A sender that the law made: all that it hangs on is new. -/
def Mine (w0 w : World) (p : Nat) (s : St) : Prop := ∃ O, (∀ j, O j → w0.heap.size ≤ j) ∧ IsS w O p s ∧ Below w0.heap.size w0 w
theorem Mine.next {w0 w w' : World} {p : Nat} {s : St} (h : Mine w0 w p s) (k : Below w.heap.size w w') : Mine w0 w' p s := by
  obtain ⟨O, h1, h2, h3⟩ := h
  exact ⟨O, h1, h2.next k, bnext h3 k⟩
theorem Mine.drewN {w0 w : World} {p : Nat} {s : St} (h : Mine w0 w p s) (n : Nat) : Mine w0 (w.drewN n) p s := h.next (pw_below_drewN (Below.refl _ _) n)
theorem mine_new (fly base most : Nat) (w : World) (h1 : 1 ≤ fly) (h2 : fly ≤ 64) (h3 : 1 ≤ base) (h4 : base ≤ most) (h5 : most ≤ 1073741824) :
    Calls Try.prog 11 #[.int .i64 (fly : Int), .int .i64 (base : Int), .int .i64 (most : Int)] w fun e w' => ∃ p, e = .returned (.pointer (some ⟨p, 0, none⟩)) ∧ Mine w w' p ⟨[], fly, base, most, 0⟩ := by
  refine (new_yes fly base most w h1 h2 h3 h4 h5).mono ?_
  rintro e w' ⟨p, rfl, hS, hb⟩
  exact ⟨p, rfl, _, fun j hj => hj.1, hS, hb⟩
theorem mine_put (w0 : World) (p : Nat) (s : St) (k : Int) (w : World) (h : Mine w0 w p s) (hk : (Lit.int .i64 k).wf = true) (hlen : s.l.length < 100000) :
    Calls Try.prog 12 #[.pointer (some ⟨p, 0, none⟩), .int .i64 k] w fun e w' => e = .returned (.bool (!decide (s.has k = true ∨ k < 0))) ∧ Mine w0 w' p (s.put k) := by
  obtain ⟨O, h1, h2, h3⟩ := h
  refine (put_calls O p s k w h2 hk hlen).mono ?_
  rintro e w' ⟨rfl, hS, hc⟩
  exact ⟨rfl, _, plus_ge h1 h3, hS, bchg h3 hc h1⟩
/-- Due, with what else was sent before still to be read. -/
theorem mine_due (w0 : World) (p : Nat) (s : St) (now : Nat) (draw : U) (w : World) (h : Mine w0 w p s) (hnow : (now : Int) ≤ 1099511627776) (htimes : ∀ q ∈ s.l, q.2.times ≤ 1000000) (hfl : s.flying ≤ 1000000) :
    Calls Try.prog 14 #[.pointer (some ⟨p, 0, none⟩), .int .i64 (now : Int), uv draw] w fun e w' => ∃ v O, e = .returned v ∧ Ints w' w.heap.size v (s.outs now draw) ∧ Mine w0 w' p (s.sendAll now draw) ∧ Chg O w w' ∧ (∀ j, O j → j < w.heap.size) ∧ (∀ j, O j → w0.heap.size ≤ j) ∧ IsS w' O p (s.sendAll now draw) := by
  obtain ⟨O, h1, h2, h3⟩ := h
  have hO : ∀ j, O j → j < w.heap.size := by obtain ⟨b, m, F, h⟩ := h2; exact h.hO
  refine (due_all O p s now draw w h2 hnow htimes hfl).mono ?_
  rintro e w' ⟨v, rfl, hi, hS, hc⟩
  exact ⟨v, O, rfl, hi, ⟨O, h1, hS, bchg h3 hc h1⟩, hc, hO, h1, hS⟩
set_option maxRecDepth 8000 in
set_option maxHeartbeats 2000000 in
theorem sendFlies_walk (y : Int) (ca : Option Addr) (len cap : Nat) (cs : List Int) (d : Int) (w : World) (hy : (Lit.int .u8 y).wf = true) (hc : IntRow .u8 w ca len cap cs) (hl : len * 1 ≤ 140737488351232) (hd : (Lit.int .u64 d).wf = true) :
    Calls Try.prog 4 #[.int .u8 y, .slice ca len cap, .int .u64 d] w fun e w' => e = .returned (.bool true) ∧ Below w.heap.size w w' := by
  obtain ⟨hy0, hy1⟩ := u8_of_wf hy
  obtain ⟨X, rfl⟩ := u_of_wf hd
  obtain ⟨fly, hfly, hf1, hf2⟩ : ∃ fly : Nat, 1 + y % 10 = (fly : Int) ∧ 1 ≤ fly ∧ fly ≤ 10 := ⟨(1 + y % 10).toNat, by omega, by omega, by omega⟩
  have HN := Lib.hid fun w => mine_new fly 10 10 w hf1 (by omega) (by omega) (by omega) (by omega)
  obtain ⟨hrow, hwf⟩ := hc
  have HWF := Lib.hid hwf
  have HLEN := Lib.hid hrow.len_eq
  have HR := Lib.hid hrow
  clear hy hd hwf hl hrow
  by_cases hlen : 60 < (len : Int)
  · go_enter Try.func4, Try.ntmps4
    go_wp2_with fail
    refine (HN.out _).mono ?_
    rintro e w1 ⟨p, rfl, hM⟩
    have HM := Lib.hid hM
    clear hM
    go_wp2_with fail
    refine (known_calls _).mono ?_
    rintro e w2 ⟨rfl, hb⟩
    go_wp2
    go_ret
    obtain ⟨O, h1, h2, h3⟩ := HM.out
    exact ⟨rfl, bnext h3 hb⟩
  · go_enter Try.func4, Try.ntmps4
    go_wp2_with fail
    refine (HN.out _).mono ?_
    rintro e w1 ⟨p, rfl, hM⟩
    obtain ⟨s0, hs0⟩ : ∃ s0 : St, s0 = ⟨[], fly, 10, 10, 0⟩ := ⟨_, rfl⟩
    rw [← hs0] at hM
    have HM := Lib.hid hM
    have HS0 := Lib.hid hs0
    clear hM hs0
    go_wp2_with fail
    go_loopw [9] (fun i wr => ∃ k : Nat, k ≤ len ∧ i = .int .i64 (k : Int) ∧ Hid (Mine w wr p (s0.puts (cs.take k)))) (fun i _ => len - (intOf i).toNat)
    case atStart => exact ⟨0, by omega, rfl, HM⟩
    case round =>
      clear HM
      obtain ⟨k, hk, rfl, HM⟩ := hrel
      have HBW : Hid (Below w.heap.size w wr) := Lib.hid (by obtain ⟨O, _, _, h3⟩ := HM.out; exact h3)
      have hpl := St.puts_len (cs.take k) s0
      rw [show s0.l.length = 0 by rw [HS0.out]; rfl, List.length_take] at hpl
      have hpl2 : (s0.puts (cs.take k)).l.length ≤ 60 := by omega
      clear hpl
      by_cases hlt : (k : Int) < (len : Int)
      · have hrow := RowOf.below HR.out HBW.out
        have hix := fun W => hrow.index Try.prog 26 5 Try.underlying26 (by kernel_rfl) k (by omega) W
        have hcell := hrow.cell k (by omega)
        have hkc : k < cs.length := by rw [HLEN.out]; omega
        have hgd : cs.getD k 0 = cs[k] := by rw [List.getD_eq_getElem?_getD, List.getElem?_eq_getElem hkc]; rfl
        rw [hgd] at hcell
        obtain ⟨z0, z1⟩ := u8_of_wf (HWF.out _ (List.getElem_mem hkc))
        have HSN := Lib.hid (St.puts_snoc s0 cs k hkc)
        generalize cs[k] = z at *
        have HP := Lib.hid (mine_put w p (s0.puts (cs.take k)) z wr HM.out (wf_i64 (by omega) (by omega)) (by omega))
        generalize adr ca k = ad at *
        clear hrow hgd hkc
        go_wp2_with fail
        refine HP.out.mono ?_
        rintro e w3 ⟨rfl, hM⟩
        rw [← HSN.out] at hM
        have HM2 := Lib.hid hM
        clear hM
        go_wp2_with fail
        go_roundw
        case rel => exact ⟨k + 1, by omega, by go_num, HM2⟩
        case measure => simp [intOf]; omega
      · have hkl : k = len := by omega
        have hall : cs.take k = cs := List.take_of_length_le (by rw [HLEN.out]; omega)
        rw [hall] at HM hpl2
        have hfr := St.puts_fresh cs s0 (by rw [HS0.out]; exact ⟨by simp, List.Pairwise.nil, rfl⟩)
        obtain ⟨e1, e2, e3, e4⟩ := St.puts_same cs s0
        rw [HS0.out] at e1 e2 e3 e4
        simp only at e1 e2 e3 e4
        rw [← HS0.out] at e1 e2 e3 e4
        generalize s0.puts cs = s at *
        clear hall hkl HBW
        obtain ⟨q1, q2, q3, q4, q5, q6, q7⟩ := St.flies_law s X hfr e2 e3
        have hup : ((s.l.map (·.1)).take s.fly).Pairwise (· < ·) := List.Pairwise.sublist (List.take_sublist _ _) (List.pairwise_map.2 hfr.up)
        obtain ⟨L, hL⟩ : ∃ L, L = (s.l.map (·.1)).take s.fly := ⟨_, rfl⟩
        rw [← hL] at q1 hup
        have hLlen : L.length = min s.l.length fly := by rw [hL, List.length_take, List.length_map, e1]; omega
        have t0 : ∀ q ∈ s.l, q.2.times ≤ 1 := fun q hq => by rw [hfr.fl q hq]; decide
        have t1 := St.times_sendAll s 100 X 1 t0
        have t2 := St.times_sendAll _ 109 X 2 t1
        obtain ⟨s1, hs1⟩ : ∃ s1, s1 = s.sendAll 100 X := ⟨_, rfl⟩
        rw [← hs1] at q2 q3 q4 q5 q6 q7 t1 t2
        obtain ⟨s2, hs2⟩ : ∃ s2, s2 = s1.sendAll 109 X := ⟨_, rfl⟩
        rw [← hs2] at q3 q4 q5 q7 t2
        obtain ⟨s3, hs3⟩ : ∃ s3, s3 = s2.sendAll 120 X := ⟨_, rfl⟩
        rw [← hs3] at q4 q5
        obtain ⟨n, hn⟩ : ∃ n, n = s.l.length := ⟨_, rfl⟩
        rw [← hn] at q4 q5 q6 q7 hLlen hpl2
        rw [e1] at q4 q6 q7
        rw [q1] at q3
        have D1 : Hid (∀ O W, IsS W O p s → Calls Try.prog 14 #[.pointer (some ⟨p, 0, none⟩), .int .i64 100, .int .u64 (X.toNat : Int)] W fun e w' => ∃ v, e = .returned v ∧ Ints w' W.heap.size v L ∧ IsS w' O p s1 ∧ Chg O W w') := Lib.hid fun O W h => by
          rw [← q1, hs1]
          exact due_all O p s 100 X W h (by omega) (fun q hq => by have := t0 q hq; omega) (by rw [e4]; omega)
        have D2 : Hid (∀ O W, IsS W O p s1 → Calls Try.prog 14 #[.pointer (some ⟨p, 0, none⟩), .int .i64 109, .int .u64 (X.toNat : Int)] W fun e w' => ∃ v, e = .returned v ∧ Ints w' W.heap.size v [] ∧ IsS w' O p s2 ∧ Chg O W w') := Lib.hid fun O W h => by
          rw [← q2, hs2]
          exact due_all O p s1 109 X W h (by omega) (fun q hq => by have := t1 q hq; omega) (by rw [q6]; omega)
        have D3 : Hid (∀ O W, IsS W O p s2 → Calls Try.prog 14 #[.pointer (some ⟨p, 0, none⟩), .int .i64 120, .int .u64 (X.toNat : Int)] W fun e w' => ∃ v, e = .returned v ∧ Ints w' W.heap.size v L ∧ IsS w' O p s3 ∧ Chg O W w') := Lib.hid fun O W h => by
          rw [← q3, hs3]
          exact due_all O p s2 120 X W h (by omega) (fun q hq => by have := t2 q hq; omega) (by rw [q7]; omega)
        have LN := Lib.hid fun O W h => by have := len_calls O p s W h; rw [← hn] at this; exact this
        have LN3 := Lib.hid fun O W h => by have := len_calls O p s3 W h; rw [q5] at this; exact this
        have FL3 := Lib.hid fun O W h => by have := flying_calls O p s3 W h; rw [q4] at this; exact this
        obtain ⟨nl, hnl⟩ : ∃ nl, nl = L.length := ⟨_, rfl⟩
        have hmin : min n fly = nl := by rw [hnl, hLlen]
        have hmini : min (n : Int) (fly : Int) = (nl : Int) := by omega
        rw [hmin] at FL3
        have HUP := Lib.hid hup
        have HNL := Lib.hid hnl
        have hnl9 : (nl : Int) ≤ 60 := by omega
        obtain ⟨O, hO1, hS, hbw⟩ := HM.out
        have HS := Lib.hid hS
        have HO1 := Lib.hid hO1
        have HBW := Lib.hid hbw
        clear HM hO1 hS hbw q1 q2 q3 q4 q5 q6 q7 t0 t1 t2 hs1 hs2 hs3 hn hL hLlen hup hnl hmin hfr e1 e2 e3 e4
        go_wp2_with fail
        refine (LN.out _ _ HS.out).mono ?_
        rintro e w2 ⟨rfl, rfl⟩
        go_wp2_with fail
        refine (D1.out _ _ HS.out).mono ?_
        rintro e w3 ⟨v1, rfl, hi1, hS3, hc3⟩
        have hOlt : ∀ j, O j → j < w2.heap.size := by obtain ⟨b, m, F, h⟩ := HS.out; exact h.hO
        have HOLT := Lib.hid hOlt
        have HB3 := Lib.hid (bchg HBW.out hc3 HO1.out)
        have HI1 := Lib.hid hi1
        have HS3 := Lib.hid hS3
        clear hi1 hS3 hc3 hOlt
        go_wp2_with fail
        refine (D2.out _ _ HS3.out).mono ?_
        rintro e w4 ⟨v2, rfl, ⟨a2, cap2, rfl, _, _⟩, hS4, hc4⟩
        rw [show ([] : List Int).length = 0 from rfl]
        have HI2 := Lib.hid (HI1.out.chg hc4 HOLT.out)
        have HB4 := Lib.hid (bchg HB3.out hc4 HO1.out)
        have HS4 := Lib.hid hS4
        clear hS4 hc4
        go_wp2_with fail
        refine (D3.out _ _ HS4.out).mono ?_
        rintro e w5 ⟨v3, rfl, hi3, hS5, hc5⟩
        have HA5 := Lib.hid (HI2.out.chg hc5 HOLT.out)
        have HC5 := Lib.hid hi3
        have HB5 := Lib.hid (bchg HB4.out hc5 HO1.out)
        have HS5 := Lib.hid hS5
        clear hi3 hS5 hc5 HI1 HI2 HB3 HB4 HS3 HS4 HS HBW
        obtain ⟨a1, cap1, hv1, hr1, hb1⟩ := HA5.out
        rw [← HNL.out] at hr1 hv1
        have HV1 := Lib.hid hv1
        have HR1 := Lib.hid hr1
        rw [hv1]
        obtain ⟨a3, cap3, hv3, hr3, hb3⟩ := HC5.out
        rw [← HNL.out] at hv3
        have HV3 := Lib.hid hv3
        rw [hv3]
        clear hv1 hr1 hb1 hv3 hr3 hb3
        go_wp2_with fail
        go_loopw [14] (fun i wr => ∃ k nd : Nat, 1 ≤ k ∧ i = .int .i64 (k : Int) ∧ k ≤ 61 ∧ (k ≤ nl ∨ k = 1) ∧ wr = w5.drewN nd) (fun i _ => 61 - (intOf i).toNat)
        case atStart => exact ⟨1, 0, by omega, rfl, by omega, .inr rfl, rfl⟩
        case round =>
          obtain ⟨k, nd, hk, rfl, hk61, hkn, rfl⟩ := hrel
          by_cases hlt : (k : Int) < (nl : Int)
          · have i1 := fun W => HR1.out.index Try.prog 31 3 Try.underlying31 (by kernel_rfl) k (by omega) W
            have i2 := fun W => HR1.out.index Try.prog 31 3 Try.underlying31 (by kernel_rfl) (k - 1) (by omega) W
            rw [show ((k - 1 : Nat) : Int) = (k : Int) - 1 by omega] at i2
            have d1 := HR1.out.cell k (by omega)
            have d2 := HR1.out.cell (k - 1) (by omega)
            have hup2 : L.getD (k - 1) 0 < L.getD k 0 := by
              have hp := List.pairwise_iff_getElem.1 HUP.out (k - 1) k (by rw [← HNL.out]; omega) (by rw [← HNL.out]; omega) (by omega)
              rw [List.getD_eq_getElem?_getD, List.getD_eq_getElem?_getD, List.getElem?_eq_getElem (by rw [← HNL.out]; omega), List.getElem?_eq_getElem (by rw [← HNL.out]; omega)]
              exact hp
            generalize L.getD (k - 1) 0 = z2 at *
            generalize L.getD k 0 = z1 at *
            generalize adr a1 k = p1 at *
            generalize adr a1 (k - 1) = p2 at *
            go_wp2_with fail
            go_quiet (fail)
            go_wp2_with fail
            go_roundw
            case rel => exact ⟨k + 1, nd + nq, by omega, by go_num, by omega, by omega, rfl⟩
            case measure => simp [intOf]; omega
          · have hq : ((nl : Int) == (nl : Int)) = true := by simp
            have hq2 : ((n : Int) == (n : Int)) = true := by simp
            go_wp2_with fail
            refine (known_calls _).mono ?_
            rintro e w6 ⟨rfl, hb6⟩
            have HA6 := Lib.hid ((HA5.out.drewN nd).next hb6)
            have HC6 := Lib.hid ((HC5.out.drewN nd).next hb6)
            have HS6 := Lib.hid ((HS5.out.next (pw_below_drewN (Below.refl _ _) nd)).next hb6)
            have HB6 := Lib.hid (bnext (pw_below_drewN HB5.out nd) hb6)
            rw [HV1.out, HV3.out] at *
            have SM := Lib.hid (same_yes _ _ _ _ L w6 HA6.out HC6.out)
            clear hb6
            go_wp2_with fail
            refine SM.out.mono ?_
            rintro e w7 ⟨rfl, n7, rfl⟩
            go_wp2_with fail
            refine (FL3.out _ _ (HS6.out.next (pw_below_drewN (Below.refl _ _) n7))).mono ?_
            rintro e w8 ⟨rfl, rfl⟩
            go_wp2_with fail
            refine (LN3.out _ _ (HS6.out.next (pw_below_drewN (Below.refl _ _) n7))).mono ?_
            rintro e w8 ⟨rfl, rfl⟩
            go_wp2
            go_ret
            exact ⟨rfl, pw_below_drewN HB6.out n7⟩
end Go.Proofs.Ytelodofjokmfjaa.Tele
