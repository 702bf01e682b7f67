/- The walk of math/bits.Div64. No conditions but that the quotient is one word. -/
import Derived.Test.YtjpfamminemegaaShelf
import Derived.Test.YtjpfamminemegaaPDiv
import Derived.Test.YtjpfamminemegaaBaseA
import Derived.Lib.Hide
namespace Go.Proofs.Ytjpfamminemegaa.Tele
open Go.RowKit
set_option linter.unusedVariables false
set_option linter.unusedSimpArgs false

theorem lz_calls (y s : Nat) (h : y < 18446744073709551616) (hs : Lib.bitLen y + s = 64) (w : World) :
    Calls Try.prog 44 #[.int .u64 (y : Int)] w fun e w' => e = .returned (.int .i64 (s : Int)) ∧ w' = w := by
  refine (Try.bits_LeadingZeros64 (y : Int) w (by omega) (by omega)).mono ?_
  rintro e w' ⟨rfl, rfl⟩
  refine ⟨?_, rfl⟩
  rw [show ((y : Int)).toNat = y from rfl, show (64 - (Lib.bitLen y : Int)) = (s : Int) by omega]
theorem out_eq (X Quo Rem : Int) (h : X = Quo) : Ending.returned (.tuple #[.int .u64 X, .int .u64 Rem]) = Ending.returned (.tuple #[.int .u64 Quo, .int .u64 Rem]) := by rw [h]
set_option maxHeartbeats 4000000 in
theorem div64_big (hi lo y s Y d1 d0 H L U V u1 u0 qs qd rs R q2 q2d r2 Q1 Q2 M Quo Rem : Nat) (w : World) (h1 : 1 ≤ hi) (hy : hi < y) (hyy : y < 18446744073709551616) (hlo : lo < 18446744073709551616)
    (lz : ∀ w, Calls Try.prog 44 #[.int .u64 (y : Int)] w fun e w' => e = .returned (.int .i64 (s : Int)) ∧ w' = w) (hs : s ≤ 63)
    (cY : IntKind.u64.wrap ((y : Int) * 2 ^ s) = (Y : Int)) (cd1 : (Y : Int) / 4294967296 = (d1 : Int)) (cd0 : bits .and .u64 (Y : Int) 4294967295 = (d0 : Int))
    (cH : IntKind.u64.wrap ((hi : Int) * 2 ^ s) = (H : Int)) (cL : (lo : Int) / 2 ^ (64 - s) = (L : Int)) (cU : bits .or .u64 (H : Int) (L : Int) = (U : Int))
    (cV : IntKind.u64.wrap ((lo : Int) * 2 ^ s) = (V : Int)) (cu1 : (V : Int) / 4294967296 = (u1 : Int)) (cu0 : bits .and .u64 (V : Int) 4294967295 = (u0 : Int))
    (b1 : 2147483648 ≤ d1) (b1' : d1 ≤ 4294967295) (b0 : d0 ≤ 4294967295) (bu1 : u1 ≤ 4294967295) (bu0 : u0 ≤ 4294967295) (eY : Hid (d1 * 4294967296 + d0 = Y))
    (cq : (U : Int) / (d1 : Int) = (qs : Int)) (cqd : IntKind.u64.wrap ((qs : Int) * (d1 : Int)) = (qd : Int)) (cr : IntKind.u64.wrap ((U : Int) - (qd : Int)) = (rs : Int)) (br : rs ≤ 4294967295) (bq : qs ≤ 18446744073709551615)
    (hU1 : Hid (U < d1 * 4294967296 + d0)) (hU2 : Hid (R < d1 * 4294967296 + d0)) (E1 : Hid (Est U d1 d0 u1 qs rs)) (E2 : Hid (Est R d1 d0 u0 q2 r2))
    (cQ1 : Hid (Q1 = (U * 4294967296 + u1) / Y)) (cQ2 : Hid (Q2 = (R * 4294967296 + u0) / Y)) (bQ1 : Hid (Q1 ≤ 4294967295)) (bQ2 : Hid (Q2 ≤ 4294967295))
    (cR : Hid (∀ x : Int, x = (((U * 4294967296 + u1) / Y : Nat) : Int) → IntKind.u64.wrap (IntKind.u64.wrap (IntKind.u64.wrap ((U : Int) * 4294967296) + (u1 : Int)) - IntKind.u64.wrap (x * (Y : Int))) = (R : Int)))
    (cq2 : (R : Int) / (d1 : Int) = (q2 : Int)) (cqd2 : IntKind.u64.wrap ((q2 : Int) * (d1 : Int)) = (q2d : Int)) (cr2 : IntKind.u64.wrap ((R : Int) - (q2d : Int)) = (r2 : Int)) (br2 : r2 ≤ 4294967295) (bq2 : q2 ≤ 18446744073709551615)
    (cM : Hid (∀ x : Int, x = (((R * 4294967296 + u0) / Y : Nat) : Int) → IntKind.u64.wrap (IntKind.u64.wrap (IntKind.u64.wrap ((R : Int) * 4294967296) + (u0 : Int)) - IntKind.u64.wrap (x * (Y : Int))) = (M : Int))) (cMM : (M : Int) / 2 ^ s = (Rem : Int))
    (cQ : Hid (Quo = Q1 * 4294967296 + Q2)) :
    Calls Try.prog 33 #[.int .u64 (hi : Int), .int .u64 (lo : Int), .int .u64 (y : Int)] w fun e w' => e = .returned (.tuple #[.int .u64 (Quo : Int), .int .u64 (Rem : Int)]) ∧ w' = w := by
  have hx : decide ((y : Nat) ≤ hi) = false := by rw [decide_eq_false_iff_not]; omega
  have hx0 : ((y : Int) == 0) = false := by rw [beq_eq_false_iff_ne]; omega
  have hx1 : ((hi : Int) == 0) = false := by rw [beq_eq_false_iff_ne]; omega
  have hx2 : ((d1 : Int) == 0) = false := by rw [beq_eq_false_iff_ne]; omega
  go_enter Try.func33, Try.ntmps33
  go_wp2_with fail
  refine (lz _).mono ?_
  rintro e w_ ⟨rfl, rfl⟩
  go_wp2_with fail
  clear cY cd1 cd0 cH cL cU cV cu1 cu0 cq cqd cr lz hx hx0 hx1
  go_loopw [15, 16] (fun q r wr => ∃ (qa rb : Int) (a b : Nat), q = .int .u64 qa ∧ r = .int .u64 rb ∧ Hid (qa = a ∧ rb = b ∧ Est U d1 d0 u1 a b) ∧ 0 ≤ rb ∧ rb ≤ 4294967295 ∧ 0 ≤ qa ∧ qa ≤ 18446744073709551615 ∧ wr = w_) (fun q _ _ => (intOf q).toNat)
  case atStart => exact ⟨_, _, _, _, rfl, rfl, Lib.hid ⟨rfl, rfl, E1.out⟩, by omega, by omega, by omega, by omega, rfl⟩
  case round =>
    obtain ⟨qa, rb, a, b, rfl, rfl, HE1, hb01, hb11, ha01, ha11, rfl⟩ := hrel
    by_cases hq1 : 4294967296 ≤ qa
    · have hA1 := est_again HE1.out (by omega) (by omega) hU1.out (.inl hq1)
      have HA := Lib.hid hA1
      have h11 : 1 ≤ qa := by
        have e1 := HA.out.1
        have e2 := HA.out.2.1
        omega
      clear hA1
      by_cases hr1 : 4294967296 ≤ rb + (d1 : Int)
      · have hx1 := est_break HE1.out (by omega) (by omega) (by omega) hU1.out (.inl hq1) hr1
        rw [eY.out] at hx1
        have hm1 := cR.out (qa - 1) hx1
        have HX1 := Lib.hid hx1
        clear hx1
        go_wp2_with fail
        go_loopw [18, 16] (fun q r wz => ∃ (qa rb : Int) (a b : Nat), q = .int .u64 qa ∧ r = .int .u64 rb ∧ Hid (qa = a ∧ rb = b ∧ Est R d1 d0 u0 a b) ∧ 0 ≤ rb ∧ rb ≤ 4294967295 ∧ 0 ≤ qa ∧ qa ≤ 18446744073709551615 ∧ wz = wr) (fun q _ _ => (intOf q).toNat)
        case atStart => exact ⟨_, _, _, _, rfl, rfl, Lib.hid ⟨rfl, rfl, E2.out⟩, by omega, by omega, by omega, by omega, rfl⟩
        case round =>
          obtain ⟨qc, rd, c, d, rfl, rfl, HE2, hb02, hb12, ha02, ha12, rfl⟩ := hrel
          by_cases hq2 : 4294967296 ≤ qc
          · have hA2 := est_again HE2.out (by omega) (by omega) hU2.out (.inl hq2)
            have HA := Lib.hid hA2
            have h12 : 1 ≤ qc := by
              have e1 := HA.out.1
              have e2 := HA.out.2.1
              omega
            clear hA2
            by_cases hr2 : 4294967296 ≤ rd + (d1 : Int)
            · have hx2 := est_break HE2.out (by omega) (by omega) (by omega) hU2.out (.inl hq2) hr2
              rw [eY.out] at hx2
              have hm2 := cM.out (qc - 1) hx2
              have HX2 := Lib.hid hx2
              clear hx2
              go_wp2_with fail
              go_ret2
              refine ⟨out_eq _ _ _ ?_, rfl⟩
              have e1 := HX1.out
              have e2 := HX2.out
              have hb1 := bQ1.out
              have hb2 := bQ2.out
              rw [← cQ1.out] at e1
              rw [← cQ2.out] at e2
              rw [cQ.out]
              try simp only [IntKind.wrap_u64]
              omega
            · go_wp2_with fail
              go_roundw
              case rel => exact ⟨_, _, c - 1, d + d1, rfl, rfl, Lib.hid ⟨HA.out.2.1, HA.out.2.2.1, HA.out.2.2.2⟩, by omega, by omega, by omega, by omega, by trivial⟩
              case measure => simp [intOf]; omega
          · obtain ⟨p2, hp2, hpw2, hp02, hp12⟩ := prod_wrap qc d0 ha02 (by omega) (by omega)
            have HP2 := Lib.hid hp2
            clear hp2
            by_cases ht2 : 4294967296 * rd + (u0 : Int) < p2
            · have hA2 := est_again HE2.out (by omega) (by omega) hU2.out (.inr (by rw [HP2.out]; exact ht2))
              have HA := Lib.hid hA2
              have h12 : 1 ≤ qc := by
                have e1 := HA.out.1
                have e2 := HA.out.2.1
                omega
              clear hA2
              by_cases hr2 : 4294967296 ≤ rd + (d1 : Int)
              · have hx2 := est_break HE2.out (by omega) (by omega) (by omega) hU2.out (.inr (by rw [HP2.out]; exact ht2)) hr2
                rw [eY.out] at hx2
                have hm2 := cM.out (qc - 1) hx2
                have HX2 := Lib.hid hx2
                clear hx2
                go_wp2_with fail
                go_ret2
                refine ⟨out_eq _ _ _ ?_, rfl⟩
                have e1 := HX1.out
                have e2 := HX2.out
                have hb1 := bQ1.out
                have hb2 := bQ2.out
                rw [← cQ1.out] at e1
                rw [← cQ2.out] at e2
                rw [cQ.out]
                try simp only [IntKind.wrap_u64]
                omega
              · go_wp2_with fail
                go_roundw
                case rel => exact ⟨_, _, c - 1, d + d1, rfl, rfl, Lib.hid ⟨HA.out.2.1, HA.out.2.2.1, HA.out.2.2.2⟩, by omega, by omega, by omega, by omega, by trivial⟩
                case measure => simp [intOf]; omega
            · have hx2 := est_stop HE2.out (by omega) (by rw [HP2.out]; exact ht2)
              rw [eY.out] at hx2
              have hm2 := cM.out qc hx2
              have HX2 := Lib.hid hx2
              clear hx2
              go_wp2_with fail
              go_ret2
              refine ⟨out_eq _ _ _ ?_, rfl⟩
              have e1 := HX1.out
              have e2 := HX2.out
              have hb1 := bQ1.out
              have hb2 := bQ2.out
              rw [← cQ1.out] at e1
              rw [← cQ2.out] at e2
              rw [cQ.out]
              try simp only [IntKind.wrap_u64]
              omega
      · go_wp2_with fail
        go_roundw
        case rel => exact ⟨_, _, a - 1, b + d1, rfl, rfl, Lib.hid ⟨HA.out.2.1, HA.out.2.2.1, HA.out.2.2.2⟩, by omega, by omega, by omega, by omega, by trivial⟩
        case measure => simp [intOf]; omega
    · obtain ⟨p1, hp1, hpw1, hp01, hp11⟩ := prod_wrap qa d0 ha01 (by omega) (by omega)
      have HP1 := Lib.hid hp1
      clear hp1
      by_cases ht1 : 4294967296 * rb + (u1 : Int) < p1
      · have hA1 := est_again HE1.out (by omega) (by omega) hU1.out (.inr (by rw [HP1.out]; exact ht1))
        have HA := Lib.hid hA1
        have h11 : 1 ≤ qa := by
          have e1 := HA.out.1
          have e2 := HA.out.2.1
          omega
        clear hA1
        by_cases hr1 : 4294967296 ≤ rb + (d1 : Int)
        · have hx1 := est_break HE1.out (by omega) (by omega) (by omega) hU1.out (.inr (by rw [HP1.out]; exact ht1)) hr1
          rw [eY.out] at hx1
          have hm1 := cR.out (qa - 1) hx1
          have HX1 := Lib.hid hx1
          clear hx1
          go_wp2_with fail
          go_loopw [18, 16] (fun q r wz => ∃ (qa rb : Int) (a b : Nat), q = .int .u64 qa ∧ r = .int .u64 rb ∧ Hid (qa = a ∧ rb = b ∧ Est R d1 d0 u0 a b) ∧ 0 ≤ rb ∧ rb ≤ 4294967295 ∧ 0 ≤ qa ∧ qa ≤ 18446744073709551615 ∧ wz = wr) (fun q _ _ => (intOf q).toNat)
          case atStart => exact ⟨_, _, _, _, rfl, rfl, Lib.hid ⟨rfl, rfl, E2.out⟩, by omega, by omega, by omega, by omega, rfl⟩
          case round =>
            obtain ⟨qc, rd, c, d, rfl, rfl, HE2, hb02, hb12, ha02, ha12, rfl⟩ := hrel
            by_cases hq2 : 4294967296 ≤ qc
            · have hA2 := est_again HE2.out (by omega) (by omega) hU2.out (.inl hq2)
              have HA := Lib.hid hA2
              have h12 : 1 ≤ qc := by
                have e1 := HA.out.1
                have e2 := HA.out.2.1
                omega
              clear hA2
              by_cases hr2 : 4294967296 ≤ rd + (d1 : Int)
              · have hx2 := est_break HE2.out (by omega) (by omega) (by omega) hU2.out (.inl hq2) hr2
                rw [eY.out] at hx2
                have hm2 := cM.out (qc - 1) hx2
                have HX2 := Lib.hid hx2
                clear hx2
                go_wp2_with fail
                go_ret2
                refine ⟨out_eq _ _ _ ?_, rfl⟩
                have e1 := HX1.out
                have e2 := HX2.out
                have hb1 := bQ1.out
                have hb2 := bQ2.out
                rw [← cQ1.out] at e1
                rw [← cQ2.out] at e2
                rw [cQ.out]
                try simp only [IntKind.wrap_u64]
                omega
              · go_wp2_with fail
                go_roundw
                case rel => exact ⟨_, _, c - 1, d + d1, rfl, rfl, Lib.hid ⟨HA.out.2.1, HA.out.2.2.1, HA.out.2.2.2⟩, by omega, by omega, by omega, by omega, by trivial⟩
                case measure => simp [intOf]; omega
            · obtain ⟨p2, hp2, hpw2, hp02, hp12⟩ := prod_wrap qc d0 ha02 (by omega) (by omega)
              have HP2 := Lib.hid hp2
              clear hp2
              by_cases ht2 : 4294967296 * rd + (u0 : Int) < p2
              · have hA2 := est_again HE2.out (by omega) (by omega) hU2.out (.inr (by rw [HP2.out]; exact ht2))
                have HA := Lib.hid hA2
                have h12 : 1 ≤ qc := by
                  have e1 := HA.out.1
                  have e2 := HA.out.2.1
                  omega
                clear hA2
                by_cases hr2 : 4294967296 ≤ rd + (d1 : Int)
                · have hx2 := est_break HE2.out (by omega) (by omega) (by omega) hU2.out (.inr (by rw [HP2.out]; exact ht2)) hr2
                  rw [eY.out] at hx2
                  have hm2 := cM.out (qc - 1) hx2
                  have HX2 := Lib.hid hx2
                  clear hx2
                  go_wp2_with fail
                  go_ret2
                  refine ⟨out_eq _ _ _ ?_, rfl⟩
                  have e1 := HX1.out
                  have e2 := HX2.out
                  have hb1 := bQ1.out
                  have hb2 := bQ2.out
                  rw [← cQ1.out] at e1
                  rw [← cQ2.out] at e2
                  rw [cQ.out]
                  try simp only [IntKind.wrap_u64]
                  omega
                · go_wp2_with fail
                  go_roundw
                  case rel => exact ⟨_, _, c - 1, d + d1, rfl, rfl, Lib.hid ⟨HA.out.2.1, HA.out.2.2.1, HA.out.2.2.2⟩, by omega, by omega, by omega, by omega, by trivial⟩
                  case measure => simp [intOf]; omega
              · have hx2 := est_stop HE2.out (by omega) (by rw [HP2.out]; exact ht2)
                rw [eY.out] at hx2
                have hm2 := cM.out qc hx2
                have HX2 := Lib.hid hx2
                clear hx2
                go_wp2_with fail
                go_ret2
                refine ⟨out_eq _ _ _ ?_, rfl⟩
                have e1 := HX1.out
                have e2 := HX2.out
                have hb1 := bQ1.out
                have hb2 := bQ2.out
                rw [← cQ1.out] at e1
                rw [← cQ2.out] at e2
                rw [cQ.out]
                try simp only [IntKind.wrap_u64]
                omega
        · go_wp2_with fail
          go_roundw
          case rel => exact ⟨_, _, a - 1, b + d1, rfl, rfl, Lib.hid ⟨HA.out.2.1, HA.out.2.2.1, HA.out.2.2.2⟩, by omega, by omega, by omega, by omega, by trivial⟩
          case measure => simp [intOf]; omega
      · have hx1 := est_stop HE1.out (by omega) (by rw [HP1.out]; exact ht1)
        rw [eY.out] at hx1
        have hm1 := cR.out qa hx1
        have HX1 := Lib.hid hx1
        clear hx1
        go_wp2_with fail
        go_loopw [18, 16] (fun q r wz => ∃ (qa rb : Int) (a b : Nat), q = .int .u64 qa ∧ r = .int .u64 rb ∧ Hid (qa = a ∧ rb = b ∧ Est R d1 d0 u0 a b) ∧ 0 ≤ rb ∧ rb ≤ 4294967295 ∧ 0 ≤ qa ∧ qa ≤ 18446744073709551615 ∧ wz = wr) (fun q _ _ => (intOf q).toNat)
        case atStart => exact ⟨_, _, _, _, rfl, rfl, Lib.hid ⟨rfl, rfl, E2.out⟩, by omega, by omega, by omega, by omega, rfl⟩
        case round =>
          obtain ⟨qc, rd, c, d, rfl, rfl, HE2, hb02, hb12, ha02, ha12, rfl⟩ := hrel
          by_cases hq2 : 4294967296 ≤ qc
          · have hA2 := est_again HE2.out (by omega) (by omega) hU2.out (.inl hq2)
            have HA := Lib.hid hA2
            have h12 : 1 ≤ qc := by
              have e1 := HA.out.1
              have e2 := HA.out.2.1
              omega
            clear hA2
            by_cases hr2 : 4294967296 ≤ rd + (d1 : Int)
            · have hx2 := est_break HE2.out (by omega) (by omega) (by omega) hU2.out (.inl hq2) hr2
              rw [eY.out] at hx2
              have hm2 := cM.out (qc - 1) hx2
              have HX2 := Lib.hid hx2
              clear hx2
              go_wp2_with fail
              go_ret2
              refine ⟨out_eq _ _ _ ?_, rfl⟩
              have e1 := HX1.out
              have e2 := HX2.out
              have hb1 := bQ1.out
              have hb2 := bQ2.out
              rw [← cQ1.out] at e1
              rw [← cQ2.out] at e2
              rw [cQ.out]
              try simp only [IntKind.wrap_u64]
              omega
            · go_wp2_with fail
              go_roundw
              case rel => exact ⟨_, _, c - 1, d + d1, rfl, rfl, Lib.hid ⟨HA.out.2.1, HA.out.2.2.1, HA.out.2.2.2⟩, by omega, by omega, by omega, by omega, by trivial⟩
              case measure => simp [intOf]; omega
          · obtain ⟨p2, hp2, hpw2, hp02, hp12⟩ := prod_wrap qc d0 ha02 (by omega) (by omega)
            have HP2 := Lib.hid hp2
            clear hp2
            by_cases ht2 : 4294967296 * rd + (u0 : Int) < p2
            · have hA2 := est_again HE2.out (by omega) (by omega) hU2.out (.inr (by rw [HP2.out]; exact ht2))
              have HA := Lib.hid hA2
              have h12 : 1 ≤ qc := by
                have e1 := HA.out.1
                have e2 := HA.out.2.1
                omega
              clear hA2
              by_cases hr2 : 4294967296 ≤ rd + (d1 : Int)
              · have hx2 := est_break HE2.out (by omega) (by omega) (by omega) hU2.out (.inr (by rw [HP2.out]; exact ht2)) hr2
                rw [eY.out] at hx2
                have hm2 := cM.out (qc - 1) hx2
                have HX2 := Lib.hid hx2
                clear hx2
                go_wp2_with fail
                go_ret2
                refine ⟨out_eq _ _ _ ?_, rfl⟩
                have e1 := HX1.out
                have e2 := HX2.out
                have hb1 := bQ1.out
                have hb2 := bQ2.out
                rw [← cQ1.out] at e1
                rw [← cQ2.out] at e2
                rw [cQ.out]
                try simp only [IntKind.wrap_u64]
                omega
              · go_wp2_with fail
                go_roundw
                case rel => exact ⟨_, _, c - 1, d + d1, rfl, rfl, Lib.hid ⟨HA.out.2.1, HA.out.2.2.1, HA.out.2.2.2⟩, by omega, by omega, by omega, by omega, by trivial⟩
                case measure => simp [intOf]; omega
            · have hx2 := est_stop HE2.out (by omega) (by rw [HP2.out]; exact ht2)
              rw [eY.out] at hx2
              have hm2 := cM.out qc hx2
              have HX2 := Lib.hid hx2
              clear hx2
              go_wp2_with fail
              go_ret2
              refine ⟨out_eq _ _ _ ?_, rfl⟩
              have e1 := HX1.out
              have e2 := HX2.out
              have hb1 := bQ1.out
              have hb2 := bQ2.out
              rw [← cQ1.out] at e1
              rw [← cQ2.out] at e2
              rw [cQ.out]
              try simp only [IntKind.wrap_u64]
              omega
theorem wrapN (a : Nat) (h : a < 18446744073709551616) : IntKind.u64.wrap (a : Int) = (a : Int) := by rw [IntKind.wrap_u64]; omega
theorem wrapM (a : Nat) : IntKind.u64.wrap (a : Int) = ((a % 18446744073709551616 : Nat) : Int) := by rw [IntKind.wrap_u64]; omega
theorem castPow (s : Nat) : ((2 : Int) ^ s) = ((2 ^ s : Nat) : Int) := by rw [Int.natCast_pow]; rfl
theorem maskN (a : Nat) (ha : a < 18446744073709551616) : bits .and .u64 (a : Int) 4294967295 = ((a % 4294967296 : Nat) : Int) := by
  have h := bits_and_u64_nat a 4294967295 ha (by omega)
  have e : a &&& 4294967295 = a % 4294967296 := Nat.and_two_pow_sub_one_eq_mod a 32
  rw [e] at h
  exact h
theorem subprod (U d1 : Nat) (h1 : U < 18446744073709551616) : IntKind.u64.wrap ((U : Int) - ((U / d1 * d1 : Nat) : Int)) = ((U % d1 : Nat) : Int) := by
  have h := Nat.div_add_mod' U d1
  generalize U / d1 * d1 = p at h ⊢
  rw [IntKind.wrap_u64]
  omega
theorem div64_calls (hi lo y : Nat) (w : World) (h1 : 1 ≤ hi) (hy : hi < y) (hyy : y < 18446744073709551616) (hlo : lo < 18446744073709551616) :
    Calls Try.prog 33 #[.int .u64 (hi : Int), .int .u64 (lo : Int), .int .u64 (y : Int)] w fun e w' => e = .returned (.tuple #[.int .u64 (((hi * 18446744073709551616 + lo) / y : Nat) : Int), .int .u64 (((hi * 18446744073709551616 + lo) % y : Nat) : Int)]) ∧ w' = w := by
  obtain ⟨s, hs, hbl, hY1, hY2⟩ := lead y (by omega) hyy
  have hp : 0 < 2 ^ s := Nat.pow_pos (by decide)
  obtain ⟨Y, eYv⟩ : ∃ Y, Y = y * 2 ^ s := ⟨_, rfl⟩
  obtain ⟨V, eV⟩ : ∃ V, V = lo * 2 ^ s % 18446744073709551616 := ⟨_, rfl⟩
  obtain ⟨L, eL⟩ : ∃ L, L = lo / 2 ^ (64 - s) := ⟨_, rfl⟩
  obtain ⟨H, eH⟩ : ∃ H, H = hi * 2 ^ s := ⟨_, rfl⟩
  have hU := top_lt hi lo y s hs hlo hy
  have hor := or_add hi L s (by rw [eL]; exact low_part lo s hs hlo)
  have hdv := div_two hi lo y s (H + L) (V / 4294967296) (V % 4294967296) hs (by rw [eH, eL]) (by rw [eV]; omega) (by omega)
  have hmd := mod_two hi lo y s (H + L) (V / 4294967296) (V % 4294967296) hs (by rw [eH, eL]) (by rw [eV]; omega)
  rw [← eYv] at hY1 hY2 hU hdv hmd
  rw [← eH] at hor hU
  rw [← eL] at hU
  have hV : V < 18446744073709551616 := by rw [eV]; exact Nat.mod_lt _ (by decide)
  obtain ⟨U, eU⟩ : ∃ U, U = H + L := ⟨_, rfl⟩
  rw [← eU] at hor hU hdv hmd
  have eYd : Y / 4294967296 * 4294967296 + Y % 4294967296 = Y := by omega
  have E1 := est_start U (Y / 4294967296) (Y % 4294967296) (V / 4294967296) (by omega) (by omega)
  have E2 := est_start ((U * 4294967296 + V / 4294967296) % Y) (Y / 4294967296) (Y % 4294967296) (V % 4294967296) (by omega) (by omega)
  have hR : (U * 4294967296 + V / 4294967296) % Y < Y := Nat.mod_lt _ (by omega)
  have l1 := est_lt U (Y / 4294967296) (Y % 4294967296) (V / 4294967296) (by omega) (by omega)
  have l2 := est_lt ((U * 4294967296 + V / 4294967296) % Y) (Y / 4294967296) (Y % 4294967296) (V % 4294967296) (by omega) (by omega)
  rw [eYd] at l1 l2
  have m1 := Nat.mod_lt U (show 0 < Y / 4294967296 by omega)
  have m2 := Nat.mod_lt ((U * 4294967296 + V / 4294967296) % Y) (show 0 < Y / 4294967296 by omega)
  have d1 := Nat.div_le_self U (Y / 4294967296)
  have d2 := Nat.div_le_self ((U * 4294967296 + V / 4294967296) % Y) (Y / 4294967296)
  have p1 := Nat.div_mul_le_self U (Y / 4294967296)
  have p2 := Nat.div_mul_le_self ((U * 4294967296 + V / 4294967296) % Y) (Y / 4294967296)
  rw [hdv, ← hmd]
  refine div64_big hi lo y s Y (Y / 4294967296) (Y % 4294967296) H L U V (V / 4294967296) (V % 4294967296) (U / (Y / 4294967296)) (U / (Y / 4294967296) * (Y / 4294967296)) (U % (Y / 4294967296))
    ((U * 4294967296 + V / 4294967296) % Y) ((U * 4294967296 + V / 4294967296) % Y / (Y / 4294967296)) ((U * 4294967296 + V / 4294967296) % Y / (Y / 4294967296) * (Y / 4294967296)) ((U * 4294967296 + V / 4294967296) % Y % (Y / 4294967296))
    ((U * 4294967296 + V / 4294967296) / Y) (((U * 4294967296 + V / 4294967296) % Y * 4294967296 + V % 4294967296) / Y) (((U * 4294967296 + V / 4294967296) % Y * 4294967296 + V % 4294967296) % Y) _ _ w h1 hy hyy hlo (lz_calls y s hyy hbl) hs
    ?_ ?_ ?_ ?_ ?_ ?_ ?_ ?_ ?_ (by omega) (by omega) (by omega) (by omega) (by omega) eYd ?_ ?_ ?_ (by omega) (by omega) (by rw [eYd]; exact hU) (by rw [eYd]; exact hR) E1 E2 rfl rfl (Nat.le_sub_one_of_lt l1) (Nat.le_sub_one_of_lt l2) ?_ ?_ ?_ ?_ (by omega) (by omega) ?_ ?_ rfl
  · rw [castPow, ← Int.natCast_mul, ← eYv]; exact wrapN _ hY2
  · exact (Int.natCast_ediv _ _).symm
  · exact maskN _ hY2
  · rw [castPow, ← Int.natCast_mul, ← eH]; exact wrapN _ (by omega)
  · rw [castPow, eL]; exact (Int.natCast_ediv _ _).symm
  · rw [bits_or_u64_nat H L (by omega) (by omega), hor]
  · rw [castPow, ← Int.natCast_mul, eV]; exact wrapM _
  · exact (Int.natCast_ediv _ _).symm
  · exact maskN _ hV
  · exact (Int.natCast_ediv _ _).symm
  · rw [← Int.natCast_mul]; exact wrapN _ (by omega)
  · exact subprod U _ (by omega)
  · intro x hx
    exact left_wrap U _ Y x hx (by omega) hY2
  · exact (Int.natCast_ediv _ _).symm
  · rw [← Int.natCast_mul]; exact wrapN _ (by omega)
  · exact subprod _ _ (by omega)
  · intro x hx
    exact left_wrap _ _ Y x hx (by omega) hY2
  · rw [castPow]; exact (Int.natCast_ediv _ _).symm

end Go.Proofs.Ytjpfamminemegaa.Tele
