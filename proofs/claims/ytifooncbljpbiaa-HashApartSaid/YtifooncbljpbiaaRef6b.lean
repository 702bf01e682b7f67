/- The walks of the reference's way back of hash. No conditions. -/
import Derived.Test.YtifooncbljpbiaaRef6
import Derived.Test.YtifooncbljpbiaaPWhole
namespace Go.Proofs.Ytifooncbljpbiaa.Tele
open Go.RowKit

theorem whole_calls (X : U) (s : Nat) (hs : s = 27 ∨ s = 30 ∨ s = 31) (w : World) : Calls Try.prog 21 #[uv X, .int .i64 (s : Int)] w fun e w' => e = .returned (uv (undo X s)) ∧ w' = w := by
  have hz := Lib.hid (hiB_zero (undo X s))
  have ht := Lib.hid (hiB_top (undo X s))
  have hs1 : (27 : Int) ≤ (s : Int) ∧ (s : Int) ≤ 31 := by omega
  obtain ⟨hs2, hs3⟩ := hs1
  go_enter Try.func21, Try.ntmps21
  go_wp2
  go_loop [5, 6] (fun o i => ∃ v : Int, -1 ≤ v ∧ v ≤ 63 ∧ i = .int .i64 v ∧ o = uv (hiB (undo X s) (v + 1).toNat)) (fun _ i => (intOf i + 1).toNat)
  case atStart => exact ⟨63, by omega, by omega, rfl, by rw [show ((63 : Int) + 1).toNat = 64 from rfl, ht.out]; rfl⟩
  case round =>
    obtain ⟨v, hv1, hv2, rfl, rfl⟩ := hrel
    by_cases hv : 0 ≤ v
    · obtain ⟨n, rfl⟩ := Int.eq_ofNat_of_zero_le hv
      by_cases hlt : (n : Int) + (s : Int) < 64
      · have HW := Lib.hid (whole_int1 X s n (by omega) (by omega) (by omega) (by omega))
        go_wp2
        go_round
        case rel => exact ⟨(n : Int) - 1, by omega, by omega, rfl, by rw [HW.out, show ((n : Int) - 1 + 1).toNat = n from by omega]⟩
        case measure => (simp [intOf] <;> omega)
      · have HW := Lib.hid (whole_int2 X s n (by omega) (by omega) (by omega))
        go_wp2
        go_round
        case rel => exact ⟨(n : Int) - 1, by omega, by omega, rfl, by rw [HW.out, show ((n : Int) - 1 + 1).toNat = n from by omega]⟩
        case measure => (simp [intOf] <;> omega)
    · obtain rfl : v = -1 := by omega
      go_wp2
      go_ret
      exact ⟨by show Ending.returned (uv (hiB (undo X s) 0)) = _; rw [hz.out], rfl⟩
theorem one_calls (n : Nat) (w : World) : Calls Try.prog 23 #[.int .i64 (n : Int)] w fun e w' => e = .returned (.int .u64 (oneI n)) ∧ w' = w := by
  by_cases h : n = 0
  · subst h
    rw [show oneI 0 = 1 from rfl]
    go_enter Try.func23, Try.ntmps23
    go_wp2
    go_ret
    exact ⟨rfl, rfl⟩
  · have h2 : ((n : Int) == 0) = false := by rw [beq_eq_false_iff_ne]; omega
    rw [show oneI n = 0 from if_neg h]
    go_enter Try.func23, Try.ntmps23
    go_wp2
    go_ret
    exact ⟨rfl, rfl⟩
theorem refInverse_calls (n : U) (w : World) : Calls Try.prog 22 #[uv n] w fun e w' => e = .returned (uv (invK n 64)) ∧ w' = w := by
  go_enter Try.func22, Try.ntmps22
  go_wp2
  go_loop [3, 4] (fun o i => ∃ k : Nat, k ≤ 64 ∧ i = .int .i64 k ∧ o = uv (invK n k)) (fun _ i => 64 - (intOf i).toNat)
  case atStart => exact ⟨0, by omega, rfl, rfl⟩
  case round =>
    obtain ⟨k, hk, rfl, rfl⟩ := hrel
    by_cases hlt : k < 64
    · by_cases hc : (invK n k * n) >>> k &&& 1#64 = if k = 0 then 1#64 else 0#64
      · have ht := invK_test n k hc
        have hE := Lib.hid (show invK n (k + 1) = invK n k from if_pos hc)
        clear hc
        go_wp2_with fail
        refine (one_calls k _).mono ?_
        rintro e w1 ⟨rfl, rfl⟩
        go_wp2
        go_round
        case rel => exact ⟨k + 1, by omega, by go_num, by rw [hE.out]⟩
        case measure => (simp [intOf] <;> omega)
      · have ht := invK_test' n k hc
        have hE := Lib.hid (show invK n (k + 1) = invK n k ||| (1#64 <<< k) from if_neg hc)
        have hO := Lib.hid (invK_or (invK n k) k)
        clear hc
        go_wp2_with fail
        refine (one_calls k _).mono ?_
        rintro e w1 ⟨rfl, rfl⟩
        go_wp2
        go_round
        case rel => exact ⟨k + 1, by omega, by go_num, by rw [hE.out, hO.out]⟩
        case measure => (simp [intOf] <;> omega)
    · obtain rfl : k = 64 := by omega
      go_wp2
      go_ret
      exact ⟨rfl, rfl⟩
theorem refBack_walk (X A B C JA JB J1 J2 : U) (w : World) (h31 : ∀ w : World, Calls Try.prog 21 #[uv X, .int .i64 31] w fun e w' => e = .returned (uv A) ∧ w' = w)
    (h27 : ∀ w : World, Calls Try.prog 21 #[uv JA, .int .i64 27] w fun e w' => e = .returned (uv B) ∧ w' = w)
    (h30 : ∀ w : World, Calls Try.prog 21 #[uv JB, .int .i64 30] w fun e w' => e = .returned (uv C) ∧ w' = w)
    (i2 : ∀ w : World, Calls Try.prog 22 #[.int .u64 10723151780598845931] w fun e w' => e = .returned (uv J2) ∧ w' = w)
    (i1 : ∀ w : World, Calls Try.prog 22 #[.int .u64 13787848793156543929] w fun e w' => e = .returned (uv J1) ∧ w' = w)
    (m1 : Hid (IntKind.u64.wrap ((A.toNat : Int) * (J2.toNat : Int)) = (JA.toNat : Int))) (m2 : Hid (IntKind.u64.wrap ((B.toNat : Int) * (J1.toNat : Int)) = (JB.toNat : Int))) :
    Calls Try.prog 12 #[uv X] w fun e w' => e = .returned (uv C) ∧ w' = w := by
  have H30 := Lib.hid h30
  have H27 := Lib.hid h27
  have H31 := Lib.hid h31
  have I2 := Lib.hid i2
  have I1 := Lib.hid i1
  clear h30 h27 h31 i1 i2
  go_enter Try.func12, Try.ntmps12
  go_wp2_with fail
  refine (H31.out _).mono ?_
  rintro e w1 ⟨rfl, rfl⟩
  go_wp2_with fail
  refine (I2.out _).mono ?_
  rintro e w1 ⟨rfl, rfl⟩
  go_wp2_with fail
  rw [m1.out]
  refine (H27.out _).mono ?_
  rintro e w1 ⟨rfl, rfl⟩
  go_wp2_with fail
  refine (I1.out _).mono ?_
  rintro e w1 ⟨rfl, rfl⟩
  go_wp2_with fail
  rw [m2.out]
  refine (H30.out _).mono ?_
  rintro e w1 ⟨rfl, rfl⟩
  go_wp2
  go_ret
  exact ⟨rfl, rfl⟩
theorem refInverse_c1 (w : World) : Calls Try.prog 22 #[.int .u64 13787848793156543929] w fun e w' => e = .returned (uv I1) ∧ w' = w := by
  have h := refInverse_calls C1 w
  rw [invK_c1] at h
  exact h
theorem refInverse_c2 (w : World) : Calls Try.prog 22 #[.int .u64 10723151780598845931] w fun e w' => e = .returned (uv I2) ∧ w' = w := by
  have h := refInverse_calls C2 w
  rw [invK_c2] at h
  exact h
theorem refBack_calls (X : U) (w : World) : Calls Try.prog 12 #[uv X] w fun e w' => e = .returned (uv (back X)) ∧ w' = w :=
  refBack_walk X (undo X 31) (undo (undo X 31 * I2) 27) (back X) (undo X 31 * I2) (undo (undo X 31 * I2) 27 * I1) I1 I2 w (fun w => whole_calls X 31 (by omega) w) (fun w => whole_calls _ 27 (by omega) w) (fun w => whole_calls _ 30 (by omega) w) refInverse_c2 refInverse_c1 (Lib.hid (u_mul _ _)) (Lib.hid (u_mul _ _))
end Go.Proofs.Ytifooncbljpbiaa.Tele
