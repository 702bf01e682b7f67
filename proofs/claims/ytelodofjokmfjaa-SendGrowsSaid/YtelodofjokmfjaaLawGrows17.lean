/- The walk of the law SendGrows. No conditions. -/
import Derived.Test.YtelodofjokmfjaaKnown17
namespace Go.Proofs.Ytelodofjokmfjaa.Tele
open Go.RowKit
set_option linter.unusedVariables false
set_option linter.unusedSimpArgs false

theorem grows_walk (a b t d : Int) (base most n x y z v2 : Nat) (w : World) (ha0 : 0 ≤ a) (ha1 : a ≤ 255) (hb0 : 0 ≤ b) (hb1 : b ≤ 255) (ht0 : 0 ≤ t) (ht1 : t ≤ 255)
    (hbase : 1 + a = (base : Int)) (hmost : (base : Int) + b * 8 = (most : Int)) (hn : 1 + t % 20 = (n : Int) + 1) (hmin : min (2 * (x : Int)) (most : Int) = (y : Int))
    (D1 : Hid (∀ w, Calls Try.prog 9 #[.int .i64 (base : Int), .int .i64 (most : Int), .int .i64 ((n : Int) + 1), .int .u64 0] w fun e w' => e = .returned (.int .i64 (x : Int)) ∧ w' = w))
    (D2 : Hid (∀ w, Calls Try.prog 9 #[.int .i64 (base : Int), .int .i64 (most : Int), .int .i64 ((n : Int) + 1 + 1), .int .u64 0] w fun e w' => e = .returned (.int .i64 (y : Int)) ∧ w' = w))
    (D3 : Hid (∀ w, Calls Try.prog 9 #[.int .i64 (base : Int), .int .i64 (most : Int), .int .i64 ((n : Int) + 1), .int .u64 d] w fun e w' => e = .returned (.int .i64 (z : Int)) ∧ w' = w))
    (D4 : Hid (∀ w, Calls Try.prog 9 #[.int .i64 (base : Int), .int .i64 (most : Int), .int .i64 1, .int .u64 0] w fun e w' => e = .returned (.int .i64 (base : Int)) ∧ w' = w))
    (h1 : (base : Int) ≤ (x : Int)) (h2 : (x : Int) ≤ (most : Int)) (h3 : (x : Int) ≤ (z : Int)) (h4 : (z : Int) ≤ 2 * (x : Int)) :
    Calls Try.prog 3 #[.int .u8 a, .int .u8 b, .int .u8 t, .int .u64 d] w fun e w' => e = .returned (.bool true) ∧ Below w.heap.size w w' := by
  have hq : ((y : Int) == (y : Int)) = true := by simp
  have hq2 : ((base : Int) == (base : Int)) = true := by simp
  have g1 : decide (base ≤ x) = true := by rw [decide_eq_true_eq]; omega
  have g2 : decide (x ≤ most) = true := by rw [decide_eq_true_eq]; omega
  have g3 : decide (x ≤ z) = true := by rw [decide_eq_true_eq]; omega
  have hx : (x : Int) ≤ 100000 := by omega
  have hm : (most : Int) ≤ 100000 := by omega
  have hn2 : (n : Int) ≤ 100 := by omega
  go_enter Try.func3, Try.ntmps3
  go_wp2_with fail
  refine (D1.out _).mono ?_
  rintro e w1 ⟨rfl, rfl⟩
  go_wp2_with fail
  refine (D2.out _).mono ?_
  rintro e w1 ⟨rfl, rfl⟩
  go_wp2_with fail
  refine (D3.out _).mono ?_
  rintro e w1 ⟨rfl, rfl⟩
  go_wp2_with fail
  refine (known_calls _).mono ?_
  rintro e w2 ⟨rfl, hb⟩
  go_wp2_with fail
  refine (D4.out _).mono ?_
  rintro e w3 ⟨rfl, rfl⟩
  go_wp2
  go_ret
  exact ⟨rfl, hb⟩
theorem wait_succ (base most n : Nat) : min (2 * wait base most n) most = wait base most (n + 1) := by
  unfold wait
  rw [grown_min, grown_min, Nat.pow_succ, ← Nat.mul_assoc]
  generalize base * 2 ^ n = x
  omega
theorem base_wait (base most n : Nat) (h : base ≤ most) : base ≤ wait base most n := by
  unfold wait
  rw [grown_min]
  have : base * 1 ≤ base * 2 ^ n := Nat.mul_le_mul_left _ (Nat.pow_pos (by decide))
  omega
theorem dly_zero (base most n : Nat) : dly base most n 0 = wait base most n := by unfold dly; rw [Nat.zero_mod]; rfl
theorem sendGrows_walk (a b t d : Int) (w : World) (ha : (Lit.int .u8 a).wf = true) (hb : (Lit.int .u8 b).wf = true) (ht : (Lit.int .u8 t).wf = true) (hd : (Lit.int .u64 d).wf = true) :
    Calls Try.prog 3 #[.int .u8 a, .int .u8 b, .int .u8 t, .int .u64 d] w fun e w' => e = .returned (.bool true) ∧ Below w.heap.size w w' := by
  obtain ⟨an, rfl, ha1⟩ := nat8_of_wf ha
  obtain ⟨bn, rfl, hb1⟩ := nat8_of_wf hb
  obtain ⟨tn, rfl, ht1⟩ := nat8_of_wf ht
  obtain ⟨X, rfl⟩ := u_of_wf hd
  have hm : 1 + an + bn * 8 ≤ 1073741824 := by omega
  have D1 := fun w => delay_calls (1 + an) (1 + an + bn * 8) (tn % 20) 0 w (((tn % 20 : Nat) : Int) + 1) rfl (by omega) (by omega) hm (by omega) (by omega)
  have D2 := fun w => delay_calls (1 + an) (1 + an + bn * 8) (tn % 20 + 1) 0 w (((tn % 20 : Nat) : Int) + 1 + 1) (by omega) (by omega) (by omega) hm (by omega) (by omega)
  have D3 := fun w => delay_calls (1 + an) (1 + an + bn * 8) (tn % 20) X.toNat w (((tn % 20 : Nat) : Int) + 1) rfl (by omega) (by omega) hm (by omega) X.isLt
  have D4 := fun w => delay_calls (1 + an) (1 + an + bn * 8) 0 0 w 1 rfl (by omega) (by omega) hm (by omega) (by omega)
  rw [dly_zero] at D1 D2 D4
  rw [show wait (1 + an) (1 + an + bn * 8) 0 = 1 + an by show min (1 + an) _ = _; omega] at D4
  have k1 := dly_ge (1 + an) (1 + an + bn * 8) (tn % 20) X.toNat
  have k2 := dly_le (1 + an) (1 + an + bn * 8) (tn % 20) X.toNat
  have k3 := wait_le (1 + an) (1 + an + bn * 8) (tn % 20)
  have k4 := base_wait (1 + an) (1 + an + bn * 8) (tn % 20) (by omega)
  have k5 := wait_succ (1 + an) (1 + an + bn * 8) (tn % 20)
  exact grows_walk an bn tn X.toNat (1 + an) (1 + an + bn * 8) (tn % 20) _ _ _ 0 w (by omega) (by omega) (by omega) (by omega) (by omega) (by omega) (by omega) (by omega) (by omega) (by omega) (Lib.hid D1) (Lib.hid D2) (Lib.hid D3) (Lib.hid D4) (by omega) (by omega) (by omega) (by omega)
end Go.Proofs.Ytelodofjokmfjaa.Tele
