/- The walks of the reference's functions on rates. No conditions. -/
import Derived.Test.YtjpfamminemegaaRef5
import Derived.Test.YtjpfamminemegaaRate1
namespace Go.Proofs.Ytjpfamminemegaa.Tele
open Go.RowKit
set_option linter.unusedVariables false
set_option linter.unusedSimpArgs false

theorem refBy_calls (t c : Nat) (w : World) (hc : c < 18446744073709551616) : Calls Try.prog 13 #[.int .u64 (t : Int), .int .u64 (c : Int)] w fun e w' => e = .returned (.int .u64 (by_ t c : Int)) ∧ w' = w := by
  unfold by_
  by_cases h : c ≤ t
  · rw [if_pos h]
    go_enter Try.func13, Try.ntmps13
    go_wp2
    go_ret
    exact ⟨rfl, rfl⟩
  · rw [if_neg h]
    have ht := Lib.hid (fun w => refThr_less t c w (by omega) hc)
    generalize thr t c = v at *
    go_enter Try.func13, Try.ntmps13
    go_wp2_with fail
    refine (ht.out _).mono ?_
    rintro e w1 ⟨rfl, rfl⟩
    go_wp2
    go_ret
    exact ⟨rfl, rfl⟩
theorem refClamp_calls (t low high : Int) (w : World) : Calls Try.prog 15 #[.int .u64 t, .int .u64 low, .int .u64 high] w fun e w' => e = .returned (.int .u64 (min (max t low) high)) ∧ w' = w := by
  by_cases h1 : t < low
  · by_cases h2 : high < low
    · rw [show min (max t low) high = high by omega]
      go_enter Try.func15, Try.ntmps15
      go_wp2
      go_ret
      exact ⟨rfl, rfl⟩
    · rw [show min (max t low) high = low by omega]
      go_enter Try.func15, Try.ntmps15
      go_wp2
      go_ret
      exact ⟨rfl, rfl⟩
  · by_cases h2 : high < t
    · rw [show min (max t low) high = high by omega]
      go_enter Try.func15, Try.ntmps15
      go_wp2
      go_ret
      exact ⟨rfl, rfl⟩
    · rw [show min (max t low) high = t by omega]
      go_enter Try.func15, Try.ntmps15
      go_wp2
      go_ret
      exact ⟨rfl, rfl⟩
theorem refToward_err (a b n : Nat) (w : World) (h : 72057594037927936 ≤ max a b ∨ n = 0) : Calls Try.prog 10 #[.int .u64 (a : Int), .int .u64 (b : Int), .int .u64 (n : Int)] w fun e w' => e = .returned (.tuple #[.int .u64 0, .int .i64 1]) ∧ w' = w := by
  by_cases h1 : 72057594037927936 ≤ a
  · have h2 : (72057594037927936 : Int) ≤ (a : Int) := by omega
    clear h h1
    generalize (a : Int) = x at *
    generalize (b : Int) = y at *
    go_enter Try.func10, Try.ntmps10
    go_wp2
    go_ret2
    exact ⟨rfl, rfl⟩
  · by_cases h3 : 72057594037927936 ≤ b
    · have h2 : ¬ (72057594037927936 : Int) ≤ (a : Int) := by omega
      have h4 : (72057594037927936 : Int) ≤ (b : Int) := by omega
      clear h h1 h3
      generalize (a : Int) = x at *
      generalize (b : Int) = y at *
      go_enter Try.func10, Try.ntmps10
      go_wp2
      go_ret2
      exact ⟨rfl, rfl⟩
    · have h2 : ¬ (72057594037927936 : Int) ≤ (a : Int) := by omega
      have h4 : ¬ (72057594037927936 : Int) ≤ (b : Int) := by omega
      have h5 : n = 0 := by omega
      subst h5
      clear h h1 h3
      generalize (a : Int) = x at *
      generalize (b : Int) = y at *
      go_enter Try.func10, Try.ntmps10
      go_wp2
      go_ret2
      exact ⟨rfl, rfl⟩
theorem refToward_walk (x y n k j v c z : Int) (w : World) (h1 : ¬ (72057594037927936 : Int) ≤ x) (h2 : ¬ (72057594037927936 : Int) ≤ y) (h3 : (n == 0) = false) (hn : 0 ≤ n) (hn2 : n ≠ 0)
    (HA : Hid (∀ w, Calls Try.prog 21 #[.int .u64 x] w fun e w' => e = .returned (.int .u64 k) ∧ w' = w))
    (HB : Hid (∀ w, Calls Try.prog 21 #[.int .u64 y] w fun e w' => e = .returned (.int .u64 j) ∧ w' = w))
    (hk0 : 0 ≤ k) (hk1 : k ≤ 72057594037927936) (hj0 : 0 ≤ j) (hj1 : j ≤ 72057594037927936)
    (hd : 72057594037927936 / n = v) (hv0 : 0 ≤ v) (hv1 : v ≤ 72057594037927936) (hq : k / n = c) (hc0 : 0 ≤ c) (hc1 : c ≤ 72057594037927936)
    (hz : IntKind.u64.wrap (k * n) = z) (hz0 : k ≤ v → 0 ≤ z ∧ z ≤ 72057594037927936) :
    Calls Try.prog 10 #[.int .u64 x, .int .u64 y, .int .u64 n] w fun e w' => e = .returned (.tuple #[.int .u64 (72057594037927936 - min (max j (max c 1)) (if k ≤ v then z else 72057594037927936)), .int .i64 0]) ∧ w' = w := by
  by_cases hkv : k ≤ v
  · rw [if_pos hkv]
    obtain ⟨hz1, hz2⟩ := hz0 hkv
    clear hz0
    by_cases hc : c = 0
    · have hc' : (c == 0) = true := by simpa using hc
      by_cases t1 : j < 1
      · by_cases t2 : z < 1
        · rw [show min (max j (max c 1)) z = z by omega]
          subst hc
          go_enter Try.func10, Try.ntmps10
          go_wp2_with fail
          refine (HA.out _).mono ?_
          rintro e w1 ⟨rfl, rfl⟩
          go_wp2_with fail
          refine (HB.out _).mono ?_
          rintro e w1 ⟨rfl, rfl⟩
          go_wp2
          go_ret2
          exact ⟨rfl, rfl⟩
        · rw [show min (max j (max c 1)) z = 1 by omega]
          subst hc
          go_enter Try.func10, Try.ntmps10
          go_wp2_with fail
          refine (HA.out _).mono ?_
          rintro e w1 ⟨rfl, rfl⟩
          go_wp2_with fail
          refine (HB.out _).mono ?_
          rintro e w1 ⟨rfl, rfl⟩
          go_wp2
          go_ret2
          exact ⟨rfl, rfl⟩
      · by_cases t2 : z < j
        · rw [show min (max j (max c 1)) z = z by omega]
          subst hc
          go_enter Try.func10, Try.ntmps10
          go_wp2_with fail
          refine (HA.out _).mono ?_
          rintro e w1 ⟨rfl, rfl⟩
          go_wp2_with fail
          refine (HB.out _).mono ?_
          rintro e w1 ⟨rfl, rfl⟩
          go_wp2
          go_ret2
          exact ⟨rfl, rfl⟩
        · rw [show min (max j (max c 1)) z = j by omega]
          subst hc
          go_enter Try.func10, Try.ntmps10
          go_wp2_with fail
          refine (HA.out _).mono ?_
          rintro e w1 ⟨rfl, rfl⟩
          go_wp2_with fail
          refine (HB.out _).mono ?_
          rintro e w1 ⟨rfl, rfl⟩
          go_wp2
          go_ret2
          exact ⟨rfl, rfl⟩
    · have hc' : (c == 0) = false := by simpa using hc
      by_cases t1 : j < c
      · by_cases t2 : z < c
        · rw [show min (max j (max c 1)) z = z by omega]
          go_enter Try.func10, Try.ntmps10
          go_wp2_with fail
          refine (HA.out _).mono ?_
          rintro e w1 ⟨rfl, rfl⟩
          go_wp2_with fail
          refine (HB.out _).mono ?_
          rintro e w1 ⟨rfl, rfl⟩
          go_wp2
          go_ret2
          exact ⟨rfl, rfl⟩
        · rw [show min (max j (max c 1)) z = c by omega]
          go_enter Try.func10, Try.ntmps10
          go_wp2_with fail
          refine (HA.out _).mono ?_
          rintro e w1 ⟨rfl, rfl⟩
          go_wp2_with fail
          refine (HB.out _).mono ?_
          rintro e w1 ⟨rfl, rfl⟩
          go_wp2
          go_ret2
          exact ⟨rfl, rfl⟩
      · by_cases t2 : z < j
        · rw [show min (max j (max c 1)) z = z by omega]
          go_enter Try.func10, Try.ntmps10
          go_wp2_with fail
          refine (HA.out _).mono ?_
          rintro e w1 ⟨rfl, rfl⟩
          go_wp2_with fail
          refine (HB.out _).mono ?_
          rintro e w1 ⟨rfl, rfl⟩
          go_wp2
          go_ret2
          exact ⟨rfl, rfl⟩
        · rw [show min (max j (max c 1)) z = j by omega]
          go_enter Try.func10, Try.ntmps10
          go_wp2_with fail
          refine (HA.out _).mono ?_
          rintro e w1 ⟨rfl, rfl⟩
          go_wp2_with fail
          refine (HB.out _).mono ?_
          rintro e w1 ⟨rfl, rfl⟩
          go_wp2
          go_ret2
          exact ⟨rfl, rfl⟩
  · rw [if_neg hkv]
    clear hz0
    by_cases hc : c = 0
    · have hc' : (c == 0) = true := by simpa using hc
      by_cases t1 : j < 1
      · by_cases t2 : 72057594037927936 < 1
        · exact absurd t2 (by omega)
        · rw [show min (max j (max c 1)) 72057594037927936 = 1 by omega]
          subst hc
          go_enter Try.func10, Try.ntmps10
          go_wp2_with fail
          refine (HA.out _).mono ?_
          rintro e w1 ⟨rfl, rfl⟩
          go_wp2_with fail
          refine (HB.out _).mono ?_
          rintro e w1 ⟨rfl, rfl⟩
          go_wp2
          go_ret2
          exact ⟨rfl, rfl⟩
      · by_cases t2 : 72057594037927936 < j
        · exact absurd t2 (by omega)
        · rw [show min (max j (max c 1)) 72057594037927936 = j by omega]
          subst hc
          go_enter Try.func10, Try.ntmps10
          go_wp2_with fail
          refine (HA.out _).mono ?_
          rintro e w1 ⟨rfl, rfl⟩
          go_wp2_with fail
          refine (HB.out _).mono ?_
          rintro e w1 ⟨rfl, rfl⟩
          go_wp2
          go_ret2
          exact ⟨rfl, rfl⟩
    · have hc' : (c == 0) = false := by simpa using hc
      by_cases t1 : j < c
      · by_cases t2 : 72057594037927936 < c
        · exact absurd t2 (by omega)
        · rw [show min (max j (max c 1)) 72057594037927936 = c by omega]
          go_enter Try.func10, Try.ntmps10
          go_wp2_with fail
          refine (HA.out _).mono ?_
          rintro e w1 ⟨rfl, rfl⟩
          go_wp2_with fail
          refine (HB.out _).mono ?_
          rintro e w1 ⟨rfl, rfl⟩
          go_wp2
          go_ret2
          exact ⟨rfl, rfl⟩
      · by_cases t2 : 72057594037927936 < j
        · exact absurd t2 (by omega)
        · rw [show min (max j (max c 1)) 72057594037927936 = j by omega]
          go_enter Try.func10, Try.ntmps10
          go_wp2_with fail
          refine (HA.out _).mono ?_
          rintro e w1 ⟨rfl, rfl⟩
          go_wp2_with fail
          refine (HB.out _).mono ?_
          rintro e w1 ⟨rfl, rfl⟩
          go_wp2
          go_ret2
          exact ⟨rfl, rfl⟩
theorem refToward_ok (a b n : Nat) (w : World) (h1 : a < 72057594037927936) (h2 : b < 72057594037927936) (h3 : 1 ≤ n) (hn : n < 18446744073709551616) :
    Calls Try.prog 10 #[.int .u64 (a : Int), .int .u64 (b : Int), .int .u64 (n : Int)] w fun e w' => e = .returned (.tuple #[.int .u64 (toward a b n : Int), .int .i64 0]) ∧ w' = w := by
  have hq := Nat.div_le_self (72057594037927936 - a) n
  have hv := Nat.div_le_self 72057594037927936 n
  have hqe : ((72057594037927936 - a : Nat) : Int) / (n : Int) = (((72057594037927936 - a) / n : Nat) : Int) := (Int.natCast_ediv _ _).symm
  have hve : (72057594037927936 : Int) / (n : Int) = ((72057594037927936 / n : Nat) : Int) := (Int.natCast_ediv 72057594037927936 n).symm
  have hle : 72057594037927936 - a ≤ 72057594037927936 / n ↔ (72057594037927936 - a) * n ≤ 72057594037927936 := Nat.le_div_iff_mul_le (by omega)
  have h := refToward_walk (a : Int) (b : Int) (n : Int) ((72057594037927936 - a : Nat) : Int) ((72057594037927936 - b : Nat) : Int) _ _ (IntKind.u64.wrap (((72057594037927936 - a : Nat) : Int) * (n : Int))) w (by omega) (by omega) (by rw [beq_eq_false_iff_ne]; omega) (by omega) (by omega) (Lib.hid fun w => refKept_calls a w) (Lib.hid fun w => refKept_calls b w)
    (by omega) (by omega) (by omega) (by omega) hve (Int.natCast_nonneg _) (by omega) hqe (Int.natCast_nonneg _) (by omega) rfl (by
      intro hkv
      have hkv' := hle.mp (by omega)
      rw [← Int.natCast_mul]
      generalize (72057594037927936 - a) * n = p at *
      rw [IntKind.wrap_u64]
      omega)
  have e : (72057594037927936 : Int) - min (max ((72057594037927936 - b : Nat) : Int) (max (((72057594037927936 - a) / n : Nat) : Int) 1)) (if ((72057594037927936 - a : Nat) : Int) ≤ ((72057594037927936 / n : Nat) : Int) then IntKind.u64.wrap (((72057594037927936 - a : Nat) : Int) * (n : Int)) else 72057594037927936) = ((toward a b n : Nat) : Int) := by
    unfold toward
    rw [← Int.natCast_mul]
    generalize (72057594037927936 - a) * n = p at *
    generalize (72057594037927936 - a) / n = c at *
    generalize 72057594037927936 / n = v at *
    by_cases hkv : 72057594037927936 - a ≤ v
    · have hp := hle.mp hkv
      rw [if_pos (by omega), IntKind.wrap_u64]
      omega
    · have hp : ¬ p ≤ 72057594037927936 := fun hh => hkv (hle.mpr hh)
      rw [if_neg (by omega)]
      omega
  rw [e] at h
  exact h
end Go.Proofs.Ytjpfamminemegaa.Tele
