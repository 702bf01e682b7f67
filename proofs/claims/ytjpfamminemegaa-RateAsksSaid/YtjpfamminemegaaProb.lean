/- The walks of package prob's thresholds. No conditions. -/
import Derived.Test.YtjpfamminemegaaDiv
namespace Go.Proofs.Ytjpfamminemegaa.Tele
open Go.RowKit
set_option linter.unusedVariables false
set_option linter.unusedSimpArgs false

theorem drew0 (w : World) : w.drewN 0 = w := rfl
theorem out_eq2 (X Y A B : Int) (h : X = A) (k : Y = B) : Ending.returned (.tuple #[.int .u64 X, .int .u64 Y]) = Ending.returned (.tuple #[.int .u64 A, .int .u64 B]) := by rw [h, k]
theorem div64_low (lo y : Nat) (w : World) (h1 : 1 ≤ y) (hyy : y < 18446744073709551616) (hlo : lo < 18446744073709551616) :
    Calls Try.prog 33 #[.int .u64 0, .int .u64 (lo : Int), .int .u64 (y : Int)] w fun e w' => e = .returned (.tuple #[.int .u64 ((lo / y : Nat) : Int), .int .u64 ((lo % y : Nat) : Int)]) ∧ ∃ n, w' = w.drewN n := by
  have hx : decide ((y : Nat) ≤ 0) = false := by rw [decide_eq_false_iff_not]; omega
  have hx0 : ((y : Int) == 0) = false := by rw [beq_eq_false_iff_ne]; omega
  have hq : (lo : Int) / (y : Int) = ((lo / y : Nat) : Int) := (Int.natCast_ediv _ _).symm
  have hr : (lo : Int) % (y : Int) = ((lo % y : Nat) : Int) := (Int.natCast_emod _ _).symm
  have b1 := Nat.div_le_self lo y
  have b2 := Nat.mod_le lo y
  generalize lo / y = q at *
  generalize lo % y = r at *
  go_enter Try.func33, Try.ntmps33
  go_wp2_with fail
  go_quiet (fail)
  go_wp2
  go_ret2
  exact ⟨out_eq2 _ _ _ _ rfl hr, nq, rfl⟩
/-- Div64, whatever the upper word is. -/
theorem div64_any (hi lo y N : Nat) (w : World) (hN : hi * 18446744073709551616 + lo = N) (hy : hi < y) (hyy : y < 18446744073709551616) (hlo : lo < 18446744073709551616) :
    Calls Try.prog 33 #[.int .u64 (hi : Int), .int .u64 (lo : Int), .int .u64 (y : Int)] w fun e w' => e = .returned (.tuple #[.int .u64 ((N / y : Nat) : Int), .int .u64 ((N % y : Nat) : Int)]) ∧ ∃ n, w' = w.drewN n := by
  subst hN
  by_cases h : hi = 0
  · subst h
    rw [Nat.zero_mul, Nat.zero_add]
    exact div64_low lo y w (by omega) hyy hlo
  · refine (div64_calls hi lo y w (by omega) hy hyy hlo).mono ?_
    rintro e w' ⟨rfl, rfl⟩
    exact ⟨rfl, 0, rfl⟩
theorem mul56_calls (k : Nat) (w : World) (hk : k < 18446744073709551616) :
    Calls Try.prog 23 #[.int .u64 (k : Int), .int .u64 72057594037927936] w fun e w' => e = .returned (.tuple #[.int .u64 ((k / 256 : Nat) : Int), .int .u64 ((k * 72057594037927936 % 18446744073709551616 : Nat) : Int)]) ∧ w' = w := by
  have h := Try.bits_Mul64 k 72057594037927936 hk (by omega) w
  have e : k * 72057594037927936 / 18446744073709551616 = k / 256 := by omega
  rw [e] at h
  exact h
theorem kept_calls (t : Nat) (w : World) : Calls Try.prog 22 #[.int .u64 (t : Int)] w fun e w' => e = .returned (.int .u64 ((72057594037927936 - t : Nat) : Int)) ∧ w' = w := by
  by_cases h : t ≤ 72057594037927936
  · have e : ((72057594037927936 - t : Nat) : Int) = 72057594037927936 - (t : Int) := by omega
    rw [e]
    have hm : min (t : Int) 72057594037927936 = (t : Int) := by omega
    have h0 : 0 ≤ (t : Int) := by omega
    have h1 : (t : Int) ≤ 72057594037927936 := by omega
    clear e h
    generalize (t : Int) = x at *
    go_enter Try.func22, Try.ntmps22
    go_wp2
    go_ret
    exact ⟨rfl, rfl⟩
  · have e : ((72057594037927936 - t : Nat) : Int) = 0 := by omega
    rw [e]
    have hm : min (t : Int) 72057594037927936 = 72057594037927936 := by omega
    clear e h
    generalize (t : Int) = x at *
    go_enter Try.func22, Try.ntmps22
    go_wp2
    go_ret
    exact ⟨rfl, rfl⟩
theorem thr_err (keep of : Nat) (w : World) (h : of = 0 ∨ of < keep) : Calls Try.prog 24 #[.int .u64 (keep : Int), .int .u64 (of : Int)] w fun e w' => e = .returned (.tuple #[.int .u64 0, .int .u16 1]) ∧ w' = w := by
  rcases h with rfl | h
  · go_enter Try.func24, Try.ntmps24
    go_wp2
    go_ret2
    exact ⟨rfl, rfl⟩
  · have h0 : ((of : Int) == 0) = false ∨ of = 0 := by
      by_cases h0 : of = 0
      · exact .inr h0
      · exact .inl (by rw [beq_eq_false_iff_ne]; omega)
    have h1 : decide (of < keep) = true := by simpa using h
    rcases h0 with h0 | rfl
    · go_enter Try.func24, Try.ntmps24
      go_wp2
      go_ret2
      exact ⟨rfl, rfl⟩
    · go_enter Try.func24, Try.ntmps24
      go_wp2
      go_ret2
      exact ⟨rfl, rfl⟩
theorem thr_same (n : Nat) (w : World) (h : 1 ≤ n) : Calls Try.prog 24 #[.int .u64 (n : Int), .int .u64 (n : Int)] w fun e w' => e = .returned (.tuple #[.int .u64 0, .int .u16 0]) ∧ w' = w := by
  have h0 : ((n : Int) == 0) = false := by rw [beq_eq_false_iff_ne]; omega
  have h1 : decide (n < n) = false := by simp
  have h2 : ((n : Int) == (n : Int)) = true := by simp
  go_enter Try.func24, Try.ntmps24
  go_wp2
  go_ret2
  exact ⟨rfl, rfl⟩
/-- The threshold by which so many of so many are kept. -/
def thr (keep of : Nat) : Nat := 72057594037927936 - keep * 72057594037927936 / of
theorem thr_less (keep of : Nat) (w : World) (h : keep < of) (ho : of < 18446744073709551616) :
    Calls Try.prog 24 #[.int .u64 (keep : Int), .int .u64 (of : Int)] w fun e w' => e = .returned (.tuple #[.int .u64 ((thr keep of : Nat) : Int), .int .u16 0]) ∧ ∃ n, w' = w.drewN n := by
  have h0 : ((of : Int) == 0) = false := by rw [beq_eq_false_iff_ne]; omega
  have h1 : decide (of < keep) = false := by rw [decide_eq_false_iff_not]; omega
  have h2 : ((keep : Int) == (of : Int)) = false := by rw [beq_eq_false_iff_ne]; omega
  have hm := fun w => mul56_calls keep w (by omega)
  have hd := fun w => div64_any (keep / 256) (keep * 72057594037927936 % 18446744073709551616) of (keep * 72057594037927936) w (by omega) (by omega) ho (Nat.mod_lt _ (by decide))
  have hq : keep * 72057594037927936 / of ≤ 72057594037927936 := by
    refine Nat.le_of_lt_succ ((Nat.div_lt_iff_lt_mul (by omega)).mpr ?_)
    have : 72057594037927936 * keep ≤ 72057594037927936 * of := Nat.mul_le_mul_left _ (by omega)
    omega
  have ht : ((thr keep of : Nat) : Int) = 72057594037927936 - ((keep * 72057594037927936 / of : Nat) : Int) := by unfold thr; omega
  rw [ht]
  generalize keep * 72057594037927936 % 18446744073709551616 = lo at *
  generalize keep / 256 = hi at *
  generalize keep * 72057594037927936 / of = q at *
  generalize keep * 72057594037927936 % of = r at *
  have HM := Lib.hid hm
  have HD := Lib.hid hd
  clear hm hd ht
  go_enter Try.func24, Try.ntmps24
  go_wp2_with fail
  refine (HM.out _).mono ?_
  rintro e w1 ⟨rfl, rfl⟩
  go_wp2_with fail
  refine (HD.out _).mono ?_
  rintro e w2 ⟨rfl, n, rfl⟩
  go_wp2
  go_ret2
  exact ⟨rfl, n, rfl⟩
end Go.Proofs.Ytjpfamminemegaa.Tele
