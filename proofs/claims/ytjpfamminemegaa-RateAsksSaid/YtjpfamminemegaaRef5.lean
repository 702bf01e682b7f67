/- The walks of the reference's thresholds. No conditions. -/
import Derived.Test.YtjpfamminemegaaProb
import Derived.LoopN
namespace Go.Proofs.Ytjpfamminemegaa.Tele
open Go.RowKit
set_option linter.unusedVariables false
set_option linter.unusedSimpArgs false

theorem share_bound (keep of k a b : Nat) (hko : keep < of) (h : keep * 2 ^ k = a * of + b) (hk : k ≤ 56) : a < 72057594037927936 := by
  have hp : (2 : Nat) ^ k ≤ 2 ^ 56 := Nat.pow_le_pow_right (by decide) hk
  have e : (2 : Nat) ^ 56 = 72057594037927936 := by decide
  rw [e] at hp
  have h0 : 0 < (2 : Nat) ^ k := Nat.pow_pos (by decide)
  apply Classical.byContradiction
  intro hn
  have h1 : keep * 2 ^ k < of * 2 ^ k := Nat.mul_lt_mul_of_pos_right hko h0
  have h2 : 2 ^ k * of ≤ a * of := Nat.mul_le_mul_right _ (by omega)
  rw [Nat.mul_comm (2 ^ k) of] at h2
  omega
theorem share_up (keep of k a b : Nat) (h : keep * 2 ^ k = a * of + b) : keep * 2 ^ (k + 1) = 2 * a * of + 2 * b := by
  rw [Nat.pow_succ, ← Nat.mul_assoc, h, Nat.mul_assoc 2 a of]
  omega
theorem share_hi (keep of k a b : Nat) (h : keep * 2 ^ k = a * of + b) (hb : of ≤ 2 * b) : keep * 2 ^ (k + 1) = (2 * a + 1) * of + (2 * b - of) := by
  rw [share_up keep of k a b h, Nat.add_mul, Nat.one_mul]
  omega
theorem share_end (keep of a b : Nat) (h : keep * 2 ^ 56 = a * of + b) (hb : b < of) : keep * 72057594037927936 / of = a := by
  have e : (2 : Nat) ^ 56 = 72057594037927936 := by decide
  rw [e] at h
  rw [h, Nat.add_comm, Nat.add_mul_div_right _ _ (by omega), Nat.div_eq_of_lt hb, Nat.zero_add]
theorem share_calls (keep of : Nat) (w : World) (h : keep < of) (ho : of < 18446744073709551616) :
    Calls Try.prog 34 #[.int .u64 (keep : Int), .int .u64 (of : Int)] w fun e w' => e = .returned (.int .u64 ((keep * 72057594037927936 / of : Nat) : Int)) ∧ w' = w := by
  have h2 : ((keep : Int) == (of : Int)) = false := by rw [beq_eq_false_iff_ne]; omega
  go_enter Try.func34, Try.ntmps34
  go_wp2
  go_loopw [5, 6, 7] (fun n r i wr => ∃ (k a b : Nat), k ≤ 56 ∧ i = .int .i64 (k : Int) ∧ n = .int .u64 (a : Int) ∧ r = .int .u64 (b : Int) ∧ Hid (keep * 2 ^ k = a * of + b) ∧ b < of ∧ wr = w) (fun _ _ i _ => 56 - (intOf i).toNat)
  case atStart => exact ⟨0, 0, keep, by omega, rfl, rfl, rfl, Lib.hid (by omega), h, rfl⟩
  case round =>
    obtain ⟨k, a, b, hk, rfl, rfl, rfl, HE, hb, rfl⟩ := hrel
    have ha := share_bound keep of k a b h HE.out hk
    by_cases hlt : k < 56
    · by_cases hc : of ≤ 2 * b
      · have hci : (of : Int) - (b : Int) ≤ (b : Int) := by omega
        go_wp2
        go_roundw
        case rel => exact ⟨k + 1, 2 * a + 1, 2 * b - of, by omega, by go_num, congrArg (Value.int .u64) (by omega), congrArg (Value.int .u64) (by omega), Lib.hid (share_hi keep of k a b HE.out hc), by omega, by trivial⟩
        case measure => simp [intOf]; omega
      · have hci : ¬ (of : Int) - (b : Int) ≤ (b : Int) := by omega
        go_wp2
        go_roundw
        case rel => exact ⟨k + 1, 2 * a, 2 * b, by omega, by go_num, congrArg (Value.int .u64) (by omega), congrArg (Value.int .u64) (by omega), Lib.hid (share_up keep of k a b HE.out), by omega, by trivial⟩
        case measure => simp [intOf]; omega
    · have hk56 : k = 56 := by omega
      have HK := Lib.hid hk56
      go_wp2
      go_ret
      refine ⟨?_, by trivial⟩
      have := HE.out
      rw [HK.out] at this
      rw [share_end keep of a b this hb]
      rfl
theorem share_same (n : Nat) (w : World) : Calls Try.prog 34 #[.int .u64 (n : Int), .int .u64 (n : Int)] w fun e w' => e = .returned (.int .u64 72057594037927936) ∧ w' = w := by
  have h2 : ((n : Int) == (n : Int)) = true := by simp
  go_enter Try.func34, Try.ntmps34
  go_wp2
  go_ret
  exact ⟨rfl, rfl⟩
theorem refThr_err (keep of : Nat) (w : World) (h : of = 0 ∨ of < keep) : Calls Try.prog 25 #[.int .u64 (keep : Int), .int .u64 (of : Int)] w fun e w' => e = .returned (.tuple #[.int .u64 0, .int .i64 1]) ∧ w' = w := by
  by_cases h0 : of = 0
  · subst h0
    go_enter Try.func25, Try.ntmps25
    go_wp2
    go_ret2
    exact ⟨rfl, rfl⟩
  · have h1 : ((of : Int) == 0) = false := by rw [beq_eq_false_iff_ne]; omega
    have h2 : decide (of < keep) = true := by rw [decide_eq_true_iff]; omega
    go_enter Try.func25, Try.ntmps25
    go_wp2
    go_ret2
    exact ⟨rfl, rfl⟩
theorem refThr_same (n : Nat) (w : World) (h : 1 ≤ n) : Calls Try.prog 25 #[.int .u64 (n : Int), .int .u64 (n : Int)] w fun e w' => e = .returned (.tuple #[.int .u64 0, .int .i64 0]) ∧ w' = w := by
  have h1 : ((n : Int) == 0) = false := by rw [beq_eq_false_iff_ne]; omega
  have h2 : decide (n < n) = false := by simp
  go_enter Try.func25, Try.ntmps25
  go_wp2_with fail
  refine (share_same n _).mono ?_
  rintro e w1 ⟨rfl, rfl⟩
  go_wp2
  go_ret2
  exact ⟨rfl, rfl⟩
theorem refThr_less (keep of : Nat) (w : World) (h : keep < of) (ho : of < 18446744073709551616) :
    Calls Try.prog 25 #[.int .u64 (keep : Int), .int .u64 (of : Int)] w fun e w' => e = .returned (.tuple #[.int .u64 ((thr keep of : Nat) : Int), .int .i64 0]) ∧ w' = w := by
  have h1 : ((of : Int) == 0) = false := by rw [beq_eq_false_iff_ne]; omega
  have h2 : decide (of < keep) = false := by rw [decide_eq_false_iff_not]; omega
  have hs := Lib.hid (fun w => share_calls keep of w h ho)
  have hq : keep * 72057594037927936 / of ≤ 72057594037927936 := by
    refine Nat.le_of_lt_succ ((Nat.div_lt_iff_lt_mul (by omega)).mpr ?_)
    have : 72057594037927936 * keep ≤ 72057594037927936 * of := Nat.mul_le_mul_left _ (by omega)
    omega
  have ht : ((thr keep of : Nat) : Int) = 72057594037927936 - ((keep * 72057594037927936 / of : Nat) : Int) := by unfold thr; omega
  rw [ht]
  clear ht
  generalize keep * 72057594037927936 / of = q at *
  go_enter Try.func25, Try.ntmps25
  go_wp2_with fail
  refine (hs.out _).mono ?_
  rintro e w1 ⟨rfl, rfl⟩
  go_wp2
  go_ret2
  exact ⟨rfl, rfl⟩
theorem refKept_calls (t : Nat) (w : World) : Calls Try.prog 21 #[.int .u64 (t : Int)] w fun e w' => e = .returned (.int .u64 ((72057594037927936 - t : Nat) : Int)) ∧ w' = w := by
  by_cases h : t < 72057594037927936
  · have e : ((72057594037927936 - t : Nat) : Int) = 72057594037927936 - (t : Int) := by omega
    rw [e]
    have h0 : 0 ≤ (t : Int) := by omega
    have h1 : (t : Int) < 72057594037927936 := by omega
    clear e h
    generalize (t : Int) = x at *
    go_enter Try.func21, Try.ntmps21
    go_wp2
    go_ret
    exact ⟨rfl, rfl⟩
  · have e : ((72057594037927936 - t : Nat) : Int) = 0 := by omega
    rw [e]
    have h1 : 72057594037927936 ≤ (t : Int) := by omega
    clear e h
    generalize (t : Int) = x at *
    go_enter Try.func21, Try.ntmps21
    go_wp2
    go_ret
    exact ⟨rfl, rfl⟩
end Go.Proofs.Ytjpfamminemegaa.Tele
