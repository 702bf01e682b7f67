/- The walks of package rate's plain functions. No conditions. -/
import Derived.Test.YtjpfamminemegaaProb
namespace Go.Proofs.Ytjpfamminemegaa.Tele
open Go.RowKit
set_option linter.unusedVariables false
set_option linter.unusedSimpArgs false

theorem clamp_calls (t low high : Int) (w : World) : Calls Try.prog 14 #[.int .u64 t, .int .u64 low, .int .u64 high] w fun e w' => e = .returned (.int .u64 (min (max t low) high)) ∧ w' = w := by
  go_enter Try.func14, Try.ntmps14
  go_wp2
  go_ret
  exact ⟨rfl, rfl⟩
def by_ (t c : Nat) : Nat := if c ≤ t then 0 else thr t c
theorem by_calls (t c : Nat) (w : World) (hc : c < 18446744073709551616) : Calls Try.prog 12 #[.int .u64 (t : Int), .int .u64 (c : Int)] w fun e w' => e = .returned (.int .u64 (by_ t c : Int)) ∧ ∃ n, w' = w.drewN n := by
  unfold by_
  by_cases h : c ≤ t
  · rw [if_pos h]
    go_enter Try.func12, Try.ntmps12
    go_wp2
    go_ret
    exact ⟨rfl, 0, rfl⟩
  · rw [if_neg h]
    have ht := Lib.hid (fun w => thr_less t c w (by omega) hc)
    generalize thr t c = v at *
    go_enter Try.func12, Try.ntmps12
    go_wp2_with fail
    refine (ht.out _).mono ?_
    rintro e w1 ⟨rfl, n, rfl⟩
    go_wp2
    go_ret
    exact ⟨rfl, n, rfl⟩
/-- Toward, of two thresholds. -/
def toward (a b n : Nat) : Nat := 72057594037927936 - min (max (72057594037927936 - b) (max ((72057594037927936 - a) / n) 1)) (min ((72057594037927936 - a) * n) 72057594037927936)
theorem toward_err (a b n : Nat) (w : World) (h : 72057594037927936 ≤ max a b ∨ n = 0) : Calls Try.prog 9 #[.int .u64 (a : Int), .int .u64 (b : Int), .int .u64 (n : Int)] w fun e w' => e = .returned (.tuple #[.int .u64 0, .int .u16 1]) ∧ w' = w := by
  by_cases h1 : 72057594037927936 ≤ max a b
  · have h2 : (72057594037927936 : Int) ≤ max (a : Int) (b : Int) := by omega
    clear h h1
    generalize (a : Int) = x at *
    generalize (b : Int) = y at *
    go_enter Try.func9, Try.ntmps9
    go_wp2
    go_ret2
    exact ⟨rfl, rfl⟩
  · have h2 : ¬ (72057594037927936 : Int) ≤ max (a : Int) (b : Int) := by omega
    have h3 : n = 0 := by omega
    subst h3
    clear h h1
    generalize (a : Int) = x at *
    generalize (b : Int) = y at *
    go_enter Try.func9, Try.ntmps9
    go_wp2
    go_ret2
    exact ⟨rfl, rfl⟩
theorem toward_walk (a b n k hi lo q j m c : Nat) (w : World) (h1 : a < 72057594037927936) (h2 : b < 72057594037927936) (h3 : 1 ≤ n)
    (HA : Hid (∀ w, Calls Try.prog 22 #[.int .u64 (a : Int)] w fun e w' => e = .returned (.int .u64 (k : Int)) ∧ w' = w))
    (HB : Hid (∀ w, Calls Try.prog 22 #[.int .u64 (b : Int)] w fun e w' => e = .returned (.int .u64 (j : Int)) ∧ w' = w))
    (HM : Hid (∀ w, Calls Try.prog 23 #[.int .u64 (k : Int), .int .u64 (n : Int)] w fun e w' => e = .returned (.tuple #[.int .u64 (hi : Int), .int .u64 (lo : Int)]) ∧ w' = w))
    (hq : (k : Int) / (n : Int) = (q : Int)) (hk : k ≤ 72057594037927936) (hqk : q ≤ 72057594037927936) (hlo : lo < 18446744073709551616)
    (hm : max (q : Int) 1 = (m : Int)) (high : Int) (hh : (if 0 < hi ∨ 72057594037927936 < lo then 72057594037927936 else (lo : Int)) = high)
    (hc : min (max (j : Int) (m : Int)) high = (c : Int)) (hcl : c ≤ 72057594037927936) :
    Calls Try.prog 9 #[.int .u64 (a : Int), .int .u64 (b : Int), .int .u64 (n : Int)] w fun e w' => e = .returned (.tuple #[.int .u64 ((72057594037927936 - c : Nat) : Int), .int .u16 0]) ∧ ∃ n, w' = w.drewN n := by
  have h4 : ¬ (72057594037927936 : Int) ≤ max (a : Int) (b : Int) := by omega
  have h5 : ((n : Int) == 0) = false := by rw [beq_eq_false_iff_ne]; omega
  have e : ((72057594037927936 - c : Nat) : Int) = 72057594037927936 - (c : Int) := by omega
  rw [e]
  have HC : Hid (∀ w, Calls Try.prog 14 #[.int .u64 (j : Int), .int .u64 (m : Int), .int .u64 high] w fun e w' => e = .returned (.int .u64 (c : Int)) ∧ w' = w) := Lib.hid (fun w => by rw [← hc]; exact clamp_calls _ _ _ w)
  have hm' : max 1 (q : Int) = (m : Int) := by omega
  clear hc e
  by_cases hcase : 0 < hi
  · rw [if_pos (Or.inl hcase)] at hh
    subst hh
    go_enter Try.func9, Try.ntmps9
    go_wp2_with fail
    refine (HA.out _).mono ?_
    rintro e w1 ⟨rfl, rfl⟩
    go_wp2_with fail
    refine (HM.out _).mono ?_
    rintro e w1 ⟨rfl, rfl⟩
    go_wp2_with fail
    go_quiet ((first | (go_at_call 22; exact Calls.quiet_of_same (HB.out _)) | (go_at_call 14; exact Calls.quiet_of_same (HC.out _))))
    go_wp2
    go_ret2
    exact ⟨rfl, _, rfl⟩
  · have hz : hi = 0 := by omega
    subst hz
    by_cases hc2 : 72057594037927936 < lo
    · rw [if_pos (Or.inr hc2)] at hh
      subst hh
      go_enter Try.func9, Try.ntmps9
      go_wp2_with fail
      refine (HA.out _).mono ?_
      rintro e w1 ⟨rfl, rfl⟩
      go_wp2_with fail
      refine (HM.out _).mono ?_
      rintro e w1 ⟨rfl, rfl⟩
      go_wp2_with fail
      go_quiet ((first | (go_at_call 22; exact Calls.quiet_of_same (HB.out _)) | (go_at_call 14; exact Calls.quiet_of_same (HC.out _))))
      go_wp2
      go_ret2
      exact ⟨rfl, _, rfl⟩
    · rw [if_neg (by omega)] at hh
      subst hh
      go_enter Try.func9, Try.ntmps9
      go_wp2_with fail
      refine (HA.out _).mono ?_
      rintro e w1 ⟨rfl, rfl⟩
      go_wp2_with fail
      refine (HM.out _).mono ?_
      rintro e w1 ⟨rfl, rfl⟩
      go_wp2_with fail
      go_quiet ((first | (go_at_call 22; exact Calls.quiet_of_same (HB.out _)) | (go_at_call 14; exact Calls.quiet_of_same (HC.out _))))
      go_wp2
      go_ret2
      exact ⟨rfl, _, rfl⟩
theorem toward_ok (a b n : Nat) (w : World) (h1 : a < 72057594037927936) (h2 : b < 72057594037927936) (h3 : 1 ≤ n) (hn : n < 18446744073709551616) :
    Calls Try.prog 9 #[.int .u64 (a : Int), .int .u64 (b : Int), .int .u64 (n : Int)] w fun e w' => e = .returned (.tuple #[.int .u64 (toward a b n : Int), .int .u16 0]) ∧ ∃ n, w' = w.drewN n := by
  have hm := fun w => Try.bits_Mul64 (72057594037927936 - a) n (by omega) hn w
  have hq := Nat.div_le_self (72057594037927936 - a) n
  have hj := Nat.div_add_mod ((72057594037927936 - a) * n) 18446744073709551616
  have hlo := Nat.mod_lt ((72057594037927936 - a) * n) (show 0 < 18446744073709551616 by decide)
  have hqe : ((72057594037927936 - a : Nat) : Int) / (n : Int) = (((72057594037927936 - a) / n : Nat) : Int) := (Int.natCast_ediv _ _).symm
  refine toward_walk a b n (72057594037927936 - a) ((72057594037927936 - a) * n / 18446744073709551616) ((72057594037927936 - a) * n % 18446744073709551616) ((72057594037927936 - a) / n) (72057594037927936 - b) (max ((72057594037927936 - a) / n) 1)
    (min (max (72057594037927936 - b) (max ((72057594037927936 - a) / n) 1)) (min ((72057594037927936 - a) * n) 72057594037927936)) w h1 h2 h3 (Lib.hid fun w => kept_calls a w) (Lib.hid fun w => kept_calls b w) (Lib.hid hm) hqe (by omega) (by omega) hlo (by omega) _ rfl ?_ (by omega)
  generalize (72057594037927936 - a) * n = p at *
  generalize (72057594037927936 - a) / n = q at *
  have hd : (if 0 < p / 18446744073709551616 ∨ 72057594037927936 < p % 18446744073709551616 then (72057594037927936 : Int) else ((p % 18446744073709551616 : Nat) : Int)) = ((min p 72057594037927936 : Nat) : Int) := by
    by_cases h : 0 < p / 18446744073709551616 ∨ 72057594037927936 < p % 18446744073709551616
    · rw [if_pos h]; omega
    · rw [if_neg h]; omega
  rw [hd]
  omega
end Go.Proofs.Ytjpfamminemegaa.Tele
