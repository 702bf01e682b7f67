/- The walk of the law RateKeeps. No conditions. -/
import Derived.Test.YtjpfamminemegaaRate3
namespace Go.Proofs.Ytjpfamminemegaa.Tele
open Go.RowKit
set_option linter.unusedVariables false
set_option linter.unusedSimpArgs false

theorem u16_of_wf {x : Int} (h : (Lit.int .u16 x).wf = true) : ∃ q : Nat, x = (q : Int) ∧ q ≤ 65535 := by
  have h' : 0 ≤ x ∧ x ≤ 65535 := by simpa [Lit.wf, IntKind.min, IntKind.max, IntKind.bits, IntKind.signed] using h
  exact ⟨x.toNat, by omega, by omega⟩
theorem refKept_calls (t : Int) (w : World) (h0 : 0 ≤ t) (h : t < 72057594037927936) : Calls Try.prog 21 #[.int .u64 t] w fun e w' => e = .returned (.int .u64 (72057594037927936 - t)) ∧ w' = w := by
  go_enter Try.func21, Try.ntmps21
  go_wp2
  go_ret
  exact ⟨rfl, rfl⟩
/-- What the threshold keeps, by parts. -/
theorem keeps_plain (t c : Nat) (h : t < c) (ht : 1 ≤ t) (hc : c ≤ 65536) : ∃ q p m k : Nat, by_ t c = 72057594037927936 - q ∧ 1 ≤ q ∧ q < 72057594037927936 ∧ q / 1048576 = p ∧ p * c = m ∧ m ≤ t * 68719476736 ∧ (p + 1) * c = k ∧ t * 68719476736 < k ∧ k ≤ 9007199254740992 := by
  refine ⟨t * 72057594037927936 / c, _, _, _, ?_, ?_, ?_, rfl, rfl, ?_, rfl, ?_, ?_⟩
  · unfold by_ thr
    rw [if_neg (by omega)]
  · rw [Nat.le_div_iff_mul_le (by omega)]
    omega
  · rw [Nat.div_lt_iff_lt_mul (by omega)]
    have : t * 72057594037927936 < c * 72057594037927936 := Nat.mul_lt_mul_of_pos_right h (by decide)
    omega
  all_goals
    have e : t * 72057594037927936 / c / 1048576 = t * 68719476736 / c := by
      rw [Nat.div_div_eq_div_mul, show t * 72057594037927936 = t * 68719476736 * 1048576 by omega, Nat.mul_div_mul_right _ _ (by decide)]
    rw [e]
  · exact Nat.div_mul_le_self _ _
  · have h1 := Nat.div_add_mod' (t * 68719476736) c
    have h2 := Nat.mod_lt (t * 68719476736) (show 0 < c by omega)
    rw [Nat.add_mul]
    omega
  · have h1 := Nat.div_mul_le_self (t * 68719476736) c
    rw [Nat.add_mul]
    omega
theorem rateKeeps_walk (a b : Int) (w : World) (ha : (Lit.int .u16 a).wf = true) (hb : (Lit.int .u16 b).wf = true) :
    Calls Try.prog 5 #[.int .u16 a, .int .u16 b] w fun e w' => e = .returned (.bool true) ∧ Below w.heap.size w w' := by
  obtain ⟨a, rfl, ha1⟩ := u16_of_wf ha
  obtain ⟨b, rfl, hb1⟩ := u16_of_wf hb
  clear ha hb
  obtain ⟨t, ht, ht1, ht2⟩ : ∃ t : Nat, (a : Int) + 1 = (t : Int) ∧ 1 ≤ t ∧ t ≤ 65536 := ⟨a + 1, by omega, by omega, by omega⟩
  obtain ⟨c, hc, hc1, hc2⟩ : ∃ c : Nat, (b : Int) + 1 = (c : Int) ∧ 1 ≤ c ∧ c ≤ 65536 := ⟨b + 1, by omega, by omega, by omega⟩
  by_cases h : c ≤ t
  · have h1 := Lib.hid (fun w => by have := by_calls t c w (by omega); rw [show by_ t c = 0 from if_pos h] at this; exact this)
    have h2 := Lib.hid (fun w => refKept_calls 0 w (by omega) (by omega))
    have h3 : decide (c ≤ t) = true := by simpa using h
    have h4 : ((c : Int) ≤ (t : Int)) := by omega
    go_enter Try.func5, Try.ntmps5
    go_wp2_with fail
    refine (h1.out _).mono ?_
    rintro e w1 ⟨rfl, n1, rfl⟩
    go_wp2_with fail
    refine (h2.out _).mono ?_
    rintro e w1 ⟨rfl, rfl⟩
    go_wp2_with fail
    refine (rknown_calls _).mono ?_
    rintro e w1 ⟨rfl, hb⟩
    go_wp2
    go_ret
    exact ⟨rfl, bnext (pw_below_drewN (Below.refl _ _) _) hb⟩
  · obtain ⟨q, p, m, k, e1, e2, e3, e4, e5, e6, e7, e8, e9⟩ := keeps_plain t c (by omega) ht1 hc2
    have h1 := Lib.hid (fun w => by have := by_calls t c w (by omega); rw [e1, show ((72057594037927936 - q : Nat) : Int) = 72057594037927936 - (q : Int) by omega] at this; exact this)
    have h2 := Lib.hid (fun w => by have := refKept_calls (72057594037927936 - (q : Int)) w (by omega) (by omega); rw [show 72057594037927936 - (72057594037927936 - (q : Int)) = (q : Int) by omega] at this; exact this)
    have h3 : decide (c ≤ t) = false := by simpa using h
    have h4 : ((q : Int) == 72057594037927936) = false := by rw [beq_eq_false_iff_ne]; omega
    have h5 : (q : Int) / 1048576 = (p : Int) := by omega
    have h6 : IntKind.u64.wrap ((p : Int) * (c : Int)) = (m : Int) := by
      rw [← Int.natCast_mul, e5]
      exact wrapN _ (by omega)
    have h7 : IntKind.u64.wrap (((p : Int) + 1) * (c : Int)) = (k : Int) := by
      rw [show ((p : Int) + 1) = ((p + 1 : Nat) : Int) by omega, ← Int.natCast_mul, e7]
      exact wrapN _ (by omega)
    have h8 : p ≤ 68719476736 := by omega
    clear e1 e4 e5 e7
    have h9 : (m : Int) ≤ (t : Int) * 68719476736 := by omega
    have h10 : (t : Int) * 68719476736 < (k : Int) := by omega
    go_enter Try.func5, Try.ntmps5
    go_wp2_with fail
    refine (h1.out _).mono ?_
    rintro e w1 ⟨rfl, n1, rfl⟩
    go_wp2_with fail
    refine (h2.out _).mono ?_
    rintro e w1 ⟨rfl, rfl⟩
    go_wp2_with fail
    refine (rknown_calls _).mono ?_
    rintro e w1 ⟨rfl, hb⟩
    go_wp2
    go_ret
    exact ⟨rfl, bnext (pw_below_drewN (Below.refl _ _) _) hb⟩
end Go.Proofs.Ytjpfamminemegaa.Tele
