/- The examples of the chapter on hash hold: the law's first part. No conditions. -/
import Derived.Test.YtifooncbljpbiaaHash3
namespace Go.Proofs.Ytifooncbljpbiaa.Tele
open Go.RowKit

theorem below_next {B : Nat} {w w1 w2 : World} (h : Below B w w1) (hB : B ≤ w1.heap.size) (k : Below w1.heap.size w1 w2) : Below B w w2 := h.trans (k.mono hB)
/-- One more world, nothing old of which has turned. -/
theorem bnext {w w1 w2 : World} (h : Below w.heap.size w w1) (k : Below w1.heap.size w1 w2) : Below w.heap.size w w2 := h.trans (k.mono h.size)
theorem mix_zero (w : World) : Calls Try.prog 9 #[.int .u64 0] w fun e w' => e = .returned (.int .u64 0) ∧ Below w.heap.size w w' := by
  have h := mix_calls 0#64 w
  rw [show mix 0#64 = 0#64 from by decide +kernel] at h
  exact h
theorem back_zero (w : World) : Calls Try.prog 11 #[.int .u64 0] w fun e w' => e = .returned (.int .u64 0) ∧ Below w.heap.size w w' := by
  have h := back_calls 0#64 w
  rw [show back 0#64 = 0#64 from by decide +kernel] at h
  exact h
def M1 : Int := 6238072747940578789
theorem mix_one (w : World) : Calls Try.prog 9 #[.int .u64 1] w fun e w' => e = .returned (.int .u64 M1) ∧ Below w.heap.size w w' := by
  have h := mix_calls 1#64 w
  have e : ((mix 1#64).toNat : Int) = M1 := by decide +kernel
  unfold uv at h
  rw [e] at h
  exact h
theorem back_one (w : World) : Calls Try.prog 11 #[.int .u64 M1] w fun e w' => e = .returned (.int .u64 1) ∧ Below w.heap.size w w' := by
  have h := back_calls (mix 1#64) w
  rw [back_mix] at h
  have e : ((mix 1#64).toNat : Int) = M1 := by decide +kernel
  unfold uv at h
  rw [e] at h
  exact h
theorem in_x_one (w : World) : Calls Try.prog 15 #[.int .u64 3, .string ⟨#[120]⟩, .int .i64 1] w fun e w' => e = .returned (.int .i64 0) ∧ Below w.heap.size w w' := by
  have h := in_calls 3#64 ⟨#[120]⟩ 1 w (by decide) (by decide)
  have e : in_ 3#64 (ByteArray.mk #[120]).data.toList 1 = 0 := by have := in_range 3#64 (ByteArray.mk #[120]).data.toList 1 (by omega); omega
  rw [e] at h
  exact h
theorem in_x_none (w : World) : Calls Try.prog 15 #[.int .u64 3, .string ⟨#[120]⟩, .int .i64 0] w fun e w' => e = .returned (.int .i64 0) ∧ Below w.heap.size w w' := by
  have h := in_calls 3#64 ⟨#[120]⟩ 0 w (by decide) (by decide)
  have e : in_ 3#64 (ByteArray.mk #[120]).data.toList 0 = 0 := by unfold in_; rw [if_pos (by omega)]
  rw [e] at h
  exact h
theorem m1_ne : (M1 == 1) = false := by decide +kernel
theorem m1_ne' : (M1 != 1) = true := by decide +kernel
theorem known_calls (w : World) : Calls Try.prog 8 #[] w fun e w' => e = .returned (.bool true) ∧ Below w.heap.size w w' := by
  have n1 := m1_ne
  have n2 := m1_ne'
  go_enter Try.func8, Try.ntmps8
  go_wp2_with fail
  refine (mix_zero _).mono ?_
  rintro e w1 ⟨rfl, hb⟩
  go_wp2_with fail
  refine (back_zero _).mono ?_
  rintro e w2 ⟨rfl, hb2⟩
  replace hb := bnext hb hb2
  clear hb2
  go_wp2_with fail
  refine (in_x_one _).mono ?_
  rintro e w3 ⟨rfl, hb2⟩
  replace hb := bnext hb hb2
  clear hb2
  go_wp2_with fail
  refine (in_x_none _).mono ?_
  rintro e w4 ⟨rfl, hb2⟩
  replace hb := bnext hb hb2
  clear hb2
  go_wp2_with fail
  refine (mix_one _).mono ?_
  rintro e w5 ⟨rfl, hb2⟩
  replace hb := bnext hb hb2
  clear hb2
  go_wp2_with fail
  refine (back_one _).mono ?_
  rintro e w6 ⟨rfl, hb2⟩
  replace hb := bnext hb hb2
  clear hb2
  go_wp2_with fail
  refine (mix_one _).mono ?_
  rintro e w7 ⟨rfl, hb2⟩
  replace hb := bnext hb hb2
  clear hb2
  go_wp2
  go_ret
  exact ⟨rfl, hb⟩
end Go.Proofs.Ytifooncbljpbiaa.Tele
