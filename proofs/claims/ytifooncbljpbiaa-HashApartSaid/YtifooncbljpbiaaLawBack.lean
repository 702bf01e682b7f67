/- What is stirred is told back: the walk of the law HashBack. No conditions. -/
import Derived.Test.YtifooncbljpbiaaHash4
namespace Go.Proofs.Ytifooncbljpbiaa.Tele
open Go.RowKit

theorem u_of_wf {x : Int} (h : (Lit.int .u64 x).wf = true) : ∃ X : U, x = (X.toNat : Int) := by
  have h' : 0 ≤ x ∧ x ≤ 18446744073709551615 := by simpa [Lit.wf, IntKind.min, IntKind.max, IntKind.bits, IntKind.signed] using h
  exact u_eq x h'.1 h'.2

theorem hashBack_walk (x : Int) (w : World) (h : (Lit.int .u64 x).wf = true) : Calls Try.prog 5 #[.int .u64 x] w fun e w' => e = .returned (.bool true) ∧ Below w.heap.size w w' := by
  obtain ⟨X, rfl⟩ := u_of_wf h
  clear h
  have bm := back_calls (mix X)
  rw [back_mix] at bm
  have mb := mix_calls (back X)
  rw [mix_back] at mb
  have BM := Lib.hid bm
  have MB := Lib.hid mb
  clear bm mb
  go_enter Try.func5, Try.ntmps5
  go_wp2_with fail
  refine (known_calls _).mono ?_
  rintro e w1 ⟨rfl, hb⟩
  go_wp2_with fail
  refine (mix_calls X _).mono ?_
  rintro e w2 ⟨rfl, hb2⟩
  replace hb := bnext hb hb2
  clear hb2
  go_wp2_with fail
  refine (BM.out _).mono ?_
  rintro e w3 ⟨rfl, hb2⟩
  replace hb := bnext hb hb2
  clear hb2
  go_wp2_with fail
  refine (back_calls X _).mono ?_
  rintro e w4 ⟨rfl, hb2⟩
  replace hb := bnext hb hb2
  clear hb2
  go_wp2_with fail
  refine (MB.out _).mono ?_
  rintro e w5 ⟨rfl, hb2⟩
  replace hb := bnext hb hb2
  clear hb2
  go_wp2
  go_ret
  exact ⟨rfl, hb⟩
end Go.Proofs.Ytifooncbljpbiaa.Tele
