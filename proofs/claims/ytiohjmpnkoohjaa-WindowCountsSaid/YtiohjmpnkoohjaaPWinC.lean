/- What a window and the reference's tell at a time. No conditions. -/
import Derived.Test.YtiohjmpnkoohjaaPairW3
import Derived.Test.YtiohjmpnkoohjaaPWin2
namespace Go.Proofs.Ytiohjmpnkoohjaa.Tele
set_option linter.unusedVariables false
set_option linter.unusedSimpArgs false

theorem turn_now (m : Win) (n : Nat) : (m.turn n).now = n := by
  unfold Win.turn
  split
  · rfl
  · split <;> rfl
theorem turnAny_yes (m : Win) (T : Int) (h : m.ok T = true) : m.turnAny T = m.turn T.toNat := by unfold Win.turnAny; rw [if_pos h]
theorem turnAny_no (m : Win) (T : Int) (h : m.ok T = false) : m.turnAny T = m := by unfold Win.turnAny; rw [if_neg (by rw [h]; decide)]
theorem turnAny_ok (m : Win) (T : Int) (h : m.ok T = true) : (m.turnAny T).ok T = true := by
  have h2 := ok_iff m T h
  rw [turnAny_yes m T h]
  unfold Win.ok
  rw [turn_now]
  simp only [Bool.and_eq_true, decide_eq_true_eq]
  omega
theorem turnAny_twice (m : Win) (T : Int) : (m.turnAny T).turnAny T = m.turnAny T := by
  cases h : m.ok T with
  | false => rw [turnAny_no m T h, turnAny_no m T h]
  | true =>
    have h2 := turnAny_ok m T h
    rw [turnAny_yes _ T h2, turnAny_yes m T h]
    have hr := Win.turn_refl (m.turn T.toNat)
    rw [turn_now] at hr
    exact hr
theorem err_twice (m : Win) (T : Int) : (m.turnAny T).err T = m.err T := by
  cases h : m.ok T with
  | false => rw [turnAny_no m T h]
  | true =>
    unfold Win.err
    rw [turnAny_ok m T h, h]
theorem closed_eq (m : Win) (hm : m.Ok) (T : Int) (L : Sk) (key : List UInt8) (hl : LastOk (m.turnAny T) L) : m.closed T key = if m.ok T then L.count key else 0 := by
  unfold Win.closed
  by_cases h : m.ok T = true
  · have h2 := ok_iff m T h
    rw [turnAny_yes m T h] at hl
    rw [if_pos h, if_pos h]
    exact (last_count (m.turn T.toNat) (Win.turn_ok m hm _ (by omega)) L hl key).symm
  · rw [if_neg h, if_neg h]
theorem opened_eq (m : Win) (T : Int) (key : List UInt8) : (m.turnAny T).opened T key = if m.ok T then (m.turnAny T).this.count key else 0 := by
  unfold Win.opened
  by_cases h : m.ok T = true
  · have hr := Win.turn_refl (m.turn T.toNat)
    rw [turn_now] at hr
    rw [if_pos (turnAny_ok m T h), if_pos h, turnAny_yes m T h, hr]
  · rw [turnAny_no m T (by simpa using h), if_neg h, if_neg h]
end Go.Proofs.Ytiohjmpnkoohjaa.Tele
