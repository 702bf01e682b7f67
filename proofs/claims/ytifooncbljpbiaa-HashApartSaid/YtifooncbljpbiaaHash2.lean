import Derived.Test.YtifooncbljpbiaaHash1
import Derived.Lib.Hide
namespace Go.Proofs.Ytifooncbljpbiaa.Tele
open Go.RowKit
/-- What a call of 'undo' with these two comes to. -/
def UndoAt (X Y : U) (s : Nat) : Prop := ∀ w : World, Calls Try.prog 19 #[uv X, .int .u64 (s : Int)] w fun e w' => e = .returned (uv Y) ∧ w' = w
def InvAt (n : Int) (Y : U) : Prop := ∀ w : World, Calls Try.prog 20 #[.int .u64 n] w fun e w' => e = .returned (uv Y) ∧ w' = w
theorem back_walk (X A B C J1 J2 JA JB : U) (w : World) (h31 : UndoAt X A 31) (h27 : UndoAt JA B 27) (h30 : UndoAt JB C 30) (hi2 : InvAt 10723151780598845931 J2) (hi1 : InvAt 13787848793156543929 J1)
    (m2 : IntKind.u64.wrap ((A.toNat : Int) * (J2.toNat : Int)) = (JA.toNat : Int)) (m1 : IntKind.u64.wrap ((B.toNat : Int) * (J1.toNat : Int)) = (JB.toNat : Int)) :
    Calls Try.prog 11 #[uv X] w fun e w' => e = .returned (uv C) ∧ Below w.heap.size w w' := by
  have hs : stepsV = .agg #[.int .u64 30, .int .u64 13787848793156543929, .int .u64 27, .int .u64 10723151780598845931, .int .u64 31, .int .u64 1] := rfl
  go_enter Try.func11, Try.ntmps11
  go_wp2_with (go_at_call 17; refine (steps_calls _).mono ?_; rintro e w' ⟨rfl, rfl⟩)
  clear hs
  refine wp_loop_rounds 4 ?_
  rw [rounds_succ]
  go_wp2
  go_quiet ((first | (go_at_call 20; exact Calls.quiet_of_same (inverse_one _)) | (go_at_call 19; exact Calls.quiet_of_same (h31 _))))
  go_wp2
  rw [rounds_succ]
  go_wp2
  go_quiet ((first | (go_at_call 20; exact quiet_add_same (hi2 _)) | (go_at_call 19; exact quiet_add_same (h27 _))))
  go_wp2
  rw [rounds_succ]
  go_wp2
  go_quiet ((first | (go_at_call 20; exact quiet_add_same (hi1 _)) | (go_at_call 19; exact quiet_add_same (h30 _))))
  go_wp2
  rw [rounds_succ]
  go_wp2
  go_ret
  exact ⟨rfl, pw_below_drewN (((Below.refl _ _).alloc (Nat.le_refl _) _).alloc (by simp) _) _⟩
theorem back_calls (X : U) (w : World) : Calls Try.prog 11 #[uv X] w fun e w' => e = .returned (uv (back X)) ∧ Below w.heap.size w w' :=
  back_walk X (undo X 31) (undo (undo X 31 * I2) 27) (back X) I1 I2 (undo X 31 * I2) (undo (undo X 31 * I2) 27 * I1) w (undo_calls _ 31 (by omega)) (undo_calls _ 27 (by omega)) (undo_calls _ 30 (by omega)) inverse_c2 inverse_c1 (u_mul _ _) (u_mul _ _)
end Go.Proofs.Ytifooncbljpbiaa.Tele
