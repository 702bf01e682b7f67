/- The walks of package hash's functions: what each call returns. No conditions. -/
import Derived.Test.YtifooncbljpbiaaProg
import Derived.Test.YtifooncbljpbiaaUBits
import Derived.WalkKit
import Derived.Below
import Derived.Deep.Draws
import Derived.Laws.Rows
import Derived.Laws.BitsLemmas
import Derived.Tactics
import Derived.KernelRfl
import Derived.Outline
import Derived.Laws.NewBlocks
import Derived.LoopN
import Derived.Deep.QuietTactic
import Derived.BigQuiet
namespace Go.Proofs.Ytifooncbljpbiaa.Tele
open Go.RowKit

theorem quiet_add_same {P : Program} {f : FuncId} {args : Array Value} {w : World} {a n : Nat} {v : Value}
    (h : Calls P f args (w.drewN (a + n)) fun e w' => e = .returned v ∧ w' = w.drewN (a + n)) :
    Calls P f args (w.drewN (a + n)) fun e w'' => e = .returned v ∧ ∃ m, w'' = w.drewN (a + m) :=
  h.mono fun _ _ ⟨he, hm⟩ => ⟨he, n, hm⟩
theorem pw_below_drewN {B : Nat} {w W : World} (h : Below B w W) (n : Nat) : Below B w (W.drewN n) := ⟨h.os, h.tape, h.output, h.size, h.block⟩

def stepsV : Value := .agg #[.int .u64 30, .int .u64 13787848793156543929, .int .u64 27, .int .u64 10723151780598845931, .int .u64 31, .int .u64 1]

theorem steps_calls (w : World) : Calls Try.prog 17 #[] w fun e w' => e = .returned stepsV ∧ w' = w.alloc (.cells #[.int .u64 30, .int .u64 13787848793156543929, .int .u64 27, .int .u64 10723151780598845931, .int .u64 31, .int .u64 1] 37) := by
  go_enter Try.func17, Try.ntmps17
  go_wp2
  refine bodyPost_ret (results_cell_row rfl _ _ w.heap.size 37 _ (0,0) _ rfl (heap_alloc_new w _) Try.underlying37 rfl ?_) rfl ⟨rfl, rfl⟩
  kernel_rfl

theorem mixI_eq (X : U) : sxI (sxI (sxI (X.toNat : Int) 1073741824 13787848793156543929) 134217728 10723151780598845931) 2147483648 1 = ((mix X).toNat : Int) := by
  rw [sxI_eq X 30 1073741824 rfl 13787848793156543929 C1 rfl, sxI_eq _ 27 134217728 rfl 10723151780598845931 C2 rfl, sxI_eq _ 31 2147483648 rfl 1 1#64 rfl, BitVec.mul_one]
  rfl

theorem mix_calls (X : U) (w : World) : Calls Try.prog 9 #[uv X] w fun e w' => e = .returned (uv (mix X)) ∧ Below w.heap.size w w' := by
  have i0 : ∀ w, (Instr.index 37 stepsV (.int .i64 0)).run Try.prog w = .ok (.agg #[.int .u64 30, .int .u64 13787848793156543929]) w := fun _ => by kernel_rfl
  have i1 : ∀ w, (Instr.index 37 stepsV (.int .i64 1)).run Try.prog w = .ok (.agg #[.int .u64 27, .int .u64 10723151780598845931]) w := fun _ => by kernel_rfl
  have i2 : ∀ w, (Instr.index 37 stepsV (.int .i64 2)).run Try.prog w = .ok (.agg #[.int .u64 31, .int .u64 1]) w := fun _ => by kernel_rfl
  have HE := mixI_eq X
  unfold uv
  rw [← HE]
  clear HE
  generalize (X.toNat : Int) = x
  go_enter Try.func9, Try.ntmps9
  go_wp2_with (go_at_call 17; refine (steps_calls _).mono ?_; rintro e w' ⟨rfl, rfl⟩)
  refine wp_loop_rounds 4 ?_
  rw [rounds_succ]
  go_wp2
  rw [rounds_succ]
  go_wp2
  rw [rounds_succ]
  go_wp2
  rw [rounds_succ]
  go_wp2
  go_ret
  refine ⟨by simp [sxI], ?_⟩
  exact ((((Below.refl _ _).alloc (Nat.le_refl _) _).alloc (by simp) _).alloc (by simp; omega) _).alloc (by simp; omega) _
def undoI (x p : Int) : Int := bits .xor .u64 x (bits .xor .u64 x (x / p) / p)
theorem undoI_eq (X : U) (s : Nat) (p : Int) (hp : p = ((2 ^ s : Nat) : Int)) : undoI (X.toNat : Int) p = ((undo X s).toNat : Int) := by
  unfold undoI
  rw [u_shr' X s p hp, u_xor, u_shr' _ s p hp, u_xor]
  rfl
theorem undo_calls (X : U) (s : Nat) (hs : s = 27 ∨ s = 30 ∨ s = 31) (w : World) : Calls Try.prog 19 #[uv X, .int .u64 (s : Int)] w fun e w' => e = .returned (uv (undo X s)) ∧ w' = w := by
  have HE := undoI_eq X s ((2 ^ s : Nat) : Int) rfl
  unfold uv
  rw [← HE]
  clear HE
  generalize (X.toNat : Int) = x
  rcases hs with rfl | rfl | rfl
  all_goals
    go_enter Try.func19, Try.ntmps19
    go_wp2
    refine wp_loop_rounds 3 ?_
    rw [rounds_succ]
    go_wp2
    rw [rounds_succ]
    go_wp2
    rw [rounds_succ]
    go_wp2
    go_ret
    exact ⟨by simp [undoI], rfl⟩
def invI (n x : Int) : Int := IntKind.u64.wrap (x * IntKind.u64.wrap (2 - IntKind.u64.wrap (n * x)))
def inv6 (n : Int) : Int := invI n (invI n (invI n (invI n (invI n (invI n n)))))
theorem inverse_calls (n : Int) (w : World) : Calls Try.prog 20 #[.int .u64 n] w fun e w' => e = .returned (.int .u64 (inv6 n)) ∧ w' = w := by
  go_enter Try.func20, Try.ntmps20
  go_wp2
  refine wp_loop_rounds 7 ?_
  rw [rounds_succ]
  go_wp2
  rw [rounds_succ]
  go_wp2
  rw [rounds_succ]
  go_wp2
  rw [rounds_succ]
  go_wp2
  rw [rounds_succ]
  go_wp2
  rw [rounds_succ]
  go_wp2
  rw [rounds_succ]
  go_wp2
  go_ret
  exact ⟨by simp [inv6, invI], rfl⟩
theorem inv_c1 : inv6 13787848793156543929 = 10871156337175269513 := by decide +kernel
theorem inv_c2 : inv6 10723151780598845931 = 3573116690164977347 := by decide +kernel
theorem inv_one : inv6 1 = 1 := by decide +kernel
theorem inverse_c1 (w : World) : Calls Try.prog 20 #[.int .u64 13787848793156543929] w fun e w' => e = .returned (uv I1) ∧ w' = w := by
  have h := inverse_calls 13787848793156543929 w
  rw [inv_c1] at h
  exact h
theorem inverse_c2 (w : World) : Calls Try.prog 20 #[.int .u64 10723151780598845931] w fun e w' => e = .returned (uv I2) ∧ w' = w := by
  have h := inverse_calls 10723151780598845931 w
  rw [inv_c2] at h
  exact h
theorem inverse_one (w : World) : Calls Try.prog 20 #[.int .u64 1] w fun e w' => e = .returned (.int .u64 1) ∧ w' = w := by
  have h := inverse_calls 1 w
  rw [inv_one] at h
  exact h
end Go.Proofs.Ytifooncbljpbiaa.Tele
