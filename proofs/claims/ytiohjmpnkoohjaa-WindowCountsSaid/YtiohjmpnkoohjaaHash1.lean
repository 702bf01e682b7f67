/- The walks of package hash's functions: what each call returns. No conditions. -/
import Derived.Test.YtiohjmpnkoohjaaProg
import Derived.Test.YtiohjmpnkoohjaaUBits
import Derived.WalkKit
import Derived.Below
import Derived.Deep.Draws
import Derived.Laws.Rows
import Derived.Laws.BitsLemmas
import Derived.Tactics
import Derived.KernelRfl
import Derived.Outline
import Derived.Laws.NewBlocks
import Derived.LoopN
import Derived.Deep.QuietTactic
import Derived.BigQuiet
namespace Go.Proofs.Ytiohjmpnkoohjaa.Tele
open Go.RowKit
set_option linter.unusedVariables false
set_option linter.unusedSimpArgs false

theorem quiet_add_same {P : Program} {f : FuncId} {args : Array Value} {w : World} {a n : Nat} {v : Value}
    (h : Calls P f args (w.drewN (a + n)) fun e w' => e = .returned v ∧ w' = w.drewN (a + n)) :
    Calls P f args (w.drewN (a + n)) fun e w'' => e = .returned v ∧ ∃ m, w'' = w.drewN (a + m) :=
  h.mono fun _ _ ⟨he, hm⟩ => ⟨he, n, hm⟩
theorem pw_below_drewN {B : Nat} {w W : World} (h : Below B w W) (n : Nat) : Below B w (W.drewN n) := ⟨h.os, h.tape, h.output, h.size, h.block⟩

def stepsV : Value := .agg #[.int .u64 30, .int .u64 13787848793156543929, .int .u64 27, .int .u64 10723151780598845931, .int .u64 31, .int .u64 1]

theorem steps_calls (w : World) : Calls Try.prog 36 #[] w fun e w' => e = .returned stepsV ∧ w' = w.alloc (.cells #[.int .u64 30, .int .u64 13787848793156543929, .int .u64 27, .int .u64 10723151780598845931, .int .u64 31, .int .u64 1] 74) := by
  go_enter Try.func36, Try.ntmps36
  go_wp2
  refine bodyPost_ret (results_cell_row rfl _ _ w.heap.size 74 _ (0,0) _ rfl (heap_alloc_new w _) Try.underlying74 rfl ?_) rfl ⟨rfl, rfl⟩
  kernel_rfl

theorem mixI_eq (X : U) : sxI (sxI (sxI (X.toNat : Int) 1073741824 13787848793156543929) 134217728 10723151780598845931) 2147483648 1 = ((mix X).toNat : Int) := by
  rw [sxI_eq X 30 1073741824 rfl 13787848793156543929 C1 rfl, sxI_eq _ 27 134217728 rfl 10723151780598845931 C2 rfl, sxI_eq _ 31 2147483648 rfl 1 1#64 rfl, BitVec.mul_one]
  rfl

theorem mix_calls (X : U) (w : World) : Calls Try.prog 34 #[uv X] w fun e w' => e = .returned (uv (mix X)) ∧ Below w.heap.size w w' := by
  have i0 : ∀ w, (Instr.index 74 stepsV (.int .i64 0)).run Try.prog w = .ok (.agg #[.int .u64 30, .int .u64 13787848793156543929]) w := fun _ => by kernel_rfl
  have i1 : ∀ w, (Instr.index 74 stepsV (.int .i64 1)).run Try.prog w = .ok (.agg #[.int .u64 27, .int .u64 10723151780598845931]) w := fun _ => by kernel_rfl
  have i2 : ∀ w, (Instr.index 74 stepsV (.int .i64 2)).run Try.prog w = .ok (.agg #[.int .u64 31, .int .u64 1]) w := fun _ => by kernel_rfl
  have HE := mixI_eq X
  unfold uv
  rw [← HE]
  clear HE
  generalize (X.toNat : Int) = x
  go_enter Try.func34, Try.ntmps34
  go_wp2_with (go_at_call 36; refine (steps_calls _).mono ?_; rintro e w' ⟨rfl, rfl⟩)
  refine wp_loop_rounds 4 ?_
  rw [rounds_succ]
  go_wp2
  rw [rounds_succ]
  go_wp2
  rw [rounds_succ]
  go_wp2
  rw [rounds_succ]
  go_wp2
  go_ret
  refine ⟨by simp [sxI], ?_⟩
  exact ((((Below.refl _ _).alloc (Nat.le_refl _) _).alloc (by simp) _).alloc (by simp; omega) _).alloc (by simp; omega) _
end Go.Proofs.Ytiohjmpnkoohjaa.Tele
