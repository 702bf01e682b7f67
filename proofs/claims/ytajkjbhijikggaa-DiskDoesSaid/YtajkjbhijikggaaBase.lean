/- What the walks of this seat begin with. No conditions. -/
import Derived.Test.YtajkjbhijikggaaProg
import Derived.Test.YtajkjbhijikggaaBlk
import Derived.WalkKit
import Derived.Below
import Derived.Deep.Draws
import Derived.Laws.Rows
import Derived.Laws.BitsLemmas
import Derived.Tactics
import Derived.KernelRfl
import Derived.Outline
import Derived.Laws.NewBlocks
import Derived.LoopN
import Derived.Deep.QuietTactic
import Derived.BigQuiet
import Derived.Lib.Hide
namespace Go.Proofs.Ytajkjbhijikggaa.Tele
open Go.RowKit
set_option linter.unusedVariables false
set_option linter.unusedSimpArgs false

theorem pw_below_drewN {B : Nat} {w W : World} (h : Below B w W) (n : Nat) : Below B w (W.drewN n) := ⟨h.os, h.tape, h.output, h.size, h.block⟩
/-- A number as Go's value of 64 digits. -/
abbrev nv (n : Nat) : Value := .int .u64 (n : Int)
theorem u8_of_wf {x : Int} (h : (Lit.int .u8 x).wf = true) : 0 ≤ x ∧ x ≤ 255 := by
  simpa [Lit.wf, IntKind.min, IntKind.max, IntKind.bits, IntKind.signed] using h
theorem nat8_of_wf {x : Int} (h : (Lit.int .u8 x).wf = true) : ∃ q : Nat, x = (q : Int) ∧ q ≤ 255 := by
  obtain ⟨h0, h1⟩ := u8_of_wf h
  exact ⟨x.toNat, by omega, by omega⟩
theorem nat32_of_wf {x : Int} (h : (Lit.int .u32 x).wf = true) : ∃ q : Nat, x = (q : Int) ∧ q ≤ 4294967295 := by
  have h' : 0 ≤ x ∧ x ≤ 4294967295 := by simpa [Lit.wf, IntKind.min, IntKind.max, IntKind.bits, IntKind.signed] using h
  exact ⟨x.toNat, by omega, by omega⟩
theorem nat_of_wf {x : Int} (h : (Lit.int .u64 x).wf = true) : ∃ q : Nat, x = (q : Int) ∧ q ≤ 18446744073709551615 := by
  have h' : 0 ≤ x ∧ x ≤ 18446744073709551615 := by simpa [Lit.wf, IntKind.min, IntKind.max, IntKind.bits, IntKind.signed] using h
  exact ⟨x.toNat, by omega, by omega⟩
end Go.Proofs.Ytajkjbhijikggaa.Tele
