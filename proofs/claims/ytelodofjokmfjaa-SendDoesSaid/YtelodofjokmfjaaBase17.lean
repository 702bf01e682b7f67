/- What the walks of this seat begin with. No conditions. -/
import Derived.Test.YtelodofjokmfjaaHash1
import Derived.Test.YtelodofjokmfjaaBlk
import Derived.LoopN
import Derived.Deep.QuietTactic
import Derived.BigQuiet
import Derived.Lib.Hide
namespace Go.Proofs.Ytelodofjokmfjaa.Tele
open Go.RowKit
set_option linter.unusedVariables false
set_option linter.unusedSimpArgs false

theorem u8_of_wf {x : Int} (h : (Lit.int .u8 x).wf = true) : 0 ≤ x ∧ x ≤ 255 := by
  simpa [Lit.wf, IntKind.min, IntKind.max, IntKind.bits, IntKind.signed] using h
theorem nat8_of_wf {x : Int} (h : (Lit.int .u8 x).wf = true) : ∃ q : Nat, x = (q : Int) ∧ q ≤ 255 := by
  obtain ⟨h0, h1⟩ := u8_of_wf h
  exact ⟨x.toNat, by omega, by omega⟩
theorem u_of_wf {x : Int} (h : (Lit.int .u64 x).wf = true) : ∃ X : U, x = (X.toNat : Int) := by
  have h' : 0 ≤ x ∧ x ≤ 18446744073709551615 := by simpa [Lit.wf, IntKind.min, IntKind.max, IntKind.bits, IntKind.signed] using h
  exact ⟨BitVec.ofNat 64 x.toNat, by rw [BitVec.toNat_ofNat, Nat.mod_eq_of_lt (by omega)]; omega⟩
theorem wf_i64 {x : Int} (h0 : -9223372036854775808 ≤ x) (h1 : x ≤ 9223372036854775807) : (Lit.int .i64 x).wf = true := by
  simpa [Lit.wf, IntKind.min, IntKind.max, IntKind.bits, IntKind.signed] using ⟨h0, h1⟩
theorem i64_of_wf {x : Int} (h : (Lit.int .i64 x).wf = true) : -9223372036854775808 ≤ x ∧ x ≤ 9223372036854775807 := by
  simpa [Lit.wf, IntKind.min, IntKind.max, IntKind.bits, IntKind.signed] using h
end Go.Proofs.Ytelodofjokmfjaa.Tele
