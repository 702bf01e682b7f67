/- The walk of Total (where it is reached). No conditions but that a sketch is one. -/
import Derived.Test.YtppholbjhhlglaaSk1
namespace Go.Proofs.Ytppholbjhhlglaa.Tele
open Go.RowKit
set_option linter.unusedVariables false
set_option linter.unusedSimpArgs false
theorem total_calls (p c : Nat) (s : Sk) (w : World) (h : IsSk w p c s) : Calls Try.prog 12 #[.pointer (some ⟨p, 0, none⟩)] w fun e w' => e = .returned (nv s.total) ∧ w' = w := by
  have q3 := h.st.cell 3
  simp only [List.size_toArray, List.getElem?_toArray, List.getElem?_cons_zero, List.getElem?_cons_succ] at q3
  clear h
  go_enter Try.func12, Try.ntmps12
  go_wp2
  go_ret
  exact ⟨rfl, rfl⟩
end Go.Proofs.Ytppholbjhhlglaa.Tele
