/- What all laws over sketches share. No conditions. -/
import Derived.Test.YtiohjmpnkoohjaaSk1
import Derived.Test.YtiohjmpnkoohjaaOpenRows
import Derived.Test.YtiohjmpnkoohjaaPSk2
namespace Go.Proofs.Ytiohjmpnkoohjaa.Tele
open Go.RowKit
set_option linter.unusedVariables false
set_option linter.unusedSimpArgs false

/-- A pointer to a block's begin. -/
abbrev pv (p : Nat) : Value := .pointer (some ⟨p, 0, none⟩)
theorem new_any (rows W : Nat) (seed : U) (w : World) (h1 : 1 ≤ rows) (h2 : rows ≤ 8) (h3 : 1 ≤ W) (h4 : W ≤ 1024) :
    Calls Try.prog 18 #[.int .i64 (rows : Int), .int .i64 (W : Int), uv seed] w fun e w' => ∃ p c, e = .returned (pv p) ∧ Below w.heap.size w w' ∧ IsSk w' p c (Sk.new rows W seed) ∧ w.heap.size ≤ p ∧ w.heap.size ≤ c :=
  (new_yes rows W seed w h1 h2 h3 h4).mono fun e w' ⟨he, hb, hs⟩ => ⟨_, _, he, hb, hs, by omega, by omega⟩
/-- One more deed on a sketch of the call's own. -/
theorem bsk {w w1 w2 : World} {p c : Nat} (h : Below w.heap.size w w1) (k : Chg (fun b => b = p ∨ b = c) w1 w2) (hp : w.heap.size ≤ p) (hc : w.heap.size ≤ c) : Below w.heap.size w w2 :=
  bchg h k fun j hj => by rcases hj with rfl | rfl <;> assumption
theorem u_of_wf {x : Int} (h : (Lit.int .u64 x).wf = true) : ∃ X : U, x = (X.toNat : Int) := by
  have h' : 0 ≤ x ∧ x ≤ 18446744073709551615 := by simpa [Lit.wf, IntKind.min, IntKind.max, IntKind.bits, IntKind.signed] using h
  exact u_eq x h'.1 h'.2
theorem u8_of_wf {x : Int} (h : (Lit.int .u8 x).wf = true) : 0 ≤ x ∧ x ≤ 255 := by
  simpa [Lit.wf, IntKind.min, IntKind.max, IntKind.bits, IntKind.signed] using h
theorem getD_mem_or {l : List Int} {j : Nat} (h : j < l.length) : l.getD j 0 ∈ l := by
  rw [List.getD_eq_getElem?_getD, List.getElem?_eq_getElem h]
  exact List.getElem_mem h
theorem nat_of_wf {x : Int} (h : (Lit.int .u64 x).wf = true) : ∃ q : Nat, x = (q : Int) ∧ q ≤ 18446744073709551615 := by
  have h' : 0 ≤ x ∧ x ≤ 18446744073709551615 := by simpa [Lit.wf, IntKind.min, IntKind.max, IntKind.bits, IntKind.signed] using h
  exact ⟨x.toNat, by omega, by omega⟩
end Go.Proofs.Ytiohjmpnkoohjaa.Tele
