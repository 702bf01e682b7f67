/- Sketches as plain lists of numbers: what is added makes no count lower. No conditions. -/
import Derived.Test.YtjpfamminemegaaPSk2
set_option linter.unusedVariables false
set_option linter.unusedSimpArgs false
namespace Go.Proofs.Ytjpfamminemegaa.Tele
/-- No cell that a key has is lower in t than in s. -/
structure Above (s t : Sk) : Prop where
  rows : t.rows = s.rows
  wide : t.W = s.W
  sd : t.seed = s.seed
  le : ∀ (l : List UInt8) (j : Nat), j < s.rows → s.cells.getD (s.ix l j) 0 ≤ t.cells.getD (t.ix l j) 0
theorem above_refl (s : Sk) : Above s s := ⟨rfl, rfl, rfl, fun _ _ _ => Nat.le_refl _⟩
theorem above_count (s t : Sk) (hs : s.Ok) (h : Above s t) (l : List UInt8) : s.count l ≤ t.count l :=
  Sk.le_countK t l t.rows _ (Sk.countK_le s l s.rows) fun j hj => Nat.le_trans (Sk.countK_cell s l s.rows j (by rw [← h.rows]; exact hj)) (h.le l j (by rw [← h.rows]; exact hj))
theorem above_add (s t : Sk) (ht : t.Ok) (h : Above s t) (key : List UInt8) (n : Nat) : Above s (t.add key n) := by
  refine ⟨h.rows, h.wide, h.sd, fun l j hj => ?_⟩
  show _ ≤ (t.raise key (sat (t.count key) n) t.rows).getD (t.ix l j) 0
  rw [Sk.raise_get t ht key _ t.rows l j (Nat.le_refl _) (by rw [h.rows]; exact hj)]
  split
  · exact Nat.le_trans (h.le l j hj) (Nat.le_max_left _ _)
  · exact h.le l j hj
theorem Sk.count_mono (s : Sk) (h : s.Ok) (key l : List UInt8) (n : Nat) : s.count l ≤ (s.add key n).count l := above_count s _ h (above_add s s h (above_refl s) key n) l
end Go.Proofs.Ytjpfamminemegaa.Tele
