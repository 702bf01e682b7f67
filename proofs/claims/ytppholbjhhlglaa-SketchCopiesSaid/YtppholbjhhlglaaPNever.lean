/- What holds of a sketch beside a list of what was truly counted. No conditions. -/
import Derived.Test.YtppholbjhhlglaaSk2
import Derived.Test.YtppholbjhhlglaaPSk2
set_option linter.unusedVariables false
set_option linter.unusedSimpArgs false
namespace Go.Proofs.Ytppholbjhhlglaa.Tele
structure NeverRel (s : Sk) (k v : Nat) (is : List Nat) : Prop where
  len : is.length = 12
  isle : ∀ j, is.getD j 0 ≤ 255 * k
  vle : v ≤ 255 * k
  tot : s.total = v
  low : s.Low
  least : ∀ j : Nat, j < 12 → s.AtLeast (keyL (j : Int)) (is.getD j 0)
theorem never_start (A B : Nat) (X : U) : NeverRel (Sk.new A B X) 0 0 zeros :=
  ⟨rfl, fun j => by
    rcases Nat.lt_or_ge j 12 with h | h
    · have : j = 0 ∨ j = 1 ∨ j = 2 ∨ j = 3 ∨ j = 4 ∨ j = 5 ∨ j = 6 ∨ j = 7 ∨ j = 8 ∨ j = 9 ∨ j = 10 ∨ j = 11 := by omega
      rcases this with rfl | rfl | rfl | rfl | rfl | rfl | rfl | rfl | rfl | rfl | rfl | rfl <;> exact Nat.le_refl 0
    · rw [List.getD_eq_getElem?_getD, List.getElem?_eq_none (by simpa [zeros] using h)]; exact Nat.le_refl 0, Nat.le_refl _, rfl, Sk.low_new A B X, fun j hj i hi => by
    have : zeros.getD j 0 = 0 := by
      have : j = 0 ∨ j = 1 ∨ j = 2 ∨ j = 3 ∨ j = 4 ∨ j = 5 ∨ j = 6 ∨ j = 7 ∨ j = 8 ∨ j = 9 ∨ j = 10 ∨ j = 11 := by omega
      rcases this with rfl | rfl | rfl | rfl | rfl | rfl | rfl | rfl | rfl | rfl | rfl | rfl <;> rfl
    rw [this]
    exact Nat.zero_le _⟩
theorem never_step (s : Sk) (h : s.Ok) (k v : Nat) (is : List Nat) (x : Int) (r m : Nat) (hr : NeverRel s k v is) (hx : x % 12 = (r : Int)) (hr12 : r < 12) (hm : m ≤ 255) (hk : k ≤ 60) :
    NeverRel (s.add (keyS x).data.toList m) (k + 1) (v + m) (is.set r (is.getD r 0 + m)) := by
  have hk : (keyS x).data.toList = keyL (r : Int) := by
    rw [keyS_list, keyL_inj]
    omega
  rw [hk]
  have hv := hr.vle
  have hir := hr.isle r
  have hl := hr.len
  have hset : ∀ j, (is.set r (is.getD r 0 + m)).getD j 0 = if j = r then is.getD r 0 + m else is.getD j 0 := by
    intro j
    rw [List.getD_eq_getElem?_getD, List.getElem?_set]
    by_cases hj : j = r
    · subst hj
      rw [if_pos rfl, if_pos (by omega), if_pos rfl]; rfl
    · rw [if_neg (fun e => hj e.symm), if_neg hj, List.getD_eq_getElem?_getD]
  refine ⟨by rw [List.length_set]; exact hl, fun j => ?_, by omega, ?_, Sk.low_add s h hr.low _ _, fun j hj => ?_⟩
  · rw [hset]
    split
    · omega
    · have := hr.isle j; omega
  · rw [Sk.total_add _ _ _ (by rw [hr.tot]; omega), hr.tot]
  · rw [hset]
    split
    · rename_i e
      subst e
      exact Sk.atLeast_own s h _ _ _ (by omega) (hr.least j hj)
    · exact Sk.atLeast_mono s h _ _ _ _ (hr.least j hj)
end Go.Proofs.Ytppholbjhhlglaa.Tele
namespace Go.Proofs.Ytppholbjhhlglaa.Tele
/-- No cell that a key has is lower in t than in s. -/
structure Above (s t : Sk) : Prop where
  rows : t.rows = s.rows
  wide : t.W = s.W
  sd : t.seed = s.seed
  le : ∀ (l : List UInt8) (j : Nat), j < s.rows → s.cells.getD (s.ix l j) 0 ≤ t.cells.getD (t.ix l j) 0
theorem above_refl (s : Sk) : Above s s := ⟨rfl, rfl, rfl, fun _ _ _ => Nat.le_refl _⟩
theorem above_count (s t : Sk) (hs : s.Ok) (h : Above s t) (l : List UInt8) : s.count l ≤ t.count l :=
  Sk.le_countK t l t.rows _ (Sk.countK_le s l s.rows) fun j hj => Nat.le_trans (Sk.countK_cell s l s.rows j (by rw [← h.rows]; exact hj)) (h.le l j (by rw [← h.rows]; exact hj))
theorem above_add (s t : Sk) (ht : t.Ok) (h : Above s t) (key : List UInt8) (n : Nat) : Above s (t.add key n) := by
  refine ⟨h.rows, h.wide, h.sd, fun l j hj => ?_⟩
  show _ ≤ (t.raise key (sat (t.count key) n) t.rows).getD (t.ix l j) 0
  rw [Sk.raise_get t ht key _ t.rows l j (Nat.le_refl _) (by rw [h.rows]; exact hj)]
  split
  · exact Nat.le_trans (h.le l j hj) (Nat.le_max_left _ _)
  · exact h.le l j hj
end Go.Proofs.Ytppholbjhhlglaa.Tele
