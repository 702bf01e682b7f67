/- Sketches as plain lists of numbers: what the laws want to know. No conditions. -/
import Derived.Test.YtiohjmpnkoohjaaPSk
set_option linter.unusedVariables false
set_option linter.unusedSimpArgs false
namespace Go.Proofs.Ytiohjmpnkoohjaa.Tele
namespace Sk
theorem countK_cell (s : Sk) (key : List UInt8) (k j : Nat) (hj : j < k) : s.countK key k ≤ s.cells.getD (s.ix key j) 0 := by
  induction k with
  | zero => omega
  | succ k ih =>
    simp only [countK]
    by_cases h : j = k
    · subst h; exact Nat.min_le_right _ _
    · exact Nat.le_trans (Nat.min_le_left _ _) (ih (by omega))
theorem le_countK (s : Sk) (key : List UInt8) (k n : Nat) (hn : n ≤ 18446744073709551615) (h : ∀ j, j < k → n ≤ s.cells.getD (s.ix key j) 0) : n ≤ s.countK key k := by
  induction k with
  | zero => exact hn
  | succ k ih => exact Nat.le_min.2 ⟨ih fun j hj => h j (by omega), h k (by omega)⟩
theorem count_new (rows W : Nat) (seed : U) (key : List UInt8) (h : 1 ≤ rows) : (new rows W seed).count key = 0 := by
  have h1 := countK_cell (new rows W seed) key rows 0 (by omega)
  have h2 : (new rows W seed).cells.getD ((new rows W seed).ix key 0) 0 = 0 := by
    simp only [new, List.getD_eq_getElem?_getD, List.getElem?_replicate]
    split <;> rfl
  rw [h2] at h1
  exact Nat.le_zero.1 h1
theorem set_same (l : List Nat) (i m : Nat) (h : m ≤ l.getD i 0) : l.set i (max (l.getD i 0) m) = l := by
  rw [Nat.max_eq_left h]
  apply List.ext_getElem?
  intro j
  rw [List.getElem?_set]
  by_cases hij : i = j
  · subst hij
    rw [if_pos rfl]
    by_cases hl : i < l.length
    · rw [if_pos hl, List.getElem?_eq_getElem hl, List.getD_eq_getElem?_getD, List.getElem?_eq_getElem hl]; rfl
    · rw [if_neg hl, List.getElem?_eq_none (by omega)]
  · rw [if_neg hij]
theorem raise_same (s : Sk) (key : List UInt8) (m k : Nat) (h : ∀ j, j < k → m ≤ s.cells.getD (s.ix key j) 0) : s.raise key m k = s.cells := by
  induction k with
  | zero => rfl
  | succ k ih =>
    simp only [raise]
    rw [ih fun j hj => h j (by omega)]
    exact set_same _ _ _ (h k (by omega))
theorem sat_zero (a : Nat) (h : a ≤ 18446744073709551615) : sat a 0 = a := by unfold sat; rw [if_pos (by omega)]; rfl
/-- What is added no times changes nothing. -/
theorem add_zero (s : Sk) (h : s.Ok) (key : List UInt8) : s.add key 0 = s := by
  unfold add
  have e1 : sat (s.count key) 0 = s.count key := sat_zero _ (countK_le s key s.rows)
  have e2 : s.raise key (s.count key) s.rows = s.cells := raise_same s key _ _ fun j hj => countK_cell s key s.rows j hj
  rw [e1, sat_zero _ h.tot, e2]
/-- No cell holds more than all together. -/
def Low (s : Sk) : Prop := ∀ x ∈ s.cells, x ≤ s.total
theorem low_new (rows W : Nat) (seed : U) : (new rows W seed).Low := by
  intro x hx
  simp [new] at hx
  rw [hx.2]
  exact Nat.zero_le _
theorem getD_le (l : List Nat) (n : Nat) (h : ∀ x ∈ l, x ≤ n) (i : Nat) : l.getD i 0 ≤ n := by
  rw [List.getD_eq_getElem?_getD]
  cases hq : l[i]? with
  | none => exact Nat.zero_le _
  | some y => exact h y (List.mem_of_getElem? hq)
theorem raise_le (s : Sk) (key : List UInt8) (m k n : Nat) (h : ∀ x ∈ s.cells, x ≤ n) (hm : m ≤ n) : ∀ x ∈ s.raise key m k, x ≤ n := by
  induction k with
  | zero => exact h
  | succ k ih =>
    intro x hx
    rcases List.mem_or_eq_of_mem_set hx with h1 | h1
    · exact ih x h1
    · subst h1
      exact Nat.max_le.2 ⟨getD_le _ _ ih _, hm⟩
theorem sat_mono (a b n : Nat) (h : a ≤ b) : sat a n ≤ sat b n := by
  unfold sat
  split <;> split <;> omega
theorem le_sat (a n : Nat) (h : a ≤ 18446744073709551615) : a ≤ sat a n := by
  unfold sat
  split <;> omega
theorem count_low (s : Sk) (h : s.Ok) (hl : s.Low) (key : List UInt8) : s.count key ≤ s.total :=
  Nat.le_trans (countK_cell s key s.rows 0 h.rows1) (getD_le _ _ hl _)
theorem low_add (s : Sk) (h : s.Ok) (hl : s.Low) (key : List UInt8) (n : Nat) : (s.add key n).Low := by
  show ∀ x ∈ s.raise key (sat (s.count key) n) s.rows, x ≤ sat s.total n
  exact raise_le s key _ _ _ (fun x hx => Nat.le_trans (hl x hx) (le_sat _ _ h.tot)) (sat_mono _ _ _ (count_low s h hl key))
theorem total_add (s : Sk) (key : List UInt8) (n : Nat) (h : s.total + n ≤ 18446744073709551615) : (s.add key n).total = s.total + n := by
  show sat s.total n = _
  unfold sat
  rw [if_pos h]
end Sk
end Go.Proofs.Ytiohjmpnkoohjaa.Tele
namespace Go.Proofs.Ytiohjmpnkoohjaa.Tele
namespace Sk
/-- One key alone has been counted so often. -/
def Alone (s : Sk) (key : List UInt8) (v : Nat) : Prop := s.total = v ∧ ∀ j, j < s.rows → s.cells.getD (s.ix key j) 0 = v
theorem alone_new (rows W : Nat) (seed : U) (key : List UInt8) : (new rows W seed).Alone key 0 := by
  refine ⟨rfl, fun j _ => ?_⟩
  simp only [new, List.getD_eq_getElem?_getD, List.getElem?_replicate]
  split <;> rfl
theorem alone_count (s : Sk) (h : s.Ok) (key : List UInt8) (v : Nat) (ha : s.Alone key v) : s.count key = v := by
  apply Nat.le_antisymm
  · have := countK_cell s key s.rows 0 h.rows1
    rw [ha.2 0 h.rows1] at this
    exact this
  · exact le_countK s key s.rows v (by rw [← ha.1]; exact h.tot) fun j hj => by rw [ha.2 j hj]; exact Nat.le_refl _
theorem alone_add (s : Sk) (h : s.Ok) (key : List UInt8) (v n : Nat) (ha : s.Alone key v) : (s.add key n).Alone key (sat v n) := by
  have hc := alone_count s h key v ha
  refine ⟨by show sat s.total n = _; rw [ha.1], fun j hj => ?_⟩
  show (s.raise key (sat (s.count key) n) s.rows).getD (s.ix key j) 0 = _
  rw [raise_get s h key _ s.rows key j (Nat.le_refl _) hj, if_pos ⟨hj, rfl⟩, ha.2 j hj, hc]
  exact Nat.max_eq_right (le_sat _ _ (by rw [← ha.1]; exact h.tot))
/-- Key l has been counted no lower than n. -/
def AtLeast (s : Sk) (l : List UInt8) (n : Nat) : Prop := ∀ j, j < s.rows → n ≤ s.cells.getD (s.ix l j) 0
theorem atLeast_count (s : Sk) (l : List UInt8) (n : Nat) (hn : n ≤ 18446744073709551615) (h : s.AtLeast l n) : n ≤ s.count l := le_countK s l s.rows n hn h
theorem atLeast_mono (s : Sk) (h : s.Ok) (key l : List UInt8) (n m : Nat) (hl : s.AtLeast l n) : (s.add key m).AtLeast l n := by
  intro j hj
  show n ≤ (s.raise key (sat (s.count key) m) s.rows).getD (s.ix l j) 0
  rw [raise_get s h key _ s.rows l j (Nat.le_refl _) hj]
  split
  · exact Nat.le_trans (hl j hj) (Nat.le_max_left _ _)
  · exact hl j hj
theorem atLeast_own (s : Sk) (h : s.Ok) (l : List UInt8) (n m : Nat) (hn : n + m ≤ 18446744073709551615) (hl : s.AtLeast l n) : (s.add l m).AtLeast l (n + m) := by
  intro j hj
  have hc := atLeast_count s l n (by omega) hl
  show n + m ≤ (s.raise l (sat (s.count l) m) s.rows).getD (s.ix l j) 0
  rw [raise_get s h l _ s.rows l j (Nat.le_refl _) hj, if_pos ⟨hj, rfl⟩]
  refine Nat.le_trans ?_ (Nat.le_max_right _ _)
  unfold sat
  split <;> omega
end Sk
end Go.Proofs.Ytiohjmpnkoohjaa.Tele
namespace Go.Proofs.Ytiohjmpnkoohjaa.Tele
namespace Sk
/-- A sketch of one row, the first row of the other one, holds no less. -/
structure Under (s t : Sk) : Prop where
  one : t.rows = 1
  wide : t.W = s.W
  sd : t.seed = s.seed
  le : ∀ l : List UInt8, s.cells.getD (s.ix l 0) 0 ≤ t.cells.getD (t.ix l 0) 0
theorem under_ix (s t : Sk) (h : Under s t) (l : List UInt8) (i : Nat) : t.ix l i = s.ix l i := by unfold ix; rw [h.wide, h.sd]
theorem under_new (rows W : Nat) (seed : U) : Under (new rows W seed) (new 1 W seed) := by
  refine ⟨rfl, rfl, rfl, fun l => ?_⟩
  simp only [new, List.getD_eq_getElem?_getD, List.getElem?_replicate]
  split <;> simp
theorem under_count (s t : Sk) (hs : s.Ok) (ht : t.Ok) (h : Under s t) (l : List UInt8) : s.count l ≤ t.count l := by
  refine Nat.le_trans (countK_cell s l s.rows 0 hs.rows1) ?_
  refine le_countK t l t.rows _ (getD_small _ hs.small _) fun j hj => ?_
  have : j = 0 := by have := h.one; omega
  subst this
  exact h.le l
theorem under_add (s t : Sk) (hs : s.Ok) (ht : t.Ok) (h : Under s t) (key : List UInt8) (n : Nat) : Under (s.add key n) (t.add key n) := by
  refine ⟨h.one, h.wide, h.sd, fun l => ?_⟩
  show (s.raise key (sat (s.count key) n) s.rows).getD (s.ix l 0) 0 ≤ (t.raise key (sat (t.count key) n) t.rows).getD (t.ix l 0) 0
  rw [raise_get s hs key _ s.rows l 0 (Nat.le_refl _) hs.rows1, raise_get t ht key _ t.rows l 0 (Nat.le_refl _) ht.rows1, under_ix s t h key, under_ix s t h l]
  have hm := sat_mono _ _ n (under_count s t hs ht h key)
  have hl := h.le l
  rw [under_ix s t h l] at hl
  by_cases hc : s.ix key 0 = s.ix l 0
  · rw [if_pos ⟨hs.rows1, hc⟩, if_pos ⟨ht.rows1, hc⟩]
    omega
  · rw [if_neg (fun hh => hc hh.2), if_neg (fun hh => hc hh.2)]
    exact hl
end Sk
end Go.Proofs.Ytiohjmpnkoohjaa.Tele
namespace Go.Proofs.Ytiohjmpnkoohjaa.Tele
def zeros : List Nat := [0, 0, 0, 0, 0, 0, 0, 0, 0, 0, 0, 0]
end Go.Proofs.Ytiohjmpnkoohjaa.Tele
