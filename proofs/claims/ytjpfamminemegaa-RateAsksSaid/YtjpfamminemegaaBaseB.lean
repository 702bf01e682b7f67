/- Merged texts of the walk: PSk, PSk2, PSk3, OpenRows, Sk1, Sk3, Key. No conditions. -/
import Derived.Test.YtjpfamminemegaaBaseA
import Derived.SizedLaws
import Derived.ChangeSlices
import Derived.SliceStrings
import Derived.Below
import Derived.Laws.Entries
import Derived.Laws.MakeOwn
import Derived.Deep.OwnRows
import Derived.Deep.RegionHeld3
import Derived.Deep.DrawnRows
import Derived.Laws.BytesArg
set_option linter.unusedVariables false
set_option linter.unusedSimpArgs false
namespace Go.Proofs.Ytjpfamminemegaa.Tele

/-- The greatest number of 64 digits. -/
def topN : Nat := 18446744073709551615
/-- A sum that stops there. -/
def sat (a b : Nat) : Nat := if a + b ≤ 18446744073709551615 then a + b else 18446744073709551615
structure Sk where
  rows : Nat
  W : Nat
  seed : U
  cells : List Nat
  total : Nat

namespace Sk
/-- A key's place in row i. -/
def ix (s : Sk) (key : List UInt8) (i : Nat) : Nat := i * s.W + (in_ (s.seed + BitVec.ofNat 64 i) key s.W).toNat
def countK (s : Sk) (key : List UInt8) : Nat → Nat
  | 0 => topN
  | k + 1 => min (countK s key k) (s.cells.getD (s.ix key k) 0)
def count (s : Sk) (key : List UInt8) : Nat := s.countK key s.rows
def raise (s : Sk) (key : List UInt8) (m : Nat) : Nat → List Nat
  | 0 => s.cells
  | k + 1 => (raise s key m k).set (s.ix key k) (max ((raise s key m k).getD (s.ix key k) 0) m)
def add (s : Sk) (key : List UInt8) (n : Nat) : Sk := { s with cells := s.raise key (sat (s.count key) n) s.rows, total := sat s.total n }
/-- What holds of every one. -/
structure Ok (s : Sk) : Prop where
  rows1 : 1 ≤ s.rows
  rows8 : s.rows ≤ 8
  W1 : 1 ≤ s.W
  Wm : s.W ≤ 1024
  len : s.cells.length = s.rows * s.W
  small : ∀ x ∈ s.cells, x ≤ 18446744073709551615
  tot : s.total ≤ 18446744073709551615
def new (rows W : Nat) (seed : U) : Sk := { rows, W, seed, cells := List.replicate (rows * W) 0, total := 0 }

theorem sat_le (a b : Nat) : sat a b ≤ 18446744073709551615 := by unfold sat; split <;> omega
theorem new_ok (rows W : Nat) (seed : U) (h1 : 1 ≤ rows) (h2 : rows ≤ 8) (h3 : 1 ≤ W) (h4 : W ≤ 1024) : (new rows W seed).Ok :=
  ⟨h1, h2, h3, h4, by simp [new], by simp [new], by simp [new]⟩
theorem in_lt (s : Sk) (h : s.Ok) (key : List UInt8) (i : Nat) : (in_ (s.seed + BitVec.ofNat 64 i) key s.W).toNat < s.W := by
  have h1 := h.W1
  have h2 := in_range (s.seed + BitVec.ofNat 64 i) key s.W (by omega)
  omega
theorem ix_lt (s : Sk) (h : s.Ok) (key : List UInt8) (i : Nat) (hi : i < s.rows) : s.ix key i < s.rows * s.W := by
  have h1 := in_lt s h key i
  have h2 : (i + 1) * s.W ≤ s.rows * s.W := Nat.mul_le_mul_right _ hi
  unfold ix
  rw [Nat.add_mul, Nat.one_mul] at h2
  omega
theorem ix_row (s : Sk) (h : s.Ok) (key : List UInt8) (i : Nat) : s.ix key i / s.W = i := by
  have h1 := in_lt s h key i
  unfold ix
  rw [Nat.mul_comm, Nat.mul_add_div (by have := h.W1; omega), Nat.div_eq_of_lt h1]
  rfl
theorem ix_ne (s : Sk) (h : s.Ok) (k l : List UInt8) (i j : Nat) (hij : i ≠ j) : s.ix k i ≠ s.ix l j := by
  intro e
  have h1 := ix_row s h k i
  rw [e, ix_row s h l j] at h1
  exact hij h1.symm
theorem raise_len (s : Sk) (key : List UInt8) (m k : Nat) : (s.raise key m k).length = s.cells.length := by
  induction k with
  | zero => rfl
  | succ k ih => simp [raise, ih]
theorem raise_small (s : Sk) (h : s.Ok) (key : List UInt8) (m k : Nat) (hm : m ≤ 18446744073709551615) : ∀ x ∈ s.raise key m k, x ≤ 18446744073709551615 := by
  induction k with
  | zero => exact h.small
  | succ k ih =>
    intro x hx
    have hg : (s.raise key m k).getD (s.ix key k) 0 ≤ 18446744073709551615 := by
      rw [List.getD_eq_getElem?_getD]
      cases hq : (s.raise key m k)[s.ix key k]? with
      | none => simp
      | some y => exact ih y (List.mem_of_getElem? hq)
    rcases List.mem_or_eq_of_mem_set hx with h1 | h1
    · exact ih x h1
    · subst h1
      exact Nat.max_le.2 ⟨hg, hm⟩
theorem add_ok (s : Sk) (h : s.Ok) (key : List UInt8) (n : Nat) : (s.add key n).Ok :=
  ⟨h.rows1, h.rows8, h.W1, h.Wm, by simp only [add]; rw [raise_len]; exact h.len, raise_small s h key _ _ (sat_le _ _), sat_le _ _⟩
theorem getD_small (l : List Nat) (h : ∀ x ∈ l, x ≤ 18446744073709551615) (i : Nat) : l.getD i 0 ≤ 18446744073709551615 := by
  rw [List.getD_eq_getElem?_getD]
  cases hq : l[i]? with
  | none => simp
  | some y => exact h y (List.mem_of_getElem? hq)
theorem countK_le (s : Sk) (key : List UInt8) (k : Nat) : s.countK key k ≤ 18446744073709551615 := by
  induction k with
  | zero => exact Nat.le_refl _
  | succ k ih => exact Nat.le_trans (Nat.min_le_left _ _) ih
/-- A place of a later row is untouched by the first k rows. -/
theorem raise_get (s : Sk) (h : s.Ok) (key : List UInt8) (m k : Nat) (l : List UInt8) (j : Nat) (hk : k ≤ s.rows) (hj : j < s.rows) :
    (s.raise key m k).getD (s.ix l j) 0 = if j < k ∧ s.ix key j = s.ix l j then max (s.cells.getD (s.ix l j) 0) m else s.cells.getD (s.ix l j) 0 := by
  induction k with
  | zero => simp [raise]
  | succ k ih =>
    have ih := ih (by omega)
    simp only [raise]
    rw [List.getD_eq_getElem?_getD, List.getElem?_set]
    by_cases hkj : k = j
    · subst hkj
      by_cases he : s.ix key k = s.ix l k
      · have hlt : s.ix key k < (s.raise key m k).length := by rw [raise_len, h.len]; exact ix_lt s h key k hj
        have hc : k < k + 1 ∧ s.ix key k = s.ix l k := ⟨by omega, he⟩
        rw [if_pos he, if_pos hlt, if_pos hc, Option.getD_some, he, ih, if_neg (by omega)]
      · rw [if_neg he, if_neg (by omega), ← List.getD_eq_getElem?_getD, ih, if_neg (by omega)]
    · rw [if_neg (ix_ne s h key l k j hkj), ← List.getD_eq_getElem?_getD, ih]
      by_cases hc : j < k ∧ s.ix key j = s.ix l j
      · rw [if_pos hc, if_pos ⟨by omega, hc.2⟩]
      · rw [if_neg hc, if_neg (fun hh => hc ⟨by omega, hh.2⟩)]
end Sk
end Go.Proofs.Ytjpfamminemegaa.Tele
set_option linter.unusedVariables false
set_option linter.unusedSimpArgs false
namespace Go.Proofs.Ytjpfamminemegaa.Tele
namespace Sk
theorem countK_cell (s : Sk) (key : List UInt8) (k j : Nat) (hj : j < k) : s.countK key k ≤ s.cells.getD (s.ix key j) 0 := by
  induction k with
  | zero => omega
  | succ k ih =>
    simp only [countK]
    by_cases h : j = k
    · subst h; exact Nat.min_le_right _ _
    · exact Nat.le_trans (Nat.min_le_left _ _) (ih (by omega))
theorem le_countK (s : Sk) (key : List UInt8) (k n : Nat) (hn : n ≤ 18446744073709551615) (h : ∀ j, j < k → n ≤ s.cells.getD (s.ix key j) 0) : n ≤ s.countK key k := by
  induction k with
  | zero => exact hn
  | succ k ih => exact Nat.le_min.2 ⟨ih fun j hj => h j (by omega), h k (by omega)⟩
theorem count_new (rows W : Nat) (seed : U) (key : List UInt8) (h : 1 ≤ rows) : (new rows W seed).count key = 0 := by
  have h1 := countK_cell (new rows W seed) key rows 0 (by omega)
  have h2 : (new rows W seed).cells.getD ((new rows W seed).ix key 0) 0 = 0 := by
    simp only [new, List.getD_eq_getElem?_getD, List.getElem?_replicate]
    split <;> rfl
  rw [h2] at h1
  exact Nat.le_zero.1 h1
theorem set_same (l : List Nat) (i m : Nat) (h : m ≤ l.getD i 0) : l.set i (max (l.getD i 0) m) = l := by
  rw [Nat.max_eq_left h]
  apply List.ext_getElem?
  intro j
  rw [List.getElem?_set]
  by_cases hij : i = j
  · subst hij
    rw [if_pos rfl]
    by_cases hl : i < l.length
    · rw [if_pos hl, List.getElem?_eq_getElem hl, List.getD_eq_getElem?_getD, List.getElem?_eq_getElem hl]; rfl
    · rw [if_neg hl, List.getElem?_eq_none (by omega)]
  · rw [if_neg hij]
theorem raise_same (s : Sk) (key : List UInt8) (m k : Nat) (h : ∀ j, j < k → m ≤ s.cells.getD (s.ix key j) 0) : s.raise key m k = s.cells := by
  induction k with
  | zero => rfl
  | succ k ih =>
    simp only [raise]
    rw [ih fun j hj => h j (by omega)]
    exact set_same _ _ _ (h k (by omega))
theorem sat_zero (a : Nat) (h : a ≤ 18446744073709551615) : sat a 0 = a := by unfold sat; rw [if_pos (by omega)]; rfl
/-- What is added no times changes nothing. -/
theorem add_zero (s : Sk) (h : s.Ok) (key : List UInt8) : s.add key 0 = s := by
  unfold add
  have e1 : sat (s.count key) 0 = s.count key := sat_zero _ (countK_le s key s.rows)
  have e2 : s.raise key (s.count key) s.rows = s.cells := raise_same s key _ _ fun j hj => countK_cell s key s.rows j hj
  rw [e1, sat_zero _ h.tot, e2]
/-- No cell holds more than all together. -/
def Low (s : Sk) : Prop := ∀ x ∈ s.cells, x ≤ s.total
theorem low_new (rows W : Nat) (seed : U) : (new rows W seed).Low := by
  intro x hx
  simp [new] at hx
  rw [hx.2]
  exact Nat.zero_le _
theorem getD_le (l : List Nat) (n : Nat) (h : ∀ x ∈ l, x ≤ n) (i : Nat) : l.getD i 0 ≤ n := by
  rw [List.getD_eq_getElem?_getD]
  cases hq : l[i]? with
  | none => exact Nat.zero_le _
  | some y => exact h y (List.mem_of_getElem? hq)
theorem raise_le (s : Sk) (key : List UInt8) (m k n : Nat) (h : ∀ x ∈ s.cells, x ≤ n) (hm : m ≤ n) : ∀ x ∈ s.raise key m k, x ≤ n := by
  induction k with
  | zero => exact h
  | succ k ih =>
    intro x hx
    rcases List.mem_or_eq_of_mem_set hx with h1 | h1
    · exact ih x h1
    · subst h1
      exact Nat.max_le.2 ⟨getD_le _ _ ih _, hm⟩
theorem sat_mono (a b n : Nat) (h : a ≤ b) : sat a n ≤ sat b n := by
  unfold sat
  split <;> split <;> omega
theorem le_sat (a n : Nat) (h : a ≤ 18446744073709551615) : a ≤ sat a n := by
  unfold sat
  split <;> omega
theorem count_low (s : Sk) (h : s.Ok) (hl : s.Low) (key : List UInt8) : s.count key ≤ s.total :=
  Nat.le_trans (countK_cell s key s.rows 0 h.rows1) (getD_le _ _ hl _)
theorem low_add (s : Sk) (h : s.Ok) (hl : s.Low) (key : List UInt8) (n : Nat) : (s.add key n).Low := by
  show ∀ x ∈ s.raise key (sat (s.count key) n) s.rows, x ≤ sat s.total n
  exact raise_le s key _ _ _ (fun x hx => Nat.le_trans (hl x hx) (le_sat _ _ h.tot)) (sat_mono _ _ _ (count_low s h hl key))
theorem total_add (s : Sk) (key : List UInt8) (n : Nat) (h : s.total + n ≤ 18446744073709551615) : (s.add key n).total = s.total + n := by
  show sat s.total n = _
  unfold sat
  rw [if_pos h]
end Sk
end Go.Proofs.Ytjpfamminemegaa.Tele
namespace Go.Proofs.Ytjpfamminemegaa.Tele
namespace Sk
/-- One key alone has been counted so often. -/
def Alone (s : Sk) (key : List UInt8) (v : Nat) : Prop := s.total = v ∧ ∀ j, j < s.rows → s.cells.getD (s.ix key j) 0 = v
theorem alone_new (rows W : Nat) (seed : U) (key : List UInt8) : (new rows W seed).Alone key 0 := by
  refine ⟨rfl, fun j _ => ?_⟩
  simp only [new, List.getD_eq_getElem?_getD, List.getElem?_replicate]
  split <;> rfl
theorem alone_count (s : Sk) (h : s.Ok) (key : List UInt8) (v : Nat) (ha : s.Alone key v) : s.count key = v := by
  apply Nat.le_antisymm
  · have := countK_cell s key s.rows 0 h.rows1
    rw [ha.2 0 h.rows1] at this
    exact this
  · exact le_countK s key s.rows v (by rw [← ha.1]; exact h.tot) fun j hj => by rw [ha.2 j hj]; exact Nat.le_refl _
theorem alone_add (s : Sk) (h : s.Ok) (key : List UInt8) (v n : Nat) (ha : s.Alone key v) : (s.add key n).Alone key (sat v n) := by
  have hc := alone_count s h key v ha
  refine ⟨by show sat s.total n = _; rw [ha.1], fun j hj => ?_⟩
  show (s.raise key (sat (s.count key) n) s.rows).getD (s.ix key j) 0 = _
  rw [raise_get s h key _ s.rows key j (Nat.le_refl _) hj, if_pos ⟨hj, rfl⟩, ha.2 j hj, hc]
  exact Nat.max_eq_right (le_sat _ _ (by rw [← ha.1]; exact h.tot))
/-- Key l has been counted no lower than n. -/
def AtLeast (s : Sk) (l : List UInt8) (n : Nat) : Prop := ∀ j, j < s.rows → n ≤ s.cells.getD (s.ix l j) 0
theorem atLeast_count (s : Sk) (l : List UInt8) (n : Nat) (hn : n ≤ 18446744073709551615) (h : s.AtLeast l n) : n ≤ s.count l := le_countK s l s.rows n hn h
theorem atLeast_mono (s : Sk) (h : s.Ok) (key l : List UInt8) (n m : Nat) (hl : s.AtLeast l n) : (s.add key m).AtLeast l n := by
  intro j hj
  show n ≤ (s.raise key (sat (s.count key) m) s.rows).getD (s.ix l j) 0
  rw [raise_get s h key _ s.rows l j (Nat.le_refl _) hj]
  split
  · exact Nat.le_trans (hl j hj) (Nat.le_max_left _ _)
  · exact hl j hj
theorem atLeast_own (s : Sk) (h : s.Ok) (l : List UInt8) (n m : Nat) (hn : n + m ≤ 18446744073709551615) (hl : s.AtLeast l n) : (s.add l m).AtLeast l (n + m) := by
  intro j hj
  have hc := atLeast_count s l n (by omega) hl
  show n + m ≤ (s.raise l (sat (s.count l) m) s.rows).getD (s.ix l j) 0
  rw [raise_get s h l _ s.rows l j (Nat.le_refl _) hj, if_pos ⟨hj, rfl⟩]
  refine Nat.le_trans ?_ (Nat.le_max_right _ _)
  unfold sat
  split <;> omega
end Sk
end Go.Proofs.Ytjpfamminemegaa.Tele
namespace Go.Proofs.Ytjpfamminemegaa.Tele
namespace Sk
/-- A sketch of one row, the first row of the other one, holds no less. -/
structure Under (s t : Sk) : Prop where
  one : t.rows = 1
  wide : t.W = s.W
  sd : t.seed = s.seed
  le : ∀ l : List UInt8, s.cells.getD (s.ix l 0) 0 ≤ t.cells.getD (t.ix l 0) 0
theorem under_ix (s t : Sk) (h : Under s t) (l : List UInt8) (i : Nat) : t.ix l i = s.ix l i := by unfold ix; rw [h.wide, h.sd]
theorem under_new (rows W : Nat) (seed : U) : Under (new rows W seed) (new 1 W seed) := by
  refine ⟨rfl, rfl, rfl, fun l => ?_⟩
  simp only [new, List.getD_eq_getElem?_getD, List.getElem?_replicate]
  split <;> simp
theorem under_count (s t : Sk) (hs : s.Ok) (ht : t.Ok) (h : Under s t) (l : List UInt8) : s.count l ≤ t.count l := by
  refine Nat.le_trans (countK_cell s l s.rows 0 hs.rows1) ?_
  refine le_countK t l t.rows _ (getD_small _ hs.small _) fun j hj => ?_
  have : j = 0 := by have := h.one; omega
  subst this
  exact h.le l
theorem under_add (s t : Sk) (hs : s.Ok) (ht : t.Ok) (h : Under s t) (key : List UInt8) (n : Nat) : Under (s.add key n) (t.add key n) := by
  refine ⟨h.one, h.wide, h.sd, fun l => ?_⟩
  show (s.raise key (sat (s.count key) n) s.rows).getD (s.ix l 0) 0 ≤ (t.raise key (sat (t.count key) n) t.rows).getD (t.ix l 0) 0
  rw [raise_get s hs key _ s.rows l 0 (Nat.le_refl _) hs.rows1, raise_get t ht key _ t.rows l 0 (Nat.le_refl _) ht.rows1, under_ix s t h key, under_ix s t h l]
  have hm := sat_mono _ _ n (under_count s t hs ht h key)
  have hl := h.le l
  rw [under_ix s t h l] at hl
  by_cases hc : s.ix key 0 = s.ix l 0
  · rw [if_pos ⟨hs.rows1, hc⟩, if_pos ⟨ht.rows1, hc⟩]
    omega
  · rw [if_neg (fun hh => hc hh.2), if_neg (fun hh => hc hh.2)]
    exact hl
end Sk
end Go.Proofs.Ytjpfamminemegaa.Tele
namespace Go.Proofs.Ytjpfamminemegaa.Tele
def zeros : List Nat := [0, 0, 0, 0, 0, 0, 0, 0, 0, 0, 0, 0]
end Go.Proofs.Ytjpfamminemegaa.Tele
set_option linter.unusedVariables false
set_option linter.unusedSimpArgs false
namespace Go.Proofs.Ytjpfamminemegaa.Tele
/-- No cell that a key has is lower in t than in s. -/
structure Above (s t : Sk) : Prop where
  rows : t.rows = s.rows
  wide : t.W = s.W
  sd : t.seed = s.seed
  le : ∀ (l : List UInt8) (j : Nat), j < s.rows → s.cells.getD (s.ix l j) 0 ≤ t.cells.getD (t.ix l j) 0
theorem above_refl (s : Sk) : Above s s := ⟨rfl, rfl, rfl, fun _ _ _ => Nat.le_refl _⟩
theorem above_count (s t : Sk) (hs : s.Ok) (h : Above s t) (l : List UInt8) : s.count l ≤ t.count l :=
  Sk.le_countK t l t.rows _ (Sk.countK_le s l s.rows) fun j hj => Nat.le_trans (Sk.countK_cell s l s.rows j (by rw [← h.rows]; exact hj)) (h.le l j (by rw [← h.rows]; exact hj))
theorem above_add (s t : Sk) (ht : t.Ok) (h : Above s t) (key : List UInt8) (n : Nat) : Above s (t.add key n) := by
  refine ⟨h.rows, h.wide, h.sd, fun l j hj => ?_⟩
  show _ ≤ (t.raise key (sat (t.count key) n) t.rows).getD (t.ix l j) 0
  rw [Sk.raise_get t ht key _ t.rows l j (Nat.le_refl _) (by rw [h.rows]; exact hj)]
  split
  · exact Nat.le_trans (h.le l j hj) (Nat.le_max_left _ _)
  · exact h.le l j hj
theorem Sk.count_mono (s : Sk) (h : s.Ok) (key l : List UInt8) (n : Nat) : s.count l ≤ (s.add key n).count l := above_count s _ h (above_add s s h (above_refl s) key n) l
end Go.Proofs.Ytjpfamminemegaa.Tele
set_option linter.unusedVariables false
set_option linter.unusedSimpArgs false
namespace Go.Proofs.Ytjpfamminemegaa.Tele
open Go.RowKit Go.ChangeShapes Go.WideShapes

/-- A slice of one-cell elements that came in reads as this list. -/
def RowOf {α : Type} (enc : α → Value) (d : α) (w : World) (a : Option Addr) (len cap : Nat) (l : List α) : Prop :=
  l.length = len ∧ len ≤ cap ∧ cap ≤ 9223372036854775807 ∧ (0 < len → ∃ ad, a = some ad ∧ ad.block < w.heap.size ∧ ∀ j, j < len → w.cell? (ad.add j) = some (enc (l.getD j d)))
/-- Where its element j lies. -/
def adr (a : Option Addr) (j : Nat) : Addr := (a.getD ⟨0, 0, none⟩).add j
section
variable {α : Type} {enc : α → Value} {d : α} {w w' : World} {a : Option Addr} {len cap : Nat} {l : List α}
theorem add_block (ad : Addr) (j : Nat) : (ad.add j).block = ad.block := by unfold Addr.add; split <;> rfl
theorem RowOf.len_eq (h : RowOf enc d w a len cap l) : l.length = len := h.1
theorem RowOf.below (h : RowOf enc d w a len cap l) (k : Below w.heap.size w w') : RowOf enc d w' a len cap l :=
  ⟨h.1, h.2.1, h.2.2.1, fun hp => by
    obtain ⟨ad, e, hb, hc⟩ := h.2.2.2 hp
    exact ⟨ad, e, Nat.lt_of_lt_of_le hb k.size, fun j hj => (k.cell (p := ad.add j) (by rw [add_block]; exact hb)).trans (hc j hj)⟩⟩
theorem RowOf.cell (h : RowOf enc d w a len cap l) (j : Nat) (hj : j < len) : w.cell? (adr a j) = some (enc (l.getD j d)) := by
  obtain ⟨ad, rfl, _, hc⟩ := h.2.2.2 (by omega)
  exact hc j hj
theorem RowOf.index (h : RowOf enc d w a len cap l) (P : Program) (t e : TypeId) (ht : P.underlying t = some (.slice e)) (he : (P.info? e).map (·.size) = some 1) (j : Nat) (hj : j < len) (W : World) :
    (Instr.indexAt t (.slice a len cap) (.int .i64 (j : Int))).run P W = .ok (.pointer (some (adr a j))) W := by
  obtain ⟨ad, rfl, _, _⟩ := h.2.2.2 (by omega)
  have hel : P.elem t = e := by simp [Program.elem, ht]
  obtain ⟨i, hi, hs⟩ := Option.map_eq_some_iff.1 he
  rw [run_indexAt_slice (h := by rw [hel]; exact ht), if_pos (by omega), hel]
  simp [sizeOf, typeInfo, hi, hs, adr]
end
abbrev IntRow (k : IntKind) (w : World) (a : Option Addr) (len cap : Nat) (l : List Int) : Prop := RowOf (Value.int k) 0 w a len cap l ∧ ∀ n ∈ l, (Lit.int k n).wf = true
abbrev StrRow (w : World) (a : Option Addr) (len cap : Nat) (l : List ByteArray) : Prop := RowOf Value.string ByteArray.empty w a len cap l ∧ ∀ s ∈ l, s.size ≤ 9223372036854775807
section
variable {H : Type} {enc : TypeId × Value → H} {P : Program} {W : World} {spare : Nat → Bool} {held : Bool} {t e : TypeId} {a : Option Addr} {len cap : Nat} {d : DataW H} {ps : List MemPlace}
theorem getD_take {α : Type} (l : List α) (n j : Nat) (x : α) (h : j < n) : (l.take n).getD j x = l.getD j x := by
  simp [List.getD_eq_getElem?_getD, List.getElem?_take, h]
theorem intRow_of_trod {k : IntKind} (ht : P.underlying t = some (.slice e)) (he : P.underlying e = some (.int k)) (hc : P.cellsOf e = 1)
    (h : DataW.Trod enc P W 0 (fun _ => true) held t (.slice a len cap) d ps) : ∃ l, IntRow k W a len cap l := by
  obtain ⟨fuel, hf⟩ := h
  rcases open_ints ht he hc hf with ⟨hcs, _⟩ | ⟨x, l, c, zs, hcs, _, hl, hm, hz, _, hcell, hw⟩
  · simp [Value.cells] at hcs
    obtain ⟨rfl, rfl, rfl⟩ := hcs
    exact ⟨[], ⟨rfl, Nat.le_refl _, by omega, fun hp => by omega⟩, by simp⟩
  · simp [Value.cells] at hcs
    obtain ⟨rfl, rfl, rfl⟩ := hcs
    simp at hz
    unfold maxLen at hm
    refine ⟨zs.take len, ⟨by rw [List.length_take]; omega, hl, hm, fun hp => ⟨x, rfl, ?_, fun j hj => ?_⟩⟩, fun n hn => hw n (List.mem_of_mem_take hn)⟩
    · have := World.block_lt_of_cell? W _ (hcell 0 (by omega))
      rwa [add_block] at this
    · rw [getD_take _ _ _ _ hj]
      exact hcell j (by omega)
theorem strRow_of_trod (ht : P.underlying t = some (.slice e)) (he : P.underlying e = some .string) (hc : P.cellsOf e = 1)
    (h : DataW.Trod enc P W 0 (fun _ => true) held t (.slice a len cap) d ps) : ∃ l, StrRow W a len cap l := by
  obtain ⟨fuel, hf⟩ := h
  rcases open_strings ht he hc hf with ⟨hcs, _⟩ | ⟨x, l, c, zs, hcs, _, hl, hm, hz, _, hcell, hw⟩
  · simp [Value.cells] at hcs
    obtain ⟨rfl, rfl, rfl⟩ := hcs
    exact ⟨[], ⟨rfl, Nat.le_refl _, by omega, fun hp => by omega⟩, by simp⟩
  · simp [Value.cells] at hcs
    obtain ⟨rfl, rfl, rfl⟩ := hcs
    simp at hz
    unfold maxLen at hm hw
    refine ⟨zs.take len, ⟨by rw [List.length_take]; omega, hl, hm, fun hp => ⟨x, rfl, ?_, fun j hj => ?_⟩⟩, fun n hn => hw n (List.mem_of_mem_take hn)⟩
    · have := World.block_lt_of_cell? W _ (hcell 0 (by omega))
      rwa [add_block] at this
    · rw [getD_take _ _ _ _ hj]
      exact hcell j (by omega)
/-- A row's slice of whole numbers is no longer than its weight allows. -/
theorem sized_ints {k : IntKind} {ts : List TypeId} {ds : List (DataW H)} {j : Nat}
    (hsz : (DataW.weightsEach P ts ds).all (· ≤ reachBytes) = true) (ht : ts[j]? = some t) (hd : ds[j]? = some d) (hu : P.underlying t = some (.slice e)) (he : P.underlying e = some (.int k)) (hc : P.cellsOf e = 1) {B : Nat} (hB : P.bytesOf e = B)
    (h : DataW.Trod enc P W 0 spare held t (.slice a len cap) d ps) : len * B ≤ 140737488351232 := by
  obtain ⟨fuel, hf⟩ := h
  rcases open_ints hu he hc hf with ⟨hcs, _⟩ | ⟨x, l, c, zs, hcs, _, hl, _, hz, hx, _, _⟩
  · simp [Value.cells] at hcs
    obtain ⟨rfl, rfl, rfl⟩ := hcs
    simp
  · simp [Value.cells] at hcs
    obtain ⟨rfl, rfl, rfl⟩ := hcs
    obtain ⟨hx, _⟩ := Prod.mk.inj hx
    subst hx
    have z := sized_slice hsz ht hd hu
    rw [hB] at z
    have hl2 : len ≤ zs.length := by
      rw [hz]
      split
      · exact hl
      · exact Nat.le_refl _
    have h1 : (lits (H := H) k (zs.take len)).length + (lits (H := H) k (zs.drop len)).length = zs.length := by
      simp [lits]
      omega
    rw [h1] at z
    exact Nat.le_trans (Nat.mul_le_mul_right _ hl2) z
theorem sized_strs {ts : List TypeId} {ds : List (DataW H)} {j : Nat}
    (hsz : (DataW.weightsEach P ts ds).all (· ≤ reachBytes) = true) (ht : ts[j]? = some t) (hd : ds[j]? = some d) (hu : P.underlying t = some (.slice e)) (he : P.underlying e = some .string) (hc : P.cellsOf e = 1) {B : Nat} (hB : P.bytesOf e = B)
    (h : DataW.Trod enc P W 0 spare held t (.slice a len cap) d ps) : len * B ≤ 140737488351232 := by
  obtain ⟨fuel, hf⟩ := h
  rcases open_strings hu he hc hf with ⟨hcs, _⟩ | ⟨x, l, c, zs, hcs, _, hl, _, hz, hx, _, _⟩
  · simp [Value.cells] at hcs
    obtain ⟨rfl, rfl, rfl⟩ := hcs
    simp
  · simp [Value.cells] at hcs
    obtain ⟨rfl, rfl, rfl⟩ := hcs
    obtain ⟨hx, _⟩ := Prod.mk.inj hx
    subst hx
    have z := sized_slice hsz ht hd hu
    rw [hB] at z
    have hl2 : len ≤ zs.length := by
      rw [hz]
      split
      · exact hl
      · exact Nat.le_refl _
    have h1 : (strs (H := H) (zs.take len)).length + (strs (H := H) (zs.drop len)).length = zs.length := by
      simp [strs]
      omega
    rw [h1] at z
    exact Nat.le_trans (Nat.mul_le_mul_right _ hl2) z
end
end Go.Proofs.Ytjpfamminemegaa.Tele
namespace Go.Proofs.Ytjpfamminemegaa.Tele
open Go.RowKit
set_option linter.unusedVariables false
set_option linter.unusedSimpArgs false

/-- A number as Go's value of 64 digits. -/
abbrev nv (n : Nat) : Value := .int .u64 (n : Int)
/-- Block p is a sketch, block c its cells. -/
structure IsSk (w : World) (p c : Nat) (s : Sk) : Prop where
  ok : s.Ok
  st : Blk w p 90 #[.slice (some ⟨c, 0, none⟩) (s.rows * s.W) (s.rows * s.W), .int .i64 (s.W : Int), uv s.seed, nv s.total]
  cl : Blk w c 22 (s.cells.map nv).toArray

theorem IsSk.ne {w : World} {p c : Nat} {s : Sk} (h : IsSk w p c s) : p ≠ c := h.st.ne_ h.cl (by decide)
theorem IsSk.chg {w w' : World} {p c : Nat} {s : Sk} {S : Nat → Prop} (h : IsSk w p c s) (k : Chg S w w') (hp : ¬ S p) (hc : ¬ S c) : IsSk w' p c s := ⟨h.ok, h.st.chg k hp, h.cl.chg k hc⟩
theorem IsSk.next {w w' : World} {p c : Nat} {s : Sk} (h : IsSk w p c s) (k : Below w.heap.size w w') : IsSk w' p c s := ⟨h.ok, h.st.next k, h.cl.next k⟩

attribute [local go_sem ↓] Go.wp_at_zero Go.wp_at_succ
theorem infoU64 : (Try.prog.info? 22).map (fun i => (i.zero, i.size, i.bytes)) = some (some (.int .u64 0), 1, 8) := by kernel_rfl
theorem new_no (rows width : Int) (seed : U) (w : World) (h : rows < 1 ∨ 8 < rows ∨ width < 1 ∨ 1024 < width) : Calls Try.prog 36 #[.int .i64 rows, .int .i64 width, uv seed] w fun e w' => e = .returned (.pointer none) ∧ w' = w := by
  by_cases h1 : rows < 1
  · go_enter Try.func36, Try.ntmps36
    go_wp2
    go_ret
    exact ⟨rfl, rfl⟩
  · by_cases h2 : 8 < rows
    · go_enter Try.func36, Try.ntmps36
      go_wp2
      go_ret
      exact ⟨rfl, rfl⟩
    · by_cases h3 : width < 1
      · go_enter Try.func36, Try.ntmps36
        go_wp2
        go_ret
        exact ⟨rfl, rfl⟩
      · have h4 : 1024 < width := by omega
        go_enter Try.func36, Try.ntmps36
        go_wp2
        go_ret
        exact ⟨rfl, rfl⟩
theorem made_zero (n : Nat) : madeCells #[Value.int .u64 0] n = ((List.replicate n 0).map nv).toArray := by
  apply Array.ext
  · simp [madeCells]
  · intro i h1 h2
    simp [madeCells, Nat.mod_one]
theorem new_yes (rows W : Nat) (seed : U) (w : World) (h1 : 1 ≤ rows) (h2 : rows ≤ 8) (h3 : 1 ≤ W) (h4 : W ≤ 1024) :
    Calls Try.prog 36 #[.int .i64 (rows : Int), .int .i64 (W : Int), uv seed] w fun e w' => e = .returned (.pointer (some ⟨w.heap.size + 1, 0, none⟩)) ∧ Below w.heap.size w w' ∧ IsSk w' (w.heap.size + 1) w.heap.size (Sk.new rows W seed) := by
  have hm : rows * W ≤ 8192 := Nat.le_trans (Nat.mul_le_mul h2 h4) (by decide)
  have hmk := fun w : World => run_make_row' (P := Try.prog) 83 22 (.int .u64 0) 8 Try.underlying83 infoU64 rfl .i64 .i64 (rows * W) (by omega) (by omega) w
  have hmul : IntKind.i64.wrap ((rows : Int) * (W : Int)) = ((rows * W : Nat) : Int) := by
    have : ((rows : Int) * (W : Int)) = ((rows * W : Nat) : Int) := by simp
    rw [this, IntKind.wrap_i64]
    omega
  obtain ⟨n, hn⟩ : ∃ n, n = rows * W := ⟨_, rfl⟩
  rw [← hn] at hmk hmul
  have HN := Lib.hid hn
  clear hn hm
  go_enter Try.func36, Try.ntmps36
  go_wp2
  go_ret
  refine ⟨rfl, bl_alloc (bl_alloc (Below.refl _ _) _) _, Sk.new_ok rows W seed h1 h2 h3 h4, ?_, ?_⟩
  · have e := Blk.new (w.alloc (.cells (madeCells #[Value.int .u64 0] n) 22)) 90 #[.slice (some ⟨w.heap.size, 0, none⟩) n n, .int .i64 (W : Int), uv seed, .int .u64 0]
    rw [World.size_alloc] at e
    show Blk _ _ _ #[.slice _ (rows * W) (rows * W), _, _, _]
    rw [← HN.out]
    exact e
  · have e := (Blk.new w 22 (madeCells #[Value.int .u64 0] n)).alloc (.cells #[.slice (some ⟨w.heap.size, 0, none⟩) n n, .int .i64 (W : Int), uv seed, .int .u64 0] 90)
    show Blk _ _ _ ((List.replicate (rows * W) 0).map nv).toArray
    rw [← HN.out, ← made_zero]
    exact e
theorem ix_div (s : Sk) (h : s.Ok) (i : Nat) : ((i * s.W : Nat) : Int) / (s.W : Int) = (i : Int) := by
  have := h.W1
  rw [← Int.natCast_ediv, Nat.mul_div_cancel _ (by omega)]
theorem seed_add (X : U) (i : Nat) : IntKind.u64.wrap ((X.toNat : Int) + IntKind.u64.wrap (i : Int)) = ((X + BitVec.ofNat 64 i).toNat : Int) := by
  rw [wrapU (i : Int), BitVec.ofInt_natCast, u_add]
set_option maxHeartbeats 1000000 in
theorem cell_calls (p c : Nat) (s : Sk) (key : ByteArray) (i : Nat) (f : Int) (w : World) (h : IsSk w p c s) (hi : i < s.rows) (hk : key.size ≤ 140737488351232) (hf : f = ((i * s.W : Nat) : Int)) :
    Calls Try.prog 45 #[.pointer (some ⟨p, 0, none⟩), .int .i64 f, .string key] w fun e w' => e = .returned (.pointer (some ⟨c, s.ix key.data.toList i, none⟩)) ∧ Below w.heap.size w w' := by
  have q0 := h.st.cell 0
  have q1 := h.st.cell 1
  have q2 := h.st.cell 2
  simp only [List.size_toArray, List.getElem?_toArray, List.getElem?_cons_zero, List.getElem?_cons_succ] at q0 q1 q2
  have hp := h.st.lt
  have hd := ix_div s h.ok i
  rw [← hf] at hd
  have hw1 := h.ok.W1
  have hwm := h.ok.Wm
  have hi8 : i < 8 := by have := h.ok.rows8; omega
  have hs := seed_add s.seed i
  have hlt := Sk.ix_lt s h.ok key.data.toList i hi
  have hn : s.rows * s.W ≤ 8192 := Nat.le_trans (Nat.mul_le_mul h.ok.rows8 hwm) (by decide)
  have hix : ((s.ix key.data.toList i : Nat) : Int) = f + in_ (s.seed + BitVec.ofNat 64 i) key.data.toList s.W := by
    have hr := in_range (s.seed + BitVec.ofNat 64 i) key.data.toList s.W (by omega)
    unfold Sk.ix
    rw [hf]
    omega
  have hin := Lib.hid (fun w => in_calls (s.seed + BitVec.ofNat 64 i) key s.W w hk (by omega))
  have hr := in_range (s.seed + BitVec.ofNat 64 i) key.data.toList s.W (by omega)
  obtain ⟨hr1, hr2⟩ := hr
  have hf0 : 0 ≤ f ∧ f ≤ 8192 := by
    have : i * s.W ≤ s.rows * s.W := Nat.mul_le_mul_right _ (by omega)
    omega
  obtain ⟨hf0, hf1⟩ := hf0
  generalize s.seed + BitVec.ofNat 64 i = sd at *
  generalize in_ sd key.data.toList s.W = v at *
  generalize s.rows * s.W = n at *
  generalize s.ix key.data.toList i = x at *
  have hx1 : 0 ≤ f + v := by omega
  have hx2 : f + v < (n : Int) := by omega
  have HX := Lib.hid (show (f + v).toNat = x by omega)
  have hw : IntKind.i64.wrap (f + v) = f + v := by rw [IntKind.wrap_i64]; omega
  clear hf hix hi
  go_enter Try.func45, Try.ntmps45
  go_wp2
  clear h
  go_region_held3 (fun w' => w'.cell? ⟨p, 0, none⟩ = some (.slice (some ⟨c, 0, none⟩) n n) ∧ w'.cell? ⟨p, 1, none⟩ = some (.int .i64 (s.W : Int)) ∧ w'.cell? ⟨p, 2, none⟩ = some (uv s.seed))
    (first | go_keep | (rw [hb.cell (p := ⟨p, 0, none⟩) (by simpa using hp), hb.cell (p := ⟨p, 1, none⟩) (by simpa using hp), hb.cell (p := ⟨p, 2, none⟩) (by simpa using hp)]; go_keep))
    (first | (go_at_call 50; (with_reducible refine (hin.out _).mono ?_); rintro e w1 ⟨rfl, hb⟩))
  all_goals go_wp2
  go_ret
  exact ⟨by simp [HX.out], bnext (Below.drew (Below.refl _ _)) hb⟩
theorem sum_lo (a b : Nat) (w : World) (h : a + b ≤ 18446744073709551615) : Calls Try.prog 46 #[nv a, nv b] w fun e w' => e = .returned (nv (sat a b)) ∧ w' = w := by
  have hw : IntKind.u64.wrap ((a : Int) + (b : Int)) = ((a + b : Nat) : Int) := by
    rw [wrapU, BitVec.toNat_ofInt]; omega
  rw [show sat a b = a + b from if_pos h]
  obtain ⟨z, hz⟩ : ∃ z, z = a + b := ⟨_, rfl⟩
  rw [← hz] at hw ⊢
  have ht : decide (a ≤ z) = true := by simp; omega
  clear hz h
  go_enter Try.func46, Try.ntmps46
  go_wp2
  go_ret
  exact ⟨rfl, rfl⟩
theorem sum_hi (a b : Nat) (w : World) (ha : a ≤ 18446744073709551615) (hb : b ≤ 18446744073709551615) (h : ¬ a + b ≤ 18446744073709551615) : Calls Try.prog 46 #[nv a, nv b] w fun e w' => e = .returned (nv (sat a b)) ∧ w' = w := by
  obtain ⟨z, hw, hz⟩ : ∃ z : Nat, IntKind.u64.wrap ((a : Int) + (b : Int)) = (z : Int) ∧ z < a :=
    ⟨a + b - 18446744073709551616, by rw [wrapU, BitVec.toNat_ofInt]; omega, by omega⟩
  rw [show sat a b = 18446744073709551615 from if_neg h]
  have ht : decide (a ≤ z) = false := by simp; omega
  clear hz h ha hb
  go_enter Try.func46, Try.ntmps46
  go_wp2
  go_ret
  exact ⟨rfl, rfl⟩
theorem sum_calls (a b : Nat) (w : World) (ha : a ≤ 18446744073709551615) (hb : b ≤ 18446744073709551615) : Calls Try.prog 46 #[nv a, nv b] w fun e w' => e = .returned (nv (sat a b)) ∧ w' = w := by
  by_cases h : a + b ≤ 18446744073709551615
  · exact sum_lo a b w h
  · exact sum_hi a b w ha hb h
theorem min_nat (k : IntKind) (ats : Array TypeId) (ty : TypeId) (x y : Nat) : Builtin.min_ ats ty #[.int k (x : Int), .int k (y : Int)] = pure (.int k ((min x y : Nat) : Int)) := by
  simp only [Builtin.min_, List.foldlM_cons, List.foldlM_nil, Builtin.min2]
  by_cases h : y < x
  · rw [if_pos (by omega), Nat.min_eq_right (by omega)]; rfl
  · rw [if_neg (by omega), Nat.min_eq_left (by omega)]; rfl
theorem max_nat (k : IntKind) (ats : Array TypeId) (ty : TypeId) (x y : Nat) : Builtin.max_ ats ty #[.int k (x : Int), .int k (y : Int)] = pure (.int k ((max x y : Nat) : Int)) := by
  simp only [Builtin.max_, List.foldlM_cons, List.foldlM_nil, Builtin.max2]
  by_cases h : x < y
  · rw [if_pos (by omega), Nat.max_eq_right (by omega)]; rfl
  · rw [if_neg (by omega), Nat.max_eq_left (by omega)]; rfl
theorem nv_get (l : List Nat) (i : Nat) (h : i < l.length) : ((l.map nv).toArray)[i]? = some (nv (l.getD i 0)) := by
  simp [List.getElem?_eq_getElem h, List.getD_eq_getElem?_getD]
attribute [local go_sem] min_nat max_nat
theorem count_calls (p c : Nat) (s : Sk) (key : ByteArray) (w : World) (h : IsSk w p c s) (hk : key.size ≤ 140737488351232) :
    Calls Try.prog 39 #[.pointer (some ⟨p, 0, none⟩), .string key] w fun e w' => e = .returned (nv (s.count key.data.toList)) ∧ Below w.heap.size w w' := by
  go_enter Try.func39, Try.ntmps39
  go_wp2
  go_loopw [5, 6] (fun n f wr => ∃ k : Nat, k ≤ s.rows ∧ f = .int .i64 ((k * s.W : Nat) : Int) ∧ n = nv (s.countK key.data.toList k) ∧ IsSk wr p c s ∧ Below w.heap.size w wr) (fun _ f _ => s.rows * s.W - (intOf f).toNat)
  case atStart => exact ⟨0, by omega, by simp, rfl, h, Below.refl _ _⟩
  case round =>
    obtain ⟨k, hk1, rfl, rfl, hs, hb⟩ := hrel
    have q0 := hs.st.cell 0
    have q1 := hs.st.cell 1
    simp only [List.size_toArray, List.getElem?_toArray, List.getElem?_cons_zero, List.getElem?_cons_succ] at q0 q1
    have hn : s.rows * s.W ≤ 8192 := Nat.le_trans (Nat.mul_le_mul h.ok.rows8 h.ok.Wm) (by decide)
    obtain ⟨f, hf⟩ : ∃ f : Nat, f = k * s.W := ⟨_, rfl⟩
    obtain ⟨n, hn2⟩ : ∃ n : Nat, n = s.rows * s.W := ⟨_, rfl⟩
    rw [← hf]
    rw [← hn2] at q0 hn
    have HF := Lib.hid hf
    have HN := Lib.hid hn2
    clear hf hn2
    by_cases hlt : k < s.rows
    · have hfn : f + s.W ≤ n := by
        rw [HF.out, HN.out]
        have := Nat.mul_le_mul_right s.W (show k + 1 ≤ s.rows by omega)
        rw [Nat.add_mul, Nat.one_mul] at this
        exact this
      have hw1 := h.ok.W1
      have hwm := h.ok.Wm
      have hcc := Lib.hid (cell_calls p c s key k (f : Int) wr hs hlt hk (by rw [HF.out]))
      have hixl := Sk.ix_lt s h.ok key.data.toList k hlt
      have HS := Lib.hid (show s.countK key.data.toList (k + 1) = min (s.countK key.data.toList k) (s.cells.getD (s.ix key.data.toList k) 0) from rfl)
      have hlen := h.ok.len
      generalize s.ix key.data.toList k = x at *
      go_wp2_with fail
      refine (hcc.out).mono ?_
      rintro e w2 ⟨rfl, hb2⟩
      have hs2 := hs.next hb2
      have hbb := bnext hb hb2
      have qx : w2.cell? ⟨c, x, none⟩ = some (nv (s.cells.getD x 0)) := by rw [hs2.cl.cell, nv_get _ _ (by rw [hlen]; exact hixl)]
      have r0 := hs2.st.cell 0
      have r1 := hs2.st.cell 1
      simp only [List.size_toArray, List.getElem?_toArray, List.getElem?_cons_zero, List.getElem?_cons_succ] at r0 r1
      clear q0 q1 hixl hlen
      generalize s.cells.getD x 0 = y at *
      generalize s.countK key.data.toList k = z at *
      go_wp2
      go_roundw
      case rel => exact ⟨k + 1, by omega, by rw [Nat.add_mul, Nat.one_mul, HF.out]; simp, by rw [HS.out], hs2, hbb⟩
      case measure => have := HN.out; simp [intOf]; omega
    · have : k = s.rows := by omega
      subst this
      have hge : decide (f < n) = false := by simp; rw [HF.out, HN.out]; exact Nat.le_refl _
      go_wp2
      go_ret
      exact ⟨rfl, hb⟩
/-- The sketch of which the first k rows' cells have been raised. -/
def Sk.at_ (s : Sk) (key : List UInt8) (m k : Nat) : Sk := { s with cells := s.raise key m k }
theorem Sk.at_ok (s : Sk) (h : s.Ok) (key : List UInt8) (m k : Nat) (hm : m ≤ 18446744073709551615) : (s.at_ key m k).Ok :=
  ⟨h.rows1, h.rows8, h.W1, h.Wm, by show (s.raise key m k).length = _; rw [Sk.raise_len]; exact h.len, Sk.raise_small s h key m k hm, h.tot⟩
theorem set_nv (l : List Nat) (i v : Nat) : ((l.map nv).toArray).setIfInBounds i (nv v) = ((l.set i v).map nv).toArray := by
  simp [List.map_set]
theorem add_calls (p c : Nat) (s : Sk) (key : ByteArray) (m : Nat) (w : World) (h : IsSk w p c s) (hk : key.size ≤ 140737488351232) (hm : m ≤ 18446744073709551615) :
    Calls Try.prog 40 #[.pointer (some ⟨p, 0, none⟩), .string key, nv m] w fun e w' => e = .returned (.tuple #[]) ∧ Chg (fun b => b = p ∨ b = c) w w' ∧ IsSk w' p c (s.add key.data.toList m) := by
  have hcnt := Sk.countK_le s key.data.toList s.rows
  have hcc := Lib.hid (count_calls p c s key w h hk)
  have hsm := Lib.hid (fun w => sum_calls (s.count key.data.toList) m w hcnt hm)
  have hst := Lib.hid (fun w => sum_calls s.total m w h.ok.tot hm)
  obtain ⟨M, hM⟩ : ∃ M, M = sat (s.count key.data.toList) m := ⟨_, rfl⟩
  rw [← hM] at hsm
  have HM := Lib.hid hM
  clear hM
  go_enter Try.func40, Try.ntmps40
  go_wp2_with fail
  refine (hcc.out).mono ?_
  rintro e w1 ⟨rfl, hb⟩
  go_wp2_with fail
  refine (hsm.out _).mono ?_
  rintro e w1' ⟨rfl, rfl⟩
  have hs1 := h.next hb
  have hch := Chg.of_below (fun b => b = p ∨ b = c) hb
  clear hb
  go_wp2_with fail
  have hMs : M ≤ 18446744073709551615 := by rw [HM.out]; exact Sk.sat_le _ _
  go_loopw [7] (fun f wr => ∃ k : Nat, k ≤ s.rows ∧ f = .int .i64 ((k * s.W : Nat) : Int) ∧ IsSk wr p c (s.at_ key.data.toList M k) ∧ Chg (fun b => b = p ∨ b = c) w wr) (fun f _ => s.rows * s.W - (intOf f).toNat)
  case atStart => exact ⟨0, by omega, by simp, hs1, hch⟩
  case round =>
    obtain ⟨k, hk1, rfl, hs, hb⟩ := hrel
    clear hs1 hch
    have q0 := hs.st.cell 0
    have q1 := hs.st.cell 1
    simp only [List.size_toArray, List.getElem?_toArray, List.getElem?_cons_zero, List.getElem?_cons_succ, Sk.at_] at q0 q1
    have hn : s.rows * s.W ≤ 8192 := Nat.le_trans (Nat.mul_le_mul h.ok.rows8 h.ok.Wm) (by decide)
    obtain ⟨f, hf⟩ : ∃ f : Nat, f = k * s.W := ⟨_, rfl⟩
    obtain ⟨n, hn2⟩ : ∃ n : Nat, n = s.rows * s.W := ⟨_, rfl⟩
    rw [← hf]
    rw [← hn2] at q0 hn
    have HF := Lib.hid hf
    have HN := Lib.hid hn2
    clear hf hn2
    by_cases hlt : k < s.rows
    · have hfn : f + s.W ≤ n := by
        rw [HF.out, HN.out]
        have := Nat.mul_le_mul_right s.W (show k + 1 ≤ s.rows by omega)
        rw [Nat.add_mul, Nat.one_mul] at this
        exact this
      have hw1 := h.ok.W1
      have hwm := h.ok.Wm
      have hcc := Lib.hid (cell_calls p c (s.at_ key.data.toList M k) key k (f : Int) wr hs hlt hk (by rw [HF.out]; rfl))
      have hixl : (s.at_ key.data.toList M k).ix key.data.toList k < s.rows * s.W := Sk.ix_lt _ hs.ok key.data.toList k hlt
      have HX := Lib.hid (show s.raise key.data.toList M (k + 1) = (s.raise key.data.toList M k).set ((s.at_ key.data.toList M k).ix key.data.toList k) (max ((s.raise key.data.toList M k).getD ((s.at_ key.data.toList M k).ix key.data.toList k) 0) M) from rfl)
      have hlen : (s.raise key.data.toList M k).length = s.rows * s.W := by rw [Sk.raise_len, h.ok.len]
      have hne := hs.ne
      generalize (s.at_ key.data.toList M k).ix key.data.toList k = x at *
      go_wp2_with fail
      refine (hcc.out).mono ?_
      rintro e w2 ⟨rfl, hb2⟩
      have hs2 := hs.next hb2
      have hbb := hb.thenB hb2
      have qx : w2.cell? ⟨c, x, none⟩ = some (nv ((s.raise key.data.toList M k).getD x 0)) := by rw [hs2.cl.cell]; exact nv_get (s.raise key.data.toList M k) _ (by rw [hlen]; exact hixl)
      have fx : w2.frozen? ⟨c, x, none⟩ = false := hs2.cl.frozen x
      clear q0 q1 hixl hlen
      obtain ⟨y, hy⟩ : ∃ y, y = (s.raise key.data.toList M k).getD x 0 := ⟨_, rfl⟩
      rw [← hy] at qx
      have HY := Lib.hid hy
      clear hy
      have HS3 := Lib.hid (show IsSk (w2.setCell ⟨c, x, none⟩ (nv (max y M))) p c (s.at_ key.data.toList M (k + 1)) from
        ⟨Sk.at_ok s h.ok _ _ _ hMs, hs2.st.far (p := ⟨c, x, none⟩) hne _, by
          have := hs2.cl.set_ x (nv (max y M))
          show Blk _ c 22 ((s.raise key.data.toList M (k + 1)).map nv).toArray
          rw [HX.out, ← HY.out, ← set_nv]
          exact this⟩)
      have HB3 := Lib.hid (hbb.setCell (p := ⟨c, x, none⟩) (.inl (.inr rfl)) (nv (max y M)))
      have r1 := HS3.out.st.cell 1
      simp only [List.size_toArray, List.getElem?_toArray, List.getElem?_cons_zero, List.getElem?_cons_succ, Sk.at_] at r1
      go_wp2
      go_roundw
      case rel => exact ⟨k + 1, by omega, by rw [Nat.add_mul, Nat.one_mul, HF.out]; simp, HS3.out, HB3.out⟩
      case measure => have := HN.out; simp [intOf]; omega
    · have : k = s.rows := by omega
      subst this
      have hge : decide (f < n) = false := by simp; rw [HF.out, HN.out]; exact Nat.le_refl _
      have q3 := hs.st.cell 3
      have f3 := hs.st.frozen 3
      simp only [List.size_toArray, List.getElem?_toArray, List.getElem?_cons_zero, List.getElem?_cons_succ, Sk.at_] at q3
      have HS3 := Lib.hid (show IsSk (wr.setCell ⟨p, 3, none⟩ (nv (sat s.total m))) p c (s.add key.data.toList m) from
        ⟨Sk.add_ok s h.ok _ _, by
          have := hs.st.set_ 3 (nv (sat s.total m))
          exact this, by
          have := hs.cl.far (p := ⟨p, 3, none⟩) (Ne.symm hs.ne) (nv (sat s.total m))
          show Blk _ c 22 ((s.raise key.data.toList (sat (s.count key.data.toList) m) s.rows).map nv).toArray
          rw [← HM.out]
          exact this⟩)
      have HB3 := Lib.hid (hb.setCell (p := ⟨p, 3, none⟩) (.inl (.inl rfl)) (nv (sat s.total m)))
      go_wp2_with fail
      refine (hst.out _).mono ?_
      rintro e w3 ⟨rfl, rfl⟩
      go_wp2
      go_end0
      exact ⟨rfl, HB3.out, HS3.out⟩
end Go.Proofs.Ytjpfamminemegaa.Tele
namespace Go.Proofs.Ytjpfamminemegaa.Tele
open Go.RowKit
set_option linter.unusedVariables false
set_option linter.unusedSimpArgs false

/-- A pointer to a block's begin. -/
abbrev pv (p : Nat) : Value := .pointer (some ⟨p, 0, none⟩)
theorem new_any (rows W : Nat) (seed : U) (w : World) (h1 : 1 ≤ rows) (h2 : rows ≤ 8) (h3 : 1 ≤ W) (h4 : W ≤ 1024) :
    Calls Try.prog 36 #[.int .i64 (rows : Int), .int .i64 (W : Int), uv seed] w fun e w' => ∃ p c, e = .returned (pv p) ∧ Below w.heap.size w w' ∧ IsSk w' p c (Sk.new rows W seed) ∧ w.heap.size ≤ p ∧ w.heap.size ≤ c :=
  (new_yes rows W seed w h1 h2 h3 h4).mono fun e w' ⟨he, hb, hs⟩ => ⟨_, _, he, hb, hs, by omega, by omega⟩
/-- One more deed on a sketch of the call's own. -/
theorem bsk {w w1 w2 : World} {p c : Nat} (h : Below w.heap.size w w1) (k : Chg (fun b => b = p ∨ b = c) w1 w2) (hp : w.heap.size ≤ p) (hc : w.heap.size ≤ c) : Below w.heap.size w w2 :=
  bchg h k fun j hj => by rcases hj with rfl | rfl <;> assumption
theorem u_of_wf {x : Int} (h : (Lit.int .u64 x).wf = true) : ∃ X : U, x = (X.toNat : Int) := by
  have h' : 0 ≤ x ∧ x ≤ 18446744073709551615 := by simpa [Lit.wf, IntKind.min, IntKind.max, IntKind.bits, IntKind.signed] using h
  exact u_eq x h'.1 h'.2
theorem u8_of_wf {x : Int} (h : (Lit.int .u8 x).wf = true) : 0 ≤ x ∧ x ≤ 255 := by
  simpa [Lit.wf, IntKind.min, IntKind.max, IntKind.bits, IntKind.signed] using h
theorem getD_mem_or {l : List Int} {j : Nat} (h : j < l.length) : l.getD j 0 ∈ l := by
  rw [List.getD_eq_getElem?_getD, List.getElem?_eq_getElem h]
  exact List.getElem_mem h
theorem nat_of_wf {x : Int} (h : (Lit.int .u64 x).wf = true) : ∃ q : Nat, x = (q : Int) ∧ q ≤ 18446744073709551615 := by
  have h' : 0 ≤ x ∧ x ≤ 18446744073709551615 := by simpa [Lit.wf, IntKind.min, IntKind.max, IntKind.bits, IntKind.signed] using h
  exact ⟨x.toNat, by omega, by omega⟩
end Go.Proofs.Ytjpfamminemegaa.Tele
namespace Go.Proofs.Ytjpfamminemegaa.Tele
open Go.RowKit
set_option linter.unusedVariables false
set_option linter.unusedSimpArgs false

/-- A text of one byte. -/
def oneS (n : Int) : ByteArray := strOfNums [n]
theorem conv_one (W : World) (g : Nat) (n : Int) (h : W.cell? ⟨g, 0, none⟩ = some (.int .u8 n)) : (convert 33 9 (.slice (some ⟨g, 0, none⟩) 1 1)).run Try.prog W = .ok (.string (oneS n)) W :=
  run_convert_bytes_arg W 33 5 Try.underlying33 Try.underlying5 g 0 1 1 [n] rfl (fun i hi => by
    have e : i = 0 := by omega
    subst e
    exact h) 9 Try.underlying9
/-- A key, as a choice says. -/
def keyS (c : Int) : ByteArray := ⟨#[107]⟩ ++ oneS (97 + c % 12)
def keyL (c : Int) : List UInt8 := [107, UInt8.ofNat (97 + c % 12).toNat]
theorem keyS_list (c : Int) : (keyS c).data.toList = keyL c := rfl
theorem keyS_size (c : Int) : (keyS c).size ≤ 140737488351232 := by
  have : (keyS c).size = (keyL c).length := by rw [← keyS_list]; simp
  rw [this]
  simp [keyL]
theorem keyL_mod (c : Int) : keyL (c % 12) = keyL c := by unfold keyL; rw [Int.emod_emod]
theorem keyL_inj (a b : Int) : keyL a = keyL b ↔ a % 12 = b % 12 := by
  constructor
  · intro h
    unfold keyL at h
    injection h with _ h
    injection h with h _
    have h2 := congrArg UInt8.toNat h
    simp only [UInt8.toNat_ofNat'] at h2
    omega
  · intro h
    unfold keyL
    rw [h]
theorem key_calls (c : Int) (w : World) (h0 : 0 ≤ c) (h1 : c ≤ 255) : Calls Try.prog 19 #[.int .u8 c] w fun e w' => e = .returned (.string (keyS c)) ∧ Below w.heap.size w w' := by
  have hcv := fun W g => conv_one W g (97 + c % 12)
  go_enter Try.func19, Try.ntmps19
  go_wp2
  go_ret
  exact ⟨rfl, bl_alloc (Below.refl _ _) _⟩
end Go.Proofs.Ytjpfamminemegaa.Tele
