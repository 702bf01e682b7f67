/- Sketches as plain lists of numbers. No conditions. -/
import Derived.Test.YtiohjmpnkoohjaaPHash
set_option linter.unusedVariables false
set_option linter.unusedSimpArgs false
namespace Go.Proofs.Ytiohjmpnkoohjaa.Tele

/-- The greatest number of 64 digits. -/
def topN : Nat := 18446744073709551615
/-- A sum that stops there. -/
def sat (a b : Nat) : Nat := if a + b ≤ 18446744073709551615 then a + b else 18446744073709551615
structure Sk where
  rows : Nat
  W : Nat
  seed : U
  cells : List Nat
  total : Nat

namespace Sk
/-- A key's place in row i. -/
def ix (s : Sk) (key : List UInt8) (i : Nat) : Nat := i * s.W + (in_ (s.seed + BitVec.ofNat 64 i) key s.W).toNat
def countK (s : Sk) (key : List UInt8) : Nat → Nat
  | 0 => topN
  | k + 1 => min (countK s key k) (s.cells.getD (s.ix key k) 0)
def count (s : Sk) (key : List UInt8) : Nat := s.countK key s.rows
def raise (s : Sk) (key : List UInt8) (m : Nat) : Nat → List Nat
  | 0 => s.cells
  | k + 1 => (raise s key m k).set (s.ix key k) (max ((raise s key m k).getD (s.ix key k) 0) m)
def add (s : Sk) (key : List UInt8) (n : Nat) : Sk := { s with cells := s.raise key (sat (s.count key) n) s.rows, total := sat s.total n }
/-- What holds of every one. -/
structure Ok (s : Sk) : Prop where
  rows1 : 1 ≤ s.rows
  rows8 : s.rows ≤ 8
  W1 : 1 ≤ s.W
  Wm : s.W ≤ 1024
  len : s.cells.length = s.rows * s.W
  small : ∀ x ∈ s.cells, x ≤ 18446744073709551615
  tot : s.total ≤ 18446744073709551615
def new (rows W : Nat) (seed : U) : Sk := { rows, W, seed, cells := List.replicate (rows * W) 0, total := 0 }

theorem sat_le (a b : Nat) : sat a b ≤ 18446744073709551615 := by unfold sat; split <;> omega
theorem new_ok (rows W : Nat) (seed : U) (h1 : 1 ≤ rows) (h2 : rows ≤ 8) (h3 : 1 ≤ W) (h4 : W ≤ 1024) : (new rows W seed).Ok :=
  ⟨h1, h2, h3, h4, by simp [new], by simp [new], by simp [new]⟩
theorem in_lt (s : Sk) (h : s.Ok) (key : List UInt8) (i : Nat) : (in_ (s.seed + BitVec.ofNat 64 i) key s.W).toNat < s.W := by
  have h1 := h.W1
  have h2 := in_range (s.seed + BitVec.ofNat 64 i) key s.W (by omega)
  omega
theorem ix_lt (s : Sk) (h : s.Ok) (key : List UInt8) (i : Nat) (hi : i < s.rows) : s.ix key i < s.rows * s.W := by
  have h1 := in_lt s h key i
  have h2 : (i + 1) * s.W ≤ s.rows * s.W := Nat.mul_le_mul_right _ hi
  unfold ix
  rw [Nat.add_mul, Nat.one_mul] at h2
  omega
theorem ix_row (s : Sk) (h : s.Ok) (key : List UInt8) (i : Nat) : s.ix key i / s.W = i := by
  have h1 := in_lt s h key i
  unfold ix
  rw [Nat.mul_comm, Nat.mul_add_div (by have := h.W1; omega), Nat.div_eq_of_lt h1]
  rfl
theorem ix_ne (s : Sk) (h : s.Ok) (k l : List UInt8) (i j : Nat) (hij : i ≠ j) : s.ix k i ≠ s.ix l j := by
  intro e
  have h1 := ix_row s h k i
  rw [e, ix_row s h l j] at h1
  exact hij h1.symm
theorem raise_len (s : Sk) (key : List UInt8) (m k : Nat) : (s.raise key m k).length = s.cells.length := by
  induction k with
  | zero => rfl
  | succ k ih => simp [raise, ih]
theorem raise_small (s : Sk) (h : s.Ok) (key : List UInt8) (m k : Nat) (hm : m ≤ 18446744073709551615) : ∀ x ∈ s.raise key m k, x ≤ 18446744073709551615 := by
  induction k with
  | zero => exact h.small
  | succ k ih =>
    intro x hx
    have hg : (s.raise key m k).getD (s.ix key k) 0 ≤ 18446744073709551615 := by
      rw [List.getD_eq_getElem?_getD]
      cases hq : (s.raise key m k)[s.ix key k]? with
      | none => simp
      | some y => exact ih y (List.mem_of_getElem? hq)
    rcases List.mem_or_eq_of_mem_set hx with h1 | h1
    · exact ih x h1
    · subst h1
      exact Nat.max_le.2 ⟨hg, hm⟩
theorem add_ok (s : Sk) (h : s.Ok) (key : List UInt8) (n : Nat) : (s.add key n).Ok :=
  ⟨h.rows1, h.rows8, h.W1, h.Wm, by simp only [add]; rw [raise_len]; exact h.len, raise_small s h key _ _ (sat_le _ _), sat_le _ _⟩
theorem getD_small (l : List Nat) (h : ∀ x ∈ l, x ≤ 18446744073709551615) (i : Nat) : l.getD i 0 ≤ 18446744073709551615 := by
  rw [List.getD_eq_getElem?_getD]
  cases hq : l[i]? with
  | none => simp
  | some y => exact h y (List.mem_of_getElem? hq)
theorem countK_le (s : Sk) (key : List UInt8) (k : Nat) : s.countK key k ≤ 18446744073709551615 := by
  induction k with
  | zero => exact Nat.le_refl _
  | succ k ih => exact Nat.le_trans (Nat.min_le_left _ _) ih
/-- A place of a later row is untouched by the first k rows. -/
theorem raise_get (s : Sk) (h : s.Ok) (key : List UInt8) (m k : Nat) (l : List UInt8) (j : Nat) (hk : k ≤ s.rows) (hj : j < s.rows) :
    (s.raise key m k).getD (s.ix l j) 0 = if j < k ∧ s.ix key j = s.ix l j then max (s.cells.getD (s.ix l j) 0) m else s.cells.getD (s.ix l j) 0 := by
  induction k with
  | zero => simp [raise]
  | succ k ih =>
    have ih := ih (by omega)
    simp only [raise]
    rw [List.getD_eq_getElem?_getD, List.getElem?_set]
    by_cases hkj : k = j
    · subst hkj
      by_cases he : s.ix key k = s.ix l k
      · have hlt : s.ix key k < (s.raise key m k).length := by rw [raise_len, h.len]; exact ix_lt s h key k hj
        have hc : k < k + 1 ∧ s.ix key k = s.ix l k := ⟨by omega, he⟩
        rw [if_pos he, if_pos hlt, if_pos hc, Option.getD_some, he, ih, if_neg (by omega)]
      · rw [if_neg he, if_neg (by omega), ← List.getD_eq_getElem?_getD, ih, if_neg (by omega)]
    · rw [if_neg (ix_ne s h key l k j hkj), ← List.getD_eq_getElem?_getD, ih]
      by_cases hc : j < k ∧ s.ix key j = s.ix l j
      · rw [if_pos hc, if_pos ⟨by omega, hc.2⟩]
      · rw [if_neg hc, if_neg (fun hh => hc ⟨by omega, hh.2⟩)]
end Sk
end Go.Proofs.Ytiohjmpnkoohjaa.Tele
