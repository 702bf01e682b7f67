/- Digits and their way back, in plain words. No conditions. -/
import Derived.Test.YtaejdkfonlkhaaaDoorLawGrows
namespace Go.Proofs.YtaejdkfonlkhaaaDoor.Tele
open Go.RowKit
set_option linter.unusedVariables false
set_option linter.unusedSimpArgs false

theorem hex_back : ∀ d : Fin 16, hexv (hexL.getD d.val 0) = (d.val : Int) := by decide +kernel
theorem hexv48 : hexv 48 = 0 := by decide +kernel
theorem hexv0 : (hexv 0).toNat = 0 := by decide +kernel
theorem pval_ext (l m : List UInt8) : ∀ k, (∀ j, j < k → (hexv (l.getD j 0)).toNat = (hexv (m.getD j 0)).toNat) → pval l k = pval m k
  | 0, _ => rfl
  | k + 1, h => by
    show pval l k + _ = pval m k + _
    rw [pval_ext l m k (fun j hj => h j (by omega)), h k (by omega)]
theorem pval_stop (l : List UInt8) (n : Nat) (hl : l.length ≤ n) : ∀ k, pval l (n + k) = pval l n
  | 0 => rfl
  | k + 1 => by
    show pval l (n + k) + (hexv (l.getD (n + k) 0)).toNat * 2 ^ (4 * (13 - (n + k))) = pval l n
    rw [pval_stop l n hl k, List.getD_eq_getElem?_getD, List.getElem?_eq_none (show l.length ≤ n + k by omega)]
    show pval l n + (hexv 0).toNat * _ = _
    rw [hexv0, Nat.zero_mul, Nat.add_zero]
theorem pval_full (l : List UInt8) (h : l.length ≤ 14) : pval l l.length = pval l 14 := by
  have := pval_stop l l.length (Nat.le_refl _) (14 - l.length)
  rw [show l.length + (14 - l.length) = 14 by omega] at this
  exact this.symm
theorem digs_len (t : Nat) : (digs t).length = 14 := by simp [digs]
theorem digs_at (t j : Nat) (hj : j < 14) : (digs t).getD j 0 = dig t j := by
  rw [List.getD_eq_getElem?_getD]
  simp [digs, hj]
theorem hexv_dig (t j : Nat) : hexv (dig t j) = ((t / 2 ^ (4 * (13 - j)) % 16 : Nat) : Int) := hex_back ⟨t / 2 ^ (4 * (13 - j)) % 16, Nat.mod_lt _ (by decide)⟩
theorem pval_digs (t : Nat) (ht : t < 72057594037927936) : ∀ k, k ≤ 14 → pval (digs t) k = t / 2 ^ (4 * (14 - k)) * 2 ^ (4 * (14 - k))
  | 0, _ => by
    show 0 = t / 2 ^ 56 * 2 ^ 56
    rw [Nat.div_eq_of_lt (by omega), Nat.zero_mul]
  | k + 1, hk => by
    show pval (digs t) k + _ = _
    rw [pval_digs t ht k (by omega), digs_at t k (by omega), hexv_dig, Int.toNat_natCast]
    rw [show 4 * (14 - k) = 4 * (13 - k) + 4 by omega, show 4 * (14 - (k + 1)) = 4 * (13 - k) by omega, Nat.pow_add, ← Nat.div_div_eq_div_mul]
    generalize t / 2 ^ (4 * (13 - k)) = q
    rw [Nat.mul_comm (2 ^ (4 * (13 - k))) (2 ^ 4), ← Nat.mul_assoc, ← Nat.add_mul]
    congr 1
    omega
/-- A text of digits with noughts struck: its beginning. -/
theorem trim_parts (l : List UInt8) : ∃ k, l = Lib.trimRightB l 48 ++ List.replicate k 48 := by
  have h : ∀ m : List UInt8, ∃ k, m = List.replicate k 48 ++ m.dropWhile (· == 48) := by
    intro m
    induction m with
    | nil => exact ⟨0, rfl⟩
    | cons a m ih =>
      by_cases ha : a = 48
      · subst ha
        obtain ⟨k, hk⟩ := ih
        refine ⟨k + 1, ?_⟩
        rw [List.dropWhile_cons_of_pos (by simp), List.replicate_succ, List.cons_append, ← hk]
      · refine ⟨0, ?_⟩
        rw [List.dropWhile_cons_of_neg (by simpa using ha)]
        rfl
  obtain ⟨k, hk⟩ := h l.reverse
  refine ⟨k, ?_⟩
  have := congrArg List.reverse hk
  rw [List.reverse_reverse, List.reverse_append, List.reverse_replicate] at this
  exact this
theorem digits_parts (t : Nat) : ∃ k, digs t = digits t ++ List.replicate k 48 ∧ 1 ≤ (digits t).length := by
  obtain ⟨k, hk⟩ := trim_parts (digs t)
  have hl := digs_len t
  unfold digits
  split
  · rename_i h
    rw [h] at hk
    rw [List.nil_append] at hk
    have hk14 : k = 14 := by rw [hk, List.length_replicate] at hl; exact hl
    refine ⟨13, ?_, by simp⟩
    rw [hk, hk14]
    rfl
  · rename_i h
    exact ⟨k, hk, by cases hh : Lib.trimRightB (digs t) 48 with | nil => exact absurd hh h | cons a b => simp⟩
theorem getD_pad (l : List UInt8) (k j : Nat) : (hexv ((l ++ List.replicate k 48).getD j 0)).toNat = (hexv (l.getD j 0)).toNat := by
  rw [List.getD_eq_getElem?_getD, List.getD_eq_getElem?_getD]
  by_cases h : j < l.length
  · rw [List.getElem?_append_left h]
  · rw [List.getElem?_append_right (by omega), List.getElem?_eq_none (l := l) (by omega)]
    by_cases h2 : j - l.length < k
    · rw [List.getElem?_replicate, if_pos h2]
      show (hexv 48).toNat = (hexv 0).toNat
      decide +kernel
    · rw [List.getElem?_replicate, if_neg h2]
theorem pval_pad (l : List UInt8) (k n : Nat) : pval (l ++ List.replicate k 48) n = pval l n := pval_ext _ _ n fun j _ => getD_pad l k j
theorem digs_hex (t : Nat) : allHex (digs t) = true := by
  unfold allHex digs
  rw [List.all_eq_true]
  intro c hc
  obtain ⟨j, hj, rfl⟩ := List.mem_map.mp hc
  rw [hexv_dig]
  exact decide_eq_true (Int.natCast_nonneg _)
theorem digits_back (t : Nat) (ht : t < 72057594037927936) : 1 ≤ (digits t).length ∧ (digits t).length ≤ 14 ∧ allHex (digits t) = true ∧ allHex (digits t ++ [48]) = true ∧ pval (digits t) (digits t).length = t ∧ ((digits t).length < 14 → pval (digits t ++ [48]) ((digits t).length + 1) = t) := by
  obtain ⟨k, hk, h1⟩ := digits_parts t
  have hlen := congrArg List.length hk
  rw [digs_len, List.length_append, List.length_replicate] at hlen
  have hp : pval (digits t) 14 = t := by
    have h := pval_digs t ht 14 (Nat.le_refl _)
    rw [hk, pval_pad] at h
    simpa using h
  have hx : allHex (digits t) = true := by
    have h := digs_hex t
    rw [hk] at h
    unfold allHex at h ⊢
    rw [List.all_append, Bool.and_eq_true] at h
    exact h.1
  refine ⟨h1, by omega, hx, ?_, ?_, ?_⟩
  · unfold allHex at hx ⊢
    rw [List.all_append, hx]
    decide +kernel
  · rw [pval_full _ (by omega), hp]
  · intro hl
    have e := pval_full (digits t ++ [48]) (by rw [List.length_append]; simp; omega)
    rw [List.length_append] at e
    have e2 := pval_pad (digits t) 1 14
    rw [show (List.replicate 1 (48 : UInt8)) = [48] from rfl, hp] at e2
    rw [e2] at e
    exact e
end Go.Proofs.YtaejdkfonlkhaaaDoor.Tele
