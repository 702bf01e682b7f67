/- The arithmetic of a division of two words by one. No conditions but that the quotient is one word. -/
import Derived.Lib.ItoaNum
import Derived.Laws.Bits64b
import Derived.Below
set_option linter.unusedVariables false
set_option linter.unusedSimpArgs false
namespace Go.Proofs.Ytjpfamminemegaa.Tele

/-- An estimate of a digit, and what it leaves. -/
structure Est (U d1 d0 u1 q r : Nat) : Prop where
  eq : q * d1 + r = U
  up : (U * 4294967296 + u1) / (d1 * 4294967296 + d0) ≤ q

theorem est_mul (q d1 d0 : Nat) : q * (d1 * 4294967296 + d0) = q * d1 * 4294967296 + q * d0 := by
  rw [Nat.mul_add, Nat.mul_assoc]
theorem est_start (U d1 d0 u1 : Nat) (h1 : 0 < d1) (hu : u1 < 4294967296) : Est U d1 d0 u1 (U / d1) (U % d1) := by
  refine ⟨Nat.div_add_mod' U d1, ?_⟩
  rw [Nat.le_div_iff_mul_le h1]
  have h := Nat.div_mul_le_self (U * 4294967296 + u1) (d1 * 4294967296 + d0)
  generalize (U * 4294967296 + u1) / (d1 * 4294967296 + d0) = Q at h ⊢
  rw [est_mul] at h
  generalize Q * d1 = a at h ⊢
  omega
theorem est_less {U d1 d0 u1 q r : Nat} (h : Est U d1 d0 u1 q r) (h1 : 0 < d1) (hu : u1 < 4294967296) (hU : U < d1 * 4294967296 + d0) (t : 4294967296 ≤ q ∨ 4294967296 * r + u1 < q * d0) :
    1 ≤ q ∧ Est U d1 d0 u1 (q - 1) (r + d1) := by
  have hlt : (U * 4294967296 + u1) / (d1 * 4294967296 + d0) < q := by
    rw [Nat.div_lt_iff_lt_mul (by omega)]
    rcases t with t | t
    · calc U * 4294967296 + u1 < 4294967296 * (d1 * 4294967296 + d0) := by omega
        _ ≤ q * (d1 * 4294967296 + d0) := Nat.mul_le_mul_right _ t
    · rw [est_mul]
      have := h.eq
      generalize q * d1 = a at this ⊢
      omega
  have hq1 : 1 ≤ q := Nat.lt_of_le_of_lt (Nat.zero_le _) hlt
  refine ⟨hq1, ?_, Nat.le_sub_one_of_lt hlt⟩
  have := h.eq
  obtain ⟨k, rfl⟩ : ∃ k, q = k + 1 := ⟨q - 1, by omega⟩
  rw [Nat.add_sub_cancel]
  rw [Nat.add_mul, Nat.one_mul] at this
  omega
theorem est_done {U d1 d0 u1 q r : Nat} (h : Est U d1 d0 u1 q r) (h1 : 0 < d1) (t : q * d0 ≤ 4294967296 * r + u1) : q = (U * 4294967296 + u1) / (d1 * 4294967296 + d0) := by
  refine Nat.le_antisymm ?_ h.up
  rw [Nat.le_div_iff_mul_le (by omega), est_mul]
  have := h.eq
  generalize q * d1 = a at this ⊢
  omega
theorem est_far {U d1 d0 u1 q r : Nat} (h : Est U d1 d0 u1 q r) (h1 : 0 < d1) (hd : d0 < 4294967296) (hU : U < d1 * 4294967296 + d0) (hr : 4294967296 ≤ r) : q = (U * 4294967296 + u1) / (d1 * 4294967296 + d0) := by
  refine est_done h h1 ?_
  have hq : q < 4294967296 := by
    have := h.eq
    apply Classical.byContradiction
    intro hn
    have h2 : 4294967296 * d1 ≤ q * d1 := Nat.mul_le_mul_right _ (by omega)
    omega
  have h3 : q * d0 ≤ 4294967295 * 4294967295 := Nat.mul_le_mul (by omega) (by omega)
  omega
theorem est_lt (U d1 d0 u1 : Nat) (hu : u1 < 4294967296) (hU : U < d1 * 4294967296 + d0) : (U * 4294967296 + u1) / (d1 * 4294967296 + d0) < 4294967296 := by
  rw [Nat.div_lt_iff_lt_mul (by omega)]
  omega
theorem div_join (A u0 Y K : Nat) (hY : 0 < Y) : (A * K + u0) / Y = A / Y * K + (A % Y * K + u0) / Y := by
  have h := Nat.div_add_mod A Y
  have e : A * K + u0 = Y * (A / Y * K) + (A % Y * K + u0) := by
    have : A * K = (Y * (A / Y) + A % Y) * K := by rw [h]
    rw [this, Nat.add_mul, Nat.mul_assoc, Nat.add_assoc]
  rw [e, Nat.mul_add_div hY]
theorem mod_join (A u0 Y K : Nat) : (A * K + u0) % Y = (A % Y * K + u0) % Y := by
  have h := Nat.div_add_mod A Y
  have e : A * K + u0 = (A % Y * K + u0) + Y * (A / Y * K) := by
    have : A * K = (Y * (A / Y) + A % Y) * K := by rw [h]
    rw [this, Nat.add_mul, Nat.mul_assoc]
    omega
  rw [e, Nat.add_mul_mod_self_left]
/-- How far y is shifted till its first digit stands at the top. -/
theorem lead (y : Nat) (h0 : y ≠ 0) (h : y < 18446744073709551616) : ∃ s, s ≤ 63 ∧ Lib.bitLen y + s = 64 ∧ 9223372036854775808 ≤ y * 2 ^ s ∧ y * 2 ^ s < 18446744073709551616 := by
  obtain ⟨h1, h2, h3⟩ := Lib.bitLenAux_bounds 64 y h h0
  have hl : Lib.bitLenAux 64 y ≤ 64 := by
    apply Classical.byContradiction
    intro hn
    have : (2 : Nat) ^ 64 ≤ 2 ^ (Lib.bitLenAux 64 y - 1) := Nat.pow_le_pow_right (by decide) (by omega)
    have e : (2 : Nat) ^ 64 = 18446744073709551616 := by decide
    omega
  have hb : Lib.bitLen y = Lib.bitLenAux 64 y := rfl
  refine ⟨64 - Lib.bitLenAux 64 y, by omega, by omega, ?_, ?_⟩
  · have e : (9223372036854775808 : Nat) = 2 ^ (Lib.bitLenAux 64 y - 1) * 2 ^ (64 - Lib.bitLenAux 64 y) := by
      rw [← Nat.pow_add, show Lib.bitLenAux 64 y - 1 + (64 - Lib.bitLenAux 64 y) = 63 by omega]
    rw [e]
    exact Nat.mul_le_mul_right _ h2
  · have e : (18446744073709551616 : Nat) = 2 ^ (Lib.bitLenAux 64 y) * 2 ^ (64 - Lib.bitLenAux 64 y) := by
      rw [← Nat.pow_add, show Lib.bitLenAux 64 y + (64 - Lib.bitLenAux 64 y) = 64 by omega]
    rw [e]
    exact Nat.mul_lt_mul_of_pos_right h3 (Nat.pow_pos (by decide))
/-- The two words, shifted. -/
theorem shifted (hi lo s : Nat) (hs : s ≤ 63) : (hi * 18446744073709551616 + lo) * 2 ^ s = (hi * 2 ^ s + lo / 2 ^ (64 - s)) * 18446744073709551616 + lo * 2 ^ s % 18446744073709551616 := by
  have e : (18446744073709551616 : Nat) = 2 ^ (64 - s) * 2 ^ s := by
    rw [← Nat.pow_add, show 64 - s + s = 64 by omega]
  have h1 : lo * 2 ^ s / 18446744073709551616 = lo / 2 ^ (64 - s) := by
    rw [e, Nat.mul_div_mul_right _ _ (Nat.pow_pos (by decide))]
  have h2 := Nat.div_add_mod (lo * 2 ^ s) 18446744073709551616
  rw [h1] at h2
  rw [Nat.add_mul, Nat.add_mul, Nat.mul_right_comm]
  omega
theorem low_part (lo s : Nat) (hs : s ≤ 63) (h : lo < 18446744073709551616) : lo / 2 ^ (64 - s) < 2 ^ s := by
  have e : (18446744073709551616 : Nat) = 2 ^ s * 2 ^ (64 - s) := by
    rw [← Nat.pow_add, show s + (64 - s) = 64 by omega]
  rw [Nat.div_lt_iff_lt_mul (Nat.pow_pos (by decide)), ← e]
  exact h
theorem or_add (hi l s : Nat) (h : l < 2 ^ s) : hi * 2 ^ s ||| l = hi * 2 ^ s + l := by
  rw [Nat.mul_comm, ← Nat.two_pow_add_eq_or_of_lt h]
theorem top_lt (hi lo y s : Nat) (hs : s ≤ 63) (hl : lo < 18446744073709551616) (h : hi < y) : hi * 2 ^ s + lo / 2 ^ (64 - s) < y * 2 ^ s := by
  have h1 := low_part lo s hs hl
  have h2 : (hi + 1) * 2 ^ s ≤ y * 2 ^ s := Nat.mul_le_mul_right _ h
  rw [Nat.add_mul, Nat.one_mul] at h2
  omega
theorem join_aux (N z U V u1 u0 : Nat) (h : N * z = U * 18446744073709551616 + V) (hV : u1 * 4294967296 + u0 = V) : (U * 4294967296 + u1) * 4294967296 + u0 = N * z := by
  have k : 4294967296 * 4294967296 = 18446744073709551616 := by decide
  rw [h, ← hV, Nat.add_mul, Nat.mul_assoc, Nat.add_assoc, k]
/-- The quotient, by two digits. -/
theorem div_two (hi lo y s U u1 u0 : Nat) (hs : s ≤ 63) (hU : U = hi * 2 ^ s + lo / 2 ^ (64 - s)) (hV : u1 * 4294967296 + u0 = lo * 2 ^ s % 18446744073709551616) (hy : 0 < y) :
    (hi * 18446744073709551616 + lo) / y = (U * 4294967296 + u1) / (y * 2 ^ s) * 4294967296 + ((U * 4294967296 + u1) % (y * 2 ^ s) * 4294967296 + u0) / (y * 2 ^ s) := by
  have hp : 0 < 2 ^ s := Nat.pow_pos (by decide)
  have hY : 0 < y * 2 ^ s := Nat.mul_pos hy hp
  have e0 := shifted hi lo s hs
  rw [← hU] at e0
  generalize lo * 2 ^ s % 18446744073709551616 = V at hV e0
  have e := join_aux _ _ U V u1 u0 e0 hV
  rw [← div_join _ _ _ _ hY, e, Nat.mul_div_mul_right _ _ hp]
theorem mod_two (hi lo y s U u1 u0 : Nat) (hs : s ≤ 63) (hU : U = hi * 2 ^ s + lo / 2 ^ (64 - s)) (hV : u1 * 4294967296 + u0 = lo * 2 ^ s % 18446744073709551616) :
    ((U * 4294967296 + u1) % (y * 2 ^ s) * 4294967296 + u0) % (y * 2 ^ s) / 2 ^ s = (hi * 18446744073709551616 + lo) % y := by
  have hp : 0 < 2 ^ s := Nat.pow_pos (by decide)
  have e0 := shifted hi lo s hs
  rw [← hU] at e0
  generalize lo * 2 ^ s % 18446744073709551616 = V at hV e0
  have e := join_aux _ _ U V u1 u0 e0 hV
  rw [← mod_join, e, Nat.mul_mod_mul_right, Nat.mul_div_cancel _ hp]
/-- The test of the estimate, over whole numbers. -/
theorem test_nat {d0 u1 a b : Nat} {qa rb : Int} (e1 : qa = a) (e2 : rb = b) (t : 4294967296 ≤ qa ∨ 4294967296 * rb + (u1 : Int) < qa * (d0 : Int)) : 4294967296 ≤ a ∨ 4294967296 * b + u1 < a * d0 := by
  subst e1 e2
  rcases t with t | t
  · exact .inl (by omega)
  · refine .inr ?_
    rw [← Int.natCast_mul] at t
    omega
theorem est_again {U d1 d0 u1 a b : Nat} {qa rb : Int} (H : qa = a ∧ rb = b ∧ Est U d1 d0 u1 a b) (h1 : 0 < d1) (hu : u1 ≤ 4294967295) (hU : U < d1 * 4294967296 + d0) (t : 4294967296 ≤ qa ∨ 4294967296 * rb + (u1 : Int) < qa * (d0 : Int)) :
    1 ≤ a ∧ qa - 1 = ((a - 1 : Nat) : Int) ∧ rb + (d1 : Int) = ((b + d1 : Nat) : Int) ∧ Est U d1 d0 u1 (a - 1) (b + d1) := by
  obtain ⟨e1, e2, h⟩ := H
  obtain ⟨ha, h'⟩ := est_less h h1 (by omega) hU (test_nat e1 e2 t)
  subst e1 e2
  exact ⟨ha, by omega, by omega, h'⟩
theorem est_break {U d1 d0 u1 a b : Nat} {qa rb : Int} (H : qa = a ∧ rb = b ∧ Est U d1 d0 u1 a b) (h1 : 0 < d1) (hd : d0 ≤ 4294967295) (hu : u1 ≤ 4294967295) (hU : U < d1 * 4294967296 + d0) (t : 4294967296 ≤ qa ∨ 4294967296 * rb + (u1 : Int) < qa * (d0 : Int)) (hr : 4294967296 ≤ rb + (d1 : Int)) :
    qa - 1 = (((U * 4294967296 + u1) / (d1 * 4294967296 + d0) : Nat) : Int) := by
  obtain ⟨ha, e1, e2, h⟩ := est_again H h1 hu hU t
  rw [e1]
  rw [e2] at hr
  rw [est_far h h1 (by omega) hU (by omega)]
theorem est_stop {U d1 d0 u1 a b : Nat} {qa rb : Int} (H : qa = a ∧ rb = b ∧ Est U d1 d0 u1 a b) (h1 : 0 < d1) (t : ¬ 4294967296 * rb + (u1 : Int) < qa * (d0 : Int)) :
    qa = (((U * 4294967296 + u1) / (d1 * 4294967296 + d0) : Nat) : Int) := by
  obtain ⟨e1, e2, h⟩ := H
  subst e1 e2
  rw [← Int.natCast_mul] at t
  rw [← est_done h h1 (by omega)]
/-- What is left, over words that wrap. -/
theorem left_wrap (U u1 Y : Nat) (x : Int) (hx : x = (((U * 4294967296 + u1) / Y : Nat) : Int)) (hY : 0 < Y) (hYY : Y < 18446744073709551616) :
    IntKind.u64.wrap (IntKind.u64.wrap (IntKind.u64.wrap ((U : Int) * 4294967296) + (u1 : Int)) - IntKind.u64.wrap (x * (Y : Int))) = (((U * 4294967296 + u1) % Y : Nat) : Int) := by
  have h1 := Nat.div_add_mod (U * 4294967296 + u1) Y
  have h2 := Nat.mod_lt (U * 4294967296 + u1) hY
  subst hx
  rw [← Int.natCast_mul]
  rw [Nat.mul_comm] at h1
  generalize (U * 4294967296 + u1) / Y * Y = p at h1 ⊢
  generalize (U * 4294967296 + u1) % Y = r at h1 h2 ⊢
  simp only [IntKind.wrap_u64]
  omega
theorem prod_wrap (qa : Int) (d0 : Nat) (h0 : 0 ≤ qa) (h1 : qa < 4294967296) (hd : d0 ≤ 4294967295) : ∃ p : Int, qa * (d0 : Int) = p ∧ IntKind.u64.wrap (qa * (d0 : Int)) = p ∧ 0 ≤ p ∧ p ≤ 18446744065119617025 := by
  obtain ⟨a, rfl⟩ := Int.eq_ofNat_of_zero_le h0
  have : a * d0 ≤ 4294967295 * 4294967295 := Nat.mul_le_mul (by omega) hd
  rw [← Int.natCast_mul]
  generalize a * d0 = m at this
  refine ⟨(m : Int), rfl, ?_, by omega, by omega⟩
  rw [IntKind.wrap_u64]
  omega
end Go.Proofs.Ytjpfamminemegaa.Tele
