import Derived.Test.YtifooncbljpbiaaUBits
namespace Go.Proofs.Ytifooncbljpbiaa.Tele
open Go.RowKit
/-- The digits of a number from the m-th on. -/
def hiB (Y : U) (m : Nat) : U := (Y >>> m) <<< m
theorem hiB_bit (Y : U) (m j : Nat) : (hiB Y m).getLsbD j = (decide (m ≤ j) && Y.getLsbD j) := by
  unfold hiB
  rw [BitVec.getLsbD_shiftLeft, BitVec.getLsbD_ushiftRight]
  by_cases h : m ≤ j
  · have e : m + (j - m) = j := by omega
    rw [e]
    by_cases h64 : j < 64
    · simp [h, h64]
    · have := BitVec.getLsbD_of_ge Y j (by omega)
      simp [this]
  · simp [h]
theorem hiB_top (Y : U) : hiB Y 64 = 0#64 := by
  apply BitVec.eq_of_getLsbD_eq
  intro j hj
  rw [hiB_bit]
  simp; omega
theorem hiB_zero (Y : U) : hiB Y 0 = Y := by
  apply BitVec.eq_of_getLsbD_eq
  intro j hj
  rw [hiB_bit]
  simp
theorem bit_one (Y : U) (n j : Nat) : ((Y >>> n) &&& 1#64).getLsbD j = (decide (j = 0) && Y.getLsbD n) := by
  rw [BitVec.getLsbD_and, BitVec.getLsbD_ushiftRight, BitVec.getLsbD_one]
  by_cases h : j = 0
  · subst h; simp
  · simp [h]
theorem sx_undo31 (X : U) (s : Nat) (h : 64 ≤ s + s + s) : undo X s ^^^ (undo X s >>> s) = X := sx_undo X s h
theorem hiB_step1 (X : U) (s n : Nat) (h : 64 ≤ s + s + s) (hn : n < 64) (hs : n + s < 64) (h0 : 0 < s) :
    hiB (undo X s) (n + 1) ||| ((((X >>> n) &&& 1#64) ^^^ ((hiB (undo X s) (n + 1) >>> (n + s)) &&& 1#64)) <<< n) = hiB (undo X s) n := by
  have hx := sx_undo31 X s h
  generalize undo X s = Y at *
  subst hx
  apply BitVec.eq_of_getLsbD_eq
  intro j hj
  rw [BitVec.getLsbD_or, hiB_bit, hiB_bit, BitVec.getLsbD_shiftLeft, BitVec.getLsbD_xor, bit_one, bit_one, hiB_bit, BitVec.getLsbD_xor, BitVec.getLsbD_ushiftRight]
  by_cases h1 : j < n
  · have e2 : ¬ (n + 1 ≤ j) := by omega
    have e3 : ¬ (n ≤ j) := by omega
    simp [h1, e2, e3]
  · by_cases h2 : j = n
    · subst h2
      have e : j + s = s + j := by omega
      have e2 : j + 1 ≤ s + j := by omega
      simp [hj, e, e2]
    · have e1 : n + 1 ≤ j := by omega
      have e2 : n ≤ j := by omega
      have e3 : ¬ (j - n = 0) := by omega
      simp [e1, e2, e3]
theorem hiB_step2 (X : U) (s n : Nat) (h : 64 ≤ s + s + s) (hn : n < 64) (hs : 64 ≤ n + s) :
    hiB (undo X s) (n + 1) ||| (((X >>> n) &&& 1#64) <<< n) = hiB (undo X s) n := by
  have hx := sx_undo31 X s h
  generalize undo X s = Y at *
  subst hx
  apply BitVec.eq_of_getLsbD_eq
  intro j hj
  rw [BitVec.getLsbD_or, hiB_bit, hiB_bit, BitVec.getLsbD_shiftLeft, bit_one, BitVec.getLsbD_xor, BitVec.getLsbD_ushiftRight]
  by_cases h1 : j < n
  · have e2 : ¬ (n + 1 ≤ j) := by omega
    have e3 : ¬ (n ≤ j) := by omega
    simp [h1, e2, e3]
  · by_cases h2 : j = n
    · subst h2
      have e := BitVec.getLsbD_of_ge Y (s + j) (by omega)
      simp [hj, e]
    · have e1 : n + 1 ≤ j := by omega
      have e2 : n ≤ j := by omega
      have e3 : ¬ (j - n = 0) := by omega
      simp [e1, e2, e3]
/-- The inverse, digit by digit. -/
def invK (n : U) : Nat → U
  | 0 => 0#64
  | k + 1 => if ((invK n k * n) >>> k) &&& 1#64 = (if k = 0 then 1#64 else 0#64) then invK n k else invK n k ||| (1#64 <<< k)
theorem invK_c1 : invK C1 64 = I1 := by decide +kernel
theorem invK_c2 : invK C2 64 = I2 := by decide +kernel
theorem u_shl (X : U) (s : Nat) : IntKind.u64.wrap ((X.toNat : Int) * ((2 ^ s : Nat) : Int)) = ((X <<< s).toNat : Int) := by
  rw [wrapU, BitVec.toNat_ofInt, BitVec.toNat_shiftLeft, Nat.shiftLeft_eq]
  have : ((X.toNat : Int) * ((2 ^ s : Nat) : Int)) = ((X.toNat * 2 ^ s : Nat) : Int) := by simp
  rw [this]
  omega
theorem u_shrP (X : U) (s : Nat) : (X.toNat : Int) / (2 : Int) ^ s = ((X >>> s).toNat : Int) := by
  rw [← u_shr]; congr 1
theorem u_shlP (X : U) (s : Nat) : IntKind.u64.wrap ((X.toNat : Int) * (2 : Int) ^ s) = ((X <<< s).toNat : Int) := by
  rw [← u_shl]; congr 2
theorem u_and1 (X : U) : bits .and .u64 (X.toNat : Int) 1 = ((X &&& 1#64).toNat : Int) := u_and X 1#64
theorem whole_int1 (X : U) (s n : Nat) (h : 64 ≤ s + s + s) (hn : n < 64) (hs : n + s < 64) (h0 : 0 < s) :
    bits .or .u64 ((hiB (undo X s) (n + 1)).toNat : Int) (IntKind.u64.wrap (bits .xor .u64 (bits .and .u64 ((X.toNat : Int) / 2 ^ n) 1) (bits .and .u64 (((hiB (undo X s) (n + 1)).toNat : Int) / 2 ^ (n + s)) 1) * 2 ^ n)) = ((hiB (undo X s) n).toNat : Int) := by
  rw [u_shrP, u_shrP, u_and1, u_and1, u_xor, u_shlP, u_or, hiB_step1 X s n h hn hs h0]
theorem whole_int2 (X : U) (s n : Nat) (h : 64 ≤ s + s + s) (hn : n < 64) (hs : 64 ≤ n + s) :
    bits .or .u64 ((hiB (undo X s) (n + 1)).toNat : Int) (IntKind.u64.wrap (bits .and .u64 ((X.toNat : Int) / 2 ^ n) 1 * 2 ^ n)) = ((hiB (undo X s) n).toNat : Int) := by
  rw [u_shrP, u_and1, u_shlP, u_or, hiB_step2 X s n h hn hs]
theorem invK_bit (n : U) (k : Nat) : bits .and .u64 (IntKind.u64.wrap (((invK n k).toNat : Int) * (n.toNat : Int)) / 2 ^ k) 1 = ((((invK n k * n) >>> k) &&& 1#64).toNat : Int) := by
  rw [u_mul, u_shrP, u_and1]
/-- The k-th digit of 1. -/
def oneI (k : Nat) : Int := if k = 0 then 1 else 0
theorem invK_test (n : U) (k : Nat) (h : (invK n k * n) >>> k &&& 1#64 = if k = 0 then 1#64 else 0#64) : (bits .and .u64 (IntKind.u64.wrap (((invK n k).toNat : Int) * (n.toNat : Int)) / 2 ^ k) 1 != oneI k) = false := by
  rw [invK_bit, bne_eq_false_iff_eq, h]
  unfold oneI
  split <;> rfl
theorem invK_test' (n : U) (k : Nat) (h : ¬ ((invK n k * n) >>> k &&& 1#64 = if k = 0 then 1#64 else 0#64)) : (bits .and .u64 (IntKind.u64.wrap (((invK n k).toNat : Int) * (n.toNat : Int)) / 2 ^ k) 1 != oneI k) = true := by
  rw [invK_bit, bne_iff_ne]
  intro e
  apply h
  unfold oneI at e
  by_cases hk : k = 0
  · rw [if_pos hk] at e ⊢
    exact (u_inj _ _).1 e
  · rw [if_neg hk] at e ⊢
    exact (u_inj _ _).1 e
theorem invK_or (Y : U) (k : Nat) : bits .or .u64 (Y.toNat : Int) (IntKind.u64.wrap (2 ^ k)) = ((Y ||| (1#64 <<< k)).toNat : Int) := by
  have h := u_shlP 1#64 k
  rw [show (((1#64 : U).toNat : Int)) = 1 from rfl, Int.one_mul] at h
  rw [h, u_or]
end Go.Proofs.Ytifooncbljpbiaa.Tele
