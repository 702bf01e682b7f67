/- Plain facts on the stirring of numbers of 64 digits. No conditions. -/
namespace Go.Proofs.Ytiohjmpnkoohjaa.Tele

abbrev U := BitVec 64
def sx (x : U) (s : Nat) : U := x ^^^ (x >>> s)
def undo (x : U) (s : Nat) : U := x ^^^ ((x ^^^ (x >>> s)) >>> s)
def C1 : U := 13787848793156543929#64
def C2 : U := 10723151780598845931#64
def I1 : U := 10871156337175269513#64
def I2 : U := 3573116690164977347#64
def PR : U := 1099511628211#64
def IPR : U := 14886173955864302971#64
def mix (x : U) : U := sx (sx (sx x 30 * C1) 27 * C2) 31
def back (x : U) : U := undo (undo (undo x 31 * I2) 27 * I1) 30

theorem shr_shr (x : U) (a b : Nat) : x >>> a >>> b = x >>> (a + b) := (BitVec.shiftRight_add x a b).symm
theorem shr_big (x : U) (a : Nat) (h : 64 ≤ a) : x >>> a = 0#64 := BitVec.ushiftRight_eq_zero h
theorem xor_cancel (a b : U) : a ^^^ (a ^^^ b) = b := by rw [← BitVec.xor_assoc, BitVec.xor_self, BitVec.zero_xor]
theorem undo_sx (x : U) (s : Nat) (h : 64 ≤ s + s + s) : undo (sx x s) s = x := by
  unfold undo sx
  simp only [BitVec.ushiftRight_xor_distrib, shr_shr, shr_big x (s + s + s) h]
  generalize x >>> s = a
  generalize x >>> (s + s) = b
  have : x ^^^ a ^^^ (a ^^^ b ^^^ (b ^^^ 0#64)) = x ^^^ (a ^^^ (a ^^^ (b ^^^ (b ^^^ 0#64)))) := by simp only [BitVec.xor_assoc]
  rw [this, xor_cancel, xor_cancel, BitVec.xor_zero]
theorem sx_undo (x : U) (s : Nat) (h : 64 ≤ s + s + s) : sx (undo x s) s = x := by
  unfold undo sx
  simp only [BitVec.ushiftRight_xor_distrib, shr_shr, shr_big x (s + s + s) h]
  generalize x >>> s = a
  generalize x >>> (s + s) = b
  have : x ^^^ (a ^^^ b) ^^^ (a ^^^ (b ^^^ 0#64)) = x ^^^ (a ^^^ (b ^^^ (a ^^^ (b ^^^ 0#64)))) := by simp only [BitVec.xor_assoc]
  rw [this, ← BitVec.xor_assoc b a, BitVec.xor_comm b a, BitVec.xor_assoc a b, xor_cancel, xor_cancel, BitVec.xor_zero]
theorem c1_i1 (x : U) : x * C1 * I1 = x := by rw [BitVec.mul_assoc, show C1 * I1 = 1#64 from by decide, BitVec.mul_one]
theorem i1_c1 (x : U) : x * I1 * C1 = x := by rw [BitVec.mul_assoc, show I1 * C1 = 1#64 from by decide, BitVec.mul_one]
theorem c2_i2 (x : U) : x * C2 * I2 = x := by rw [BitVec.mul_assoc, show C2 * I2 = 1#64 from by decide, BitVec.mul_one]
theorem i2_c2 (x : U) : x * I2 * C2 = x := by rw [BitVec.mul_assoc, show I2 * C2 = 1#64 from by decide, BitVec.mul_one]
theorem pr_ipr (x : U) : x * PR * IPR = x := by rw [BitVec.mul_assoc, show PR * IPR = 1#64 from by decide, BitVec.mul_one]
theorem back_mix (x : U) : back (mix x) = x := by
  unfold back mix
  rw [undo_sx _ 31 (by decide), c2_i2, undo_sx _ 27 (by decide), c1_i1, undo_sx _ 30 (by decide)]
theorem mix_back (x : U) : mix (back x) = x := by
  unfold back mix
  rw [sx_undo _ 30 (by decide), i1_c1, sx_undo _ 27 (by decide), i2_c2, sx_undo _ 31 (by decide)]
theorem mix_inj (x y : U) : mix x = mix y ↔ x = y := ⟨fun h => by rw [← back_mix x, h, back_mix], fun h => by rw [h]⟩

/-- A text's number. -/
def byte (b : UInt8) : U := BitVec.ofNat 64 b.toNat
def fold1 (x : U) (b : UInt8) : U := (x ^^^ byte b) * PR
def of_ (seed : U) (s : List UInt8) : U := mix (s.foldl fold1 (mix seed) ^^^ BitVec.ofNat 64 s.length)
/-- One of so many. -/
def in_ (seed : U) (s : List UInt8) (n : Int) : Int := if n < 1 then 0 else ((of_ seed s).toNat : Int) % n
theorem in_range (seed : U) (s : List UInt8) (n : Int) (h : 1 ≤ n) : 0 ≤ in_ seed s n ∧ in_ seed s n < n := by
  unfold in_
  rw [if_neg (by omega)]
  exact ⟨Int.emod_nonneg _ (by omega), Int.emod_lt_of_pos _ (by omega)⟩
theorem in_le (seed : U) (s : List UInt8) (n : Int) : 0 ≤ in_ seed s n := by
  by_cases h : 1 ≤ n
  · exact (in_range seed s n h).1
  · unfold in_; rw [if_pos (by omega)]; exact Int.le_refl 0
theorem byte_inj (a b : UInt8) : byte a = byte b ↔ a = b := by
  constructor
  · intro h
    unfold byte at h
    have := congrArg BitVec.toNat h
    simp only [BitVec.toNat_ofNat] at this
    have ha := a.toNat_lt
    have hb := b.toNat_lt
    rw [Nat.mod_eq_of_lt (by omega), Nat.mod_eq_of_lt (by omega)] at this
    exact UInt8.toNat_inj.1 this
  · intro h; rw [h]
theorem xor_inj (a b c : U) : a ^^^ b = a ^^^ c ↔ b = c := ⟨fun h => by rw [← xor_cancel a b, h, xor_cancel], fun h => by rw [h]⟩
theorem xor_inj_r (a b c : U) : b ^^^ a = c ^^^ a ↔ b = c := by rw [BitVec.xor_comm b, BitVec.xor_comm c]; exact xor_inj a b c
theorem pr_inj (a b : U) : a * PR = b * PR ↔ a = b := ⟨fun h => by rw [← pr_ipr a, h, pr_ipr], fun h => by rw [h]⟩
theorem of_one_inj (x : U) (a b : UInt8) : of_ x [a] = of_ x [b] ↔ a = b := by
  unfold of_
  rw [mix_inj]
  simp only [List.foldl_cons, List.foldl_nil, List.length_cons, List.length_nil]
  rw [xor_inj_r]
  unfold fold1
  rw [pr_inj, xor_inj, byte_inj]
theorem of_nil_inj (x y : U) : of_ x [] = of_ y [] ↔ x = y := by
  unfold of_
  rw [mix_inj]
  simp only [List.foldl_nil]
  rw [xor_inj_r, mix_inj]

end Go.Proofs.Ytiohjmpnkoohjaa.Tele
