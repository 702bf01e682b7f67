/- Go's numbers of 64 digits without a sign, as bit vectors. No conditions. -/
import Derived.Test.YtiohjmpnkoohjaaPHash
import Derived.Laws.BitsLemmas
import Derived.Laws.BitsAllLaws
import Derived.RowKit
namespace Go.Proofs.Ytiohjmpnkoohjaa.Tele
open Go.RowKit

/-- A number of 64 digits as Go's value. -/
abbrev uv (x : U) : Value := .int .u64 (x.toNat : Int)
theorem wrapU (z : Int) : IntKind.u64.wrap z = ((BitVec.ofInt 64 z).toNat : Int) := by
  have h1 : IntKind.u64.wrap z = z % 18446744073709551616 := by simp [IntKind.wrap, IntKind.bits, IntKind.signed]
  rw [h1, BitVec.toNat_ofInt]
  omega
theorem u_eq (x : Int) (h0 : 0 ≤ x) (h1 : x ≤ 18446744073709551615) : ∃ X : U, x = (X.toNat : Int) :=
  ⟨BitVec.ofNat 64 x.toNat, by rw [BitVec.toNat_ofNat, Nat.mod_eq_of_lt (by omega)]; omega⟩
theorem u_inj (X Y : U) : ((X.toNat : Int) = (Y.toNat : Int)) ↔ X = Y := by
  constructor
  · intro h; exact BitVec.eq_of_toNat_eq (by omega)
  · intro h; rw [h]
theorem u_lt (X : U) : 0 ≤ (X.toNat : Int) ∧ (X.toNat : Int) < 18446744073709551616 := ⟨by omega, by have := X.isLt; omega⟩
theorem u_xor (X Y : U) : bits .xor .u64 (X.toNat : Int) (Y.toNat : Int) = ((X ^^^ Y).toNat : Int) := by
  rw [u64_xor_nat _ _ X.isLt Y.isLt, BitVec.toNat_xor]
theorem u_or (X Y : U) : bits .or .u64 (X.toNat : Int) (Y.toNat : Int) = ((X ||| Y).toNat : Int) := by
  rw [u64_or_nat _ _ X.isLt Y.isLt, BitVec.toNat_or]
theorem u_and (X Y : U) : bits .and .u64 (X.toNat : Int) (Y.toNat : Int) = ((X &&& Y).toNat : Int) := by
  rw [u64_and_nat _ _ X.isLt Y.isLt, BitVec.toNat_and]
theorem u_mul (X Y : U) : IntKind.u64.wrap ((X.toNat : Int) * (Y.toNat : Int)) = ((X * Y).toNat : Int) := by
  rw [wrapU, BitVec.ofInt_mul, BitVec.ofInt_natCast, BitVec.ofInt_natCast, BitVec.ofNat_toNat, BitVec.ofNat_toNat, BitVec.setWidth_eq, BitVec.setWidth_eq]
theorem u_add (X Y : U) : IntKind.u64.wrap ((X.toNat : Int) + (Y.toNat : Int)) = ((X + Y).toNat : Int) := by
  rw [wrapU, BitVec.ofInt_add, BitVec.ofInt_natCast, BitVec.ofInt_natCast, BitVec.ofNat_toNat, BitVec.ofNat_toNat, BitVec.setWidth_eq, BitVec.setWidth_eq]
theorem u_sub (X Y : U) : IntKind.u64.wrap ((X.toNat : Int) - (Y.toNat : Int)) = ((X - Y).toNat : Int) := by
  rw [wrapU, BitVec.toNat_ofInt, BitVec.toNat_sub]
  have := X.isLt
  have := Y.isLt
  omega
theorem u_shr (X : U) (s : Nat) : (X.toNat : Int) / ((2 ^ s : Nat) : Int) = ((X >>> s).toNat : Int) := by
  rw [BitVec.toNat_ushiftRight, Nat.shiftRight_eq_div_pow]; rfl
theorem u_shr' (X : U) (s : Nat) (p : Int) (hp : p = ((2 ^ s : Nat) : Int)) : (X.toNat : Int) / p = ((X >>> s).toNat : Int) := by rw [hp, u_shr]

def sxI (x p c : Int) : Int := IntKind.u64.wrap (bits .xor .u64 x (x / p) * c)
theorem sxI_eq (X : U) (s : Nat) (p : Int) (hp : p = ((2 ^ s : Nat) : Int)) (c : Int) (C : U) (hc : c = (C.toNat : Int)) : sxI (X.toNat : Int) p c = ((sx X s * C).toNat : Int) := by
  unfold sxI
  rw [u_shr' X s p hp, u_xor, hc, u_mul]
  rfl
end Go.Proofs.Ytiohjmpnkoohjaa.Tele
