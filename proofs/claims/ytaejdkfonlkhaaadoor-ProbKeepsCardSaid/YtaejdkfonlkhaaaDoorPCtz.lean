/- What the weights' shift comes to: the greatest divisor that both parts have in common. No conditions. -/
import Derived.Test.YtaejdkfonlkhaaaDoorLawGrows
namespace Go.Proofs.YtaejdkfonlkhaaaDoor.Tele
open Go.RowKit
set_option linter.unusedVariables false
set_option linter.unusedSimpArgs false

theorem ctz_parts (K : Nat) (h0 : 0 < K) (h1 : K ≤ 72057594037927936) : ∃ s m : Nat, Lib.ctz 64 K = s ∧ K = 2 ^ s * (2 * m + 1) ∧ s ≤ 56 := by
  obtain ⟨m, hm, hs⟩ := Lib.ctzFrom_spec 64 K h0 (by omega)
  have e : Lib.ctz 64 K = Lib.ctzFrom 64 K := by simp [Lib.ctz, Nat.pos_iff_ne_zero.mp h0]
  refine ⟨_, m, e, hm, ?_⟩
  have h2 : 2 ^ Lib.ctzFrom 64 K ≤ K := by
    rw [hm]
    have : 2 ^ Lib.ctzFrom 64 (2 ^ Lib.ctzFrom 64 K * (2 * m + 1)) = 2 ^ Lib.ctzFrom 64 K := by rw [← hm]
    rw [this]
    exact Nat.le_mul_of_pos_right _ (by omega)
  have h3 : 2 ^ Lib.ctzFrom 64 K < 2 ^ 57 := by omega
  have := (Nat.pow_lt_pow_iff_right (by decide : 1 < 2)).mp h3
  omega
theorem whole_split (s : Nat) (h : s ≤ 56) : 72057594037927936 = 2 ^ s * 2 ^ (56 - s) := by
  rw [← Nat.pow_add, show s + (56 - s) = 56 by omega]
theorem weigh_plain (K : Nat) (h0 : 0 < K) (h1 : K ≤ 72057594037927936) : ∃ s d n : Nat, Lib.ctz 64 K = s ∧ s ≤ 56 ∧ 72057594037927936 / 2 ^ s = n ∧ K / 2 ^ s = d ∧ K = 2 ^ s * d ∧ 2 ^ s * n = 72057594037927936 ∧ d % 2 = 1 ∧ 1 ≤ n ∧ 1 ≤ d ∧ 2 ^ s ≤ 72057594037927936 ∧ 1 ≤ 2 ^ s := by
  obtain ⟨s, m, e, hK, hs⟩ := ctz_parts K h0 h1
  have hp : 0 < 2 ^ s := Nat.pow_pos (by decide)
  have hw := whole_split s hs
  have hq : 72057594037927936 / 2 ^ s = 2 ^ (56 - s) := by
    conv => lhs; arg 1; rw [hw]
    exact Nat.mul_div_cancel_left _ hp
  have hd : K / 2 ^ s = 2 * m + 1 := by
    rw [hK]
    exact Nat.mul_div_cancel_left _ hp
  have hle : 2 ^ s ≤ 72057594037927936 := Nat.pow_le_pow_right (by decide : 0 < 2) hs
  exact ⟨s, 2 * m + 1, 2 ^ (56 - s), e, hs, hq, hd, hK, hw.symm, by omega, Nat.pow_pos (by decide), by omega, hle, hp⟩
theorem gcd_plain (K : Nat) (h0 : 0 < K) (h1 : K ≤ 72057594037927936) : Nat.gcd 72057594037927936 K = 2 ^ Lib.ctz 64 K := by
  obtain ⟨s, m, e, hK, hs⟩ := ctz_parts K h0 h1
  rw [e, whole_split s hs, hK, Nat.gcd_mul_left]
  have : Nat.gcd (2 ^ (56 - s)) (2 * m + 1) = 1 := by
    have h2 : Nat.Coprime 2 (2 * m + 1) := by
      unfold Nat.Coprime
      rw [Nat.gcd_rec, show (2 * m + 1) % 2 = 1 by omega]
      rfl
    exact Nat.Coprime.pow_left _ h2
  rw [this, Nat.mul_one]
end Go.Proofs.YtaejdkfonlkhaaaDoor.Tele
