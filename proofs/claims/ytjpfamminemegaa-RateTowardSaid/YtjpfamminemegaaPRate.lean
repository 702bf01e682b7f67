/- The plain laws of thresholds that follow. No conditions. -/
import Derived.Test.YtjpfamminemegaaRate1
set_option linter.unusedVariables false
set_option linter.unusedSimpArgs false
namespace Go.Proofs.Ytjpfamminemegaa.Tele

theorem toward_between (x y n : Nat) (hx : x < 72057594037927936) (hy : y < 72057594037927936) (hn : 1 ≤ n) : min x y ≤ toward x y n ∧ toward x y n ≤ max x y := by
  unfold toward
  have h1 := Nat.div_le_self (72057594037927936 - x) n
  have h2 : (72057594037927936 - x) * 1 ≤ (72057594037927936 - x) * n := Nat.mul_le_mul_left _ hn
  generalize (72057594037927936 - x) / n = q at *
  generalize (72057594037927936 - x) * n = p at *
  omega
theorem toward_whole (x y : Nat) (hx : x < 72057594037927936) (hy : y < 72057594037927936) : toward x y 72057594037927936 = y := by
  unfold toward
  omega
theorem toward_one (x y : Nat) (hx : x < 72057594037927936) (hy : y < 72057594037927936) : toward x y 1 = x := by
  unfold toward
  rw [Nat.div_one, Nat.mul_one]
  omega
end Go.Proofs.Ytjpfamminemegaa.Tele
