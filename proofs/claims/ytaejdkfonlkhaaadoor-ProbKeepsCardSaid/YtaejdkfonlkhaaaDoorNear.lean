/- The walk of the laws' near. No conditions. -/
import Derived.Test.YtaejdkfonlkhaaaDoorLawGrows
namespace Go.Proofs.YtaejdkfonlkhaaaDoor.Tele
open Go.RowKit
set_option linter.unusedVariables false
set_option linter.unusedSimpArgs false

theorem near0 (a k : Int) (w : World) (ha0 : 0 ≤ a) (ha1 : a ≤ 18446744073709551615) (hk0 : 0 ≤ k) (hk1 : k ≤ 255) (hr : k % 6 = 0) :
    Calls Tryd.prog 16 #[.int .u64 a, .int .u8 k] w fun e w' => e = .returned (.int .u64 (a % 20)) ∧ w' = w := by
  go_enter Tryd.func16, Tryd.ntmps16
  go_wp2
  go_ret
  exact ⟨rfl, rfl⟩
theorem near1 (a k : Int) (w : World) (ha0 : 0 ≤ a) (ha1 : a ≤ 18446744073709551615) (hk0 : 0 ≤ k) (hk1 : k ≤ 255) (hr : k % 6 = 1) :
    Calls Tryd.prog 16 #[.int .u64 a, .int .u8 k] w fun e w' => e = .returned (.int .u64 (72057594037927936 - a % 20)) ∧ w' = w := by
  go_enter Tryd.func16, Tryd.ntmps16
  go_wp2
  go_ret
  exact ⟨rfl, rfl⟩
theorem near2 (a k : Int) (w : World) (ha0 : 0 ≤ a) (ha1 : a ≤ 18446744073709551615) (hk0 : 0 ≤ k) (hk1 : k ≤ 255) (hr : k % 6 = 2) :
    Calls Tryd.prog 16 #[.int .u64 a, .int .u8 k] w fun e w' => e = .returned (.int .u64 (72057594037927936 + a % 20)) ∧ w' = w := by
  go_enter Tryd.func16, Tryd.ntmps16
  go_wp2
  go_ret
  exact ⟨rfl, rfl⟩
theorem near3 (a k : Int) (w : World) (ha0 : 0 ≤ a) (ha1 : a ≤ 18446744073709551615) (hk0 : 0 ≤ k) (hk1 : k ≤ 255) (hr : k % 6 = 3) :
    Calls Tryd.prog 16 #[.int .u64 a, .int .u8 k] w fun e w' => e = .returned (.int .u64 (a % 72057594037927936)) ∧ w' = w := by
  go_enter Tryd.func16, Tryd.ntmps16
  go_wp2
  go_ret
  exact ⟨rfl, rfl⟩
theorem near4 (a k : Int) (w : World) (ha0 : 0 ≤ a) (ha1 : a ≤ 18446744073709551615) (hk0 : 0 ≤ k) (hk1 : k ≤ 255) (hr : k % 6 = 4) :
    Calls Tryd.prog 16 #[.int .u64 a, .int .u8 k] w fun e w' => e = .returned (.int .u64 (IntKind.u64.wrap (a % 72057594037927936 / 2 ^ (k / 6).toNat * 2 ^ (k / 6).toNat))) ∧ w' = w := by
  obtain ⟨q, hq, hq0, hq1⟩ : ∃ q : Int, k / 6 = q ∧ 0 ≤ q ∧ q ≤ 42 := ⟨k / 6, rfl, by omega, by omega⟩
  rw [hq]
  go_enter Tryd.func16, Tryd.ntmps16
  go_wp2
  go_ret
  exact ⟨rfl, rfl⟩
theorem near5 (a k : Int) (w : World) (ha0 : 0 ≤ a) (ha1 : a ≤ 18446744073709551615) (hk0 : 0 ≤ k) (hk1 : k ≤ 255) (hr : k % 6 = 5) :
    Calls Tryd.prog 16 #[.int .u64 a, .int .u8 k] w fun e w' => e = .returned (.int .u64 (a)) ∧ w' = w := by
  go_enter Tryd.func16, Tryd.ntmps16
  go_wp2
  go_ret
  exact ⟨rfl, rfl⟩
/-- Whatever near returns, it is a number of 64 digits, and the same each time. -/
theorem near_any (a k : Int) (ha0 : 0 ≤ a) (ha1 : a ≤ 18446744073709551615) (hk0 : 0 ≤ k) (hk1 : k ≤ 255) : ∃ v : Nat, v < 18446744073709551616 ∧ ∀ w, Calls Tryd.prog 16 #[.int .u64 a, .int .u8 k] w fun e w' => e = .returned (.int .u64 (v : Int)) ∧ w' = w := by
  have fin : ∀ V : Int, 0 ≤ V → V < 18446744073709551616 → (∀ w, Calls Tryd.prog 16 #[.int .u64 a, .int .u8 k] w fun e w' => e = .returned (.int .u64 V) ∧ w' = w) → ∃ v : Nat, v < 18446744073709551616 ∧ ∀ w, Calls Tryd.prog 16 #[.int .u64 a, .int .u8 k] w fun e w' => e = .returned (.int .u64 (v : Int)) ∧ w' = w := fun V h0 h1 h =>
    ⟨V.toNat, by omega, by rw [Int.toNat_of_nonneg h0]; exact h⟩
  rcases (show k % 6 = 0 ∨ k % 6 = 1 ∨ k % 6 = 2 ∨ k % 6 = 3 ∨ k % 6 = 4 ∨ k % 6 = 5 by omega) with h | h | h | h | h | h
  · exact fin _ (by omega) (by omega) fun w => near0 a k w ha0 ha1 hk0 hk1 h
  · exact fin _ (by omega) (by omega) fun w => near1 a k w ha0 ha1 hk0 hk1 h
  · exact fin _ (by omega) (by omega) fun w => near2 a k w ha0 ha1 hk0 hk1 h
  · exact fin _ (by omega) (by omega) fun w => near3 a k w ha0 ha1 hk0 hk1 h
  · exact fin _ (by rw [IntKind.wrap_u64]; omega) (by rw [IntKind.wrap_u64]; omega) fun w => near4 a k w ha0 ha1 hk0 hk1 h
  · exact fin _ (by omega) (by omega) fun w => near5 a k w ha0 ha1 hk0 hk1 h
end Go.Proofs.YtaejdkfonlkhaaaDoor.Tele
