/- The walk of the reference's way back. No conditions. -/
import Derived.Test.YtaejdkfonlkhaaaDoorPDigs
import Derived.Test.YtaejdkfonlkhaaaDoorRef5
namespace Go.Proofs.YtaejdkfonlkhaaaDoor.Tele
open Go.RowKit
set_option linter.unusedVariables false
set_option linter.unusedSimpArgs false

/-- The value of the first k digits, none behind them. -/
def rval (l : List UInt8) : Nat → Nat
  | 0 => 0
  | k + 1 => 16 * rval l k + (hexv (l.getD k 0)).toNat
theorem rval_pval (l : List UInt8) : ∀ k, k ≤ 14 → pval l k = rval l k * 2 ^ (4 * (14 - k))
  | 0, _ => by simp [pval, rval]
  | k + 1, h => by
    show pval l k + (hexv (l.getD k 0)).toNat * 2 ^ (4 * (13 - k)) = (16 * rval l k + (hexv (l.getD k 0)).toNat) * 2 ^ (4 * (14 - (k + 1)))
    rw [rval_pval l k (by omega), show 4 * (14 - k) = 4 + 4 * (13 - k) by omega, show 4 * (14 - (k + 1)) = 4 * (13 - k) by omega, Nat.pow_add, Nat.add_mul, ← Nat.mul_assoc, show (2 : Nat) ^ 4 = 16 by decide, Nat.mul_comm (rval l k) 16]
theorem rval_lt (l : List UInt8) : ∀ k, rval l k < 16 ^ k
  | 0 => Nat.zero_lt_one
  | k + 1 => by
    have h := rval_lt l k
    have hd := (hexv_lt (l.getD k 0)).2
    show 16 * rval l k + (hexv (l.getD k 0)).toNat < 16 ^ (k + 1)
    rw [Nat.pow_succ]
    omega
theorem hexv_low : ∀ c : Fin 256, (48 ≤ c.val → c.val ≤ 57 → hexv (UInt8.ofNat c.val) = (c.val : Int) - 48) ∧ (97 ≤ c.val → c.val ≤ 102 → hexv (UInt8.ofNat c.val) = (c.val : Int) - 97 + 10) ∧ ((c.val < 48 ∨ 57 < c.val) → (c.val < 97 ∨ 102 < c.val) → hexv (UInt8.ofNat c.val) = -1) := by decide +kernel
theorem hexv_cases (c : UInt8) : (48 ≤ c.toNat → c.toNat ≤ 57 → hexv c = (c.toNat : Int) - 48) ∧ (97 ≤ c.toNat → c.toNat ≤ 102 → hexv c = (c.toNat : Int) - 97 + 10) ∧ ((c.toNat < 48 ∨ 57 < c.toNat) → (c.toNat < 97 ∨ 102 < c.toNat) → hexv c = -1) := by
  have h := hexv_low ⟨c.toNat, c.toNat_lt⟩
  simpa using h
theorem refParse_len (s : ByteArray) (w : World) (h : s.size = 0 ∨ 14 < s.size) : Calls Tryd.prog 27 #[.string s] w fun e w' => e = .returned (.tuple #[.int .u64 0, .int .i64 31]) ∧ w' = w := by
  obtain ⟨n, hn⟩ : ∃ n : Nat, (s.size : Int) = (n : Int) := ⟨_, rfl⟩
  rcases h with h | h
  · have h1 : (n : Int) < 1 := by omega
    go_enter Tryd.func27, Tryd.ntmps27
    go_wp2
    go_ret2
    exact ⟨rfl, rfl⟩
  · have h1 : 14 < (n : Int) := by omega
    go_enter Tryd.func27, Tryd.ntmps27
    go_wp2
    go_ret2
    exact ⟨rfl, rfl⟩
theorem refParse_main (s : ByteArray) (w : World) (h1 : 1 ≤ s.size) (h2 : s.size ≤ 14) :
    Calls Tryd.prog 27 #[.string s] w fun e w' => e = .returned (if allHex s.data.toList then .tuple #[.int .u64 (pval s.data.toList s.size : Int), .int .i64 0] else .tuple #[.int .u64 0, .int .i64 31]) ∧ w' = w := by
  obtain ⟨n, hn⟩ : ∃ n, n = s.size := ⟨_, rfl⟩
  have HN := Lib.hid hn
  have hll : s.data.toList.length = n := by rw [hn]; exact Array.length_toList
  obtain ⟨l, hl⟩ : ∃ l, l = s.data.toList := ⟨_, rfl⟩
  have HL := Lib.hid hl
  rw [← hl] at hll ⊢
  rw [← hn] at h1 h2 ⊢
  have hsz : (s.size : Int) = (n : Int) := by rw [hn]
  have HLL := Lib.hid hll
  obtain ⟨R, hR⟩ : ∃ R : Value, R = (if allHex l then .tuple #[.int .u64 (pval l n : Int), .int .i64 0] else .tuple #[.int .u64 0, .int .i64 31]) := ⟨_, rfl⟩
  rw [← hR]
  have HR := Lib.hid hR
  clear hl hn hll hR
  go_enter Tryd.func27, Tryd.ntmps27
  go_wp2_with fail
  go_loopw [4, 5] (fun a i wr => ∃ (k m : Nat), k ≤ 14 ∧ i = .int .i64 (k : Int) ∧ a = .int .u64 (m : Int) ∧ Hid (m = rval l k) ∧ Hid (∀ j, j < k → j < n → 0 ≤ hexv (l.getD j 0)) ∧ wr = w) (fun _ i _ => 14 - (intOf i).toNat)
  case atStart => exact ⟨0, 0, by omega, rfl, rfl, Lib.hid rfl, Lib.hid (fun j hj => absurd hj (by omega)), rfl⟩
  case round =>
    obtain ⟨k, m, hk, rfl, rfl, HM, HJ, rfl⟩ := hrel
    by_cases hlt : k < 14
    · have hml : m < 4503599627370496 := by
        have h3 := rval_lt l k
        have h4 : 16 ^ k ≤ 16 ^ 13 := Nat.pow_le_pow_right (by decide) (by omega)
        have h5 := HM.out
        omega
      by_cases hkn : k < n
      · have hix := fun W => str_index s k (by rw [← HN.out]; exact hkn) W
        rw [← HL.out] at hix
        obtain ⟨g1, g2, g3⟩ := hexv_cases (l.getD k 0)
        obtain ⟨c, hcc⟩ : ∃ c : Nat, c = (l.getD k 0).toNat := ⟨_, rfl⟩
        have hc256 : c < 256 := by rw [hcc]; exact (l.getD k 0).toNat_lt
        rw [← hcc] at hix g1 g2 g3
        obtain ⟨v, hvv⟩ : ∃ v : Int, v = hexv (l.getD k 0) := ⟨_, rfl⟩
        have HV := Lib.hid hvv
        rw [← hvv] at g1 g2 g3
        clear hcc hvv
        have HM2 : ∀ d : Nat, v = (d : Int) → Hid (16 * m + d = rval l (k + 1)) := fun d hd => Lib.hid (by
          show 16 * m + d = 16 * rval l k + (hexv (l.getD k 0)).toNat
          rw [← HM.out, ← HV.out, hd, Int.toNat_natCast])
        have HJ2 : 0 ≤ v → Hid (∀ j, j < k + 1 → j < n → 0 ≤ hexv (l.getD j 0)) := fun h0 => Lib.hid (fun j hj hjn => by
          by_cases hjk : j = k
          · rw [hjk, ← HV.out]; exact h0
          · exact HJ.out j (by omega) hjn)
        by_cases c1 : 48 ≤ c ∧ c ≤ 57
        · have hv := g1 c1.1 c1.2
          have HM3 := HM2 (c - 48) (by omega)
          have HJ3 := HJ2 (by omega)
          obtain ⟨c2, c3⟩ := c1
          have hd : (c : Int) - 48 = ((c - 48 : Nat) : Int) := by omega
          generalize c - 48 = d at *
          have hd2 : d < 16 := by omega
          clear g1 g2 g3 HM2 HJ2 HM HJ hv
          go_wp2_with fail
          go_roundw
          case rel => exact ⟨k + 1, 16 * m + d, by omega, by go_num, by go_num, HM3, HJ3, by trivial⟩
          case measure => simp [intOf]; omega
        by_cases c2 : 97 ≤ c ∧ c ≤ 102
        · have hv := g2 c2.1 c2.2
          have HM3 := HM2 (c - 87) (by omega)
          have HJ3 := HJ2 (by omega)
          obtain ⟨c3, c4⟩ := c2
          have hd : (c : Int) - 97 + 10 = ((c - 87 : Nat) : Int) := by omega
          have h57 : 57 < c := by omega
          generalize c - 87 = d at *
          have hd2 : d < 16 := by omega
          clear g1 g2 g3 HM2 HJ2 HM HJ hv c1
          go_wp2_with fail
          go_roundw
          case rel => exact ⟨k + 1, 16 * m + d, by omega, by go_num, by go_num, HM3, HJ3, by trivial⟩
          case measure => simp [intOf]; omega
        · have hv := g3 (by omega) (by omega)
          have hno := allHex_no l k (by rw [HLL.out]; exact hkn) (by rw [← HV.out]; omega)
          have HNO := Lib.hid hno
          clear g1 g2 g3 HM2 HJ2 HM HJ hv hno
          have d1 : (c : Int) < 48 ∨ (48 ≤ (c : Int) ∧ 57 < (c : Int) ∧ (c : Int) < 97) ∨ (48 ≤ (c : Int) ∧ 57 < (c : Int) ∧ 97 ≤ (c : Int) ∧ 102 < (c : Int)) := by omega
          clear c1 c2
          rcases d1 with d1 | ⟨d1, d2, d3⟩ | ⟨d1, d2, d3, d4⟩
          all_goals
            go_wp2_with fail
            go_ret2
            refine ⟨?_, by trivial⟩
            rw [HR.out, HNO.out]
            rfl
      · have HM3 : Hid (16 * m = rval l (k + 1)) := Lib.hid (by
          show 16 * m = 16 * rval l k + (hexv (l.getD k 0)).toNat
          rw [← HM.out, List.getD_eq_getElem?_getD, List.getElem?_eq_none (by rw [HLL.out]; omega)]
          show 16 * m = 16 * m + (hexv 0).toNat
          rw [hexv0, Nat.add_zero])
        have HJ3 : Hid (∀ j, j < k + 1 → j < n → 0 ≤ hexv (l.getD j 0)) := Lib.hid (fun j hj hjn => HJ.out j (by omega) hjn)
        clear HM HJ
        go_wp2_with fail
        go_roundw
        case rel => exact ⟨k + 1, 16 * m, by omega, by go_num, by go_num, HM3, HJ3, by trivial⟩
        case measure => simp [intOf]; omega
    · have hk14 : k = 14 := by omega
      have HY := Lib.hid (allHex_yes l (fun j hj => HJ.out j (by rw [HLL.out] at hj; omega) (by rw [← HLL.out]; exact hj)))
      have HP : Hid (pval l n = m) := Lib.hid (by
        have h3 := pval_full l (by rw [HLL.out]; exact h2)
        have h4 := rval_pval l 14 (Nat.le_refl _)
        have h5 := HM.out
        rw [hk14] at h5
        rw [HLL.out] at h3
        rw [h3, h4, ← h5]
        simp)
      clear HM HJ hk14
      go_wp2_with fail
      go_ret2
      refine ⟨?_, by trivial⟩
      rw [HR.out, HY.out, HP.out]
      rfl
end Go.Proofs.YtaejdkfonlkhaaaDoor.Tele
