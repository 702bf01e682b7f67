/- The walk of a threshold's text read back. No conditions. -/
import Derived.Test.YtaejdkfonlkhaaaDoorDigits
namespace Go.Proofs.YtaejdkfonlkhaaaDoor.Tele
open Go.RowKit
set_option linter.unusedVariables false
set_option linter.unusedSimpArgs false

/-- The value of a digit; -1: it is none. -/
def hexv (c : UInt8) : Int := Lib.indexByte hexL c
theorem hexv_lt (c : UInt8) : -1 ≤ hexv c ∧ hexv c ≤ 15 := by
  have h : ∀ n : Fin 256, -1 ≤ hexv (UInt8.ofNat n.val) ∧ hexv (UInt8.ofNat n.val) ≤ 15 := by decide +kernel
  have := h ⟨c.toNat, c.toNat_lt⟩
  simpa using this
/-- The value of the first k digits. -/
def pval (l : List UInt8) : Nat → Nat
  | 0 => 0
  | k + 1 => pval l k + (hexv (l.getD k 0)).toNat * 2 ^ (4 * (13 - k))
theorem pval_shape (l : List UInt8) : ∀ k, k ≤ 14 → ∃ A, pval l k = A * 2 ^ (4 * (14 - k)) ∧ A < 2 ^ (4 * k)
  | 0, _ => ⟨0, by simp [pval], by simp⟩
  | k + 1, hk => by
    obtain ⟨A, h1, h2⟩ := pval_shape l k (by omega)
    have hd := (hexv_lt (l.getD k 0)).2
    refine ⟨A * 16 + (hexv (l.getD k 0)).toNat, ?_, ?_⟩
    · have e : (2 : Nat) ^ (4 * (14 - k)) = 16 * 2 ^ (4 * (13 - k)) := by
        rw [show 4 * (14 - k) = 4 + 4 * (13 - k) by omega, Nat.pow_add]
      show pval l k + (hexv (l.getD k 0)).toNat * 2 ^ (4 * (13 - k)) = _
      rw [h1, e, show 4 * (14 - (k + 1)) = 4 * (13 - k) by omega, Nat.add_mul, Nat.mul_assoc]
    · have e : (2 : Nat) ^ (4 * (k + 1)) = 16 * 2 ^ (4 * k) := by
        rw [show 4 * (k + 1) = 4 + 4 * k by omega, Nat.pow_add]
      rw [e]
      omega
theorem pval_lt (l : List UInt8) (k : Nat) (hk : k ≤ 14) : pval l k < 72057594037927936 := by
  obtain ⟨A, h1, h2⟩ := pval_shape l k hk
  rw [h1]
  have : A * 2 ^ (4 * (14 - k)) < 2 ^ (4 * k) * 2 ^ (4 * (14 - k)) := Nat.mul_lt_mul_of_pos_right h2 (Nat.pow_pos (by decide))
  rw [← Nat.pow_add, show 4 * k + 4 * (14 - k) = 56 by omega] at this
  exact this
theorem pval_or (l : List UInt8) (k : Nat) (hk : k < 14) : pval l k ||| (hexv (l.getD k 0)).toNat * 2 ^ (4 * (13 - k)) = pval l (k + 1) := by
  obtain ⟨A, h1, h2⟩ := pval_shape l k (by omega)
  have hd := (hexv_lt (l.getD k 0)).2
  have e : (2 : Nat) ^ (4 * (14 - k)) = 16 * 2 ^ (4 * (13 - k)) := by
    rw [show 4 * (14 - k) = 4 + 4 * (13 - k) by omega, Nat.pow_add]
  show _ = pval l k + (hexv (l.getD k 0)).toNat * 2 ^ (4 * (13 - k))
  rw [h1]
  refine or_add A _ _ ?_
  rw [e]
  exact Nat.mul_lt_mul_of_pos_right (by omega) (Nat.pow_pos (by decide))
/-- Are all of them digits? -/
def allHex (l : List UInt8) : Bool := l.all fun c => decide (0 ≤ hexv c)
theorem allHex_no (l : List UInt8) (k : Nat) (hk : k < l.length) (h : hexv (l.getD k 0) < 0) : allHex l = false := by
  unfold allHex
  rw [List.all_eq_false]
  refine ⟨l[k], List.getElem_mem hk, ?_⟩
  rw [List.getD_eq_getElem?_getD, List.getElem?_eq_getElem hk] at h
  simp only [Option.getD_some] at h
  simp only [decide_eq_true_eq]
  omega
theorem allHex_yes (l : List UInt8) (h : ∀ k, k < l.length → 0 ≤ hexv (l.getD k 0)) : allHex l = true := by
  unfold allHex
  rw [List.all_eq_true]
  intro c hc
  obtain ⟨k, hk, rfl⟩ := List.getElem_of_mem hc
  have := h k hk
  rw [List.getD_eq_getElem?_getD, List.getElem?_eq_getElem hk] at this
  simpa using this
theorem str_index (s : ByteArray) (k : Nat) (hk : k < s.size) (W : World) : (Instr.index 9 (.string s) (.int .i64 (k : Int))).run Tryd.prog W = .ok (.int .u8 ((s.data.toList.getD k 0).toNat : Int)) W := by
  rw [run_index_string W 9 s .i64 (k : Int) Tryd.underlying9, dif_pos ⟨by omega, by omega⟩]
  simp only [Int.toNat_natCast]
  have hk' : k < s.data.size := hk
  have : s.data.toList.getD k 0 = s[k] := by
    rw [List.getD_eq_getElem?_getD, Array.getElem?_toList, Array.getElem?_eq_getElem hk']
    rfl
  rw [this]
theorem parse_len (s : ByteArray) (w : World) (h : s.size = 0 ∨ 14 < s.size) : Calls Tryd.prog 25 #[.string s] w fun e w' => e = .returned (.tuple #[.int .u64 0, .int .u16 31]) ∧ w' = w := by
  by_cases h0 : s.size = 0
  · have : s = ⟨#[]⟩ := by
      cases s with
      | mk d => congr 1; exact Array.eq_empty_of_size_eq_zero h0
    subst this
    go_enter Tryd.func25, Tryd.ntmps25
    go_wp2
    go_ret2
    exact ⟨rfl, rfl⟩
  · have h1 : 14 < s.size := by omega
    have h2 : (14 : Int) < (s.size : Int) := by omega
    have hne : s ≠ ⟨#[]⟩ := fun hh => h0 (by rw [hh]; rfl)
    go_enter Tryd.func25, Tryd.ntmps25
    go_wp2_with fail
    all_goals (go_ret2; exact ⟨rfl, rfl⟩)
theorem parse_main (s : ByteArray) (w : World) (h1 : 1 ≤ s.size) (h2 : s.size ≤ 14) :
    Calls Tryd.prog 25 #[.string s] w fun e w' => e = .returned (if allHex s.data.toList then .tuple #[.int .u64 (pval s.data.toList s.size : Int), .int .u16 0] else .tuple #[.int .u64 0, .int .u16 31]) ∧ w' = w := by
  have hemp : s.toList.isEmpty = false := by
    rw [ByteArray.toList_eq]
    cases hh : s.data.toList with
    | nil =>
      have : s.data.toList.length = s.size := Array.length_toList
      rw [hh] at this
      simp at this
      omega
    | cons a b => rfl
  obtain ⟨n, hn⟩ : ∃ n, n = s.size := ⟨_, rfl⟩
  have HN := Lib.hid hn
  have hll : s.data.toList.length = n := by rw [hn]; exact Array.length_toList
  obtain ⟨l, hl⟩ : ∃ l, l = s.data.toList := ⟨_, rfl⟩
  have HL := Lib.hid hl
  rw [← hl] at hll ⊢
  have h2' : ¬ (14 : Int) < (s.size : Int) := by omega
  rw [← hn] at h1 h2 h2' ⊢
  have hsz : (s.size : Int) = (n : Int) := by rw [hn]
  have HLL := Lib.hid hll
  obtain ⟨R, hR⟩ : ∃ R : Value, R = (if allHex l then .tuple #[.int .u64 (pval l n : Int), .int .u16 0] else .tuple #[.int .u64 0, .int .u16 31]) := ⟨_, rfl⟩
  rw [← hR]
  have HR := Lib.hid hR
  clear hl hn hll hR
  go_enter Tryd.func25, Tryd.ntmps25
  go_wp2_with fail
  go_loopw [4, 16] (fun a i wr => ∃ k : Nat, k ≤ n ∧ i = .int .i64 (k : Int) ∧ a = .int .u64 (pval l k : Int) ∧ Hid (∀ j, j < k → 0 ≤ hexv (l.getD j 0)) ∧ wr = w) (fun _ i _ => n - (intOf i).toNat)
  case atStart => exact ⟨0, by omega, rfl, rfl, Lib.hid (fun j hj => absurd hj (by omega)), rfl⟩
  case round =>
    obtain ⟨k, hk, rfl, rfl, HJ, rfl⟩ := hrel
    by_cases hlt : k < n
    · have hix := fun W => str_index s k (by rw [← HN.out]; exact hlt) W
      have hc := fun W => Tryd.strings_IndexByte ⟨#[48, 49, 50, 51, 52, 53, 54, 55, 56, 57, 97, 98, 99, 100, 101, 102]⟩ ((l.getD k 0).toNat : Int) W
      have hv : Lib.indexByte (⟨#[48, 49, 50, 51, 52, 53, 54, 55, 56, 57, 97, 98, 99, 100, 101, 102]⟩ : ByteArray).data.toList (((l.getD k 0).toNat : Int).toNat.toUInt8) = hexv (l.getD k 0) := by
        rw [Int.toNat_natCast]
        unfold hexv
        congr 1
        simp
      rw [hv] at hc
      rw [← HL.out] at hix
      obtain ⟨hv1, hv2⟩ := hexv_lt (l.getD k 0)
      have hor := pval_or l k (by omega)
      have hpl := pval_lt l k (by omega)
      have hpl2 := pval_lt l (k + 1) (by omega)
      obtain ⟨v, hvv⟩ : ∃ v : Int, v = hexv (l.getD k 0) := ⟨_, rfl⟩
      have HV := Lib.hid hvv
      rw [← hvv] at hc hv1 hv2 hor
      obtain ⟨c, hcc⟩ : ∃ c : Int, c = ((l.getD k 0).toNat : Int) := ⟨_, rfl⟩
      rw [← hcc] at hc hix
      have HC := Lib.hid hc
      clear hc hv hvv hcc
      by_cases hneg : v < 0
      · have hno := allHex_no l k (by rw [HLL.out]; exact hlt) (by rw [← HV.out]; exact hneg)
        have HNO := Lib.hid hno
        clear hno hor
        go_wp2_with fail
        refine (HC.out _).mono ?_
        rintro e w2 ⟨rfl, rfl⟩
        go_wp2
        go_ret2
        refine ⟨?_, by trivial⟩
        rw [HR.out, HNO.out]
        rfl
      · obtain ⟨m, hm⟩ : ∃ m : Nat, m = 4 * (13 - k) := ⟨_, rfl⟩
        have hmi : 4 * (13 - (k : Int)) = (m : Int) := by omega
        have hm52 : m ≤ 52 := by omega
        rw [← hm] at hor
        have hvn : v = (v.toNat : Int) := by omega
        have hp52 : (2 : Nat) ^ m ≤ 2 ^ 52 := Nat.pow_le_pow_right (by decide) hm52
        have hpb : v.toNat * 2 ^ m ≤ 15 * 2 ^ 52 := Nat.mul_le_mul (by omega) hp52
        have e52 : (2 : Nat) ^ 52 = 4503599627370496 := by decide
        rw [e52] at hpb
        have hsh : IntKind.u64.wrap (v * 2 ^ m) = ((v.toNat * 2 ^ m : Nat) : Int) := by
          rw [hvn, castPow, ← Int.natCast_mul, Int.toNat_natCast]
          exact wrapN _ (by omega)
        have hbo : bits .or .u64 (pval l k : Int) ((v.toNat * 2 ^ m : Nat) : Int) = (pval l (k + 1) : Int) := by
          rw [bits_or_u64_nat _ _ (by omega) (by omega), hor]
        have HJ2 : Hid (∀ j, j < k + 1 → 0 ≤ hexv (l.getD j 0)) := Lib.hid (fun j hj => by
          by_cases hjk : j = k
          · rw [hjk, ← HV.out]; omega
          · exact HJ.out j (by omega))
        generalize v.toNat * 2 ^ m = x at *
        obtain ⟨p1, hp1⟩ : ∃ p1, p1 = pval l (k + 1) := ⟨_, rfl⟩
        have HP1 := Lib.hid hp1
        rw [← hp1] at hbo hpl2
        clear hp1
        generalize pval l k = p0 at *
        clear hm hor hvn hp52 e52
        go_wp2_with fail
        refine (HC.out _).mono ?_
        rintro e w2 ⟨rfl, rfl⟩
        go_wp2_with fail
        go_roundw
        case rel => exact ⟨k + 1, by omega, by go_num, by rw [HP1.out], HJ2, by trivial⟩
        case measure => simp [intOf]; omega
    · have hkn : k = n := by omega
      have HK := Lib.hid hkn
      have hyes := allHex_yes l (fun j hj => HJ.out j (by rw [hkn, ← HLL.out]; exact hj))
      have HY := Lib.hid hyes
      clear hyes hkn
      go_wp2_with fail
      go_ret2
      refine ⟨?_, by trivial⟩
      rw [HR.out, HY.out, HK.out]
      rfl
end Go.Proofs.YtaejdkfonlkhaaaDoor.Tele
