/- The walk of a threshold's digits. No conditions. -/
import Derived.Test.YtaejdkfonlkhaaaDoorProb2
import Derived.Laws.IdiomStrings
namespace Go.Proofs.YtaejdkfonlkhaaaDoor.Tele
open Go.RowKit
set_option linter.unusedVariables false
set_option linter.unusedSimpArgs false

def hexL : List UInt8 := [48, 49, 50, 51, 52, 53, 54, 55, 56, 57, 97, 98, 99, 100, 101, 102]
theorem hex_at : ∀ d : Fin 16, ((⟨#[48, 49, 50, 51, 52, 53, 54, 55, 56, 57, 97, 98, 99, 100, 101, 102]⟩ : ByteArray)[d.val]'(by have := d.isLt; exact this)).toNat = (hexL.getD d.val 0).toNat := by decide
theorem hex_index (d : Nat) (hd : d < 16) (W : World) : (Instr.index 9 (.string ⟨#[48, 49, 50, 51, 52, 53, 54, 55, 56, 57, 97, 98, 99, 100, 101, 102]⟩) (.int .u64 (d : Int))).run Tryd.prog W = .ok (.int .u8 ((hexL.getD d 0).toNat : Int)) W := by
  rw [run_index_string W 9 _ .u64 (d : Int) Tryd.underlying9, dif_pos ⟨by omega, by show (d : Int) < 16; omega⟩]
  have := hex_at ⟨d, hd⟩
  simp only [Int.toNat_natCast]
  rw [← this]
/-- One digit of a threshold. -/
def dig (t i : Nat) : UInt8 := hexL.getD (t / 2 ^ (4 * (13 - i)) % 16) 0
def digs (t : Nat) : List UInt8 := (List.range 14).map (dig t)
def digCells (t k : Nat) : List Value := (List.range 14).map fun i => if i < k then .int .u8 ((dig t i).toNat : Int) else .int .u8 0
theorem digCells_set (t k : Nat) (hk : k < 14) : (digCells t k).toArray.setIfInBounds k (.int .u8 ((dig t k).toNat : Int)) = (digCells t (k + 1)).toArray := by
  rw [List.setIfInBounds_toArray]
  congr 1
  apply List.ext_getElem?
  intro j
  unfold digCells
  rw [List.getElem?_set]
  simp only [List.length_map, List.length_range, List.getElem?_map]
  by_cases h : k = j
  · subst h
    rw [if_pos rfl, if_pos hk, List.getElem?_range hk]
    simp
  · rw [if_neg h]
    by_cases hj : j < 14
    · rw [List.getElem?_range hj]
      simp only [Option.map_some]
      by_cases h2 : j < k
      · rw [if_pos h2, if_pos (by omega)]
      · rw [if_neg h2, if_neg (by omega)]
    · rw [List.getElem?_eq_none (by simp; omega)]
      rfl
/-- A threshold as a text. -/
def digits (t : Nat) : List UInt8 := if Lib.trimRightB (digs t) 48 = [] then [48] else Lib.trimRightB (digs t) 48
theorem digits_err (t : Int) (w : World) (h : 72057594037927936 ≤ t) : Calls Tryd.prog 18 #[.int .u64 t] w fun e w' => e = .returned (.tuple #[.string ByteArray.empty, .int .u16 1]) ∧ w' = w := by
  go_enter Tryd.func18, Tryd.ntmps18
  go_wp2
  go_ret2
  exact ⟨rfl, rfl⟩
theorem digits_calls (t : Nat) (w : World) (h : t < 72057594037927936) :
    Calls Tryd.prog 18 #[.int .u64 (t : Int)] w fun e w' => e = .returned (.tuple #[.string ⟨(digits t).toArray⟩, .int .u16 0]) ∧ Below w.heap.size w w' := by
  have h' : ¬ (72057594037927936 : Int) ≤ (t : Int) := by omega
  obtain ⟨x, hx⟩ : ∃ x : Int, (t : Int) = x := ⟨_, rfl⟩
  rw [hx] at h' ⊢
  have HX := Lib.hid hx
  clear hx
  go_enter Tryd.func18, Tryd.ntmps18
  go_wp2_with fail
  have hB0 : Blk (w.alloc (.cells (digCells t 0).toArray 62)) w.heap.size 62 (digCells t 0).toArray := Blk.new _ _ _
  have hb0 := bl_alloc (Below.refl w.heap.size w) (.cells (digCells t 0).toArray 62)
  have e0 : (digCells t 0).toArray = #[Value.int IntKind.u8 0, Value.int IntKind.u8 0, Value.int IntKind.u8 0, Value.int IntKind.u8 0, Value.int IntKind.u8 0, Value.int IntKind.u8 0, Value.int IntKind.u8 0, Value.int IntKind.u8 0, Value.int IntKind.u8 0, Value.int IntKind.u8 0, Value.int IntKind.u8 0, Value.int IntKind.u8 0, Value.int IntKind.u8 0, Value.int IntKind.u8 0] := rfl
  rw [e0] at hb0
  rw [show (Obj.cells (digCells t 0).toArray 62) = (Obj.cells #[Value.int IntKind.u8 0, Value.int IntKind.u8 0, Value.int IntKind.u8 0, Value.int IntKind.u8 0, Value.int IntKind.u8 0, Value.int IntKind.u8 0, Value.int IntKind.u8 0, Value.int IntKind.u8 0, Value.int IntKind.u8 0, Value.int IntKind.u8 0, Value.int IntKind.u8 0, Value.int IntKind.u8 0, Value.int IntKind.u8 0, Value.int IntKind.u8 0] 62) from rfl] at hB0
  clear e0
  obtain ⟨b, hb⟩ : ∃ b, b = w.heap.size := ⟨_, rfl⟩
  have HB := Lib.hid hb
  rw [← hb] at hB0 ⊢
  clear hb
  go_loopw [9] (fun i wr => ∃ k : Nat, k ≤ 14 ∧ i = .int .i64 (k : Int) ∧ Blk wr b 62 (digCells t k).toArray ∧ Below w.heap.size w wr) (fun i _ => 14 - (intOf i).toNat)
  case atStart => exact ⟨0, by omega, rfl, hB0, hb0⟩
  case round =>
    clear hB0 hb0
    obtain ⟨k, hk, rfl, hB, hbw⟩ := hrel
    by_cases hlt : k < 14
    · obtain ⟨s, hs⟩ : ∃ s : Nat, s = 4 * (13 - k) := ⟨_, rfl⟩
      have hs1 : s ≤ 52 := by omega
      have hsi : 4 * (13 - (k : Int)) = (s : Int) := by omega
      obtain ⟨y, hy⟩ : ∃ y : Nat, y = t / 2 ^ s := ⟨_, rfl⟩
      have hyi : x / 2 ^ s = (y : Int) := by rw [← HX.out, castPow, hy]; exact (Int.natCast_ediv _ _).symm
      have hyl : y < 18446744073709551616 := by
        have := Nat.div_le_self t (2 ^ s)
        omega
      have hyd : bits .and .u64 (y : Int) 15 = ((y % 16 : Nat) : Int) := by
        have h := bits_and_u64_nat y 15 hyl (by omega)
        rw [show y &&& 15 = y % 16 from Nat.and_two_pow_sub_one_eq_mod y 4] at h
        exact h
      have hix := fun W => hex_index (y % 16) (Nat.mod_lt _ (by decide)) W
      have hdg : hexL.getD (y % 16) 0 = dig t k := by unfold dig; rw [hy, hs]
      rw [hdg] at hix
      have HD := Lib.hid hdg
      obtain ⟨d, hd⟩ : ∃ d : Nat, d = y % 16 := ⟨_, rfl⟩
      rw [← hd] at hyd hix
      have hd2 : d < 16 := by rw [hd]; exact Nat.mod_lt _ (by decide)
      have hfr := hB.frozen k
      have hcell := hB.cell k
      have hset := hB.set_ k (.int .u8 ((dig t k).toNat : Int))
      rw [digCells_set t k hlt] at hset
      have hch := (Chg.of_below (fun j => j = b) (Below.refl wr.heap.size wr)).setCell (p := ⟨b, k, none⟩) (.inl rfl) (.int .u8 ((dig t k).toNat : Int))
      have hcur : (digCells t k).toArray[k]? = some (.int .u8 0) := by
        simp [digCells, List.getElem?_range hlt]
      rw [hcur] at hcell
      clear hs hy hd hdg hcur
      go_wp2_with fail
      go_roundw
      case rel => exact ⟨k + 1, by omega, by go_num, hset, bchg hbw hch (fun j hj => by rw [hj, HB.out]; exact Nat.le_refl _)⟩
      case measure => simp [intOf]; omega
    · have hk14 : k = 14 := by omega
      have hcells : ∀ j (hj : j < (digs t).length), wr.cell? ((⟨b, 0, none⟩ : Addr).add j) = some (.int .u8 ((digs t)[j].toNat : Int)) := by
        intro j hj
        have hj' : j < 14 := by simpa [digs] using hj
        have hplain : (⟨b, 0, none⟩ : Addr).add j = ⟨b, 0 + j, none⟩ := by unfold Addr.add; split <;> simp_all
        rw [hplain, Nat.zero_add]
        rw [hB.cell j]
        rw [hk14]
        simp [digCells, digs, hj']
      have hcv := run_convert_bytes_back wr 49 9 5 ⟨b, 0, none⟩ 14 (digs t) Tryd.underlying49 Tryd.underlying5 Tryd.underlying9 hcells
      rw [show (digs t).length = 14 by simp [digs]] at hcv
      have HTR := Lib.hid (fun w => Tryd.strings_TrimRight_one ⟨(digs t).toArray⟩ 48 (by decide) w (by show (digs t).toArray.size ≤ _; simp [digs]))
      clear hcells
      by_cases hl : Lib.trimRightB (digs t) 48 = []
      · have hdt : digits t = [48] := if_pos hl
        have HDT := Lib.hid hdt
        have HL := Lib.hid hl
        clear hl hdt
        go_wp2_with fail
        refine (HTR.out _).mono ?_
        rintro e w2 ⟨rfl, rfl⟩
        rw [HL.out]
        go_wp2_with fail
        go_ret2
        refine ⟨?_, hbw⟩
        rw [HDT.out]
        rfl
      · have hdt : digits t = Lib.trimRightB (digs t) 48 := if_neg hl
        have HDT := Lib.hid hdt
        obtain ⟨l, hle⟩ : ∃ l, l = Lib.trimRightB (digs t) 48 := ⟨_, rfl⟩
        have HLE := Lib.hid hle
        rw [← hle] at hl
        clear hdt hle
        go_wp2_with fail
        refine (HTR.out _).mono ?_
        rintro e w2 ⟨rfl, rfl⟩
        rw [show Lib.trimRightB (⟨(digs t).toArray⟩ : ByteArray).data.toList 48 = l from HLE.out.symm]
        have hemp : l.isEmpty = false := by cases l with
          | nil => exact absurd rfl hl
          | cons a b => rfl
        go_wp2
        go_ret2
        refine ⟨?_, hbw⟩
        rw [HDT.out, ← HLE.out]
        rfl
end Go.Proofs.YtaejdkfonlkhaaaDoor.Tele
