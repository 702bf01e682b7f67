/- The walk of the laws' bytes. No conditions. -/
import Derived.Test.YtajkjbhijikggaaLawCopies14
import Derived.Test.YtajkjbhijikggaaOpenDeeds
import Derived.Deep.OwnRows
import Derived.IntWalk
namespace Go.Proofs.Ytajkjbhijikggaa.Tele
open Go.RowKit
set_option linter.unusedVariables false
set_option linter.unusedSimpArgs false

/-- The bytes that two choices say. -/
def bytesM (b n : Nat) : List UInt8 := (List.range (n % 9)).map fun i => UInt8.ofNat (b + i)
theorem bytesM_len (b n : Nat) : (bytesM b n).length = n % 9 := by simp [bytesM]
theorem made_zero8 (n : Nat) : madeCells #[Value.int .u8 0] n = ((List.replicate n (0 : UInt8)).map e8).toArray := by
  apply Array.ext
  · simp [madeCells]
  · intro i h1 h2
    simp [madeCells, Nat.mod_one]
    rfl
theorem set_e8 (L : List UInt8) (i : Nat) (v : UInt8) : ((L.map e8).toArray).setIfInBounds i (e8 v) = ((L.set i v).map e8).toArray := by
  simp [List.map_set]
theorem part_set (L : List UInt8) (k : Nat) (h : k < L.length) : (L.take k ++ List.replicate (L.length - k) 0).set k L[k] = L.take (k + 1) ++ List.replicate (L.length - (k + 1)) 0 := by
  have hl : (L.take k).length = k := by rw [List.length_take]; omega
  rw [List.set_append_right _ _ (by omega), hl, Nat.sub_self, show L.length - k = (L.length - (k + 1)) + 1 by omega, List.replicate_succ, List.set_cons_zero, List.take_succ_eq_append_getElem h, List.append_assoc]
  rfl
theorem own_of_blk {w : World} {g B n : Nat} {bs : List UInt8} (h : Blk w g 5 (bs.map e8).toArray) (hB : B ≤ g) (hn : n = bs.length) (hs : bs.length ≤ 1000000) : w.ownsRow B 5 1 (.slice (some ⟨g, 0, none⟩) n n) n (bs.map e8) := by
  subst hn
  refine ⟨by simp, .inr ⟨g, bs.length, (bs.map e8).toArray, rfl, hB, h, Nat.le_refl _, by unfold maxLen; omega, by simp, List.take_of_length_le (by simp)⟩⟩
set_option maxRecDepth 8000 in
set_option maxHeartbeats 1000000 in
theorem bytes_calls (b n : Nat) (w : World) (hb : b < 256) (hn : n < 256) :
    Calls Try.prog 17 #[.int .u8 (b : Int), .int .u8 (n : Int)] w fun e w' => ∃ v, e = .returned v ∧ Below w.heap.size w w' ∧ w'.ownsRow w.heap.size 5 1 v (bytesM b n).length ((bytesM b n).map e8) := by
  obtain ⟨m, hm⟩ : ∃ m, m = n % 9 := ⟨_, rfl⟩
  have hmz : (n : Int) % 9 = (m : Int) := by rw [hm]; omega
  have hml : (bytesM b n).length = m := by rw [bytesM_len, hm]
  have hm9 : (m : Int) ≤ 8 := by omega
  have hbm : ∀ k (h : k < (bytesM b n).length), (bytesM b n)[k] = UInt8.ofNat (b + k) := fun k h => by simp [bytesM]
  generalize bytesM b n = L at *
  have hmk := fun w : World => run_make_row' (P := Try.prog) 22 5 (.int .u8 0) 1 Try.underlying22 infoByte rfl .i64 .i64 m (by omega) (by omega) w
  obtain ⟨c0, hc0⟩ : ∃ c0, c0 = madeCells #[Value.int .u8 0] m := ⟨_, rfl⟩
  rw [← hc0] at hmk
  have hB0 : Blk (w.alloc (.cells c0 5)) w.heap.size 5 ((L.take 0 ++ List.replicate (L.length - 0) 0).map e8).toArray := by
    have := Blk.new w 5 c0
    rw [hc0, made_zero8] at this
    rw [hc0, made_zero8]
    simpa [hml] using this
  have hW0 : Below w.heap.size w (w.alloc (.cells c0 5)) := bl_alloc (Below.refl _ _) _
  have HML := Lib.hid hml
  have HBM := Lib.hid hbm
  have HB0 := Lib.hid hB0
  have HW0 := Lib.hid hW0
  clear hc0 hml hbm hB0 hW0 hm
  go_enter Try.func17, Try.ntmps17
  go_wp2_with fail
  generalize w.alloc (.cells c0 5) = w1 at *
  go_loopw [6] (fun i wr => ∃ k : Nat, k ≤ m ∧ i = .int .i64 (k : Int) ∧ Hid (Blk wr w.heap.size 5 ((L.take k ++ List.replicate (L.length - k) 0).map e8).toArray) ∧ Hid (Below w.heap.size w wr)) (fun i _ => m - (intOf i).toNat)
  case atStart => exact ⟨0, by omega, rfl, HB0, HW0⟩
  case round =>
    clear HB0 HW0 hmk
    obtain ⟨k, hk, rfl, HB, HW⟩ := hrel
    by_cases hlt : (k : Int) < (m : Int)
    · have hkl : k < L.length := by rw [HML.out]; omega
      have hfr := HB.out.frozen k
      have hcell : wr.cell? ⟨w.heap.size, k, none⟩ = some (.int .u8 0) := by
        rw [HB.out.cell, List.getElem?_toArray, List.getElem?_map, List.getElem?_append_right (by rw [List.length_take]; omega), List.length_take, List.getElem?_replicate, if_pos (by omega)]
        rfl
      have hkw : IntKind.u8.wrap (k : Int) = (k : Int) := IntWalk.u8_in _ (by omega)
      have hsum : IntKind.u8.wrap ((b : Int) + (k : Int)) = ((L[k].toNat : Nat) : Int) := by
        rw [HBM.out k hkl, IntKind.wrap_u8, UInt8.toNat_ofNat']
        omega
      have hset := HB.out.set_ k (e8 L[k])
      rw [set_e8, part_set L k hkl] at hset
      have HS : Hid (Blk (wr.setCell ⟨w.heap.size, k, none⟩ (.int .u8 ((L[k].toNat : Nat) : Int))) w.heap.size 5 ((L.take (k + 1) ++ List.replicate (L.length - (k + 1)) 0).map e8).toArray) := Lib.hid hset
      have HW2 : Hid (Below w.heap.size w (wr.setCell ⟨w.heap.size, k, none⟩ (.int .u8 ((L[k].toNat : Nat) : Int)))) := Lib.hid (Below.setCell (p := ⟨w.heap.size, k, none⟩) HW.out (Nat.le_refl _) _)
      generalize ((L[k].toNat : Nat) : Int) = z at *
      clear hset hkl HB HW
      go_wp2_with fail
      go_roundw
      case rel => exact ⟨k + 1, by omega, by go_num, HS, HW2⟩
      case measure => simp [intOf]; omega
    · have hkm : k = m := by omega
      have hB := HB.out
      rw [hkm, show (L.take m ++ List.replicate (L.length - m) 0) = L by rw [List.take_of_length_le (by rw [HML.out]; omega), HML.out, Nat.sub_self]; simp] at hB
      have HF := Lib.hid (own_of_blk hB (Nat.le_refl _) HML.out.symm (by rw [HML.out]; omega))
      clear hB hkm HB
      go_wp2_with fail
      go_ret
      exact ⟨_, rfl, HW.out, by rw [HML.out]; exact HF.out⟩
end Go.Proofs.Ytajkjbhijikggaa.Tele
