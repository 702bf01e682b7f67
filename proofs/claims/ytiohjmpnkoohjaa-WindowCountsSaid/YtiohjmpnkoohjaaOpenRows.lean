/- Slices that came in, as plain lists. No conditions. -/
import Derived.SizedLaws
import Derived.ChangeSlices
import Derived.SliceStrings
import Derived.Below
import Derived.Laws.Entries
set_option linter.unusedVariables false
set_option linter.unusedSimpArgs false
namespace Go.Proofs.Ytiohjmpnkoohjaa.Tele
open Go.RowKit Go.ChangeShapes Go.WideShapes

/-- A slice of one-cell elements that came in reads as this list. -/
def RowOf {α : Type} (enc : α → Value) (d : α) (w : World) (a : Option Addr) (len cap : Nat) (l : List α) : Prop :=
  l.length = len ∧ len ≤ cap ∧ cap ≤ 9223372036854775807 ∧ (0 < len → ∃ ad, a = some ad ∧ ad.block < w.heap.size ∧ ∀ j, j < len → w.cell? (ad.add j) = some (enc (l.getD j d)))
/-- Where its element j lies. -/
def adr (a : Option Addr) (j : Nat) : Addr := (a.getD ⟨0, 0, none⟩).add j
section
variable {α : Type} {enc : α → Value} {d : α} {w w' : World} {a : Option Addr} {len cap : Nat} {l : List α}
theorem add_block (ad : Addr) (j : Nat) : (ad.add j).block = ad.block := by unfold Addr.add; split <;> rfl
theorem RowOf.len_eq (h : RowOf enc d w a len cap l) : l.length = len := h.1
theorem RowOf.below (h : RowOf enc d w a len cap l) (k : Below w.heap.size w w') : RowOf enc d w' a len cap l :=
  ⟨h.1, h.2.1, h.2.2.1, fun hp => by
    obtain ⟨ad, e, hb, hc⟩ := h.2.2.2 hp
    exact ⟨ad, e, Nat.lt_of_lt_of_le hb k.size, fun j hj => (k.cell (p := ad.add j) (by rw [add_block]; exact hb)).trans (hc j hj)⟩⟩
theorem RowOf.cell (h : RowOf enc d w a len cap l) (j : Nat) (hj : j < len) : w.cell? (adr a j) = some (enc (l.getD j d)) := by
  obtain ⟨ad, rfl, _, hc⟩ := h.2.2.2 (by omega)
  exact hc j hj
theorem RowOf.index (h : RowOf enc d w a len cap l) (P : Program) (t e : TypeId) (ht : P.underlying t = some (.slice e)) (he : (P.info? e).map (·.size) = some 1) (j : Nat) (hj : j < len) (W : World) :
    (Instr.indexAt t (.slice a len cap) (.int .i64 (j : Int))).run P W = .ok (.pointer (some (adr a j))) W := by
  obtain ⟨ad, rfl, _, _⟩ := h.2.2.2 (by omega)
  have hel : P.elem t = e := by simp [Program.elem, ht]
  obtain ⟨i, hi, hs⟩ := Option.map_eq_some_iff.1 he
  rw [run_indexAt_slice (h := by rw [hel]; exact ht), if_pos (by omega), hel]
  simp [sizeOf, typeInfo, hi, hs, adr]
end
abbrev IntRow (k : IntKind) (w : World) (a : Option Addr) (len cap : Nat) (l : List Int) : Prop := RowOf (Value.int k) 0 w a len cap l ∧ ∀ n ∈ l, (Lit.int k n).wf = true
abbrev StrRow (w : World) (a : Option Addr) (len cap : Nat) (l : List ByteArray) : Prop := RowOf Value.string ByteArray.empty w a len cap l ∧ ∀ s ∈ l, s.size ≤ 9223372036854775807
section
variable {H : Type} {enc : TypeId × Value → H} {P : Program} {W : World} {spare : Nat → Bool} {held : Bool} {t e : TypeId} {a : Option Addr} {len cap : Nat} {d : DataW H} {ps : List MemPlace}
theorem getD_take {α : Type} (l : List α) (n j : Nat) (x : α) (h : j < n) : (l.take n).getD j x = l.getD j x := by
  simp [List.getD_eq_getElem?_getD, List.getElem?_take, h]
theorem intRow_of_trod {k : IntKind} (ht : P.underlying t = some (.slice e)) (he : P.underlying e = some (.int k)) (hc : P.cellsOf e = 1)
    (h : DataW.Trod enc P W 0 (fun _ => true) held t (.slice a len cap) d ps) : ∃ l, IntRow k W a len cap l := by
  obtain ⟨fuel, hf⟩ := h
  rcases open_ints ht he hc hf with ⟨hcs, _⟩ | ⟨x, l, c, zs, hcs, _, hl, hm, hz, _, hcell, hw⟩
  · simp [Value.cells] at hcs
    obtain ⟨rfl, rfl, rfl⟩ := hcs
    exact ⟨[], ⟨rfl, Nat.le_refl _, by omega, fun hp => by omega⟩, by simp⟩
  · simp [Value.cells] at hcs
    obtain ⟨rfl, rfl, rfl⟩ := hcs
    simp at hz
    unfold maxLen at hm
    refine ⟨zs.take len, ⟨by rw [List.length_take]; omega, hl, hm, fun hp => ⟨x, rfl, ?_, fun j hj => ?_⟩⟩, fun n hn => hw n (List.mem_of_mem_take hn)⟩
    · have := World.block_lt_of_cell? W _ (hcell 0 (by omega))
      rwa [add_block] at this
    · rw [getD_take _ _ _ _ hj]
      exact hcell j (by omega)
theorem strRow_of_trod (ht : P.underlying t = some (.slice e)) (he : P.underlying e = some .string) (hc : P.cellsOf e = 1)
    (h : DataW.Trod enc P W 0 (fun _ => true) held t (.slice a len cap) d ps) : ∃ l, StrRow W a len cap l := by
  obtain ⟨fuel, hf⟩ := h
  rcases open_strings ht he hc hf with ⟨hcs, _⟩ | ⟨x, l, c, zs, hcs, _, hl, hm, hz, _, hcell, hw⟩
  · simp [Value.cells] at hcs
    obtain ⟨rfl, rfl, rfl⟩ := hcs
    exact ⟨[], ⟨rfl, Nat.le_refl _, by omega, fun hp => by omega⟩, by simp⟩
  · simp [Value.cells] at hcs
    obtain ⟨rfl, rfl, rfl⟩ := hcs
    simp at hz
    unfold maxLen at hm hw
    refine ⟨zs.take len, ⟨by rw [List.length_take]; omega, hl, hm, fun hp => ⟨x, rfl, ?_, fun j hj => ?_⟩⟩, fun n hn => hw n (List.mem_of_mem_take hn)⟩
    · have := World.block_lt_of_cell? W _ (hcell 0 (by omega))
      rwa [add_block] at this
    · rw [getD_take _ _ _ _ hj]
      exact hcell j (by omega)
/-- A row's slice of whole numbers is no longer than its weight allows. -/
theorem sized_ints {k : IntKind} {ts : List TypeId} {ds : List (DataW H)} {j : Nat}
    (hsz : (DataW.weightsEach P ts ds).all (· ≤ reachBytes) = true) (ht : ts[j]? = some t) (hd : ds[j]? = some d) (hu : P.underlying t = some (.slice e)) (he : P.underlying e = some (.int k)) (hc : P.cellsOf e = 1) {B : Nat} (hB : P.bytesOf e = B)
    (h : DataW.Trod enc P W 0 spare held t (.slice a len cap) d ps) : len * B ≤ 140737488351232 := by
  obtain ⟨fuel, hf⟩ := h
  rcases open_ints hu he hc hf with ⟨hcs, _⟩ | ⟨x, l, c, zs, hcs, _, hl, _, hz, hx, _, _⟩
  · simp [Value.cells] at hcs
    obtain ⟨rfl, rfl, rfl⟩ := hcs
    simp
  · simp [Value.cells] at hcs
    obtain ⟨rfl, rfl, rfl⟩ := hcs
    obtain ⟨hx, _⟩ := Prod.mk.inj hx
    subst hx
    have z := sized_slice hsz ht hd hu
    rw [hB] at z
    have hl2 : len ≤ zs.length := by
      rw [hz]
      split
      · exact hl
      · exact Nat.le_refl _
    have h1 : (lits (H := H) k (zs.take len)).length + (lits (H := H) k (zs.drop len)).length = zs.length := by
      simp [lits]
      omega
    rw [h1] at z
    exact Nat.le_trans (Nat.mul_le_mul_right _ hl2) z
theorem sized_strs {ts : List TypeId} {ds : List (DataW H)} {j : Nat}
    (hsz : (DataW.weightsEach P ts ds).all (· ≤ reachBytes) = true) (ht : ts[j]? = some t) (hd : ds[j]? = some d) (hu : P.underlying t = some (.slice e)) (he : P.underlying e = some .string) (hc : P.cellsOf e = 1) {B : Nat} (hB : P.bytesOf e = B)
    (h : DataW.Trod enc P W 0 spare held t (.slice a len cap) d ps) : len * B ≤ 140737488351232 := by
  obtain ⟨fuel, hf⟩ := h
  rcases open_strings hu he hc hf with ⟨hcs, _⟩ | ⟨x, l, c, zs, hcs, _, hl, _, hz, hx, _, _⟩
  · simp [Value.cells] at hcs
    obtain ⟨rfl, rfl, rfl⟩ := hcs
    simp
  · simp [Value.cells] at hcs
    obtain ⟨rfl, rfl, rfl⟩ := hcs
    obtain ⟨hx, _⟩ := Prod.mk.inj hx
    subst hx
    have z := sized_slice hsz ht hd hu
    rw [hB] at z
    have hl2 : len ≤ zs.length := by
      rw [hz]
      split
      · exact hl
      · exact Nat.le_refl _
    have h1 : (strs (H := H) (zs.take len)).length + (strs (H := H) (zs.drop len)).length = zs.length := by
      simp [strs]
      omega
    rw [h1] at z
    exact Nat.le_trans (Nat.mul_le_mul_right _ hl2) z
end
end Go.Proofs.Ytiohjmpnkoohjaa.Tele
