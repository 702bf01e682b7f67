/- The keys of a map, sorted: the library's contracts at this program. No conditions. -/
import Derived.Test.YtelodofjokmfjaaPMap
import Derived.Test.YtelodofjokmfjaaShelf
import Derived.Test.YtelodofjokmfjaaOpenRows
namespace Go.Proofs.Ytelodofjokmfjaa.Tele
open Go.RowKit Go.Maps Go.Sort Go.Shelf
set_option linter.unusedVariables false
set_option linter.unusedSimpArgs false

theorem sortsA (m : Nat) : AnyZI.SortsIn Try.prog Try.sortedA_ren Fence.wide m :=
  ⟨fun blk off cap ss W hH hblk hsz => callsIn_wide.2 (AnyM.slices_Sort_int Try.sortA blk off cap ss W hH hblk hsz),
   fun p cap W => callsIn_wide.2 (AnyM.slices_Sort_int_none Try.sortA p cap W)⟩
theorem keys_calls (mb : Option Nat) (W : World) : Calls Try.prog 27 #[.map mb] W fun e w' => e = .returned (.func (.func 35) #[] #[.pointer (some ⟨W.heap.size, 0, none⟩)]) ∧ w' = W.alloc (.cells #[.map mb] 55) :=
  (callsIn_wide (n := 5)).1 (AnyZI.keys_in Try.keysA Fence.wide 5 trivial rfl mb W)
/-- A list of numbers as a slice. -/
def Ints (w : World) (B : Nat) (v : Value) (l : List Int) : Prop := ∃ a cap, v = .slice a l.length cap ∧ RowOf (Value.int .i64) 0 w a l.length cap l ∧ ∀ ad, a = some ad → B ≤ ad.block
theorem ints_of {w : World} {base : Nat} {v : Value} {l : List Int} {n : Nat} (hn : n = l.length) (h : w.ownsRow base 3 1 v n (l.map encZ)) : Ints w base v l := by
  subst hn
  obtain ⟨hl, h⟩ := h
  rcases h with ⟨rfl, h0⟩ | ⟨g, cap, cur, rfl, hg, hh, h1, h2, h3, h4⟩
  · refine ⟨none, 0, by rw [h0], ⟨rfl, by omega, by omega, fun hp => by omega⟩, fun _ h => by cases h⟩
  · refine ⟨some ⟨g, 0, none⟩, cap, rfl, ⟨rfl, h1, h2, fun hp => ⟨_, rfl, (Array.getElem?_eq_some_iff.1 hh).1, fun j hj => ?_⟩⟩, fun ad had => by cases had; exact hg⟩
    have e : (⟨g, 0, none⟩ : Addr).add j = ⟨g, 0 + j, none⟩ := by unfold Addr.add; split <;> simp_all
    rw [e, Nat.zero_add, cell_of_row w g j cur 3 (0, 0) hh]
    have h5 : cur.toList[j]? = (l.map encZ)[j]? := by
      rw [← h4, List.getElem?_take, if_pos (by omega)]
    rw [Array.getElem?_toList] at h5
    rw [h5, List.getElem?_map, List.getElem?_eq_getElem hj, List.getD_eq_getElem?_getD, List.getElem?_eq_getElem hj]
    rfl
theorem sort_keys {ss : List Int} {m : Ents} (h : ss.Perm m.keys) (hm : m.Pairwise fun p q => p.1 < q.1) : ss.mergeSort (fun x y => decide (x ≤ y)) = m.keys := by
  have e := mergeSort_of_perm_i h
  rw [show (fun x y : Int => decide (x ≤ y)) = leI from rfl, e]
  refine List.mergeSort_of_pairwise ?_
  unfold Ents.keys
  rw [List.pairwise_map]
  exact hm.imp fun hlt => decide_eq_true (Int.le_of_lt hlt)
theorem sorted_calls (w : World) (b : Nat) (m : Ents) (h : IsMap w b m) (hs : m.Pairwise fun p q => p.1 < q.1) (hm : m.length ≤ 1000000) :
    Calls Try.prog 26 #[.func (.func 35) #[] #[.pointer (some ⟨w.heap.size, 0, none⟩)]] (w.alloc (.cells #[.map (some b)] 55)) fun e w' => ∃ v, e = .returned v ∧ Ints w' w.heap.size v m.keys ∧ Below w.heap.size w w' := by
  have hbl := h.lt
  have hD : Maps.size (dm m) = m.length := dm_size m
  have hseq : SeqGives Fence.wide 2 Try.prog 35 #[.pointer (some ⟨w.heap.size, 0, none⟩)] encZ (fun ss => ss.Perm (intKeys (dm m))) (Maps.size (dm m)) (w.alloc (.cells #[.map (some b)] 55)) :=
    AnyZI.keys_gives (ρ := Try.keysA_ren) { Try.keysA with } Fence.wide _ trivial rfl (by omega) w.heap.size b m.length (dm m) _ (by simp) (by simp) (by
      obtain ⟨es, clock, hb, Ft, hs, hD⟩ := h
      exact ⟨es, clock, (Below.heap_alloc _ _ b hbl).trans hb, Ft, hs, hD⟩)
  have cS := AnyZI.sorted_in Try.sortedA Fence.wide 5 trivial trivial trivial trivial rfl (by omega) (sortsA _) (enters_of Try.func34 (by kernel_rfl) rfl) 35 #[.pointer (some ⟨w.heap.size, 0, none⟩)] trivial (enters_of Try.func35 (by kernel_rfl) rfl) _ _ (by rw [hD]; show m.length ≤ 2 ^ 63 - 1; omega) (by rw [hD]; omega) _ hseq
  change CallsIn _ _ Try.prog 26 _ _ _ at cS
  refine (callsIn_wide.1 cS).mono ?_
  rintro e w' ⟨v, ss, rfl, hp, hrow, hnil, hb⟩
  rw [dm_keys] at hp
  refine ⟨v, rfl, ?_, ?_⟩
  · rw [sort_keys hp hs] at hrow
    obtain ⟨a, cap, h1, h2, h3⟩ := ints_of (by rw [← hp.length_eq]) hrow
    exact ⟨a, cap, h1, h2, fun ad had => by have := h3 ad had; rw [World.size_alloc] at this; omega⟩
  · exact ((Below.refl _ w).alloc (Nat.le_refl _) _).trans (hb.mono (by simp))
end Go.Proofs.Ytelodofjokmfjaa.Tele
