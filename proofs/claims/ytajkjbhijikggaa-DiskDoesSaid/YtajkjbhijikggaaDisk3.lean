/- The walks of slices.Clone at bytes and of a disk's Read. No conditions. -/
import Derived.Test.YtajkjbhijikggaaDisk2
import Derived.Maps.AppendAt
import Derived.Laws.OwnMore
import Derived.SliceStrings
import Derived.Laws.Entries
import Derived.Lib.SliceRun
namespace Go.Proofs.Ytajkjbhijikggaa.Tele
open Go.RowKit
set_option linter.unusedVariables false
set_option linter.unusedSimpArgs false

theorem infoByte : (Try.prog.info? 5).map (fun i => (i.zero, i.size, i.bytes)) = some (some (.int .u8 0), 1, 1) := by kernel_rfl
theorem info_parts {t : TypeId} {z : Value} {n b : Nat} (h : (Try.prog.info? t).map (fun i => (i.zero, i.size, i.bytes)) = some (some z, n, b)) : ∃ i0, Try.prog.info? t = some i0 ∧ i0.zero = some z ∧ i0.size = n ∧ i0.bytes = b := by
  obtain ⟨i0, hi, he⟩ := Option.map_eq_some_iff.1 h
  simp at he
  exact ⟨i0, hi, he.1, he.2.1, he.2.2⟩
theorem e8_one (bs : List UInt8) : ∀ u ∈ bs.map e8, u.oneCell' = true := fun u hu => by
  obtain ⟨x, _, rfl⟩ := List.mem_map.1 hu
  rfl
/-- What a slice's cells read as, for an append. -/
theorem news_of {w : World} {ad : Addr} {n cap : Nat} {bs : List UInt8} (h : RowOf e8 0 w (some ad) n cap bs) : ∀ j u, (bs.map e8)[j]? = some u → w.cell? (ad.add j) = some u := fun j u hj => by
  have hl := h.len_eq
  have hjm : j < bs.length := by
    have := (List.getElem?_eq_some_iff.1 hj).1
    simpa using this
  have h1 := h.cell j (by omega)
  rw [List.getElem?_map, List.getElem?_eq_getElem hjm] at hj
  rw [List.getD_eq_getElem?_getD, List.getElem?_eq_getElem hjm] at h1
  exact h1.trans hj
set_option maxRecDepth 8000 in
theorem clone_calls (v : Value) (bs : List UInt8) (w : World) (h : Bytes w v bs) (hn : bs.length ≤ 10000000) :
    Calls Try.prog 26 #[v] w fun e w' => ∃ v', e = .returned v' ∧ Below w.heap.size w w' ∧ w'.ownsRow w.heap.size 5 1 v' bs.length (bs.map e8) := by
  obtain ⟨a, cap, rfl, hr⟩ := h
  have hnil := fun W : World => Lib.run_eql_slice_nil (P := Try.prog) W 22 5 a bs.length cap 0 0 Try.underlying22
  cases a with
  | none =>
    have hb0 : bs.length = 0 := by
      rcases Nat.eq_zero_or_pos bs.length with h0 | h0
      · exact h0
      · obtain ⟨ad, had, _⟩ := hr.2.2.2 h0
        cases had
    have hbs : bs = [] := List.length_eq_zero_iff.1 hb0
    subst hbs
    rw [show ([] : List UInt8).length = 0 from rfl] at hnil ⊢
    clear hr
    go_enter Try.func26, Try.ntmps26
    go_wp2
    go_ret
    exact ⟨_, rfl, Below.refl _ _, ⟨rfl, .inl ⟨rfl, rfl⟩⟩⟩
  | some ad =>
    obtain ⟨i0, hi, hz0, hz1, hz2⟩ := info_parts infoByte
    have hown := World.ownsRow_lit (base := w.heap.size) (e := 5) (size := 1) w #[] 0 (Nat.le_refl _) (by decide) (by simp)
    have hr2 : RowOf e8 0 (w.alloc (.cells #[] 5)) (some ad) bs.length cap bs := hr.below (bl_alloc (Below.refl _ _) _)
    have hnews := news_of hr2
    have hone := e8_one bs
    have hlen : (bs.map e8).length = bs.length * 1 := by simp
    obtain ⟨n, hn1⟩ : ∃ n, n = bs.length := ⟨_, rfl⟩
    rw [← hn1] at hlen hnil hr2 ⊢
    have hn9 : n ≤ 10000000 := by omega
    obtain ⟨xs, hxs⟩ : ∃ xs, xs = bs.map e8 := ⟨_, rfl⟩
    rw [← hxs] at hlen hone hnews ⊢
    clear hr hr2 hn1 hxs hn
    go_enter Try.func26, Try.ntmps26
    go_wp2_with (at_builtin; refine wpList_append_own_at _ rfl _ _ _ rfl w.heap.size 5 i0 _ 1 1 Try.underlying22 hi hz0 hz1 hz2 rfl (by decide) (.slice (some ⟨w.heap.size, 0, none⟩) 0 0) 0 _ rfl hown ad n cap xs rfl hlen hnews hone (by show _ ≤ 2 ^ 63 - 1; omega) (by omega) (by simp) ?_; intro v1 w1 hown1 hgrow _ hat)
    go_ret
    refine ⟨v1, rfl, ?_, by simpa using hown1⟩
    exact (bl_alloc (Below.refl _ _) _).grown hgrow (by simp) (fun k hk => by
      simp [Value.ownBlock] at hk
      omega)
set_option maxRecDepth 8000 in
theorem read_calls (own : Bool) (O : Nat → Prop) (d : Nat) (fs : Fs) (k : Int) (w : World) (h : IsD own w O d fs) (hk : (Lit.int .i64 k).wf = true) :
    Calls Try.prog 15 #[.pointer (some ⟨d, 0, none⟩), .int .i64 k] w fun e w' => ∃ v, e = .returned (.tuple #[v, .int .u16 (if (fs.get k).isSome then 0 else 71)]) ∧ Below w.heap.size w w' ∧
      w'.ownsRow w.heap.size 5 1 v (((fs.get k).map (·.bytes)).getD []).length ((((fs.get k).map (·.bytes)).getD []).map e8) := by
  obtain ⟨b, m, F, V, h⟩ := h
  have h0 : w.cell? ⟨d, 0, none⟩ = some (.map (some b)) := h.st.cell 0
  obtain ⟨v, hv, hvx⟩ := h.mp.look 59 62 Try.underlying59 (zeroPtr w) hk
  have hget := fs_get h.abs k
  rw [hget]
  cases hg : m.get k with
  | none =>
    rw [hg] at hv
    clear hvx hg h hget
    go_enter Try.func15, Try.ntmps15
    go_wp2
    go_ret2
    exact ⟨_, rfl, Below.refl _ _, ⟨rfl, .inl ⟨rfl, rfl⟩⟩⟩
  | some g =>
    obtain rfl := hvx g hg
    rw [hg] at hv
    have hblk := h.fl _ (get_mem hg)
    have g0 : w.cell? ⟨g, 0, none⟩ = some (V g) := hblk.cell 0
    have hrow := h.row _ (get_mem hg)
    have HC := Lib.hid (clone_calls (V g) (F g).bytes w hrow.1 (by have : (F g).bytes.length ≤ 1000000 := (h.small _ (get_mem hg)).2; omega))
    clear hvx hg h hget hblk hrow
    go_enter Try.func15, Try.ntmps15
    go_wp2_with fail
    refine HC.out.mono ?_
    rintro e w1 ⟨v', rfl, hb, ho⟩
    have HB := Lib.hid hb
    have HO := Lib.hid ho
    clear hb ho
    go_wp2
    go_ret2
    exact ⟨v', rfl, HB.out, HO.out⟩
end Go.Proofs.Ytajkjbhijikggaa.Tele
