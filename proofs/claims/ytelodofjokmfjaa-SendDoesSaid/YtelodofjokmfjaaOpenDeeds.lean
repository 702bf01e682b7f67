/- Slices of structs of numbers that came in. No conditions. -/
import Derived.Test.YtelodofjokmfjaaOpenRows
import Derived.ChangeArms
namespace Go.Proofs.Ytelodofjokmfjaa.Tele
open Go.RowKit Go.ChangeShapes Go.WideShapes
set_option linter.unusedVariables false
set_option linter.unusedSimpArgs false

/-- A slice of structs of these kinds of numbers reads so. -/
def DeedRow (ks : List IntKind) (w : World) (a : Option Addr) (len cap : Nat) (l : Nat → Nat → Int) : Prop :=
  len ≤ cap ∧ cap ≤ 9223372036854775807 ∧ (0 < len → ∃ ad, a = some ad ∧ ad.block < w.heap.size) ∧ ∀ j, j < len → ∀ i k, ks[i]? = some k → w.cell? (adr a (j * ks.length + i)) = some (.int k (l j i)) ∧ (Lit.int k (l j i)).wf = true
section
variable {ks : List IntKind} {w w' : World} {a : Option Addr} {len cap : Nat} {l : Nat → Nat → Int}
theorem DeedRow.below (h : DeedRow ks w a len cap l) (k : Below w.heap.size w w') : DeedRow ks w' a len cap l :=
  ⟨h.1, h.2.1, fun hp => by
    obtain ⟨ad, e, hb⟩ := h.2.2.1 hp
    exact ⟨ad, e, Nat.lt_of_lt_of_le hb k.size⟩, fun j hj i kk hi => by
    obtain ⟨h1, h2⟩ := h.2.2.2 j hj i kk hi
    obtain ⟨ad, rfl, hb⟩ := h.2.2.1 (by omega)
    exact ⟨(k.cell (p := adr (some ad) (j * ks.length + i)) (by unfold adr; rw [add_block]; exact hb)).trans h1, h2⟩⟩
theorem adr_add (a : Option Addr) (j i : Nat) : (adr a j).add i = adr a (j + i) := by
  unfold adr
  generalize a.getD ⟨0, 0, none⟩ = b
  obtain ⟨bb, bo, bs⟩ := b
  unfold Addr.add
  by_cases hj : j = 0 <;> by_cases hi : i = 0 <;> simp [hj, hi, Nat.add_assoc]
theorem DeedRow.field (h : DeedRow ks w a len cap l) (j : Nat) (hj : j < len) (i : Nat) (k : IntKind) (hi : ks[i]? = some k) : w.cell? ((adr a (j * ks.length)).add i) = some (.int k (l j i)) ∧ (Lit.int k (l j i)).wf = true := by
  rw [adr_add]
  exact h.2.2.2 j hj i k hi
theorem add_zero_ (ad : Addr) : ad.add 0 = ad := by
  obtain ⟨bb, bo, bs⟩ := ad
  unfold Addr.add
  simp
theorem add_pos (ad : Addr) (i : Nat) (h : i ≠ 0) : ad.add i = ⟨ad.block, ad.off + i, none⟩ := by
  obtain ⟨bb, bo, bs⟩ := ad
  unfold Addr.add
  simp [h]
theorem DeedRow.field0 (h : DeedRow ks w a len cap l) (j : Nat) (hj : j < len) (k : IntKind) (hi : ks[0]? = some k) : w.cell? (adr a (j * ks.length)) = some (.int k (l j 0)) ∧ (Lit.int k (l j 0)).wf = true := by
  have := h.field j hj 0 k hi
  rwa [add_zero_] at this
theorem DeedRow.fieldN (h : DeedRow ks w a len cap l) (j : Nat) (hj : j < len) (i : Nat) (hi0 : i ≠ 0) (k : IntKind) (hi : ks[i]? = some k) : w.cell? ⟨(adr a (j * ks.length)).block, (adr a (j * ks.length)).off + i, none⟩ = some (.int k (l j i)) ∧ (Lit.int k (l j i)).wf = true := by
  have := h.field j hj i k hi
  rwa [add_pos _ _ hi0] at this
theorem DeedRow.index (h : DeedRow ks w a len cap l) (P : Program) (t e : TypeId) (ht : P.underlying t = some (.slice e)) (he : (P.info? e).map (·.size) = some ks.length) (j : Nat) (hj : j < len) (W : World) :
    (Instr.indexAt t (.slice a len cap) (.int .i64 (j : Int))).run P W = .ok (.pointer (some (adr a (j * ks.length)))) W := by
  obtain ⟨ad, rfl, _⟩ := h.2.2.1 (by omega)
  have hel : P.elem t = e := by simp [Program.elem, ht]
  obtain ⟨i, hi, hs⟩ := Option.map_eq_some_iff.1 he
  rw [run_indexAt_slice (h := by rw [hel]; exact ht), if_pos (by omega), hel]
  simp [sizeOf, typeInfo, hi, hs, adr]
end
/-- The struct has just these numbers, a cell each. -/
def flatB (P : Program) (e : TypeId) (ks : List IntKind) : Bool :=
  match P.underlying e with
  | some (.struct fs) => decide (P.cellsOf e = ks.length) && decide (fs.size = ks.length) && (List.range ks.length).all fun i =>
    match fs[i]?, ks[i]? with
    | some f, some k => decide (f.offset = i) && decide (P.cellsOf f.type = 1) && (match P.underlying f.type with | some (.int k') => decide (k' = k) | _ => false)
    | _, _ => false
  | _ => false
def valOf (o : Option Value) : Int := match o with | some (.int _ n) => n | _ => 0
section
variable {H : Type} {enc : TypeId × Value → H} {P : Program} {W : World} {spare : Nat → Bool} {held : Bool} {t e : TypeId} {a : Option Addr} {len cap : Nat} {d : DataW H} {ps : List MemPlace}
theorem flat_open {ks : List IntKind} {fuel : Nat} {cs : List Value} {x : DataW H × List MemPlace} (hf : flatB P e ks = true) (h : DataW.trod enc P W 0 spare held fuel e cs = some x) :
    P.cellsOf e = ks.length ∧ cs.length = ks.length ∧ ∀ (i : Nat) (k : IntKind), ks[i]? = some k → ∃ n, cs[i]? = some (Value.int k n) ∧ (Lit.int k n).wf = true := by
  unfold flatB at hf
  split at hf
  · rename_i fs hu
    simp only [Bool.and_eq_true, decide_eq_true_eq, List.all_eq_true, List.mem_range] at hf
    obtain ⟨⟨hc, hs⟩, hall⟩ := hf
    obtain ⟨xs, n, _, _, hl, hlen, hg⟩ := DataW.trod_struct hu h
    refine ⟨hc, hl.trans hc, fun i k hk => ?_⟩
    have hi : i < ks.length := (List.getElem?_eq_some_iff.1 hk).1
    have h1 := hall i hi
    rw [hk] at h1
    have hfi : fs[i]? = some fs[i] := Array.getElem?_eq_getElem (by omega)
    rw [hfi] at h1
    simp only [Bool.and_eq_true, decide_eq_true_eq] at h1
    obtain ⟨⟨h2, h3⟩, h4⟩ := h1
    have h5 := hg i fs[i] hfi
    rw [h2, h3] at h5
    split at h4
    · rename_i k' hk'
      have h6 : k' = k := by simpa using h4
      subst h6
      have hx : xs[i]? = some xs[i] := List.getElem?_eq_getElem (by omega)
      rw [hx] at h5
      obtain ⟨m, e1, _, e3⟩ := DataW.trod_int hk' h5
      refine ⟨m, ?_, e3⟩
      have h7 : ((cs.drop i).take 1)[0]? = some (Value.int k' m) := by rw [e1]; rfl
      rw [List.getElem?_take, if_pos (by omega), List.getElem?_drop] at h7
      exact h7
    · cases h4
  · cases hf
theorem deedRow_of_trod {ks : List IntKind} (ht : P.underlying t = some (.slice e)) (hf : flatB P e ks = true) (hk : 0 < ks.length)
    (h : DataW.Trod enc P W 0 (fun _ => true) held t (.slice a len cap) d ps) : ∃ l, DeedRow ks W a len cap l := by
  obtain ⟨fuel, hh⟩ := h
  rcases DataW.trod_slice ht hh with ⟨hcs, _⟩ | ⟨ad, len', cap', elems, rest, n, _, hcs, _, _, hl, hm, hlen, hel, _⟩
  · simp [Value.cells] at hcs
    obtain ⟨rfl, rfl, rfl⟩ := hcs
    exact ⟨fun _ _ => 0, Nat.le_refl _, by omega, fun hp => by omega, fun j hj => by omega⟩
  · simp [Value.cells] at hcs
    obtain ⟨rfl, rfl, rfl⟩ := hcs
    unfold maxLen at hm
    have each : ∀ j, j < len → ∃ cs, W.cells? 0 (ad.add (j * P.cellsOf e)) (P.cellsOf e) = some cs ∧ P.cellsOf e = ks.length ∧ cs.length = ks.length ∧ ∀ (i : Nat) (k : IntKind), ks[i]? = some k → ∃ n, cs[i]? = some (Value.int k n) ∧ (Lit.int k n).wf = true := fun j hj => by
      have h1 := hel j hj
      have hx : elems[j]? = some elems[j] := List.getElem?_eq_getElem (by omega)
      rw [hx] at h1
      obtain ⟨cs, hc1, hc2⟩ := Option.bind_eq_some_iff.1 h1
      exact ⟨cs, hc1, flat_open hf hc2⟩
    have cell : ∀ j, j < len → ∀ i k, ks[i]? = some k → ∃ n, W.cell? (adr (some ad) (j * ks.length + i)) = some (.int k n) ∧ (Lit.int k n).wf = true := fun j hj i k hk => by
      obtain ⟨cs, h1, h2, h3, h4⟩ := each j hj
      obtain ⟨n, h5, h6⟩ := h4 i k hk
      have hi : i < ks.length := (List.getElem?_eq_some_iff.1 hk).1
      refine ⟨n, ?_, h6⟩
      rw [h2] at h1
      have h7 := (World.cells?_some h1).2.2 i hi
      rw [← adr_add]
      unfold adr
      show W.cell? ((ad.add (j * ks.length)).add i) = _
      rw [h7]
      exact h5
    refine ⟨fun j i => valOf (W.cell? (adr (some ad) (j * ks.length + i))), hl, hm, fun hp => ⟨ad, rfl, ?_⟩, fun j hj i k hk => ?_⟩
    · obtain ⟨cs, h1, h2, h3, h4⟩ := each 0 hp
      obtain ⟨n, h5, _⟩ := cell 0 hp 0 ks[0] (List.getElem?_eq_getElem hk)
      have h6 := World.block_lt_of_cell? W _ h5
      unfold adr at h6
      rwa [add_block] at h6
    · obtain ⟨n, h5, h6⟩ := cell j hj i k hk
      simp only [h5, valOf]
      exact ⟨trivial, h6⟩
theorem sized_deeds {ts : List TypeId} {ds : List (DataW H)} {j : Nat}
    (hsz : (DataW.weightsEach P ts ds).all (· ≤ reachBytes) = true) (ht : ts[j]? = some t) (hd : ds[j]? = some d) (hu : P.underlying t = some (.slice e)) {B : Nat} (hB : P.bytesOf e = B)
    (h : DataW.Trod enc P W 0 spare held t (.slice a len cap) d ps) : len * B ≤ 140737488351232 := by
  obtain ⟨fuel, hh⟩ := h
  rcases DataW.trod_slice hu hh with ⟨hcs, _⟩ | ⟨ad, len', cap', elems, rest, n, _, hcs, hx, _, hl, hm, hlen, hel, _⟩
  · simp [Value.cells] at hcs
    obtain ⟨rfl, rfl, rfl⟩ := hcs
    simp
  · simp [Value.cells] at hcs
    obtain ⟨rfl, rfl, rfl⟩ := hcs
    obtain ⟨hx, _⟩ := Prod.mk.inj hx
    subst hx
    have z := sized_slice hsz ht hd hu
    rw [hB] at z
    simp only [List.length_map, hlen] at z
    exact Nat.le_trans (Nat.mul_le_mul_right _ (Nat.le_add_right _ _)) z
end
end Go.Proofs.Ytelodofjokmfjaa.Tele
