/- What the numbers of files are, in plain words. No conditions. -/
import Derived.Test.YtajkjbhijikggaaLawApart
namespace Go.Proofs.Ytajkjbhijikggaa.Tele
open Go.RowKit
set_option linter.unusedVariables false
set_option linter.unusedSimpArgs false

def Fs.keys (l : Fs) : List Int := l.map (·.1)
theorem Fs.get_isSome (l : Fs) (k : Int) : (l.get k).isSome = decide (k ∈ l.keys) := by
  induction l with
  | nil => rfl
  | cons p r ih =>
    unfold Fs.get at ih ⊢
    by_cases h : p.1 = k
    · have hb : (p.1 == k) = true := by simpa using h
      rw [List.find?_cons, hb]
      simp [Fs.keys, h]
    · have hb : (p.1 == k) = false := by simpa using h
      have h' : ¬ k = p.1 := fun e => h e.symm
      rw [List.find?_cons, hb]
      simp only
      rw [ih]
      show decide (k ∈ Fs.keys r) = decide (k ∈ p.1 :: Fs.keys r)
      rw [decide_eq_decide, List.mem_cons]
      exact ⟨.inr, fun hh => hh.resolve_left h'⟩
theorem Fs.mem_ins (x p : Int × FileM) : ∀ l : Fs, p ∈ l.ins x ↔ p = x ∨ p ∈ l
  | [] => by simp [Fs.ins]
  | y :: r => by
    unfold Fs.ins
    split
    · simp
    · rw [List.mem_cons, Fs.mem_ins x p r, List.mem_cons]
      constructor
      · rintro (h | h | h) <;> simp [h]
      · rintro (h | h | h) <;> simp [h]
theorem Fs.len_ins (x : Int × FileM) : ∀ l : Fs, (l.ins x).length = l.length + 1
  | [] => rfl
  | y :: r => by
    unfold Fs.ins
    split
    · rfl
    · rw [List.length_cons, Fs.len_ins x r, List.length_cons]
theorem Fs.keys_turn (l : Fs) (k : Int) (f : FileM) : (l.turn k f).keys = l.keys := by
  unfold Fs.turn Fs.keys
  rw [List.map_map]
  refine List.map_congr_left fun p hp => ?_
  show (if p.1 == k then (k, f) else p).1 = p.1
  split
  · rename_i h
    exact (by simpa using h : p.1 = k).symm
  · rfl
theorem Fs.len_write (l : Fs) (k : Int) (bs : List UInt8) : (l.write k bs).length ≤ l.length + 1 := by
  unfold Fs.write
  split
  · rw [Fs.turn, List.length_map]; omega
  · rw [Fs.len_ins]; omega
theorem Fs.keys_write (l : Fs) (k : Int) (bs : List UInt8) (j : Int) : j ∈ (l.write k bs).keys ↔ j = k ∨ j ∈ l.keys := by
  unfold Fs.write
  cases hg : l.get k with
  | some f =>
    simp only
    rw [Fs.keys_turn]
    have : k ∈ l.keys := by have := l.get_isSome k; rw [hg] at this; simpa using this.symm
    constructor
    · exact fun h => .inr h
    · rintro (rfl | h)
      · exact this
      · exact h
  | none =>
    simp only
    unfold Fs.keys
    constructor
    · intro h
      obtain ⟨p, hp, rfl⟩ := List.mem_map.1 h
      rcases (Fs.mem_ins _ _ _).1 hp with rfl | hp
      · exact .inl rfl
      · exact .inr (List.mem_map.2 ⟨p, hp, rfl⟩)
    · rintro (rfl | h)
      · exact List.mem_map.2 ⟨_, (Fs.mem_ins _ _ _).2 (.inl rfl), rfl⟩
      · obtain ⟨p, hp, rfl⟩ := List.mem_map.1 h
        exact List.mem_map.2 ⟨p, (Fs.mem_ins _ _ _).2 (.inr hp), rfl⟩
theorem Fs.get_mem' {l : Fs} {k : Int} {f : FileM} (h : l.get k = some f) : ∃ k', (k', f) ∈ l := by
  unfold Fs.get at h
  obtain ⟨p, hp, rfl⟩ := Option.map_eq_some_iff.1 h
  exact ⟨p.1, List.mem_of_find?_eq_some hp⟩
theorem Fs.big_write (l : Fs) (k : Int) (bs : List UInt8) (n m : Nat) (h : ∀ p ∈ l, p.2.bytes.length ≤ n) (hb : bs.length ≤ m) : ∀ p ∈ l.write k bs, p.2.bytes.length ≤ n + m := by
  unfold Fs.write
  cases hg : l.get k with
  | some f =>
    simp only
    intro p hp
    unfold Fs.turn at hp
    obtain ⟨q, hq, rfl⟩ := List.mem_map.1 hp
    obtain ⟨k', hf⟩ := Fs.get_mem' hg
    have h1 := h _ hf
    have h2 := h _ hq
    split
    · show (f.bytes ++ bs).length ≤ _
      rw [List.length_append]
      simp only at h1
      omega
    · omega
  | none =>
    simp only
    intro p hp
    rcases (Fs.mem_ins _ _ _).1 hp with rfl | hp
    · show bs.length ≤ _
      omega
    · have := h _ hp
      omega
theorem Fs.get_big {l : Fs} {n : Nat} (h : ∀ p ∈ l, p.2.bytes.length ≤ n) (k : Int) : (((l.get k).map (·.bytes)).getD []).length ≤ n := by
  cases hg : l.get k with
  | none => exact Nat.zero_le _
  | some f =>
    obtain ⟨k', hf⟩ := Fs.get_mem' hg
    exact h _ hf
theorem Fs.keys_del (l : Fs) (k j : Int) : j ∈ (l.del k).keys ↔ j ≠ k ∧ j ∈ l.keys := by
  unfold Fs.del Fs.keys
  simp only [List.mem_map, List.mem_filter]
  constructor
  · rintro ⟨p, ⟨hp, h⟩, rfl⟩
    exact ⟨by simpa using h, p, hp, rfl⟩
  · rintro ⟨h, p, hp, rfl⟩
    exact ⟨p, ⟨hp, by simpa using h⟩, rfl⟩
/-- Which of 256 numbers are there. -/
def mark (L : List Int) : List Nat := (List.range 256).map fun (i : Nat) => if (i : Int) ∈ L then 1 else 0
theorem mark_len (L : List Int) : (mark L).length = 256 := by simp [mark]
theorem mark_get (L : List Int) (i : Nat) (h : i < 256) : (mark L).getD i 0 = if (i : Int) ∈ L then 1 else 0 := by
  unfold mark
  rw [List.getD_eq_getElem?_getD, List.getElem?_map, List.getElem?_range h]
  rfl
theorem mark_set (L L' : List Int) (r : Nat) (v : Nat) (hv : v = if (r : Int) ∈ L' then 1 else 0) (h : ∀ j : Int, j ≠ (r : Int) → (j ∈ L' ↔ j ∈ L)) : (mark L).set r v = mark L' := by
  refine List.ext_getElem? fun i => ?_
  by_cases hi : i < 256
  · rw [List.getElem?_set]
    split
    · rename_i he
      subst he
      rw [if_pos (by rw [mark_len]; exact hi)]
      unfold mark
      rw [List.getElem?_map, List.getElem?_range hi, hv]
      rfl
    · rename_i he
      unfold mark
      rw [List.getElem?_map, List.getElem?_map, List.getElem?_range hi]
      show some (if ((i : Nat) : Int) ∈ L then 1 else 0) = some (if ((i : Nat) : Int) ∈ L' then 1 else 0)
      have := h (i : Int) (by omega)
      simp only [this]
  · rw [List.getElem?_eq_none (by rw [List.length_set, mark_len]; omega), List.getElem?_eq_none (by rw [mark_len]; omega)]
/-- How far a rising list is told. -/
structure Upto (L : List Int) (i : Int) (k : Nat) : Prop where
  le : k ≤ L.length
  lo : ∀ x ∈ L.take k, x < i
  hi : ∀ x ∈ L.drop k, i ≤ x
theorem Upto.start (L : List Int) (h : ∀ x ∈ L, 0 ≤ x) : Upto L 0 0 := ⟨Nat.zero_le _, by simp, by simpa using h⟩
theorem Upto.no {L : List Int} {i : Int} {k : Nat} (h : Upto L i k) (hn : i ∉ L) : Upto L (i + 1) k :=
  ⟨h.le, fun x hx => by have := h.lo x hx; omega, fun x hx => by
    have := h.hi x hx
    have : x ≠ i := fun e => hn (e ▸ List.mem_of_mem_drop hx)
    omega⟩
theorem Upto.yes {L : List Int} (hs : L.Pairwise (· < ·)) {i : Int} {k : Nat} (h : Upto L i k) (hn : i ∈ L) : ∃ hk : k < L.length, L[k] = i ∧ Upto L (i + 1) (k + 1) := by
  have hd : i ∈ L.drop k := by
    have : i ∈ L.take k ++ L.drop k := by rw [List.take_append_drop]; exact hn
    rcases List.mem_append.1 this with h1 | h1
    · have := h.lo i h1; omega
    · exact h1
  have hk : k < L.length := by
    rcases Nat.lt_or_ge k L.length with h1 | h1
    · exact h1
    · rw [List.drop_of_length_le h1] at hd; cases hd
  have hdr : L.drop k = L[k] :: L.drop (k + 1) := List.drop_eq_getElem_cons hk
  have hp : (L[k] :: L.drop (k + 1)).Pairwise (· < ·) := by rw [← hdr]; exact hs.sublist (List.drop_sublist _ _)
  have hle : i ≤ L[k] := h.hi _ (by rw [hdr]; exact List.mem_cons_self)
  rw [List.pairwise_cons] at hp
  have heq : L[k] = i := by
    rw [hdr] at hd
    rcases List.mem_cons.1 hd with h1 | h1
    · exact h1.symm
    · have := hp.1 i h1; omega
  refine ⟨hk, heq, ⟨hk, fun x hx => ?_, fun x hx => ?_⟩⟩
  · rw [List.take_succ_eq_append_getElem hk] at hx
    rcases List.mem_append.1 hx with h1 | h1
    · have := h.lo x h1; omega
    · rw [List.mem_singleton.1 h1, heq]; omega
  · have := hp.1 x hx
    omega
theorem Upto.end_ {L : List Int} {i : Int} {k : Nat} (h : Upto L i k) (hh : ∀ x ∈ L, x < i) : k = L.length := by
  rcases Nat.lt_or_ge k L.length with h1 | h1
  · have h2 := h.hi L[k] (by rw [List.drop_eq_getElem_cons h1]; exact List.mem_cons_self)
    have h3 := hh L[k] (List.getElem_mem h1)
    omega
  · have := h.le; omega
/-- A disk's numbers rise. -/
theorem MineD.up {own : Bool} {w0 w : World} {d : Nat} {fs : Fs} (h : MineD own w0 w d fs) : fs.keys.Pairwise (· < ·) := by
  obtain ⟨O, h1, ⟨b, m, F, V, h2⟩, h3⟩ := h
  unfold Fs.keys
  rw [h2.abs, List.map_map]
  exact List.pairwise_map.2 h2.sorted
end Go.Proofs.Ytajkjbhijikggaa.Tele
