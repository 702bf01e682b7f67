/- Disks in plain words, and in memory. No conditions. -/
import Derived.Test.YtajkjbhijikggaaKeys
namespace Go.Proofs.Ytajkjbhijikggaa.Tele
open Go.RowKit
set_option linter.unusedVariables false
set_option linter.unusedSimpArgs false

/-- A file. -/
structure FileM where
  bytes : List UInt8
  sure : Nat
/-- A disk's files, by rising numbers. -/
abbrev Fs := List (Int × FileM)
namespace Fs
def get (l : Fs) (k : Int) : Option FileM := (l.find? fun p => p.1 == k).map (·.2)
def ins (x : Int × FileM) : Fs → Fs
  | [] => [x]
  | y :: r => if x.1 < y.1 then x :: y :: r else y :: ins x r
def del (l : Fs) (k : Int) : Fs := l.filter fun p => !(p.1 == k)
/-- What is there in its place turned; else laid in. -/
def turn (l : Fs) (k : Int) (f : FileM) : Fs := l.map fun p => if p.1 == k then (k, f) else p
def write (l : Fs) (k : Int) (bs : List UInt8) : Fs := match l.get k with
  | some f => l.turn k ⟨f.bytes ++ bs, f.sure⟩
  | none => l.ins (k, ⟨bs, 0⟩)
def sync (l : Fs) (k : Int) : Fs := match l.get k with
  | some f => l.turn k ⟨f.bytes, f.bytes.length⟩
  | none => l
end Fs
/-- A byte as Go's value. -/
def e8 (c : UInt8) : Value := .int .u8 (c.toNat : Int)
/-- Bytes that a slice reads as. -/
def Bytes (w : World) (v : Value) (bs : List UInt8) : Prop := ∃ a cap, v = .slice a bs.length cap ∧ RowOf e8 0 w a bs.length cap bs
/-- A file's bytes: such that more may be laid behind (own: in a row that is ours, or one that is full), or only read. -/
def Lay (w : World) (v : Value) (bs : List UInt8) : Prop := w.ownsRow 0 5 1 v bs.length (bs.map e8) ∨ ∃ ad, v = .slice (some ad) bs.length bs.length
def Row (own : Bool) (w : World) (v : Value) (bs : List UInt8) : Prop := Bytes w v bs ∧ (own = true → Lay w v bs)
theorem bytes_of {w : World} {base : Nat} {v : Value} {bs : List UInt8} (h : w.ownsRow base 5 1 v bs.length (bs.map e8)) : Bytes w v bs := by
  obtain ⟨hl, h⟩ := h
  rcases h with ⟨rfl, h0⟩ | ⟨g, cap, cur, rfl, hg, hh, h1, h2, h3, h4⟩
  · exact ⟨none, 0, by rw [h0], ⟨rfl, by omega, by omega, fun hp => by omega⟩⟩
  · refine ⟨some ⟨g, 0, none⟩, cap, rfl, ⟨rfl, h1, h2, fun hp => ⟨_, rfl, (Array.getElem?_eq_some_iff.1 hh).1, fun j hj => ?_⟩⟩⟩
    have e : (⟨g, 0, none⟩ : Addr).add j = ⟨g, 0 + j, none⟩ := by unfold Addr.add; split <;> simp_all
    rw [e, Nat.zero_add, cell_of_row w g j cur 5 (0, 0) hh]
    have h5 : cur.toList[j]? = (bs.map e8)[j]? := by
      rw [← h4, List.getElem?_take, if_pos (by omega)]
    rw [Array.getElem?_toList] at h5
    rw [h5, List.getElem?_map, List.getElem?_eq_getElem hj, List.getD_eq_getElem?_getD, List.getElem?_eq_getElem hj]
    rfl
theorem ownBlock_slice {a : Option Addr} {n cap : Nat} {ad : Addr} (h : a = some ad) : (Value.slice a n cap).ownBlock = some ad.block := by rw [h]; rfl
theorem own_at {w : World} {B : Nat} {e : TypeId} {v : Value} {n : Nat} {xs : List Value} (h : w.ownsRow B e 1 v n xs) : ∀ j, v.ownBlock = some j → B ≤ j ∧ j < w.heap.size := by
  intro j hj
  obtain ⟨_, h2⟩ := h
  rcases h2 with ⟨rfl, _⟩ | ⟨g, cap, cur, rfl, e2, e3, _⟩
  · simp [Value.ownBlock] at hj
  · have : g = j := by simpa [Value.ownBlock] using hj
    subst this
    exact ⟨e2, (Array.getElem?_eq_some_iff.1 e3).1⟩
theorem own_base {w : World} {B B' : Nat} {e : TypeId} {v : Value} {n : Nat} {xs : List Value} (h : w.ownsRow B e 1 v n xs) (hb : B' ≤ B) : w.ownsRow B' e 1 v n xs := by
  obtain ⟨h1, h2⟩ := h
  refine ⟨h1, ?_⟩
  rcases h2 with h2 | ⟨g, cap, cur, e1, e2, e3, e4⟩
  · exact .inl h2
  · exact .inr ⟨g, cap, cur, e1, Nat.le_trans hb e2, e3, e4⟩
theorem RowOf.far {α : Type} {enc : α → Value} {d : α} {w w' : World} {a : Option Addr} {len cap : Nat} {l : List α} (h : RowOf enc d w a len cap l) (hb : ∀ ad, a = some ad → 0 < len → w.heap.size ≤ w'.heap.size ∧ w'.heap[ad.block]? = w.heap[ad.block]?) : RowOf enc d w' a len cap l :=
  ⟨h.1, h.2.1, h.2.2.1, fun hp => by
    obtain ⟨ad, e, hlt, hc⟩ := h.2.2.2 hp
    obtain ⟨h1, h2⟩ := hb ad e hp
    refine ⟨ad, e, by omega, fun j hj => ?_⟩
    have h3 := hc j hj
    rw [← h3]
    exact World.cell?_of_block (by rw [add_block]; exact h2)⟩
theorem Row.far {own : Bool} {w w' : World} {v : Value} {bs : List UInt8} (h : Row own w v bs) (hs : w.heap.size ≤ w'.heap.size) (hk : ∀ j, v.ownBlock = some j → w'.heap[j]? = w.heap[j]?) : Row own w' v bs := by
  obtain ⟨⟨a, cap, h1, h2⟩, h3⟩ := h
  refine ⟨⟨a, cap, h1, h2.far fun ad had _ => ⟨hs, hk _ (by rw [h1]; exact ownBlock_slice had)⟩⟩, fun ho => ?_⟩
  rcases h3 ho with ⟨h4, h5⟩ | h4
  · refine .inl ⟨h4, ?_⟩
    rcases h5 with h5 | ⟨g, c, cur, e1, e2, e3, e4⟩
    · exact .inl h5
    · exact .inr ⟨g, c, cur, e1, e2, (hk g (by rw [e1]; rfl)).trans e3, e4⟩
  · exact .inr h4
def Plus (O : Nat → Prop) (w w' : World) (j : Nat) : Prop := O j ∨ (w.heap.size ≤ j ∧ j < w'.heap.size)
/-- A disk in memory; it hangs on blocks of O alone. -/
structure IsD' (own : Bool) (w : World) (O : Nat → Prop) (d b : Nat) (m : Ents) (F : Nat → FileM) (V : Nat → Value) (fs : Fs) : Prop where
  st : Blk w d 61 #[.map (some b)]
  mp : IsMap w b m
  sorted : m.Pairwise fun p q => p.1 < q.1
  nd : (m.map (·.2)).Nodup
  keys : ∀ e ∈ m, 0 ≤ e.1 ∧ e.1 ≤ 1099511627776
  size : m.length ≤ 100000
  fl : ∀ e ∈ m, Blk w e.2 65 #[V e.2, .int .i64 ((F e.2).sure : Int)]
  row : ∀ e ∈ m, Row own w (V e.2) (F e.2).bytes
  apart : ∀ e ∈ m, ∀ j, (V e.2).ownBlock = some j → O j ∧ j ≠ d ∧ j ≠ b ∧ ∀ e' ∈ m, j ≠ e'.2 ∧ (e'.2 ≠ e.2 → (V e'.2).ownBlock ≠ some j)
  abs : fs = m.map fun e => (e.1, F e.2)
  small : ∀ e ∈ m, (F e.2).sure ≤ (F e.2).bytes.length ∧ (F e.2).bytes.length ≤ 1000000
  hd : O d
  hb : O b
  hm : ∀ e ∈ m, O e.2
  hO : ∀ j, O j → j < w.heap.size
def IsD (own : Bool) (w : World) (O : Nat → Prop) (d : Nat) (fs : Fs) : Prop := ∃ b m F V, IsD' own w O d b m F V fs
section
variable {own : Bool} {w w' : World} {O : Nat → Prop} {d b : Nat} {m : Ents} {F : Nat → FileM} {V : Nat → Value} {fs : Fs}
theorem IsD'.next (h : IsD' own w O d b m F V fs) (k : Below w.heap.size w w') : IsD' own w' O d b m F V fs :=
  { h with st := h.st.next k, mp := h.mp.next k, fl := fun e he => (h.fl e he).next k, row := fun e he => (h.row e he).far k.size (fun j hj => k.block j (h.hO j (h.apart e he j hj).1)), hO := fun j hj => Nat.lt_of_lt_of_le (h.hO j hj) k.size }
theorem IsD.next (h : IsD own w O d fs) (k : Below w.heap.size w w') : IsD own w' O d fs := by
  obtain ⟨b, m, F, V, h⟩ := h
  exact ⟨b, m, F, V, h.next k⟩
theorem IsD.weak (h : IsD own w O d fs) : IsD false w O d fs := by
  obtain ⟨b, m, F, V, h⟩ := h
  exact ⟨b, m, F, V, { h with row := fun e he => ⟨(h.row e he).1, fun hh => by cases hh⟩ }⟩
theorem get_mem {m : Ents} {k : Int} {g : Nat} (h : m.get k = some g) : (k, g) ∈ m := by
  unfold Ents.get at h
  obtain ⟨e, he, rfl⟩ := Option.map_eq_some_iff.1 h
  have h1 := List.find?_some he
  have h2 := List.mem_of_find?_eq_some he
  simp at h1
  rw [← h1]
  exact h2
theorem get_none {m : Ents} {k : Int} (h : m.get k = none) : ∀ e ∈ m, e.1 ≠ k := by
  unfold Ents.get at h
  have h1 := List.find?_eq_none.1 (Option.map_eq_none_iff.1 h)
  intro e he hk
  exact h1 e he (by simpa using hk)
theorem get_of {m : Ents} (hs : m.Pairwise fun p q => p.1 < q.1) {k : Int} {g : Nat} (h : (k, g) ∈ m) : m.get k = some g := by
  cases hg : m.get k with
  | none => exact absurd rfl (get_none hg _ h)
  | some g' =>
    have h' := get_mem hg
    by_cases he : g' = g
    · rw [he]
    · exfalso
      obtain ⟨i, hi, e1⟩ := List.getElem_of_mem h'
      obtain ⟨j, hj, e2⟩ := List.getElem_of_mem h
      have hs' := List.pairwise_iff_getElem.1 hs
      rcases Nat.lt_trichotomy i j with hij | hij | hij
      · have := hs' i j hi hj hij
        rw [e1, e2] at this
        simp at this
      · subst hij
        rw [e1] at e2
        exact he (Prod.mk.inj e2).2
      · have := hs' j i hj hi hij
        rw [e1, e2] at this
        simp at this
theorem fs_get (h : fs = m.map fun e => (e.1, F e.2)) (k : Int) : fs.get k = (m.get k).map F := by
  unfold Fs.get Ents.get
  rw [h, List.find?_map]
  show Option.map _ (Option.map _ (List.find? (fun p : Int × Nat => p.1 == k) m)) = _
  cases List.find? (fun p : Int × Nat => p.1 == k) m <;> rfl
theorem get_isSome (h : fs = m.map fun e => (e.1, F e.2)) (k : Int) : (m.get k).isSome = (fs.get k).isSome := by rw [fs_get h k, Option.isSome_map]
theorem map_ne {w : World} {b g : Nat} {m : Ents} {t : TypeId} {cs : Array Value} (h : IsMap w b m) (k : Blk w g t cs) : g ≠ b := by
  intro e
  subst e
  obtain ⟨es, clock, hh, _⟩ := h
  have : some (Obj.cells cs t (0, 0)) = some (Obj.map es clock) := k.symm.trans hh
  simp at this
end
theorem zeroPtr (W : World) : (zeroValue 62).run Try.prog W = .ok (.pointer none) W := rfl
theorem new_calls (w : World) : Calls Try.prog 9 #[] w fun e w' => ∃ d, e = .returned (.pointer (some ⟨d, 0, none⟩)) ∧ IsD true w' (fun j => w.heap.size ≤ j ∧ j < w'.heap.size) d [] ∧ Below w.heap.size w w' := by
  have hmp := IsMap.made w
  have hb := bl_alloc (Below.refl _ w) (.map #[] 0)
  have hmk : (Instr.makeMap 59 none).run Try.prog w = .ok (.map (some w.heap.size)) (w.alloc (.map #[] 0)) := rfl
  go_enter Try.func9, Try.ntmps9
  go_wp2
  go_ret
  have e1 : (w.alloc (.map #[] 0)).heap.size = w.heap.size + 1 := World.size_alloc _ _
  have e2 : ((w.alloc (.map #[] 0)).alloc (.cells #[.map (some w.heap.size)] 61)).heap.size = w.heap.size + 2 := by rw [World.size_alloc, e1]
  refine ⟨w.heap.size + 1, rfl, ⟨w.heap.size, [], fun _ => ⟨[], 0⟩, fun _ => .slice none 0 0, ?_⟩, bl_alloc hb _⟩
  refine ⟨?_, ?_, List.Pairwise.nil, by simp, by simp, by simp, by simp, by simp, by simp, rfl, by simp, ⟨by omega, by omega⟩, ⟨Nat.le_refl _, by omega⟩, by simp, fun j hj => hj.2⟩
  · exact e1 ▸ Blk.new (w.alloc (.map #[] 0)) _ _
  · exact hmp.next (bl_alloc (Below.refl _ _) _)
theorem files_calls (own : Bool) (O : Nat → Prop) (d : Nat) (fs : Fs) (w : World) (h : IsD own w O d fs) :
    Calls Try.prog 16 #[.pointer (some ⟨d, 0, none⟩)] w fun e w' => ∃ v, e = .returned v ∧ Ints w' w.heap.size v (fs.map (·.1)) ∧ Below w.heap.size w w' := by
  obtain ⟨b, m, F, V, h⟩ := h
  have h0 : w.cell? ⟨d, 0, none⟩ = some (.map (some b)) := h.st.cell 0
  have HK := Lib.hid fun W => keys_calls (some b) W
  have hks : fs.map (·.1) = m.keys := by rw [h.abs, List.map_map]; rfl
  have HS := Lib.hid (sorted_calls w b m h.mp h.sorted (by have := h.size; omega))
  rw [hks]
  clear h hks
  go_enter Try.func16, Try.ntmps16
  go_wp2_with fail
  refine (HK.out _).mono ?_
  rintro e w1 ⟨rfl, rfl⟩
  go_wp2_with fail
  refine HS.out.mono ?_
  rintro e w2 ⟨v, rfl, hi, hb2⟩
  have HI := Lib.hid hi
  have HB := Lib.hid hb2
  clear hi hb2 HS HK
  go_wp2
  go_ret
  exact ⟨v, rfl, HI.out, HB.out⟩
theorem sure_calls (own : Bool) (O : Nat → Prop) (d : Nat) (fs : Fs) (k : Int) (w : World) (h : IsD own w O d fs) (hk : (Lit.int .i64 k).wf = true) :
    Calls Try.prog 13 #[.pointer (some ⟨d, 0, none⟩), .int .i64 k] w fun e w' => e = .returned (.int .i64 (((fs.get k).map (·.sure)).getD 0 : Nat)) ∧ w' = w := by
  obtain ⟨b, m, F, V, h⟩ := h
  have h0 : w.cell? ⟨d, 0, none⟩ = some (.map (some b)) := h.st.cell 0
  obtain ⟨v, hv, hvx⟩ := h.mp.look 59 62 Try.underlying59 (zeroPtr w) hk
  rw [fs_get h.abs k]
  cases hg : m.get k with
  | none =>
    rw [hg] at hv
    clear hvx hg h
    go_enter Try.func13, Try.ntmps13
    go_wp2
    go_ret
    exact ⟨rfl, rfl⟩
  | some g =>
    obtain rfl := hvx g hg
    rw [hg] at hv
    have g1 : w.cell? ⟨g, 1, none⟩ = some (.int .i64 ((F g).sure : Int)) := (h.fl _ (get_mem hg)).cell 1
    clear hvx hg h
    go_enter Try.func13, Try.ntmps13
    go_wp2
    go_ret
    exact ⟨rfl, rfl⟩
end Go.Proofs.Ytajkjbhijikggaa.Tele
