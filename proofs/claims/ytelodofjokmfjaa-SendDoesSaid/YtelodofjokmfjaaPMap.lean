/- Maps from numbers to blocks, as sorted lists. No conditions. -/
import Derived.Test.YtelodofjokmfjaaBase17
import Derived.Lib.SlKeysI
import Derived.Maps.OwnSet
import Derived.Maps.RangeWalk
namespace Go.Proofs.Ytelodofjokmfjaa.Tele
open Go.RowKit Go.Maps
set_option linter.unusedVariables false
set_option linter.unusedSimpArgs false

/-- Entries: a number and a block. -/
abbrev Ents := List (Int × Nat)
/-- The datum of a map from numbers to blocks. -/
def dm (m : Ents) : DataW Unit := .map (m.map fun p => (.int .i64 p.1, .lit (.int .i64 (p.2 : Int))))
/-- How an element reads. -/
def rdP : Value → Option (DataW Unit × List MemPlace)
  | .pointer (some ⟨g, 0, none⟩) => some (.lit (.int .i64 (g : Int)), [])
  | .pointer none => some (.agg [], [])
  | _ => none
theorem rdP_inv {v : Value} {g : Nat} {ps : List MemPlace} (h : rdP v = some (.lit (.int .i64 (g : Int)), ps)) : v = .pointer (some ⟨g, 0, none⟩) := by
  unfold rdP at h
  split at h
  · simp at h
    obtain ⟨h1, _⟩ := h
    have h2 := Int.ofNat.inj h1
    rw [h2]
  · simp at h
  · simp at h
namespace Ents
def get (m : Ents) (k : Int) : Option Nat := (m.find? fun p => p.1 == k).map (·.2)
def insP (x : Int × Nat) : Ents → Ents
  | [] => [x]
  | y :: r => if x.1 < y.1 then x :: y :: r else y :: insP x r
def del (m : Ents) (k : Int) : Ents := m.filter fun p => !(p.1 == k)
def put (m : Ents) (k : Int) (g : Nat) : Ents := insP (k, g) (m.del k)
def keys (m : Ents) : List Int := m.map (·.1)
end Ents
theorem same_int (a b : Int) : Lit.sameKey (.int .i64 a) (.int .i64 b) = (a == b) := by
  simp only [Lit.sameKey, true_and]
  by_cases h : a = b <;> simp [h]
theorem dm_insP (x : Int × Nat) : ∀ m : Ents, DataW.insert ((.int .i64 x.1, .lit (.int .i64 (x.2 : Int))) : Lit × DataW Unit) (m.map fun p => (.int .i64 p.1, .lit (.int .i64 (p.2 : Int)))) = (m.insP x).map fun p => (.int .i64 p.1, .lit (.int .i64 (p.2 : Int)))
  | [] => rfl
  | y :: r => by
    simp only [List.map_cons, DataW.insert, Ents.insP, Lit.before]
    by_cases h : x.1 < y.1
    · simp [h]
    · simp [h, dm_insP x r]
theorem dm_filter (m : Ents) (k : Int) : ((m.map fun p => ((.int .i64 p.1, .lit (.int .i64 (p.2 : Int))) : Lit × DataW Unit)).filter fun p => !p.1.sameKey (.int .i64 k)) = (m.del k).map fun p => (.int .i64 p.1, .lit (.int .i64 (p.2 : Int))) := by
  unfold Ents.del
  rw [List.filter_map]
  congr 1
  apply List.filter_congr
  intro x _
  simp only [Function.comp, same_int]
theorem dm_del (m : Ents) (k : Int) : (dm m).del (.int .i64 k) = dm (m.del k) := by
  show DataW.map _ = DataW.map _
  rw [dm_filter]
theorem dm_put (m : Ents) (k : Int) (g : Nat) : (dm m).put (.int .i64 k) (.lit (.int .i64 (g : Int))) = dm (m.put k g) := by
  show DataW.map _ = DataW.map _
  rw [dm_filter, dm_insP (k, g)]
  rfl
theorem dm_has (m : Ents) (k : Int) : Maps.has (dm m) (.int .i64 k) = (m.get k).isSome := by
  unfold dm Ents.get
  rw [Maps.has_eq, List.any_map, Option.isSome_map, List.isSome_find?]
  congr 1
  funext p
  simp only [Function.comp, same_int]
theorem dm_at (m : Ents) (k : Int) (g : Nat) (h : m.get k = some g) (zd : DataW Unit) : (dm m).atKey (.int .i64 k) zd = .lit (.int .i64 (g : Int)) := by
  unfold Ents.get at h
  obtain ⟨p, hp, rfl⟩ := Option.map_eq_some_iff.1 h
  unfold dm DataW.atKey
  simp only [List.find?_map]
  have e : (fun p : Int × Nat => ((.int .i64 p.1, .lit (.int .i64 (p.2 : Int))) : Lit × DataW Unit).1.sameKey (.int .i64 k)) = fun p => p.1 == k := by
    funext p
    exact same_int _ _
  rw [show ((fun p : Lit × DataW Unit => p.1.sameKey (.int .i64 k)) ∘ fun p : Int × Nat => (.int .i64 p.1, .lit (.int .i64 (p.2 : Int)))) = fun p => p.1 == k from e, hp]
  rfl
theorem dm_no (m : Ents) (k : Int) (h : m.get k = none) (zd : DataW Unit) : (dm m).atKey (.int .i64 k) zd = zd := by
  unfold Ents.get at h
  have hp := Option.map_eq_none_iff.1 h
  unfold dm DataW.atKey
  simp only [List.find?_map]
  have e : (fun p : Int × Nat => ((.int .i64 p.1, .lit (.int .i64 (p.2 : Int))) : Lit × DataW Unit).1.sameKey (.int .i64 k)) = fun p => p.1 == k := by
    funext p
    exact same_int _ _
  rw [show ((fun p : Lit × DataW Unit => p.1.sameKey (.int .i64 k)) ∘ fun p : Int × Nat => (.int .i64 p.1, .lit (.int .i64 (p.2 : Int)))) = fun p => p.1 == k from e, hp]
  rfl
theorem dm_size (m : Ents) : Maps.size (dm m) = m.length := by simp [dm, Maps.size]
theorem dm_keys (m : Ents) : intKeys (dm m) = m.keys := by
  simp [dm, intKeys, Ents.keys]
  intro a b _
  rfl
/-- Block b is a map that reads so. -/
def IsMap (w : World) (b : Nat) (m : Ents) : Prop := w.ownsMap Try.prog 3 rdP b m.length (dm m)
theorem tight {w : World} {b n : Nat} {m : Ents} (h : w.ownsMap Try.prog 3 rdP b n (dm m)) : IsMap w b m := by
  obtain ⟨es, clock, hb, F, hs, hD⟩ := h
  refine ⟨es, clock, hb, F, ?_, hD⟩
  have h1 := congrArg Maps.size hD
  rw [dm_size] at h1
  simp [Maps.size, length_sorted] at h1
  omega
section
variable {w w' : World} {b : Nat} {m : Ents}
theorem IsMap.lt (h : IsMap w b m) : b < w.heap.size := World.ownsMap.lt h
theorem IsMap.chg {S : Nat → Prop} (h : IsMap w b m) (k : Chg S w w') (hb : ¬ S b) : IsMap w' b m := by
  have hlt := h.lt
  obtain ⟨es, clock, hh, r⟩ := h
  exact ⟨es, clock, (k.block b hlt hb).trans hh, r⟩
theorem IsMap.next (h : IsMap w b m) (k : Below w.heap.size w w') : IsMap w' b m := h.chg (Chg.of_below (fun _ => False) k) (fun h => h)
theorem chg_grown (h : w.grownBy w' (some b)) : Chg (fun j => j = b) w w' := ⟨h.os, h.tape, h.output, h.size, fun k hk hs => h.block k hk (fun e => hs (by injection e))⟩
theorem IsMap.made (w : World) : IsMap (w.alloc (.map #[] 0)) w.heap.size [] := World.ownsMap_made w _ _ _
theorem IsMap.look {k : Int} (h : IsMap w b m) (t e : TypeId) (ht : Try.prog.underlying t = some (.map 3 e)) (hz : (zeroValue e).run Try.prog w = .ok (.pointer none) w) (hw : (Lit.int .i64 k).wf = true) :
    ∃ v, (Instr.lookup t (.map (some b)) (.int .i64 k) true).run Try.prog w = .ok (.tuple #[v, .bool (m.get k).isSome]) w ∧ ∀ g, m.get k = some g → v = .pointer (some ⟨g, 0, none⟩) := by
  obtain ⟨v, ps, h1, h2⟩ := World.ownsMap.look_ok h (int_keyed Try.underlying3) ht hz (zd := .agg []) (zp := []) rfl (keyOf_int_mk Try.underlying3 hw)
  rw [dm_has] at h1
  refine ⟨v, h1, fun g hg => ?_⟩
  rw [dm_at m k g hg] at h2
  exact rdP_inv h2
theorem IsMap.look1 {k : Int} (h : IsMap w b m) (t e : TypeId) (ht : Try.prog.underlying t = some (.map 3 e)) (hz : (zeroValue e).run Try.prog w = .ok (.pointer none) w) (hw : (Lit.int .i64 k).wf = true) (g : Nat) (hg : m.get k = some g) :
    (Instr.lookup t (.map (some b)) (.int .i64 k) false).run Try.prog w = .ok (.pointer (some ⟨g, 0, none⟩)) w := by
  obtain ⟨v, ps, h1, h2⟩ := World.ownsMap.lookup h (int_keyed Try.underlying3) ht hz (zd := .agg []) (zp := []) rfl (keyOf_int_mk Try.underlying3 hw)
  rw [dm_at m k g hg] at h2
  rw [rdP_inv h2] at h1
  exact h1
theorem IsMap.len (h : IsMap w b m) (t e ty : TypeId) (ht : Try.prog.underlying t = some (.map 3 e)) : (Builtin.len_ #[t] ty #[.map (some b)]).run Try.prog w = .ok (.int .i64 (m.length : Int)) w := by
  have h1 := World.ownsMap.len h ht ty
  rw [dm_size] at h1
  exact h1
theorem IsMap.store {k : Int} {g : Nat} (h : IsMap w b m) (t e : TypeId) (ht : Try.prog.underlying t = some (.map 3 e)) (hw : (Lit.int .i64 k).wf = true) (hn : m.length ≤ 1000000) :
    ∃ w', (Instr.mapUpdate t (.map (some b)) (.int .i64 k) (.pointer (some ⟨g, 0, none⟩))).run Try.prog w = .ok () w' ∧ IsMap w' b (m.put k g) ∧ Chg (fun j => j = b) w w' ∧ w'.heap.size = w.heap.size := by
  obtain ⟨w', h1, h2, h3⟩ := World.ownsMap.store h (int_keyed Try.underlying3) ht (by show m.length < 2 ^ 63 - 1; omega) (keyOf_int_mk Try.underlying3 hw) (show rdP (.pointer (some ⟨g, 0, none⟩)) = some (.lit (.int .i64 (g : Int)), []) from rfl)
  rw [dm_put] at h2
  refine ⟨w', h1, tight h2, chg_grown h3.grown, ?_⟩
  obtain ⟨es, clock, es', clock', hb, rfl⟩ := h3
  simp [Go.ChangeMaps.setBlock]
theorem IsMap.drop {k : Int} (h : IsMap w b m) (t e ty : TypeId) (ht : Try.prog.underlying t = some (.map 3 e)) (hw : (Lit.int .i64 k).wf = true) :
    ∃ w', (Builtin.delete_ #[t, 3] ty #[.map (some b), .int .i64 k]).run Try.prog w = .ok (.tuple #[]) w' ∧ IsMap w' b (m.del k) ∧ Chg (fun j => j = b) w w' ∧ w'.heap.size = w.heap.size := by
  obtain ⟨w', h1, h2, h3⟩ := World.ownsMap.drop h (int_keyed Try.underlying3) ht (keyOf_int_mk Try.underlying3 hw) ty
  rw [dm_del] at h2
  refine ⟨w', h1, tight h2, chg_grown h3.grown, ?_⟩
  obtain ⟨es, clock, es', clock', hb, rfl⟩ := h3
  simp [Go.ChangeMaps.setBlock]
end
end Go.Proofs.Ytelodofjokmfjaa.Tele
