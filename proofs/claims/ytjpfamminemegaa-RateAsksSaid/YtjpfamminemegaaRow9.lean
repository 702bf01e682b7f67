/- Whole structs that are read and written. No conditions. -/
import Derived.Test.YtjpfamminemegaaRVal
import Derived.Deep.MidRow
import Derived.Deep.WholeRow
import Derived.Laws.CopyOwn
namespace Go.Proofs.Ytjpfamminemegaa.Tele
open Go.RowKit
set_option linter.unusedVariables false
set_option linter.unusedSimpArgs false

theorem Blk.row {w : World} {g : Nat} {t : TypeId} {old : Array Value} (h : Blk w g t old) (cs : Array Value) : Blk (w.setRow g cs) g t cs := setRow_heap w g old cs t (0, 0) h
theorem chg_row {w : World} {g : Nat} {G : Nat → Prop} (hg : G g) (cs : Array Value) : Chg G w (w.setRow g cs) :=
  ⟨rfl, rfl, rfl, by rw [setRow_size]; exact Nat.le_refl _, fun k hk hs => setRow_other w g k cs (fun e => hs (by rw [e]; exact hg))⟩
theorem Blk.range {w : World} {g : Nat} {t : TypeId} {cs : Array Value} (h : Blk w g t cs) : w.rangeAt g 0 cs.toList := fun j v hv => by
  rw [Nat.zero_add]
  exact (h.cell j).trans (by rw [← hv, Array.getElem?_toList])
theorem Blk.there {w : World} {g : Nat} {t : TypeId} {cs : Array Value} (h : Blk w g t cs) (n : Nat) (hn : n ≤ cs.size) : w.there g 0 n := fun j hj => by
  rw [Nat.zero_add]
  refine ⟨?_, h.frozen j⟩
  rw [h.cell j, Array.getElem?_eq_getElem (by omega)]
  rfl
/-- The cells from o on, set one by one. -/
def setMany : Array Value → Nat → List Value → Array Value
  | cs, _, [] => cs
  | cs, o, v :: r => setMany (cs.setIfInBounds o v) (o + 1) r
theorem Blk.cells_ {g : Nat} {t : TypeId} : ∀ (vs : List Value) (o : Nat) (w : World) (cs : Array Value), Blk w g t cs → Blk (w.setCells g o vs) g t (setMany cs o vs)
  | [], o, w, cs, h => h
  | v :: r, o, w, cs, h => Blk.cells_ r (o + 1) _ _ (h.set_ o v)
theorem chg_cells {g : Nat} {G : Nat → Prop} (hg : G g) : ∀ (vs : List Value) (o : Nat) (w : World), Chg G w (w.setCells g o vs)
  | [], o, w => Chg.refl G w
  | v :: r, o, w => ((Chg.refl G w).setCell (p := ⟨g, o, none⟩) (.inl hg) v).then (chg_cells hg r (o + 1) _)
theorem setMany13 (a0 a1 a2 a3 a4 a5 a6 a7 a8 a9 a10 a11 a12 a13 x0 x1 x2 x3 x4 x5 x6 x7 x8 x9 x10 x11 x12 : Value) : setMany #[a0, a1, a2, a3, a4, a5, a6, a7, a8, a9, a10, a11, a12, a13] 0 (#[x0, x1, x2, x3, x4, x5, x6, x7, x8, x9, x10, x11, x12] : Array Value).toList = #[x0, x1, x2, x3, x4, x5, x6, x7, x8, x9, x10, x11, x12, a13] := by kernel_rfl
theorem Blk.cells13 {w : World} {g : Nat} {t : TypeId} {a0 a1 a2 a3 a4 a5 a6 a7 a8 a9 a10 a11 a12 a13 : Value} (h : Blk w g t #[a0, a1, a2, a3, a4, a5, a6, a7, a8, a9, a10, a11, a12, a13]) (x0 x1 x2 x3 x4 x5 x6 x7 x8 x9 x10 x11 x12 : Value) : Blk (w.setCells g 0 (#[x0, x1, x2, x3, x4, x5, x6, x7, x8, x9, x10, x11, x12] : Array Value).toList) g t #[x0, x1, x2, x3, x4, x5, x6, x7, x8, x9, x10, x11, x12, a13] := by
  have h2 := Blk.cells_ (#[x0, x1, x2, x3, x4, x5, x6, x7, x8, x9, x10, x11, x12] : Array Value).toList 0 w _ h
  rw [setMany13] at h2
  exact h2
end Go.Proofs.Ytjpfamminemegaa.Tele
