/- What a law knows of the one window that it made. No conditions. -/
import Derived.Test.YtjpfamminemegaaWin2
import Derived.Test.YtjpfamminemegaaKey
namespace Go.Proofs.Ytjpfamminemegaa.Tele
open Go.RowKit
set_option linter.unusedVariables false
set_option linter.unusedSimpArgs false

/-- What a law knows of the one window that it made: all its blocks are new. -/
structure Mine (w0 w : World) (g : Nat) (m : Win) : Prop where
  below : Below w0.heap.size w0 w
  win : IsWin w (fun j => w0.heap.size ≤ j ∧ j < w.heap.size) g m
theorem mine_new {w0 w1 w2 : World} {g : Nat} {m : Win} (h : Below w0.heap.size w0 w1) (k : Below w1.heap.size w1 w2) (hw : IsWin w2 (Plus (fun _ => False) w1 w2) g m) : Mine w0 w2 g m :=
  ⟨bnext h k, hw.mono fun j hj => by
    have := h.size
    rcases hj with hj | ⟨h1, h2⟩
    · exact hj.elim
    · exact ⟨by omega, h2⟩⟩
theorem Mine.step {w0 w1 w2 : World} {g : Nat} {m m' : Win} (h : Mine w0 w1 g m) (k : Chg (fun j => w0.heap.size ≤ j ∧ j < w1.heap.size) w1 w2) (hw : IsWin w2 (Plus (fun j => w0.heap.size ≤ j ∧ j < w1.heap.size) w1 w2) g m') : Mine w0 w2 g m' :=
  ⟨bchg h.below k fun j hj => hj.1, hw.mono fun j hj => by
    have := h.below.size
    have := k.size
    rcases hj with ⟨h1, h2⟩ | ⟨h1, h2⟩
    · exact ⟨h1, by omega⟩
    · exact ⟨by omega, h2⟩⟩
theorem Mine.next {w0 w1 w2 : World} {g : Nat} {m : Win} (h : Mine w0 w1 g m) (k : Below w1.heap.size w1 w2) : Mine w0 w2 g m :=
  ⟨bnext h.below k, (h.win.next k).mono fun j hj => ⟨hj.1, Nat.lt_of_lt_of_le hj.2 k.size⟩⟩
end Go.Proofs.Ytjpfamminemegaa.Tele
