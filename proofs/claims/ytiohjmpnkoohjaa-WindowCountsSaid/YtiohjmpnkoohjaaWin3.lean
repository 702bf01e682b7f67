/- The chapter's example on windows holds. No conditions. -/
import Derived.Test.YtiohjmpnkoohjaaWin2
import Derived.Test.YtiohjmpnkoohjaaKey
namespace Go.Proofs.Ytiohjmpnkoohjaa.Tele
open Go.RowKit
set_option linter.unusedVariables false
set_option linter.unusedSimpArgs false

/-- What a law knows of the one window that it made: all its blocks are new. -/
structure Mine (w0 w : World) (g : Nat) (m : Win) : Prop where
  below : Below w0.heap.size w0 w
  win : IsWin w (fun j => w0.heap.size ≤ j ∧ j < w.heap.size) g m
theorem mine_new {w0 w1 w2 : World} {g : Nat} {m : Win} (h : Below w0.heap.size w0 w1) (k : Below w1.heap.size w1 w2) (hw : IsWin w2 (Plus (fun _ => False) w1 w2) g m) : Mine w0 w2 g m :=
  ⟨bnext h k, hw.mono fun j hj => by
    have := h.size
    rcases hj with hj | ⟨h1, h2⟩
    · exact hj.elim
    · exact ⟨by omega, h2⟩⟩
theorem Mine.step {w0 w1 w2 : World} {g : Nat} {m m' : Win} (h : Mine w0 w1 g m) (k : Chg (fun j => w0.heap.size ≤ j ∧ j < w1.heap.size) w1 w2) (hw : IsWin w2 (Plus (fun j => w0.heap.size ≤ j ∧ j < w1.heap.size) w1 w2) g m') : Mine w0 w2 g m' :=
  ⟨bchg h.below k fun j hj => hj.1, hw.mono fun j hj => by
    have := h.below.size
    have := k.size
    rcases hj with ⟨h1, h2⟩ | ⟨h1, h2⟩
    · exact ⟨h1, by omega⟩
    · exact ⟨by omega, h2⟩⟩
theorem Mine.next {w0 w1 w2 : World} {g : Nat} {m : Win} (h : Mine w0 w1 g m) (k : Below w1.heap.size w1 w2) : Mine w0 w2 g m :=
  ⟨bnext h.below k, (h.win.next k).mono fun j hj => ⟨hj.1, Nat.lt_of_lt_of_le hj.2 k.size⟩⟩
def kA : ByteArray := ⟨#[97]⟩
def kw0 : Win := Win.new 2 8 1#64 10
def kw1 : Win := kw0.add 3 [97] 5
def kw2 : Win := kw1.turnAny 12
def kw3 : Win := kw2.turnAny 25
theorem kw_facts : kw0.err 3 = 0 ∧ kw1.closed 12 [97] = 5 ∧ kw1.err 12 = 0 ∧ kw2.closed 25 [97] = 0 ∧ kw2.err 25 = 0 ∧ kw3.err 24 = 60 := by decide +kernel
theorem known_calls (w : World) : Calls Try.prog 8 #[] w fun e w' => e = .returned (.bool true) ∧ Below w.heap.size w w' := by
  have kf := kw_facts
  have KF := Lib.hid kf
  clear kf
  go_enter Try.func8, Try.ntmps8
  go_wp2_with fail
  refine (wnew_yes 2 8 10 1#64 _ (by omega) (by omega) (by omega) (by omega) (by omega) (by omega)).mono ?_
  rintro e w1 ⟨g, rfl, hb, hw⟩
  have hm := mine_new (Below.refl _ _) hb hw
  clear hb hw
  go_wp2_with fail
  refine (wnew_long 2 8 0 1#64 _ (by omega) (by omega) (by omega) (by omega) (by omega)).mono ?_
  rintro e w_ ⟨rfl, hb2⟩
  replace hm := hm.next hb2
  clear hb2
  go_wp2_with fail
  refine (wnew_rows 0 8 5 1#64 _ (by omega)).mono ?_
  rintro e w_ ⟨rfl, hb2⟩
  replace hm := hm.next hb2
  clear hb2
  go_wp2_with fail
  refine (wadd_calls _ g kw0 3 kA 5 _ hm.win (by decide) (by omega)).mono ?_
  rintro e w_ ⟨rfl, hc, hw⟩
  have hm2 : Mine w w_ g kw1 := hm.step hc hw
  clear hm hc hw
  rw [KF.out.1]
  go_wp2_with fail
  refine (wclosed_calls _ g kw1 12 kA _ hm2.win (by decide)).mono ?_
  rintro e w_ ⟨rfl, hc, hw⟩
  have hm3 : Mine w w_ g kw2 := hm2.step hc hw
  clear hm2 hc hw
  rw [show kw1.closed 12 kA.data.toList = 5 from KF.out.2.1, KF.out.2.2.1]
  go_wp2_with fail
  refine (wclosed_calls _ g kw2 25 kA _ hm3.win (by decide)).mono ?_
  rintro e w_ ⟨rfl, hc, hw⟩
  have hm4 : Mine w w_ g kw3 := hm3.step hc hw
  clear hm3 hc hw
  rw [show kw2.closed 25 kA.data.toList = 0 from KF.out.2.2.2.1, KF.out.2.2.2.2.1]
  go_wp2_with fail
  refine (wopen_calls _ g kw3 24 kA _ hm4.win (by decide)).mono ?_
  rintro e w_ ⟨rfl, hc, hw⟩
  have hm5 := hm4.step hc hw
  clear hm4 hc hw
  rw [KF.out.2.2.2.2.2]
  go_wp2
  go_ret
  exact ⟨rfl, hm5.below⟩
end Go.Proofs.Ytiohjmpnkoohjaa.Tele
