/- A window and the reference's beside it. No conditions. -/
import Derived.Test.YtiohjmpnkoohjaaRef8d
import Derived.Test.YtiohjmpnkoohjaaWin3
namespace Go.Proofs.Ytiohjmpnkoohjaa.Tele
open Go.RowKit Go.Proofs.YtiohjmpnkoohjaaW.PrintWords Go.Proofs.YtiohjmpnkoohjaaW.PrintLast Go.Proofs.YtiohjmpnkoohjaaW.PrintMore Go.Proofs.Ytiohjmpnkoohjaa.PWindowCounts
set_option linter.unusedVariables false
set_option linter.unusedSimpArgs false

/-- The window g is m; vL, vT are the cells of the reference's r, whose last sketch is L, apart from it; G: variables of the law's own. -/
def PairW (w0 w : World) (g : Nat) (G : Nat → Prop) (vL vT : Value) (m r : Win) (L : Sk) : Prop :=
  ∃ O P, (∀ j, O j → w0.heap.size ≤ j ∧ j < w.heap.size) ∧ IsWin w O g m ∧ Below w0.heap.size w0 w ∧ RV w w0.heap.size P vL L ∧ RV w w0.heap.size P vT r.this ∧ (LastOk r L ∧ r.Ok ∧ r.this.Ok ∧ L.Ok) ∧ (∀ q, P q → ¬ O q ∧ ¬ G q) ∧ ∀ q, G q → ¬ O q ∧ w0.heap.size ≤ q ∧ q < w.heap.size
section
variable {w0 w w' : World} {g : Nat} {G : Nat → Prop} {vL vT : Value} {m r : Win} {L : Sk}
theorem PairW.below (h : PairW w0 w g G vL vT m r L) : Below w0.heap.size w0 w := by
  obtain ⟨O, P, h1, h2, h3, _⟩ := h
  exact h3
theorem PairW.slices (h : PairW w0 w g G vL vT m r L) : (∃ a k, vL = .slice a L.rows k) ∧ ∃ a k, vT = .slice a r.this.rows k := by
  obtain ⟨O, P, h1, h2, h3, h4, h5, _⟩ := h
  exact ⟨h4.slice_, h5.slice_⟩
theorem PairW.oks (h : PairW w0 w g G vL vT m r L) : LastOk r L ∧ r.Ok ∧ r.this.Ok ∧ L.Ok := by
  obtain ⟨O, P, h1, h2, h3, h4, h5, h6, _⟩ := h
  exact h6
theorem PairW.next (h : PairW w0 w g G vL vT m r L) (k : Below w.heap.size w w') : PairW w0 w' g G vL vT m r L ∧ KeepG G w w' := by
  obtain ⟨O, P, h1, h2, h3, h4, h5, h6, h7, h8⟩ := h
  exact ⟨⟨O, P, fun j hj => ⟨(h1 j hj).1, Nat.lt_of_lt_of_le (h1 j hj).2 k.size⟩, h2.next k, bnext h3 k, h4.next_ k, h5.next_ k, h6, h7, fun q hq => ⟨(h8 q hq).1, (h8 q hq).2.1, Nat.lt_of_lt_of_le (h8 q hq).2.2 k.size⟩⟩, fun q hq => k.block q (h8 q hq).2.2⟩
/-- A variable more. -/
theorem PairW.alloc (h : PairW w0 w g G vL vT m r L) (o : Obj) : PairW w0 (w.alloc o) g (fun q => G q ∨ q = w.heap.size) vL vT m r L := by
  have k := bl_alloc (Below.refl w.heap.size w) o
  obtain ⟨O, P, h1, h2, h3, h4, h5, h6, h7, h8⟩ := h
  refine ⟨O, fun q => P q ∧ q < w.heap.size, fun j hj => ⟨(h1 j hj).1, Nat.lt_of_lt_of_le (h1 j hj).2 k.size⟩, h2.next k, bnext h3 k, Kd.R_mono (Kd.R_below (Kd.R_bound h4) k) (fun q hq => ⟨hq.1, hq.2.2.1⟩), Kd.R_mono (Kd.R_below (Kd.R_bound h5) k) (fun q hq => ⟨hq.1, hq.2.2.1⟩), h6, fun q hq => ⟨(h7 q hq.1).1, fun hg => hg.elim (h7 q hq.1).2 fun e => by have := hq.2; omega⟩, fun q hq => ?_⟩
  rw [World.size_alloc]
  rcases hq with hq | rfl
  · exact ⟨(h8 q hq).1, (h8 q hq).2.1, Nat.lt_succ_of_lt (h8 q hq).2.2⟩
  · exact ⟨fun ho => by have := (h1 _ ho).2; omega, h3.size, Nat.lt_succ_self _⟩
theorem PairW.fewer {G' : Nat → Prop} (h : PairW w0 w g G vL vT m r L) (hG : ∀ q, G' q → G q) : PairW w0 w g G' vL vT m r L := by
  obtain ⟨O, P, h1, h2, h3, h4, h5, h6, h7, h8⟩ := h
  exact ⟨O, P, h1, h2, h3, h4, h5, h6, fun q hq => ⟨(h7 q hq).1, fun hg => (h7 q hq).2 (hG q hg)⟩, fun q hq => h8 q (hG q hq)⟩
/-- Variables are written. -/
theorem PairW.chg (h : PairW w0 w g G vL vT m r L) (k : Chg G w w') : PairW w0 w' g G vL vT m r L := by
  obtain ⟨O, P, h1, h2, h3, h4, h5, h6, h7, h8⟩ := h
  exact ⟨O, P, fun j hj => ⟨(h1 j hj).1, Nat.lt_of_lt_of_le (h1 j hj).2 k.size⟩, h2.chg k fun j hj hg => (h8 j hg).1 hj, bchg h3 k fun j hj => (h8 j hj).2.1, Kd.R_step h4 fun q hq hlt => k.block q hlt (h7 q hq).2, Kd.R_step h5 fun q hq hlt => k.block q hlt (h7 q hq).2, h6, h7, fun q hq => ⟨(h8 q hq).1, (h8 q hq).2.1, Nat.lt_of_lt_of_le (h8 q hq).2.2 k.size⟩⟩
theorem pairw_prog {O P : Nat → Prop} {m' : Win} (h1 : ∀ j, O j → w0.heap.size ≤ j ∧ j < w.heap.size) (h3 : Below w0.heap.size w0 w) (h4 : RV w w0.heap.size P vL L) (h5 : RV w w0.heap.size P vT r.this) (h6 : LastOk r L ∧ r.Ok ∧ r.this.Ok ∧ L.Ok) (h7 : ∀ q, P q → ¬ O q ∧ ¬ G q) (h8 : ∀ q, G q → ¬ O q ∧ w0.heap.size ≤ q ∧ q < w.heap.size)
    (hk : Chg O w w') (hw : IsWin w' (Plus O w w') g m') : PairW w0 w' g G vL vT m' r L ∧ KeepG G w w' := by
  have hs := h3.size
  have hks := hk.size
  refine ⟨⟨Plus O w w', fun q => P q ∧ q < w.heap.size, fun j hj => ?_, hw, bchg h3 hk fun j hj => (h1 j hj).1, ?_, ?_, h6, fun q hq => ⟨fun hp => ?_, (h7 q hq.1).2⟩, fun q hq => ⟨fun hp => ?_, (h8 q hq).2.1, Nat.lt_of_lt_of_le (h8 q hq).2.2 hks⟩⟩, fun q hq => hk.block q (h8 q hq).2.2 (h8 q hq).1⟩
  · rcases hj with hj | hj
    · exact ⟨(h1 j hj).1, Nat.lt_of_lt_of_le (h1 j hj).2 hks⟩
    · exact ⟨by omega, hj.2⟩
  · exact Kd.R_mono (Kd.R_step (Kd.R_bound h4) fun q hq hlt => hk.block q hlt (h7 q hq.1).1) fun q hq => ⟨hq.1, hq.2.2.1⟩
  · exact Kd.R_mono (Kd.R_step (Kd.R_bound h5) fun q hq hlt => hk.block q hlt (h7 q hq.1).1) fun q hq => ⟨hq.1, hq.2.2.1⟩
  · rcases hp with hp | hp
    · exact (h7 q hq.1).1 hp
    · have := hq.2
      omega
  · rcases hp with hp | hp
    · exact (h8 q hq).1 hp
    · have := (h8 q hq).2.2
      omega
theorem pw_add (now : Int) (key : ByteArray) (n : Nat) (h : PairW w0 w g G vL vT m r L) (hk : key.size ≤ 140737488351232) (hn : n ≤ 18446744073709551615) :
    Calls Try.prog 9 #[pv g, .int .i64 now, .string key, nv n] w fun e w' => e = .returned (.int .u16 (m.err now)) ∧ PairW w0 w' g G vL vT (m.add now key.data.toList n) r L ∧ KeepG G w w' := by
  obtain ⟨O, P, h1, h2, h3, h4, h5, h6, h7, h8⟩ := h
  refine (wadd_calls O g m now key n w h2 hk hn).mono ?_
  rintro e w' ⟨rfl, hc, hw⟩
  exact ⟨rfl, pairw_prog h1 h3 h4 h5 h6 h7 h8 hc hw⟩
theorem pw_open (now : Int) (key : ByteArray) (h : PairW w0 w g G vL vT m r L) (hk : key.size ≤ 140737488351232) :
    Calls Try.prog 11 #[pv g, .int .i64 now, .string key] w fun e w' => e = .returned (.tuple #[nv (m.opened now key.data.toList), .int .u16 (m.err now)]) ∧ PairW w0 w' g G vL vT (m.turnAny now) r L ∧ KeepG G w w' := by
  obtain ⟨O, P, h1, h2, h3, h4, h5, h6, h7, h8⟩ := h
  refine (wopen_calls O g m now key w h2 hk).mono ?_
  rintro e w' ⟨rfl, hc, hw⟩
  exact ⟨rfl, pairw_prog h1 h3 h4 h5 h6 h7 h8 hc hw⟩
theorem pw_closed (now : Int) (key : ByteArray) (h : PairW w0 w g G vL vT m r L) (hk : key.size ≤ 140737488351232) :
    Calls Try.prog 12 #[pv g, .int .i64 now, .string key] w fun e w' => e = .returned (.tuple #[nv (m.closed now key.data.toList), .int .u16 (m.err now)]) ∧ PairW w0 w' g G vL vT (m.turnAny now) r L ∧ KeepG G w w' := by
  obtain ⟨O, P, h1, h2, h3, h4, h5, h6, h7, h8⟩ := h
  refine (wclosed_calls O g m now key w h2 hk).mono ?_
  rintro e w' ⟨rfl, hc, hw⟩
  exact ⟨rfl, pairw_prog h1 h3 h4 h5 h6 h7 h8 hc hw⟩
end
end Go.Proofs.Ytiohjmpnkoohjaa.Tele
