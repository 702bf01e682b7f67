/- Merged texts of the walk: PairW, PairW2, PairW3, PWinC. No conditions. -/
import Derived.Test.YtjpfamminemegaaBaseD
import Derived.Test.YtjpfamminemegaaRate3
import Derived.Test.YtjpfamminemegaaRef9
import Derived.Test.YtjpfamminemegaaBaseC
namespace Go.Proofs.Ytjpfamminemegaa.Tele
open Go.RowKit Go.Proofs.YtjpfamminemegaaW.PrintWords Go.Proofs.YtjpfamminemegaaW.PrintLast Go.Proofs.YtjpfamminemegaaW.PrintMore Go.Proofs.Ytjpfamminemegaa.PRateAsks
set_option linter.unusedVariables false
set_option linter.unusedSimpArgs false

/-- The window g is m; vL, vT are the cells of the reference's r, whose last sketch is L, apart from it; G: variables of the law's own. -/
def PairW (w0 w : World) (g : Nat) (G : Nat → Prop) (vL vT : Value) (m r : Win) (L : Sk) : Prop :=
  ∃ O P, (∀ j, O j → w0.heap.size ≤ j ∧ j < w.heap.size) ∧ IsWin w O g m ∧ Below w0.heap.size w0 w ∧ RV w w0.heap.size P vL L ∧ RV w w0.heap.size P vT r.this ∧ (LastOk r L ∧ r.Ok ∧ r.this.Ok ∧ L.Ok) ∧ (∀ q, P q → ¬ O q ∧ ¬ G q) ∧ ∀ q, G q → ¬ O q ∧ w0.heap.size ≤ q ∧ q < w.heap.size
section
variable {w0 w w' : World} {g : Nat} {G : Nat → Prop} {vL vT : Value} {m r : Win} {L : Sk}
theorem PairW.below (h : PairW w0 w g G vL vT m r L) : Below w0.heap.size w0 w := by
  obtain ⟨O, P, h1, h2, h3, _⟩ := h
  exact h3
theorem PairW.slices (h : PairW w0 w g G vL vT m r L) : (∃ a k, vL = .slice a L.rows k) ∧ ∃ a k, vT = .slice a r.this.rows k := by
  obtain ⟨O, P, h1, h2, h3, h4, h5, _⟩ := h
  exact ⟨h4.slice_, h5.slice_⟩
theorem PairW.oks (h : PairW w0 w g G vL vT m r L) : LastOk r L ∧ r.Ok ∧ r.this.Ok ∧ L.Ok := by
  obtain ⟨O, P, h1, h2, h3, h4, h5, h6, _⟩ := h
  exact h6
theorem PairW.next (h : PairW w0 w g G vL vT m r L) (k : Below w.heap.size w w') : PairW w0 w' g G vL vT m r L ∧ KeepG G w w' := by
  obtain ⟨O, P, h1, h2, h3, h4, h5, h6, h7, h8⟩ := h
  exact ⟨⟨O, P, fun j hj => ⟨(h1 j hj).1, Nat.lt_of_lt_of_le (h1 j hj).2 k.size⟩, h2.next k, bnext h3 k, h4.next_ k, h5.next_ k, h6, h7, fun q hq => ⟨(h8 q hq).1, (h8 q hq).2.1, Nat.lt_of_lt_of_le (h8 q hq).2.2 k.size⟩⟩, fun q hq => k.block q (h8 q hq).2.2⟩
/-- A variable more. -/
theorem PairW.alloc (h : PairW w0 w g G vL vT m r L) (o : Obj) : PairW w0 (w.alloc o) g (fun q => G q ∨ q = w.heap.size) vL vT m r L := by
  have k := bl_alloc (Below.refl w.heap.size w) o
  obtain ⟨O, P, h1, h2, h3, h4, h5, h6, h7, h8⟩ := h
  refine ⟨O, fun q => P q ∧ q < w.heap.size, fun j hj => ⟨(h1 j hj).1, Nat.lt_of_lt_of_le (h1 j hj).2 k.size⟩, h2.next k, bnext h3 k, Kd.R_mono (Kd.R_below (Kd.R_bound h4) k) (fun q hq => ⟨hq.1, hq.2.2.1⟩), Kd.R_mono (Kd.R_below (Kd.R_bound h5) k) (fun q hq => ⟨hq.1, hq.2.2.1⟩), h6, fun q hq => ⟨(h7 q hq.1).1, fun hg => hg.elim (h7 q hq.1).2 fun e => by have := hq.2; omega⟩, fun q hq => ?_⟩
  rw [World.size_alloc]
  rcases hq with hq | rfl
  · exact ⟨(h8 q hq).1, (h8 q hq).2.1, Nat.lt_succ_of_lt (h8 q hq).2.2⟩
  · exact ⟨fun ho => by have := (h1 _ ho).2; omega, h3.size, Nat.lt_succ_self _⟩
theorem PairW.fewer {G' : Nat → Prop} (h : PairW w0 w g G vL vT m r L) (hG : ∀ q, G' q → G q) : PairW w0 w g G' vL vT m r L := by
  obtain ⟨O, P, h1, h2, h3, h4, h5, h6, h7, h8⟩ := h
  exact ⟨O, P, h1, h2, h3, h4, h5, h6, fun q hq => ⟨(h7 q hq).1, fun hg => (h7 q hq).2 (hG q hg)⟩, fun q hq => h8 q (hG q hq)⟩
/-- Variables are written. -/
theorem PairW.chg (h : PairW w0 w g G vL vT m r L) (k : Chg G w w') : PairW w0 w' g G vL vT m r L := by
  obtain ⟨O, P, h1, h2, h3, h4, h5, h6, h7, h8⟩ := h
  exact ⟨O, P, fun j hj => ⟨(h1 j hj).1, Nat.lt_of_lt_of_le (h1 j hj).2 k.size⟩, h2.chg k fun j hj hg => (h8 j hg).1 hj, bchg h3 k fun j hj => (h8 j hj).2.1, Kd.R_step h4 fun q hq hlt => k.block q hlt (h7 q hq).2, Kd.R_step h5 fun q hq hlt => k.block q hlt (h7 q hq).2, h6, h7, fun q hq => ⟨(h8 q hq).1, (h8 q hq).2.1, Nat.lt_of_lt_of_le (h8 q hq).2.2 k.size⟩⟩
theorem pairw_prog {O P : Nat → Prop} {m' : Win} (h1 : ∀ j, O j → w0.heap.size ≤ j ∧ j < w.heap.size) (h3 : Below w0.heap.size w0 w) (h4 : RV w w0.heap.size P vL L) (h5 : RV w w0.heap.size P vT r.this) (h6 : LastOk r L ∧ r.Ok ∧ r.this.Ok ∧ L.Ok) (h7 : ∀ q, P q → ¬ O q ∧ ¬ G q) (h8 : ∀ q, G q → ¬ O q ∧ w0.heap.size ≤ q ∧ q < w.heap.size)
    (hk : Chg O w w') (hw : IsWin w' (Plus O w w') g m') : PairW w0 w' g G vL vT m' r L ∧ KeepG G w w' := by
  have hs := h3.size
  have hks := hk.size
  refine ⟨⟨Plus O w w', fun q => P q ∧ q < w.heap.size, fun j hj => ?_, hw, bchg h3 hk fun j hj => (h1 j hj).1, ?_, ?_, h6, fun q hq => ⟨fun hp => ?_, (h7 q hq.1).2⟩, fun q hq => ⟨fun hp => ?_, (h8 q hq).2.1, Nat.lt_of_lt_of_le (h8 q hq).2.2 hks⟩⟩, fun q hq => hk.block q (h8 q hq).2.2 (h8 q hq).1⟩
  · rcases hj with hj | hj
    · exact ⟨(h1 j hj).1, Nat.lt_of_lt_of_le (h1 j hj).2 hks⟩
    · exact ⟨by omega, hj.2⟩
  · exact Kd.R_mono (Kd.R_step (Kd.R_bound h4) fun q hq hlt => hk.block q hlt (h7 q hq.1).1) fun q hq => ⟨hq.1, hq.2.2.1⟩
  · exact Kd.R_mono (Kd.R_step (Kd.R_bound h5) fun q hq hlt => hk.block q hlt (h7 q hq.1).1) fun q hq => ⟨hq.1, hq.2.2.1⟩
  · rcases hp with hp | hp
    · exact (h7 q hq.1).1 hp
    · have := hq.2
      omega
  · rcases hp with hp | hp
    · exact (h8 q hq).1 hp
    · have := (h8 q hq).2.2
      omega
theorem pw_add (now : Int) (key : ByteArray) (n : Nat) (h : PairW w0 w g G vL vT m r L) (hk : key.size ≤ 140737488351232) (hn : n ≤ 18446744073709551615) :
    Calls Try.prog 29 #[pv g, .int .i64 now, .string key, nv n] w fun e w' => e = .returned (.int .u16 (m.err now)) ∧ PairW w0 w' g G vL vT (m.add now key.data.toList n) r L ∧ KeepG G w w' := by
  obtain ⟨O, P, h1, h2, h3, h4, h5, h6, h7, h8⟩ := h
  refine (wadd_calls O g m now key n w h2 hk hn).mono ?_
  rintro e w' ⟨rfl, hc, hw⟩
  exact ⟨rfl, pairw_prog h1 h3 h4 h5 h6 h7 h8 hc hw⟩
theorem pw_closed (now : Int) (key : ByteArray) (h : PairW w0 w g G vL vT m r L) (hk : key.size ≤ 140737488351232) :
    Calls Try.prog 28 #[pv g, .int .i64 now, .string key] w fun e w' => e = .returned (.tuple #[nv (m.closed now key.data.toList), .int .u16 (m.err now)]) ∧ PairW w0 w' g G vL vT (m.turnAny now) r L ∧ KeepG G w w' := by
  obtain ⟨O, P, h1, h2, h3, h4, h5, h6, h7, h8⟩ := h
  refine (wclosed_calls O g m now key w h2 hk).mono ?_
  rintro e w' ⟨rfl, hc, hw⟩
  exact ⟨rfl, pairw_prog h1 h3 h4 h5 h6 h7 h8 hc hw⟩
end
end Go.Proofs.Ytjpfamminemegaa.Tele
namespace Go.Proofs.Ytjpfamminemegaa.Tele
open Go.RowKit Go.Proofs.YtjpfamminemegaaW.PrintWords Go.Proofs.YtjpfamminemegaaW.PrintLast Go.Proofs.YtjpfamminemegaaW.PrintMore Go.Proofs.Ytjpfamminemegaa.PRateAsks
set_option linter.unusedVariables false
set_option linter.unusedSimpArgs false

theorem fresh_ok (m : Win) (h : m.Ok) (k : Nat) : (m.fresh k).Ok := Sk.new_ok _ _ _ h.rows1 h.rows8 h.W1 h.Wm
theorem turn_this_ok (m : Win) (h : m.Ok) (h2 : m.this.Ok) (n : Nat) : (m.turn n).this.Ok := by
  unfold Win.turn
  split
  · exact h2
  · split
    · exact fresh_ok m h _
    · exact fresh_ok m h _
theorem turn_last_ok (m : Win) (h : m.Ok) (h2 : m.this.Ok) (n : Nat) (L L' : Sk) (hl : LastOk m L) (hL : L.Ok) (hl' : LastOk (m.turn n) L') : L'.Ok := by
  unfold Win.turn at hl'
  split at hl'
  · unfold LastOk at hl hl'
    dsimp only at hl'
    cases hm : m.last with
    | some s =>
      rw [hm] at hl hl'
      rw [hl', ← hl]
      exact hL
    | none =>
      rw [hm] at hl'
      obtain ⟨seed, rfl⟩ := hl'
      exact Sk.new_ok _ _ _ h.rows1 h.rows8 h.W1 h.Wm
  · split at hl'
    · have e : L' = m.this := hl'
      rw [e]
      exact h2
    · obtain ⟨seed, e⟩ : ∃ seed, L' = Sk.new m.rows m.W seed := hl'
      rw [e]
      exact Sk.new_ok _ _ _ h.rows1 h.rows8 h.W1 h.Wm
theorem not_ok (m : Win) (now : Int) (h : m.ok now = false) : now < (m.now : Int) ∨ 1099511627776 < now := by
  unfold Win.ok at h
  simp only [Bool.and_eq_false_iff, decide_eq_false_iff_not] at h
  omega
section
variable {w0 w w' : World} {g : Nat} {G : Nat → Prop} {vL vT : Value} {m r : Win} {L : Sk}
theorem pairw_ref {O P : Nat → Prop} {r' : Win} {vL' vT' : Value} {L' : Sk} (h1 : ∀ j, O j → w0.heap.size ≤ j ∧ j < w.heap.size) (h2 : IsWin w O g m) (h3 : Below w0.heap.size w0 w) (h7 : ∀ q, P q → ¬ O q ∧ ¬ G q) (h8 : ∀ q, G q → ¬ O q ∧ w0.heap.size ≤ q ∧ q < w.heap.size)
    (h4 : RV w' w0.heap.size (fun q => P q ∨ w.heap.size ≤ q) vL' L') (h5 : RV w' w0.heap.size (fun q => P q ∨ w.heap.size ≤ q) vT' r'.this) (h6 : LastOk r' L' ∧ r'.Ok ∧ r'.this.Ok ∧ L'.Ok) (hb : Below w.heap.size w w') : PairW w0 w' g G vL' vT' m r' L' ∧ KeepG G w w' :=
  ⟨⟨O, _, fun j hj => ⟨(h1 j hj).1, Nat.lt_of_lt_of_le (h1 j hj).2 hb.size⟩, h2.next hb, bnext h3 hb, h4, h5, h6, fun q hq => hq.elim (h7 q) fun hh => ⟨fun ho => by have := (h1 q ho).2; omega, fun hg => by have := (h8 q hg).2.2; omega⟩, fun q hq => ⟨(h8 q hq).1, (h8 q hq).2.1, Nat.lt_of_lt_of_le (h8 q hq).2.2 hb.size⟩⟩, fun q hq => hb.block q (h8 q hq).2.2⟩
theorem rw_at (now : Int) (h : PairW w0 w g G vL vT m r L) :
    Calls Try.prog 30 #[wv r vL L vT r.this, .int .i64 now] w fun e w' => ∃ vL' L' vT', e = .returned (.tuple #[wv (r.turnAny now) vL' L' vT' (r.turnAny now).this, .int .i64 (r.err now)]) ∧ PairW w0 w' g G vL' vT' m (r.turnAny now) L' ∧ KeepG G w w' := by
  have h0 := h
  obtain ⟨O, P, h1, h2, h3, h4, h5, ⟨ho1, ho2, ho3, ho4⟩, h7, h8⟩ := h
  rcases ok_cases r now with hno | ⟨t, rfl, ht1, ht2, hyes⟩
  · have e1 : r.turnAny now = r := by unfold Win.turnAny; rw [hno]; rfl
    have e2 : r.err now = 60 := by unfold Win.err; rw [hno]; rfl
    obtain ⟨⟨aL, kL, rfl⟩, ⟨aT, kT, rfl⟩⟩ := h0.slices
    rw [e1, e2]
    refine (at_no r aL L.rows kL L aT r.this.rows kT r.this now w (not_ok r now hno)).mono ?_
    rintro e w' ⟨rfl, hb⟩
    exact ⟨_, L, _, rfl, h0.next hb⟩
  · have e1 : r.turnAny (t : Int) = r.turn t := by unfold Win.turnAny; rw [hyes]; rfl
    have e2 : r.err (t : Int) = 0 := by unfold Win.err; rw [hyes]; rfl
    rw [e1, e2]
    refine (at_yes r vL L vT _ P t w ho2 h4 h5 h3.size ho1 ht1 ht2).mono ?_
    rintro e w' ⟨vL', L', vT', rfl, hL, hT, hl, hb⟩
    exact ⟨vL', L', vT', rfl, pairw_ref h1 h2 h3 h7 h8 hL hT ⟨hl, Win.turn_ok r ho2 t ht2, turn_this_ok r ho2 ho3 t, turn_last_ok r ho2 ho3 t L L' ho1 ho4 hl⟩ hb⟩
theorem rw_add (now : Int) (key : ByteArray) (n : Nat) (h : PairW w0 w g G vL vT m r L) (hs : key.size ≤ 140737488351232) (hn : n ≤ 18446744073709551615) :
    Calls Try.prog 32 #[wv r vL L vT r.this, .int .i64 now, .string key, nv n] w fun e w' => ∃ vL' L' vT', e = .returned (.tuple #[wv (r.add now key.data.toList n) vL' L' vT' (r.add now key.data.toList n).this, .int .i64 (r.err now)]) ∧ PairW w0 w' g G vL' vT' m (r.add now key.data.toList n) L' ∧ KeepG G w w' ∧ Below w.heap.size w w' := by
  have h0 := h
  obtain ⟨O, P, h1, h2, h3, h4, h5, ⟨ho1, ho2, ho3, ho4⟩, h7, h8⟩ := h
  rcases ok_cases r now with hno | ⟨t, rfl, ht1, ht2, hyes⟩
  · have e1 : r.add now key.data.toList n = r := by unfold Win.add; rw [hno]; rfl
    have e2 : r.err now = 60 := by unfold Win.err; rw [hno]; rfl
    obtain ⟨⟨aL, kL, rfl⟩, ⟨aT, kT, rfl⟩⟩ := h0.slices
    rw [e1, e2]
    refine (radd_no r aL L.rows kL L aT r.this.rows kT r.this now key n w (not_ok r now hno)).mono ?_
    rintro e w' ⟨rfl, hb⟩
    exact ⟨_, L, _, rfl, (h0.next hb).1, (h0.next hb).2, hb⟩
  · have e1 : r.add (t : Int) key.data.toList n = { r.turn t with this := (r.turn t).this.add key.data.toList n } := by unfold Win.add; rw [hyes]; rfl
    have e2 : r.err (t : Int) = 0 := by unfold Win.err; rw [hyes]; rfl
    have ho := turn_this_ok r ho2 ho3 t
    have hr := Win.turn_ok r ho2 t ht2
    rw [e1, e2]
    refine (radd_yes r vL L vT _ P t key n w ho2 h4 h5 h3.size ho1 ht1 ht2 ho hs hn).mono ?_
    rintro e w' ⟨vL', L', vT', rfl, hL, hT, hl, hb⟩
    have hpk := pairw_ref (r' := { r.turn t with this := (r.turn t).this.add key.data.toList n }) h1 h2 h3 h7 h8 hL hT ⟨hl, ⟨hr.1, hr.2, hr.3, hr.4, hr.5, hr.6, hr.7⟩, Sk.add_ok _ ho _ _, turn_last_ok r ho2 ho3 t L L' ho1 ho4 hl⟩ hb
    exact ⟨vL', L', vT', rfl, hpk.1, hpk.2, hb⟩
theorem rw_countL (key : ByteArray) (h : PairW w0 w g G vL vT m r L) (hs : key.size ≤ 140737488351232) :
    Calls Try.prog 31 #[rv vL L, .string key] w fun e w' => e = .returned (nv (L.count key.data.toList)) ∧ Below w.heap.size w w' := by
  obtain ⟨O, P, h1, h2, h3, h4, h5, ⟨ho1, ho2, ho3, ho4⟩, h7, h8⟩ := h
  exact rcount_R key h4 ho4 hs
theorem rw_countT (key : ByteArray) (h : PairW w0 w g G vL vT m r L) (hs : key.size ≤ 140737488351232) :
    Calls Try.prog 31 #[rv vT r.this, .string key] w fun e w' => e = .returned (nv (r.this.count key.data.toList)) ∧ Below w.heap.size w w' := by
  obtain ⟨O, P, h1, h2, h3, h4, h5, ⟨ho1, ho2, ho3, ho4⟩, h7, h8⟩ := h
  exact rcount_R key h5 ho3 hs
end
end Go.Proofs.Ytjpfamminemegaa.Tele
namespace Go.Proofs.Ytjpfamminemegaa.Tele
open Go.RowKit Go.Proofs.YtjpfamminemegaaW.PrintWords Go.Proofs.YtjpfamminemegaaW.PrintLast Go.Proofs.YtjpfamminemegaaW.PrintMore Go.Proofs.Ytjpfamminemegaa.PRateAsks
set_option linter.unusedVariables false
set_option linter.unusedSimpArgs false

theorem rw_new (rows W long : Nat) (seed : U) (w : World) (h1 : 1 ≤ rows) (hr : rows ≤ 8) (h2 : 1 ≤ W) (hW : W ≤ 1024) (h5 : 1 ≤ long) (h6 : long ≤ 1099511627776) :
    Calls Try.prog 27 #[.int .i64 (rows : Int), .int .i64 (W : Int), uv seed, .int .i64 (long : Int)] w fun e w' => ∃ vL L vT, e = .returned (.tuple #[wv (Win.new rows W seed long) vL L vT (Win.new rows W seed long).this, .bool true]) ∧ RV w' w.heap.size (fun q => w.heap.size ≤ q) vL L ∧ RV w' w.heap.size (fun q => w.heap.size ≤ q) vT (Win.new rows W seed long).this ∧ LastOk (Win.new rows W seed long) L ∧ L.Ok ∧ Below w.heap.size w w' := by
  have ht : (Win.new rows W seed long).this = Sk.new rows W seed := by show Sk.new rows W (seed + BitVec.ofNat 64 0) = _; rw [show seed + BitVec.ofNat 64 0 = seed by simp]
  have hf : telemeterref08_New.f 11 (rows : Int) (W : Int) (seed.toNat : Int) (long : Int) = some ((rows : Int), (W : Int), (seed.toNat : Int), (long : Int), 0, (Sk.new rows W (BitVec.ofInt 64 ((seed.toNat : Int) - 1))).grid, (W : Int), ((BitVec.ofInt 64 ((seed.toNat : Int) - 1)).toNat : Int), 0, (Sk.new rows W seed).grid, (W : Int), (seed.toNat : Int), 0, true) := by
    unfold telemeterref08_New.f
    rw [new_f rows W seed h1 hr h2 hW 11 (by omega), wrapU ((seed.toNat : Int) - 1), new_f rows W (BitVec.ofInt 64 ((seed.toNat : Int) - 1)) h1 hr h2 hW 11 (by omega)]
    simp only [Option.bind_some]
    rw [if_pos trivial, if_neg (by omega), if_neg (by omega)]
  rw [ht]
  refine (telemeterref08_New.calls 11 rows W seed.toNat long _ _ _ _ _ _ _ _ _ _ _ _ _ _ w hf).mono ?_
  rintro e w' ⟨vL, vT, rfl, hR1, hR2, hb⟩
  exact ⟨vL, Sk.new rows W (BitVec.ofInt 64 ((seed.toNat : Int) - 1)), vT, rfl, Kd.R_mono (Kd.R_bound (Kd.S_R hR1)) (fun q hq => hq.2.1), Kd.R_mono (Kd.R_bound (Kd.S_R hR2)) (fun q hq => hq.2.1), ⟨_, rfl⟩, Sk.new_ok _ _ _ h1 hr h2 hW, hb⟩
theorem pairw_start {w0 w1 w2 w3 : World} {g rows W long : Nat} {seed : U} {vL vT : Value} {L : Sk} (h1 : 1 ≤ rows) (hr : rows ≤ 8) (h2 : 1 ≤ W) (hW : W ≤ 1024) (h5 : 1 ≤ long) (h6 : long ≤ 1099511627776) (hb1 : Below w0.heap.size w0 w1) (hb2 : Below w1.heap.size w1 w2) (hw : IsWin w2 (Plus (fun _ => False) w1 w2) g (Win.new rows W seed long))
    (hL : RV w3 w2.heap.size (fun q => w2.heap.size ≤ q) vL L) (hT : RV w3 w2.heap.size (fun q => w2.heap.size ≤ q) vT (Win.new rows W seed long).this) (hl : LastOk (Win.new rows W seed long) L) (hO : L.Ok) (hb3 : Below w2.heap.size w2 w3) :
    PairW w0 w3 g (fun _ => False) vL vT (Win.new rows W seed long) (Win.new rows W seed long) L := by
  have hb := bnext hb1 hb2
  have hs1 := hb1.size
  have hs3 := hb3.size
  refine ⟨_, _, fun j hj => ?_, hw.next hb3, bnext hb hb3, Kd.R_lower hL hb.size, Kd.R_lower hT hb.size, ⟨hl, Win.new_ok rows W seed long h1 hr h2 hW h5 h6, Sk.new_ok _ _ _ h1 hr h2 hW, hO⟩, fun q hq => ⟨fun ho => ?_, fun h => h⟩, fun q hq => hq.elim⟩
  · rcases hj with hj | hj
    · exact hj.elim
    · omega
  · rcases ho with ho | ho
    · exact ho
    · omega
end Go.Proofs.Ytjpfamminemegaa.Tele
namespace Go.Proofs.Ytjpfamminemegaa.Tele
set_option linter.unusedVariables false
set_option linter.unusedSimpArgs false

theorem turnAny_yes (m : Win) (T : Int) (h : m.ok T = true) : m.turnAny T = m.turn T.toNat := by unfold Win.turnAny; rw [if_pos h]
theorem turnAny_no (m : Win) (T : Int) (h : m.ok T = false) : m.turnAny T = m := by unfold Win.turnAny; rw [if_neg (by rw [h]; decide)]
theorem turnAny_ok (m : Win) (T : Int) (h : m.ok T = true) : (m.turnAny T).ok T = true := by
  have h2 := ok_iff m T h
  rw [turnAny_yes m T h]
  unfold Win.ok
  rw [turn_now]
  simp only [Bool.and_eq_true, decide_eq_true_eq]
  omega
theorem turnAny_twice (m : Win) (T : Int) : (m.turnAny T).turnAny T = m.turnAny T := by
  cases h : m.ok T with
  | false => rw [turnAny_no m T h, turnAny_no m T h]
  | true =>
    have h2 := turnAny_ok m T h
    rw [turnAny_yes _ T h2, turnAny_yes m T h]
    have hr := Win.turn_refl (m.turn T.toNat)
    rw [turn_now] at hr
    exact hr
theorem err_twice (m : Win) (T : Int) : (m.turnAny T).err T = m.err T := by
  cases h : m.ok T with
  | false => rw [turnAny_no m T h]
  | true =>
    unfold Win.err
    rw [turnAny_ok m T h, h]
theorem closed_eq (m : Win) (hm : m.Ok) (T : Int) (L : Sk) (key : List UInt8) (hl : LastOk (m.turnAny T) L) : m.closed T key = if m.ok T then L.count key else 0 := by
  unfold Win.closed
  by_cases h : m.ok T = true
  · have h2 := ok_iff m T h
    rw [turnAny_yes m T h] at hl
    rw [if_pos h, if_pos h]
    exact (last_count (m.turn T.toNat) (Win.turn_ok m hm _ (by omega)) L hl key).symm
  · rw [if_neg h, if_neg h]
end Go.Proofs.Ytjpfamminemegaa.Tele
