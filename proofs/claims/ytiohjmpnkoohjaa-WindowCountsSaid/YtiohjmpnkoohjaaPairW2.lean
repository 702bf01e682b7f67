/- A window and the reference's beside it: the reference's calls. No conditions. -/
import Derived.Test.YtiohjmpnkoohjaaPairW
namespace Go.Proofs.Ytiohjmpnkoohjaa.Tele
open Go.RowKit Go.Proofs.YtiohjmpnkoohjaaW.PrintWords Go.Proofs.YtiohjmpnkoohjaaW.PrintLast Go.Proofs.YtiohjmpnkoohjaaW.PrintMore Go.Proofs.Ytiohjmpnkoohjaa.PWindowCounts
set_option linter.unusedVariables false
set_option linter.unusedSimpArgs false

theorem fresh_ok (m : Win) (h : m.Ok) (k : Nat) : (m.fresh k).Ok := Sk.new_ok _ _ _ h.rows1 h.rows8 h.W1 h.Wm
theorem turn_this_ok (m : Win) (h : m.Ok) (h2 : m.this.Ok) (n : Nat) : (m.turn n).this.Ok := by
  unfold Win.turn
  split
  · exact h2
  · split
    · exact fresh_ok m h _
    · exact fresh_ok m h _
theorem turn_last_ok (m : Win) (h : m.Ok) (h2 : m.this.Ok) (n : Nat) (L L' : Sk) (hl : LastOk m L) (hL : L.Ok) (hl' : LastOk (m.turn n) L') : L'.Ok := by
  unfold Win.turn at hl'
  split at hl'
  · unfold LastOk at hl hl'
    dsimp only at hl'
    cases hm : m.last with
    | some s =>
      rw [hm] at hl hl'
      rw [hl', ← hl]
      exact hL
    | none =>
      rw [hm] at hl'
      obtain ⟨seed, rfl⟩ := hl'
      exact Sk.new_ok _ _ _ h.rows1 h.rows8 h.W1 h.Wm
  · split at hl'
    · have e : L' = m.this := hl'
      rw [e]
      exact h2
    · obtain ⟨seed, e⟩ : ∃ seed, L' = Sk.new m.rows m.W seed := hl'
      rw [e]
      exact Sk.new_ok _ _ _ h.rows1 h.rows8 h.W1 h.Wm
theorem not_ok (m : Win) (now : Int) (h : m.ok now = false) : now < (m.now : Int) ∨ 1099511627776 < now := by
  unfold Win.ok at h
  simp only [Bool.and_eq_false_iff, decide_eq_false_iff_not] at h
  omega
section
variable {w0 w w' : World} {g : Nat} {G : Nat → Prop} {vL vT : Value} {m r : Win} {L : Sk}
theorem pairw_ref {O P : Nat → Prop} {r' : Win} {vL' vT' : Value} {L' : Sk} (h1 : ∀ j, O j → w0.heap.size ≤ j ∧ j < w.heap.size) (h2 : IsWin w O g m) (h3 : Below w0.heap.size w0 w) (h7 : ∀ q, P q → ¬ O q ∧ ¬ G q) (h8 : ∀ q, G q → ¬ O q ∧ w0.heap.size ≤ q ∧ q < w.heap.size)
    (h4 : RV w' w0.heap.size (fun q => P q ∨ w.heap.size ≤ q) vL' L') (h5 : RV w' w0.heap.size (fun q => P q ∨ w.heap.size ≤ q) vT' r'.this) (h6 : LastOk r' L' ∧ r'.Ok ∧ r'.this.Ok ∧ L'.Ok) (hb : Below w.heap.size w w') : PairW w0 w' g G vL' vT' m r' L' ∧ KeepG G w w' :=
  ⟨⟨O, _, fun j hj => ⟨(h1 j hj).1, Nat.lt_of_lt_of_le (h1 j hj).2 hb.size⟩, h2.next hb, bnext h3 hb, h4, h5, h6, fun q hq => hq.elim (h7 q) fun hh => ⟨fun ho => by have := (h1 q ho).2; omega, fun hg => by have := (h8 q hg).2.2; omega⟩, fun q hq => ⟨(h8 q hq).1, (h8 q hq).2.1, Nat.lt_of_lt_of_le (h8 q hq).2.2 hb.size⟩⟩, fun q hq => hb.block q (h8 q hq).2.2⟩
theorem rw_at (now : Int) (h : PairW w0 w g G vL vT m r L) :
    Calls Try.prog 15 #[wv r vL L vT r.this, .int .i64 now] w fun e w' => ∃ vL' L' vT', e = .returned (.tuple #[wv (r.turnAny now) vL' L' vT' (r.turnAny now).this, .int .i64 (r.err now)]) ∧ PairW w0 w' g G vL' vT' m (r.turnAny now) L' ∧ KeepG G w w' := by
  have h0 := h
  obtain ⟨O, P, h1, h2, h3, h4, h5, ⟨ho1, ho2, ho3, ho4⟩, h7, h8⟩ := h
  rcases ok_cases r now with hno | ⟨t, rfl, ht1, ht2, hyes⟩
  · have e1 : r.turnAny now = r := by unfold Win.turnAny; rw [hno]; rfl
    have e2 : r.err now = 60 := by unfold Win.err; rw [hno]; rfl
    obtain ⟨⟨aL, kL, rfl⟩, ⟨aT, kT, rfl⟩⟩ := h0.slices
    rw [e1, e2]
    refine (at_no r aL L.rows kL L aT r.this.rows kT r.this now w (not_ok r now hno)).mono ?_
    rintro e w' ⟨rfl, hb⟩
    exact ⟨_, L, _, rfl, h0.next hb⟩
  · have e1 : r.turnAny (t : Int) = r.turn t := by unfold Win.turnAny; rw [hyes]; rfl
    have e2 : r.err (t : Int) = 0 := by unfold Win.err; rw [hyes]; rfl
    rw [e1, e2]
    refine (at_yes r vL L vT _ P t w ho2 h4 h5 h3.size ho1 ht1 ht2).mono ?_
    rintro e w' ⟨vL', L', vT', rfl, hL, hT, hl, hb⟩
    exact ⟨vL', L', vT', rfl, pairw_ref h1 h2 h3 h7 h8 hL hT ⟨hl, Win.turn_ok r ho2 t ht2, turn_this_ok r ho2 ho3 t, turn_last_ok r ho2 ho3 t L L' ho1 ho4 hl⟩ hb⟩
theorem rw_add (now : Int) (key : ByteArray) (n : Nat) (h : PairW w0 w g G vL vT m r L) (hs : key.size ≤ 140737488351232) (hn : n ≤ 18446744073709551615) :
    Calls Try.prog 14 #[wv r vL L vT r.this, .int .i64 now, .string key, nv n] w fun e w' => ∃ vL' L' vT', e = .returned (.tuple #[wv (r.add now key.data.toList n) vL' L' vT' (r.add now key.data.toList n).this, .int .i64 (r.err now)]) ∧ PairW w0 w' g G vL' vT' m (r.add now key.data.toList n) L' ∧ KeepG G w w' ∧ Below w.heap.size w w' := by
  have h0 := h
  obtain ⟨O, P, h1, h2, h3, h4, h5, ⟨ho1, ho2, ho3, ho4⟩, h7, h8⟩ := h
  rcases ok_cases r now with hno | ⟨t, rfl, ht1, ht2, hyes⟩
  · have e1 : r.add now key.data.toList n = r := by unfold Win.add; rw [hno]; rfl
    have e2 : r.err now = 60 := by unfold Win.err; rw [hno]; rfl
    obtain ⟨⟨aL, kL, rfl⟩, ⟨aT, kT, rfl⟩⟩ := h0.slices
    rw [e1, e2]
    refine (radd_no r aL L.rows kL L aT r.this.rows kT r.this now key n w (not_ok r now hno)).mono ?_
    rintro e w' ⟨rfl, hb⟩
    exact ⟨_, L, _, rfl, (h0.next hb).1, (h0.next hb).2, hb⟩
  · have e1 : r.add (t : Int) key.data.toList n = { r.turn t with this := (r.turn t).this.add key.data.toList n } := by unfold Win.add; rw [hyes]; rfl
    have e2 : r.err (t : Int) = 0 := by unfold Win.err; rw [hyes]; rfl
    have ho := turn_this_ok r ho2 ho3 t
    have hr := Win.turn_ok r ho2 t ht2
    rw [e1, e2]
    refine (radd_yes r vL L vT _ P t key n w ho2 h4 h5 h3.size ho1 ht1 ht2 ho hs hn).mono ?_
    rintro e w' ⟨vL', L', vT', rfl, hL, hT, hl, hb⟩
    have hpk := pairw_ref (r' := { r.turn t with this := (r.turn t).this.add key.data.toList n }) h1 h2 h3 h7 h8 hL hT ⟨hl, ⟨hr.1, hr.2, hr.3, hr.4, hr.5, hr.6, hr.7⟩, Sk.add_ok _ ho _ _, turn_last_ok r ho2 ho3 t L L' ho1 ho4 hl⟩ hb
    exact ⟨vL', L', vT', rfl, hpk.1, hpk.2, hb⟩
theorem rw_countL (key : ByteArray) (h : PairW w0 w g G vL vT m r L) (hs : key.size ≤ 140737488351232) :
    Calls Try.prog 16 #[rv vL L, .string key] w fun e w' => e = .returned (nv (L.count key.data.toList)) ∧ Below w.heap.size w w' := by
  obtain ⟨O, P, h1, h2, h3, h4, h5, ⟨ho1, ho2, ho3, ho4⟩, h7, h8⟩ := h
  exact rcount_R key h4 ho4 hs
theorem rw_countT (key : ByteArray) (h : PairW w0 w g G vL vT m r L) (hs : key.size ≤ 140737488351232) :
    Calls Try.prog 16 #[rv vT r.this, .string key] w fun e w' => e = .returned (nv (r.this.count key.data.toList)) ∧ Below w.heap.size w w' := by
  obtain ⟨O, P, h1, h2, h3, h4, h5, ⟨ho1, ho2, ho3, ho4⟩, h7, h8⟩ := h
  exact rcount_R key h5 ho3 hs
end
end Go.Proofs.Ytiohjmpnkoohjaa.Tele
