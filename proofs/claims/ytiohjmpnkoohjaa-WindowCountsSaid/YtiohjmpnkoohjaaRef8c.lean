/- The reference's At, in one contract. No conditions. -/
import Derived.Test.YtiohjmpnkoohjaaRef8b
namespace Go.Proofs.Ytiohjmpnkoohjaa.Tele
open Go.RowKit Go.Proofs.YtiohjmpnkoohjaaW.PrintWords Go.Proofs.YtiohjmpnkoohjaaW.PrintLast Go.Proofs.YtiohjmpnkoohjaaW.PrintMore Go.Proofs.Ytiohjmpnkoohjaa.PWindowCounts
set_option linter.unusedVariables false
set_option linter.unusedSimpArgs false

/-- The reference's sketch of the while before. -/
def LastOk (m : Win) (L : Sk) : Prop := match m.last with | some s => L = s | none => ∃ seed, L = Sk.new m.rows m.W seed
theorem at_yes (m : Win) (vL : Value) (L : Sk) (vT : Value) (B : Nat) (P : Nat → Prop) (now : Nat) (w : World) (hm : m.Ok) (hL : RV w B P vL L) (hT : RV w B P vT m.this) (hB : B ≤ w.heap.size) (hl : LastOk m L) (hn1 : m.now ≤ now) (hn2 : now ≤ 1099511627776) :
    Calls Try.prog 15 #[wv m vL L vT m.this, .int .i64 (now : Int)] w fun e w' => ∃ vL' L' vT', e = .returned (.tuple #[wv (m.turn now) vL' L' vT' (m.turn now).this, .int .i64 0]) ∧ RV w' B (fun q => P q ∨ w.heap.size ≤ q) vL' L' ∧ RV w' B (fun q => P q ∨ w.heap.size ≤ q) vT' (m.turn now).this ∧ LastOk (m.turn now) L' ∧ Below w.heap.size w w' := by
  obtain ⟨aL, kL, rfl⟩ := hL.slice_
  obtain ⟨aT, kT, rfl⟩ := hT.slice_
  by_cases h1 : now / m.long = m.now / m.long
  · have e1 : m.turn now = { m with now := now } := by unfold Win.turn; rw [if_pos h1]
    rw [e1]
    refine (at_same m aL L.rows kL L aT m.this.rows kT m.this now w hm hn1 hn2 h1).mono ?_
    rintro e w' ⟨rfl, hb⟩
    exact ⟨_, L, _, rfl, (hL.next_ hb).mono_ fun q hq => .inl hq, (hT.next_ hb).mono_ fun q hq => .inl hq, hl, hb⟩
  · by_cases h2 : now / m.long = m.now / m.long + 1
    · have e1 : m.turn now = { m with now := now, last := some m.this, this := m.fresh (now / m.long) } := by unfold Win.turn; rw [if_neg h1, if_pos h2]
      rw [e1]
      refine (at_next m aL L.rows kL L aT kT m.this B P now w hm hT hn1 hn2 h2).mono ?_
      rintro e w' ⟨v, rfl, hR, hb⟩
      exact ⟨_, m.this, _, rfl, (hT.next_ hb).mono_ fun q hq => .inl hq, hR.newer hB, rfl, hb⟩
    · have e1 : m.turn now = { m with now := now, last := none, this := m.fresh (now / m.long) } := by unfold Win.turn; rw [if_neg h1, if_neg h2]
      rw [e1]
      refine (at_far m aL kL L aT kT m.this B P now w hm hL hT hn1 hn2 h1 h2).mono ?_
      rintro e w' ⟨v1, v2, rfl, hR1, hR2, hb⟩
      exact ⟨_, _, _, rfl, hR1.newer hB, hR2.newer hB, ⟨_, rfl⟩, hb⟩
theorem last_count (m : Win) (hm : m.Ok) (L : Sk) (hl : LastOk m L) (key : List UInt8) : L.count key = (match m.last with | some s => s.count key | none => 0) := by
  unfold LastOk at hl
  cases h : m.last with
  | some s => rw [h] at hl; rw [hl]
  | none =>
    rw [h] at hl
    obtain ⟨seed, rfl⟩ := hl
    exact Sk.count_new _ _ _ _ hm.rows1
end Go.Proofs.Ytiohjmpnkoohjaa.Tele
