/- What fresh batches do, in plain words. No conditions. -/
import Derived.Test.YtelodofjokmfjaaPSend2
namespace Go.Proofs.Ytelodofjokmfjaa.Tele
open Go.RowKit
set_option linter.unusedVariables false
set_option linter.unusedSimpArgs false
namespace St

/-- The first look at fresh batches. -/
theorem first_look (s : St) (now : Int) (draw : U) (h : s.Fresh) :
    s.outs now draw = (s.l.map (·.1)).take s.fly ∧ s.sendAll now draw = { s with l := (s.l.take s.fly).map (s.sentP now draw) ++ s.l.drop s.fly, flying := min s.l.length s.fly } := by
  have hg := go_first s now draw s.l 0 (Nat.zero_le _) (fun p hp => by rw [h.fl p hp]; rfl)
  have hz := h.zero
  rw [outs_go, sendAll_go, hz, hg]
  simp
/-- One that was fresh and has been sent. -/
theorem sent_fresh (s : St) (now : Int) (draw : U) (h : s.Fresh) (h1 : 1 ≤ s.base) (h2 : s.base ≤ s.most) : ∀ q ∈ (s.l.take s.fly).map (s.sentP now draw), q.2.flies = true ∧ q.2.times = 1 ∧ now + s.base ≤ q.2.at_ ∧ q.2.at_ ≤ now + 2 * s.base := by
  intro q hq
  obtain ⟨p, hp, rfl⟩ := List.mem_map.1 hq
  have hf := h.fl p (List.mem_of_mem_take hp)
  have e : (s.sentP now draw p).2 = s.sent now draw p.1 p.2 := rfl
  rw [e, hf]
  have hw : wait s.base s.most 0 = s.base := by show min s.base s.most = _; omega
  have d1 := dly_ge s.base s.most 0 (mix (draw + BitVec.ofInt 64 p.1)).toNat
  have d2 := dly_le s.base s.most 0 (mix (draw + BitVec.ofInt 64 p.1)).toNat
  rw [hw] at d1 d2
  refine ⟨rfl, rfl, ?_, ?_⟩
  · show now + _ ≤ now + ((dly s.base s.most 0 _ : Nat) : Int)
    omega
  · show now + ((dly s.base s.most 0 _ : Nat) : Int) ≤ _
    omega
theorem drop_idle (s : St) (now : Int) (f : Nat) (h : s.Fresh) (hf : s.fly < s.l.length → s.fly ≤ f) : ∀ q ∈ s.l.drop s.fly, due s.fly now q.2 f = false := by
  intro q hq
  have hlen : s.fly < s.l.length := by
    rcases Nat.lt_or_ge s.fly s.l.length with h1 | h1
    · exact h1
    · rw [List.drop_eq_nil_of_le h1] at hq
      simp at hq
  rw [h.fl q (List.mem_of_mem_drop hq)]
  have := hf hlen
  show decide (f < s.fly) = false
  exact decide_eq_false (by omega)
theorem flies_law (s : St) (d : U) (h : s.Fresh) (h1 : s.base = 10) (h2 : s.most = 10) :
    s.outs 100 d = (s.l.map (·.1)).take s.fly ∧ (s.sendAll 100 d).outs 109 d = [] ∧ (((s.sendAll 100 d).sendAll 109 d).outs 120 d) = s.outs 100 d ∧ (((s.sendAll 100 d).sendAll 109 d).sendAll 120 d).flying = min s.l.length s.fly ∧ (((s.sendAll 100 d).sendAll 109 d).sendAll 120 d).l.length = s.l.length ∧ (s.sendAll 100 d).flying = min s.l.length s.fly ∧ ((s.sendAll 100 d).sendAll 109 d).flying = min s.l.length s.fly := by
  obtain ⟨f1, f2⟩ := first_look s 100 d h
  have hA := sent_fresh s 100 d h (by omega) (by omega)
  obtain ⟨t, ht⟩ : ∃ t, t = s.sendAll 100 d := ⟨_, rfl⟩
  have hfly : t.fly = s.fly := by rw [ht, f2]
  have hl : t.l = (s.l.take s.fly).map (s.sentP 100 d) ++ s.l.drop s.fly := by rw [ht, f2]
  have hfl : t.flying = min s.l.length s.fly := by rw [ht, f2]
  rw [← ht]
  have hB : ∀ now : Int, ∀ q ∈ s.l.drop s.fly, due t.fly now q.2 t.flying = false := fun now q hq => by
    rw [hfly]
    exact drop_idle s now t.flying h (by omega) q hq
  have g1 : t.go 109 d t.flying t.l = (t.l, t.flying, []) := go_none t 109 d t.flying t.l fun q hq => by
    rw [hl] at hq
    rcases List.mem_append.1 hq with hq | hq
    · obtain ⟨a1, a2, a3, a4⟩ := hA q hq
      unfold due
      rw [a1, if_pos rfl]
      exact decide_eq_false (by omega)
    · exact hB 109 q hq
  have e2 : t.sendAll 109 d = t := by rw [sendAll_go, g1]
  have g2 : t.go 120 d t.flying t.l = (((s.l.take s.fly).map (s.sentP 100 d)).map (t.sentP 120 d) ++ s.l.drop s.fly, t.flying, ((s.l.take s.fly).map (s.sentP 100 d)).map (·.1)) := by
    rw [hl, go_app, go_again t 120 d t.flying _ (fun q hq => by
      obtain ⟨a1, a2, a3, a4⟩ := hA q hq
      exact ⟨a1, by omega⟩), go_none t 120 d t.flying _ (hB 120), List.append_nil]
  rw [e2]
  refine ⟨f1, by rw [outs_go, g1], ?_, by rw [sendAll_go, g2]; exact hfl, ?_, hfl, hfl⟩
  · rw [outs_go, g2, f1]
    show ((s.l.take s.fly).map (s.sentP 100 d)).map (·.1) = _
    rw [List.map_map, List.map_take]
    rfl
  · rw [len_sendAll, hl]
    simp
    omega
end St
end Go.Proofs.Ytelodofjokmfjaa.Tele
