/- What a sender's look at its batches comes to, batch by batch. No conditions. -/
import Derived.Test.YtelodofjokmfjaaSend2
namespace Go.Proofs.Ytelodofjokmfjaa.Tele
open Go.RowKit
set_option linter.unusedVariables false
set_option linter.unusedSimpArgs false

/-- i batches have been looked at. -/
def Mid (s : St) (m : Ents) (now : Int) (draw : U) (i : Nat) (F : Nat → Fl) (f : Nat) (out : List Int) : Prop :=
  ∃ D, s.looks now draw i = (D, f, out) ∧ (m.map fun e => (e.1, F e.2)) = D ++ s.l.drop i ∧ D.length = i
section
variable {s : St} {m : Ents} {now : Int} {draw : U} {i f : Nat} {F : Nat → Fl} {out : List Int}
theorem mid_start (h : s.l = m.map fun e => (e.1, F e.2)) : Mid s m now draw 0 F s.flying [] := ⟨[], rfl, by rw [h]; rfl, rfl⟩
theorem mid_len (h : Mid s m now draw i F f out) (hi : i ≤ s.l.length) : s.l.length = m.length := by
  obtain ⟨D, _, h2, h3⟩ := h
  have := congrArg List.length h2
  rw [List.length_map, List.length_append, List.length_drop] at this
  omega
theorem mid_at (h : Mid s m now draw i F f out) (hi : i < m.length) (hl : i < s.l.length) : s.l[i] = (m[i].1, F m[i].2) := by
  obtain ⟨D, _, h2, h3⟩ := h
  have h4 := congrArg (fun l => l[i]?) h2
  simp only [List.getElem?_map, List.getElem?_eq_getElem hi, Option.map_some] at h4
  rw [List.getElem?_append_right (by omega), h3, Nat.sub_self, List.getElem?_drop, Nat.add_zero, List.getElem?_eq_getElem hl] at h4
  exact (Option.some.inj h4).symm
theorem mid_no (h : Mid s m now draw i F f out) (hi : i < m.length) (hl : i < s.l.length) (hd : St.due s.fly now (F m[i].2) f = false) : Mid s m now draw (i + 1) F f out := by
  have hat := mid_at h hi hl
  obtain ⟨D, h1, h2, h3⟩ := h
  refine ⟨D ++ [s.l[i]], ?_, ?_, by simp [h3]⟩
  · rw [St.looks_succ s now draw i hl, h1]
    unfold St.look
    simp only
    rw [if_neg (by rw [hat]; simp [hd])]
  · rw [h2, List.append_assoc, List.singleton_append, ← List.drop_eq_getElem_cons hl]
theorem map_upd (hn : (m.map (·.2)).Nodup) (hi : i < m.length) (y : Fl) : (m.map fun e => (e.1, upd F m[i].2 y e.2)) = (m.map fun e => (e.1, F e.2)).set i (m[i].1, y) := by
  apply List.ext_getElem?
  intro j
  rw [List.getElem?_set]
  simp only [List.getElem?_map, List.length_map]
  by_cases hij : i = j
  · subst hij
    rw [if_pos rfl, if_pos hi, List.getElem?_eq_getElem hi]
    simp [upd_same]
  · rw [if_neg hij]
    by_cases hj : j < m.length
    · rw [List.getElem?_eq_getElem hj]
      simp only [Option.map_some]
      rw [upd_other]
      intro he
      have hp := List.pairwise_iff_getElem.1 hn
      rcases Nat.lt_or_gt_of_ne hij with h | h
      · have := hp i j (by simpa using hi) (by simpa using hj) h
        simp at this
        exact this he.symm
      · have := hp j i (by simpa using hj) (by simpa using hi) h
        simp at this
        exact this he
    · rw [List.getElem?_eq_none (by omega)]
      rfl
theorem mid_yes (h : Mid s m now draw i F f out) (hn : (m.map (·.2)).Nodup) (hi : i < m.length) (hl : i < s.l.length) (hd : St.due s.fly now (F m[i].2) f = true) :
    Mid s m now draw (i + 1) (upd F m[i].2 (s.sent now draw m[i].1 (F m[i].2))) (if (F m[i].2).flies then f else f + 1) (out ++ [m[i].1]) := by
  have hat := mid_at h hi hl
  obtain ⟨D, h1, h2, h3⟩ := h
  refine ⟨D ++ [(m[i].1, s.sent now draw m[i].1 (F m[i].2))], ?_, ?_, by simp [h3]⟩
  · rw [St.looks_succ s now draw i hl, h1]
    unfold St.look
    simp only
    rw [hat, if_pos hd]
  · rw [map_upd hn hi, h2, List.set_append_right _ _ (by omega), h3, Nat.sub_self, List.append_assoc, List.singleton_append, List.drop_eq_getElem_cons hl]
    rfl
theorem mid_end (h : Mid s m now draw m.length F f out) (hl : s.l.length = m.length) : s.outs now draw = out ∧ s.sendAll now draw = { s with l := m.map fun e => (e.1, F e.2), flying := f } := by
  obtain ⟨D, h1, h2, h3⟩ := h
  rw [← hl] at h1 h2
  rw [List.drop_eq_nil_of_le (Nat.le_refl _), List.append_nil] at h2
  constructor
  · unfold St.outs
    rw [h1]
  · unfold St.sendAll
    rw [h1, h2]
end
end Go.Proofs.Ytelodofjokmfjaa.Tele
