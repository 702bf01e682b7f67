/- If each that is sent is done all are sent, in plain words. No conditions. -/
import Derived.Test.YtelodofjokmfjaaPNext
namespace Go.Proofs.Ytelodofjokmfjaa.Tele
open Go.RowKit
set_option linter.unusedVariables false
set_option linter.unusedSimpArgs false
namespace St

/-- Fresh batches have been sent, and i of them done. -/
def doneI (s : St) (now : Int) (d : U) (i : Nat) : St := { s with l := ((s.l.take s.fly).map (s.sentP now d)).drop i ++ s.l.drop s.fly, flying := min s.l.length s.fly - i }
theorem doneI_start (s : St) (now : Int) (d : U) (h : s.Fresh) : s.sendAll now d = s.doneI now d 0 := by
  obtain ⟨_, f2⟩ := first_look s now d h
  rw [f2]
  rfl
theorem outs_len (s : St) (now : Int) (d : U) (h : s.Fresh) : (s.outs now d).length = min s.l.length s.fly := by
  obtain ⟨f1, _⟩ := first_look s now d h
  rw [f1, List.length_take, List.length_map]
  omega
theorem doneI_step (s : St) (now : Int) (d : U) (i : Nat) (h : s.Fresh) (h1 : 1 ≤ s.base) (h2 : s.base ≤ s.most) (hi : i < min s.l.length s.fly) :
    ∃ f, (s.doneI now d i).find ((s.outs now d).getD i 0) = some f ∧ (f.flies = true → 1 ≤ (s.doneI now d i).flying) ∧ (s.doneI now d i).flying ≤ s.fly ∧ (s.doneI now d i).done ((s.outs now d).getD i 0) = s.doneI now d (i + 1) := by
  obtain ⟨f1, f2⟩ := first_look s now d h
  have hA := sent_fresh s now d h h1 h2
  have hup := keys_up s now d h.up
  rw [f2] at hup
  obtain ⟨A, hAe⟩ : ∃ A, A = (s.l.take s.fly).map (s.sentP now d) := ⟨_, rfl⟩
  have hAlen : A.length = min s.l.length s.fly := by rw [hAe, List.length_map, List.length_take]; omega
  have hkeys : s.outs now d = A.map (·.1) := by rw [f1, hAe, List.map_map, List.map_take]; rfl
  have hup' : (A ++ s.l.drop s.fly).Pairwise fun p q => p.1 < q.1 := by rw [hAe]; exact hup
  rw [← hAe] at hA
  have hl : (s.doneI now d i).l = A.drop i ++ s.l.drop s.fly := by rw [hAe]; rfl
  have hl1 : (s.doneI now d (i + 1)).l = A.drop (i + 1) ++ s.l.drop s.fly := by rw [hAe]; rfl
  have hiA : i < A.length := by omega
  have hg : (A.map (·.1)).getD i 0 = A[i].1 := by rw [List.getD_eq_getElem?_getD, List.getElem?_map, List.getElem?_eq_getElem hiA]; rfl
  rw [hkeys, hg]
  have hsp : (s.doneI now d i).l = [] ++ (A[i].1, A[i].2) :: (A.drop (i + 1) ++ s.l.drop s.fly) := by
    rw [hl, List.drop_eq_getElem_cons hiA]
    rfl
  have hup2 : ((A[i].1, A[i].2) :: (A.drop (i + 1) ++ s.l.drop s.fly)).Pairwise fun p q => p.1 < q.1 := by
    have h3 : (A.drop i ++ s.l.drop s.fly).Pairwise fun p q => p.1 < q.1 := List.Pairwise.sublist ((List.drop_sublist i A).append (List.Sublist.refl _)) hup'
    rw [List.drop_eq_getElem_cons hiA] at h3
    exact h3
  have hY : ∀ q ∈ A.drop (i + 1) ++ s.l.drop s.fly, q.1 ≠ A[i].1 := fun q hq => by
    have := (List.pairwise_cons.1 hup2).1 q hq
    simp only at this
    omega
  obtain ⟨a1, _⟩ := hA A[i] (List.getElem_mem hiA)
  have hfl : (s.doneI now d i).flying = min s.l.length s.fly - i := rfl
  refine ⟨A[i].2, find_mid _ [] _ _ _ hsp (by simp), fun _ => by omega, by omega, ?_⟩
  rw [done_mid _ [] _ _ _ hsp (by simp) hY, a1, if_pos rfl, List.nil_append, ← hl1]
  show St.mk _ _ _ _ _ = St.mk _ _ _ _ _
  congr 1
/-- k rounds are behind. -/
structure AllMid (s : St) (k : Nat) (L : List Int) (t : St) : Prop where
  fr : t.Fresh
  fly : t.fly = s.fly
  base : t.base = s.base
  most : t.most = s.most
  l : t.l = s.l.drop (k * s.fly)
  out : L = (s.l.map (·.1)).take (k * s.fly)
theorem allMid_start (s : St) (h : s.Fresh) : AllMid s 0 [] s := ⟨h, rfl, rfl, rfl, by simp, by simp⟩
theorem allMid_next (s : St) (k : Nat) (L : List Int) (t : St) (now : Int) (d : U) (h : AllMid s k L t) : AllMid s (k + 1) (L ++ t.outs now d) (t.doneI now d (min t.l.length t.fly)) := by
  obtain ⟨f1, _⟩ := first_look t now d h.fr
  have hd : (t.doneI now d (min t.l.length t.fly)).l = t.l.drop t.fly := by
    show ((t.l.take t.fly).map (t.sentP now d)).drop (min t.l.length t.fly) ++ t.l.drop t.fly = _
    rw [List.drop_eq_nil_of_le (by rw [List.length_map, List.length_take]; omega), List.nil_append]
  refine ⟨⟨fun q hq => ?_, ?_, Nat.sub_self _⟩, h.fly, h.base, h.most, ?_, ?_⟩
  · rw [hd] at hq
    exact h.fr.fl q (List.mem_of_mem_drop hq)
  · rw [hd]
    exact List.Pairwise.sublist (List.drop_sublist _ _) h.fr.up
  · rw [hd, h.l, h.fly, List.drop_drop, Nat.add_mul, Nat.one_mul]
  · rw [f1, h.l, h.fly, h.out, Nat.add_mul, Nat.one_mul, List.map_drop, List.take_add]
theorem allMid_end (s : St) (L : List Int) (t : St) (h : AllMid s (s.l.length + 1) L t) (hf : 1 ≤ s.fly) : t.l = [] ∧ L = s.l.map (·.1) := by
  have hle : s.l.length ≤ (s.l.length + 1) * s.fly := by
    have : (s.l.length + 1) * 1 ≤ (s.l.length + 1) * s.fly := Nat.mul_le_mul_left _ hf
    omega
  exact ⟨by rw [h.l, List.drop_eq_nil_of_le hle], by rw [h.out, List.take_of_length_le (by rw [List.length_map]; exact hle)]⟩
end St
end Go.Proofs.Ytelodofjokmfjaa.Tele
