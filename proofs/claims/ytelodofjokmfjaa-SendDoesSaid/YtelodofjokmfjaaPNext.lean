/- What is done makes room, in plain words. No conditions. -/
import Derived.Test.YtelodofjokmfjaaLawAnew
namespace Go.Proofs.Ytelodofjokmfjaa.Tele
open Go.RowKit
set_option linter.unusedVariables false
set_option linter.unusedSimpArgs false
namespace St

theorem find_mid (s : St) (X Y : List (Int × Fl)) (k : Int) (f : Fl) (h : s.l = X ++ (k, f) :: Y) (hX : ∀ q ∈ X, q.1 ≠ k) : s.find k = some f := by
  unfold find
  rw [h, List.find?_append, List.find?_eq_none.2 (fun q hq => by simpa using hX q hq)]
  simp
theorem done_mid (s : St) (X Y : List (Int × Fl)) (k : Int) (f : Fl) (h : s.l = X ++ (k, f) :: Y) (hX : ∀ q ∈ X, q.1 ≠ k) (hY : ∀ q ∈ Y, q.1 ≠ k) : s.done k = { s with l := X ++ Y, flying := if f.flies then s.flying - 1 else s.flying } := by
  unfold done
  rw [find_mid s X Y k f h hX]
  have e : (s.l.filter fun p => !(p.1 == k)) = X ++ Y := by
    rw [h, List.filter_append, List.filter_cons]
    simp only [beq_self_eq_true, Bool.not_true]
    rw [List.filter_eq_self.2 (fun q hq => by simpa using hX q hq)]
    simp only [Bool.false_eq_true, if_false]
    rw [List.filter_eq_self.2 (fun q hq => by simpa using hY q hq)]
  simp only [e]
theorem keys_up (s : St) (now : Int) (d : U) (h : s.l.Pairwise fun p q => p.1 < q.1) : (s.sendAll now d).l.Pairwise fun p q => p.1 < q.1 := by
  have e := go_keys s now d s.l s.flying
  rw [sendAll_go]
  show (s.go now d s.flying s.l).1.Pairwise _
  have h1 : (s.l.map (·.1)).Pairwise (· < ·) := List.pairwise_map.2 h
  rw [← e] at h1
  exact List.pairwise_map.1 h1
theorem next_law (s : St) (d : U) (h : s.Fresh) (h1 : s.base = 4) (h2 : s.most = 4) (hf : 1 ≤ s.fly) (hn : s.l ≠ []) :
    (s.outs 10 d).length = min s.l.length s.fly ∧ (∀ o, Best (s.sendAll 10 d).l (fun _ => True) o → ∃ a, o = some a ∧ 14 ≤ a ∧ a ≤ 18) ∧ (s.sendAll 10 d).l.length = s.l.length ∧
    ∀ i, i < (s.outs 10 d).length → ∃ f, (s.sendAll 10 d).find ((s.outs 10 d).getD i 0) = some f ∧ (f.flies = true → 1 ≤ (s.sendAll 10 d).flying) ∧ (s.sendAll 10 d).flying ≤ s.fly ∧
      (((s.sendAll 10 d).done ((s.outs 10 d).getD i 0)).outs 11 d).length = (if s.fly < s.l.length then 1 else 0) ∧ (((s.sendAll 10 d).done ((s.outs 10 d).getD i 0)).sendAll 11 d).l.length + 1 = s.l.length ∧
      (∀ q ∈ ((s.sendAll 10 d).done ((s.outs 10 d).getD i 0)).l, q.2.times ≤ 1) ∧ ((s.sendAll 10 d).done ((s.outs 10 d).getD i 0)).flying ≤ s.fly := by
  obtain ⟨f1, f2⟩ := first_look s 10 d h
  have hA := sent_fresh s 10 d h (by omega) (by omega)
  have hup := keys_up s 10 d h.up
  have htm := times_sendAll s 10 d 0 (fun q hq => by rw [h.fl q hq]; exact Nat.le_refl _)
  have hB := fun f hf' => drop_idle s 11 f h hf'
  have hBf : ∀ q ∈ s.l.drop s.fly, q.2.flies = false := fun q hq => by rw [h.fl q (List.mem_of_mem_drop hq)]; rfl
  have hlen0 : 0 < s.l.length := List.length_pos_iff.2 hn
  have hlt := len_sendAll s 10 d
  obtain ⟨A, hAe⟩ : ∃ A, A = (s.l.take s.fly).map (s.sentP 10 d) := ⟨_, rfl⟩
  obtain ⟨B, hBe⟩ : ∃ B, B = s.l.drop s.fly := ⟨_, rfl⟩
  rw [← hAe] at hA f2
  rw [← hBe] at f2 hBf
  have hAlen : A.length = min s.l.length s.fly := by rw [hAe, List.length_map, List.length_take]; omega
  have hBlen : B.length = s.l.length - s.fly := by rw [hBe, List.length_drop]
  have hkeys : s.outs 10 d = A.map (·.1) := by
    rw [f1, hAe, List.map_map, List.map_take]
    rfl
  obtain ⟨t, ht⟩ : ∃ t, t = s.sendAll 10 d := ⟨_, rfl⟩
  have hfly : t.fly = s.fly := by rw [ht, f2]
  have hl : t.l = A ++ B := by rw [ht, f2]
  have hfl : t.flying = min s.l.length s.fly := by rw [ht, f2]
  rw [← ht] at hup htm hlt ⊢
  rw [hkeys, List.length_map]
  refine ⟨hAlen, fun o hb => ?_, hlt, fun i hi => ?_⟩
  · rw [hl] at hb
    obtain ⟨b1, b2⟩ := hb
    have h0 : 0 < A.length := by omega
    obtain ⟨a1, a2, a3, a4⟩ := hA A[0] (List.getElem_mem h0)
    obtain ⟨a, ha, hle⟩ := b1 A[0] (List.mem_append_left _ (List.getElem_mem h0)) trivial a1
    obtain ⟨q, hq, _, hqf, hqa⟩ := b2 a ha
    rcases List.mem_append.1 hq with hq | hq
    · obtain ⟨c1, c2, c3, c4⟩ := hA q hq
      exact ⟨a, ha, by omega, by omega⟩
    · rw [hBf q hq] at hqf
      simp at hqf
  · have hmem : A[i] ∈ A := List.getElem_mem hi
    have hg : (A.map (·.1)).getD i 0 = A[i].1 := by rw [List.getD_eq_getElem?_getD, List.getElem?_map, List.getElem?_eq_getElem hi]; rfl
    rw [hg]
    obtain ⟨a1, a2, a3, a4⟩ := hA _ hmem
    obtain ⟨X, Y, hXY⟩ := List.append_of_mem hmem
    generalize A[i] = e at *
    obtain ⟨k, f⟩ := e
    simp only at a1 a2 a3 a4 ⊢
    have hl2 : t.l = X ++ (k, f) :: (Y ++ B) := by rw [hl, hXY]; simp
    rw [hl2] at hup
    obtain ⟨u1, u2, u3⟩ := List.pairwise_append.1 hup
    obtain ⟨u4, u5⟩ := List.pairwise_cons.1 u2
    have hX : ∀ q ∈ X, q.1 ≠ k := fun q hq => by have := u3 q hq (k, f) (List.mem_cons_self); simp only at this; omega
    have hY : ∀ q ∈ Y ++ B, q.1 ≠ k := fun q hq => by have := u4 q hq; simp only at this; omega
    have hd := done_mid t X (Y ++ B) k f hl2 hX hY
    rw [a1, if_pos rfl] at hd
    have hXA : ∀ q ∈ X, q ∈ A := fun q hq => by rw [hXY]; exact List.mem_append_left _ hq
    have hYA : ∀ q ∈ Y, q ∈ A := fun q hq => by rw [hXY]; exact List.mem_append_right _ (List.mem_cons_of_mem _ hq)
    have hnone : ∀ q ∈ A, ∀ g, due s.fly 11 q.2 g = false := fun q hq g => by
      obtain ⟨c1, c2, c3, c4⟩ := hA q hq
      unfold due
      rw [c1, if_pos rfl]
      exact decide_eq_false (by omega)
    obtain ⟨r, hr⟩ : ∃ r, r = t.done k := ⟨_, rfl⟩
    have hrl : r.l = X ++ (Y ++ B) := by rw [hr, hd]
    have hrf : r.flying = min s.l.length s.fly - 1 := by rw [hr, hd, hfl]
    have hrfly : r.fly = s.fly := by rw [hr, hd]; exact hfly
    rw [← hr]
    have hgo : r.go 11 d r.flying r.l = (X ++ (Y ++ (r.go 11 d r.flying B).1), (r.go 11 d r.flying B).2.1, (r.go 11 d r.flying B).2.2) := by
      rw [hrl, go_app, go_none r 11 d r.flying X (fun q hq => by rw [hrfly]; exact hnone q (hXA q hq) _)]
      simp only
      rw [go_app, go_none r 11 d r.flying Y (fun q hq => by rw [hrfly]; exact hnone q (hYA q hq) _)]
      simp
    have hgB := go_first r 11 d B r.flying (by rw [hrf, hrfly]; omega) hBf
    have hXYlen : X.length + (Y.length + 1) = min s.l.length s.fly := by rw [← hAlen, hXY]; simp
    refine ⟨f, find_mid t X (Y ++ B) k f hl2 hX, fun _ => by omega, by omega, ?_, ?_, fun q hq => ?_, by omega⟩
    · rw [outs_go, hgo, hgB]
      simp only
      rw [List.length_take, List.length_map, hBlen, hrfly, hrf]
      split <;> omega
    · rw [len_sendAll, hrl]
      simp
      omega
    · refine htm q ?_
      rw [hl2]
      rw [hrl] at hq
      rcases List.mem_append.1 hq with hq | hq
      · exact List.mem_append_left _ hq
      · exact List.mem_append_right _ (List.mem_cons_of_mem _ hq)
theorem put_nonempty (s : St) (k : Int) (hk : 0 ≤ k) : (s.put k).l ≠ [] := by
  unfold put
  split
  · rename_i h
    rcases h with h | h
    · intro he
      unfold has at h
      rw [he] at h
      simp at h
    · omega
  · intro he
    have := congrArg List.length he
    rw [insL_len] at this
    simp at this
theorem puts_nonempty (zs : List Int) (hz : ∀ z ∈ zs, 0 ≤ z) (hne : zs ≠ []) (s : St) : (s.puts zs).l ≠ [] := by
  have e : zs = zs.take (zs.length - 1) ++ [zs.getLast hne] := by
    rw [← List.dropLast_eq_take]
    exact (List.dropLast_concat_getLast hne).symm
  unfold puts
  rw [e, List.foldl_append]
  exact put_nonempty _ _ (hz _ (List.getLast_mem hne))
end St
end Go.Proofs.Ytelodofjokmfjaa.Tele
