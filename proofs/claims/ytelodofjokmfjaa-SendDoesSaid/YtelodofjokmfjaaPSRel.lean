/- What stays of a sender, deed by deed, in plain words. No conditions. -/
import Derived.Test.YtelodofjokmfjaaPRef17b
import Derived.Test.YtelodofjokmfjaaPNext
namespace Go.Proofs.Ytelodofjokmfjaa.Tele
set_option linter.unusedVariables false
set_option linter.unusedSimpArgs false

/-- What holds of a sender behind k deeds. -/
structure SRel (s : St) (fly base most k : Nat) : Prop where
  len : s.l.length ≤ k
  times : ∀ q ∈ s.l, q.2.times ≤ k
  up : s.l.Pairwise fun p q => p.1 < q.1
  fl : s.flying = flyers s.l
  fly : s.fly = fly
  base : s.base = base
  most : s.most = most
theorem flyers_ins (x : Int × Fl) (hx : x.2.flies = false) : ∀ l : Bs, flyers (St.insL x l) = flyers l
  | [] => by show flyers [x] = 0; rw [flyers_one, hx]; rfl
  | y :: r => by
    unfold St.insL
    split
    · rw [show x :: y :: r = [x] ++ (y :: r) from rfl, flyers_app, flyers_one, hx]
      simp
    · rw [show y :: St.insL x r = [y] ++ St.insL x r from rfl, flyers_app, flyers_ins x hx r, show y :: r = [y] ++ r from rfl, flyers_app]
theorem go_flyers (s : St) (now : Int) (D : U) : ∀ (l : Bs) (f : Nat), (s.go now D f l).2.1 + flyers l = f + flyers (s.go now D f l).1
  | [], f => rfl
  | p :: r, f => by
    have hc : ∀ (q : Int × Fl) (m : Bs), flyers (q :: m) = (if q.2.flies then 1 else 0) + flyers m := fun q m => by rw [show q :: m = [q] ++ m from rfl, flyers_app, flyers_one]
    cases hd : St.due s.fly now p.2 f with
    | true =>
      rw [St.go_yes hd]
      simp only
      rw [hc, hc, show (s.sent now D p.1 p.2).flies = true from rfl]
      have ih := go_flyers s now D r (if p.2.flies then f else f + 1)
      cases hpf : p.2.flies <;> rw [hpf] at ih <;> simp at ih ⊢ <;> omega
    | false =>
      rw [St.go_no hd]
      simp only
      rw [hc, hc]
      have ih := go_flyers s now D r f
      omega
theorem flyers_filter (l : Bs) (hs : l.Pairwise fun p q => p.1 < q.1) (i : Nat) (h : i < l.length) : flyers (l.take i ++ l.drop (i + 1)) + (if l[i].2.flies then 1 else 0) = flyers l := by
  conv => rhs; rw [← List.take_append_drop i l, List.drop_eq_getElem_cons h]
  rw [flyers_app, flyers_app, show l[i] :: l.drop (i + 1) = [l[i]] ++ l.drop (i + 1) from rfl, flyers_app, flyers_one]
  omega
theorem SRel.mono {s : St} {fly base most k : Nat} (h : SRel s fly base most k) : SRel s fly base most (k + 1) := { h with len := Nat.le_succ_of_le h.len, times := fun q hq => Nat.le_succ_of_le (h.times q hq) }
theorem SRel.put {s : St} {fly base most k : Nat} (h : SRel s fly base most k) (x : Int) : SRel (s.put x) fly base most (k + 1) := by
  obtain ⟨a1, a2, a3, a4⟩ := St.put_same s x
  refine ⟨Nat.le_trans (St.put_len s x) (Nat.succ_le_succ h.len), ?_, ?_, ?_, a1.trans h.fly, a2.trans h.base, a3.trans h.most⟩
  · unfold St.put
    split
    · exact h.mono.times
    · intro q hq
      rcases St.insL_mem _ _ q hq with rfl | hq
      · exact Nat.zero_le _
      · exact Nat.le_succ_of_le (h.times q hq)
  · unfold St.put
    split
    · exact h.up
    · rename_i hn
      have hno : ∀ q ∈ s.l, q.1 ≠ x := fun q hq he => hn (.inl (List.any_eq_true.2 ⟨q, hq, by simpa using he⟩))
      exact St.insL_up _ _ h.up hno
  · rw [a4, h.fl]
    unfold St.put
    split
    · rfl
    · exact (flyers_ins _ rfl _).symm
theorem SRel.done {s : St} {fly base most k : Nat} (h : SRel s fly base most k) (x : Int) : SRel (s.done x) fly base most (k + 1) := by
  unfold St.done St.find
  rcases posn_get s.l x with ⟨hp, hf, ha⟩ | ⟨i, hi, hp, hs', hf, ha⟩
  · rw [hf]
    exact h.mono
  · rw [hf]
    simp only [Option.map_some]
    have e := filter_at s.l h.up i hi x hs'
    have hfl := flyers_filter s.l h.up i hi
    refine ⟨Nat.le_succ_of_le (Nat.le_trans (List.length_filter_le _ _) h.len), fun q hq => Nat.le_succ_of_le (h.times q (List.mem_filter.1 hq).1), h.up.filter _, ?_, h.fly, h.base, h.most⟩
    simp only
    rw [e, h.fl]
    cases hff : (s.l[i]).2.flies
    · rw [hff] at hfl; simp at hfl ⊢; omega
    · rw [hff] at hfl; simp at hfl ⊢; omega
theorem SRel.send {s : St} {fly base most k : Nat} (h : SRel s fly base most k) (now : Int) (D : U) : SRel (s.sendAll now D) fly base most (k + 1) := by
  refine ⟨?_, St.times_sendAll s now D k h.times, St.keys_up s now D h.up, ?_, h.fly, h.base, h.most⟩
  · have := St.len_sendAll s now D
    have := h.len
    omega
  · rw [St.sendAll_go, h.fl]
    simp only
    have := go_flyers s now D s.l (flyers s.l)
    omega
theorem SRel.flies {s : St} {fly base most k : Nat} (h : SRel s fly base most k) (x : Int) (f : Fl) (hf : s.find x = some f) (hff : f.flies = true) : 1 ≤ s.flying := by
  unfold St.find at hf
  rcases posn_get s.l x with ⟨hp, hf', ha⟩ | ⟨i, hi, hp, hs', hf', ha⟩
  · rw [hf'] at hf; cases hf
  · rw [hf'] at hf
    have e : s.l[i].2 = f := Option.some.inj hf
    have := flyers_filter s.l h.up i hi
    rw [e, hff] at this
    rw [h.fl]
    simp at this
    omega
theorem SRel.fle {s : St} {fly base most k : Nat} (h : SRel s fly base most k) : s.flying ≤ k := by rw [h.fl]; exact Nat.le_trans (flyers_le _) h.len
/-- What the earliest is, as Best says it, is what the fold says. -/
theorem nx_best : ∀ (l : Bs) (o : Option Int), (∀ x, l.foldl nx o = some x → (o = some x ∨ ∃ q ∈ l, q.2.flies = true ∧ q.2.at_ = x) ∧ (∀ y, o = some y → x ≤ y) ∧ ∀ q ∈ l, q.2.flies = true → x ≤ q.2.at_) ∧ (l.foldl nx o = none → o = none ∧ ∀ q ∈ l, q.2.flies = false)
  | [], o => ⟨fun x hx => ⟨.inl hx, fun y hy => by rw [show o = some x from hx] at hy; injection hy; omega, fun q hq => by cases hq⟩, fun h => ⟨h, fun q hq => by cases hq⟩⟩
  | p :: r, o => by
    obtain ⟨h1, h2⟩ := nx_best r (nx o p)
    rw [List.foldl_cons]
    unfold nx at h1 h2 ⊢
    cases hf : p.2.flies with
    | false =>
      rw [hf] at h1 h2
      simp only [Bool.false_eq_true, if_false] at h1 h2 ⊢
      refine ⟨fun x hx => ?_, fun h => ?_⟩
      · obtain ⟨a, b, c⟩ := h1 x hx
        refine ⟨a.elim .inl fun ⟨q, hq, hh⟩ => .inr ⟨q, List.mem_cons_of_mem _ hq, hh⟩, b, fun q hq hqf => ?_⟩
        rcases List.mem_cons.1 hq with rfl | hq
        · rw [hf] at hqf; cases hqf
        · exact c q hq hqf
      · obtain ⟨a, b⟩ := h2 h
        exact ⟨a, fun q hq => by rcases List.mem_cons.1 hq with rfl | hq; exact hf; exact b q hq⟩
    | true =>
      rw [hf] at h1 h2
      simp only [if_true] at h1 h2 ⊢
      cases o with
      | none =>
        simp only at h1 h2 ⊢
        refine ⟨fun x hx => ?_, fun h => absurd (h2 h).1 (by simp)⟩
        obtain ⟨a, b, c⟩ := h1 x hx
        refine ⟨.inr (a.elim (fun e => ⟨p, List.mem_cons_self, hf, Option.some.inj e⟩) fun ⟨q, hq, hh⟩ => ⟨q, List.mem_cons_of_mem _ hq, hh⟩), fun y hy => (by cases hy), fun q hq hqf => ?_⟩
        rcases List.mem_cons.1 hq with rfl | hq
        · exact b _ rfl
        · exact c q hq hqf
      | some z =>
        simp only at h1 h2 ⊢
        refine ⟨fun x hx => ?_, fun h => absurd (h2 h).1 (by simp)⟩
        obtain ⟨a, b, c⟩ := h1 x hx
        have hb := b _ rfl
        refine ⟨?_, fun y hy => by injection hy with hy; omega, fun q hq hqf => ?_⟩
        · rcases a with e | ⟨q, hq, hh⟩
          · injection e with e
            by_cases hlt : z ≤ p.2.at_
            · exact .inl (by rw [← e, show min z p.2.at_ = z by omega])
            · exact .inr ⟨p, List.mem_cons_self, hf, by omega⟩
          · exact .inr ⟨q, List.mem_cons_of_mem _ hq, hh⟩
        · rcases List.mem_cons.1 hq with rfl | hq
          · omega
          · exact c q hq hqf
theorem best_next (s : St) (o : Option Int) (h : Best s.l (fun _ => True) o) : o = s.next := by
  obtain ⟨b1, b2⟩ := h
  have hn : s.next = s.l.foldl nx none := rfl
  obtain ⟨h1, h2⟩ := nx_best s.l none
  rw [← hn] at h1 h2
  cases hs : s.next with
  | none =>
    obtain ⟨_, h4⟩ := h2 hs
    cases o with
    | none => rfl
    | some a =>
      obtain ⟨q, hq, _, hqf, _⟩ := b2 a rfl
      rw [h4 q hq] at hqf
      cases hqf
  | some x =>
    obtain ⟨a, _, c⟩ := h1 x hs
    rcases a with a | ⟨q, hq, hqf, hqx⟩
    · cases a
    · obtain ⟨y, hy, hle⟩ := b1 q hq trivial hqf
      obtain ⟨q', hq', _, hqf', hqy⟩ := b2 y hy
      have := c q' hq' hqf'
      rw [hy]
      congr 1
      omega
end Go.Proofs.Ytelodofjokmfjaa.Tele
