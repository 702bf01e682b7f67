/- What a sender sends, in plain words. No conditions. -/
import Derived.Test.YtelodofjokmfjaaPSend
namespace Go.Proofs.Ytelodofjokmfjaa.Tele
open Go.RowKit
set_option linter.unusedVariables false
set_option linter.unusedSimpArgs false
namespace St

/-- All batches looked at, one behind the other. -/
def go (s : St) (now : Int) (draw : U) : Nat → List (Int × Fl) → List (Int × Fl) × Nat × List Int
  | f, [] => ([], f, [])
  | f, p :: r => if due s.fly now p.2 f then ((p.1, s.sent now draw p.1 p.2) :: (go s now draw (if p.2.flies then f else f + 1) r).1, (go s now draw (if p.2.flies then f else f + 1) r).2.1, p.1 :: (go s now draw (if p.2.flies then f else f + 1) r).2.2)
    else (p :: (go s now draw f r).1, (go s now draw f r).2.1, (go s now draw f r).2.2)
theorem look_yes {s : St} {now : Int} {draw : U} {D : List (Int × Fl)} {f : Nat} {out : List Int} {p : Int × Fl} (h : due s.fly now p.2 f = true) : s.look now draw (D, f, out) p = (D ++ [(p.1, s.sent now draw p.1 p.2)], if p.2.flies then f else f + 1, out ++ [p.1]) := if_pos h
theorem look_no {s : St} {now : Int} {draw : U} {D : List (Int × Fl)} {f : Nat} {out : List Int} {p : Int × Fl} (h : due s.fly now p.2 f = false) : s.look now draw (D, f, out) p = (D ++ [p], f, out) := if_neg (by rw [h]; decide)
theorem go_yes {s : St} {now : Int} {draw : U} {f : Nat} {p : Int × Fl} {r : List (Int × Fl)} (h : due s.fly now p.2 f = true) : s.go now draw f (p :: r) = ((p.1, s.sent now draw p.1 p.2) :: (s.go now draw (if p.2.flies then f else f + 1) r).1, (s.go now draw (if p.2.flies then f else f + 1) r).2.1, p.1 :: (s.go now draw (if p.2.flies then f else f + 1) r).2.2) := if_pos h
theorem go_no {s : St} {now : Int} {draw : U} {f : Nat} {p : Int × Fl} {r : List (Int × Fl)} (h : due s.fly now p.2 f = false) : s.go now draw f (p :: r) = (p :: (s.go now draw f r).1, (s.go now draw f r).2.1, (s.go now draw f r).2.2) := if_neg (by rw [h]; decide)
theorem look_go (s : St) (now : Int) (draw : U) : ∀ (l : List (Int × Fl)) (D : List (Int × Fl)) (f : Nat) (out : List Int), l.foldl (s.look now draw) (D, f, out) = (D ++ (s.go now draw f l).1, (s.go now draw f l).2.1, out ++ (s.go now draw f l).2.2)
  | [], D, f, out => by simp [go]
  | p :: r, D, f, out => by
    rw [List.foldl_cons]
    cases hd : due s.fly now p.2 f with
    | true => rw [look_yes hd, go_yes hd, look_go s now draw r]; simp
    | false => rw [look_no hd, go_no hd, look_go s now draw r]; simp
theorem sendAll_go (s : St) (now : Int) (draw : U) : s.sendAll now draw = { s with l := (s.go now draw s.flying s.l).1, flying := (s.go now draw s.flying s.l).2.1 } := by
  unfold sendAll looks
  rw [List.take_length, look_go]
  rfl
theorem outs_go (s : St) (now : Int) (draw : U) : s.outs now draw = (s.go now draw s.flying s.l).2.2 := by
  unfold outs looks
  rw [List.take_length, look_go]
  rfl
theorem go_app (s : St) (now : Int) (draw : U) : ∀ (A B : List (Int × Fl)) (f : Nat), s.go now draw f (A ++ B) = ((s.go now draw f A).1 ++ (s.go now draw (s.go now draw f A).2.1 B).1, (s.go now draw (s.go now draw f A).2.1 B).2.1, (s.go now draw f A).2.2 ++ (s.go now draw (s.go now draw f A).2.1 B).2.2)
  | [], B, f => by simp [go]
  | p :: r, B, f => by
    rw [List.cons_append]
    cases hd : due s.fly now p.2 f with
    | true => rw [go_yes hd, go_yes hd, go_app s now draw r]; simp
    | false => rw [go_no hd, go_no hd, go_app s now draw r]; simp
theorem go_none (s : St) (now : Int) (draw : U) (f : Nat) : ∀ l : List (Int × Fl), (∀ p ∈ l, due s.fly now p.2 f = false) → s.go now draw f l = (l, f, [])
  | [], _ => rfl
  | p :: r, h => by rw [go_no (h p (List.mem_cons_self)), go_none s now draw f r fun q hq => h q (List.mem_cons_of_mem _ hq)]
/-- A batch that is sent. -/
def sentP (s : St) (now : Int) (draw : U) (p : Int × Fl) : Int × Fl := (p.1, s.sent now draw p.1 p.2)
theorem go_again (s : St) (now : Int) (draw : U) (f : Nat) : ∀ l : List (Int × Fl), (∀ p ∈ l, p.2.flies = true ∧ p.2.at_ ≤ now) → s.go now draw f l = (l.map (s.sentP now draw), f, l.map (·.1))
  | [], _ => rfl
  | p :: r, h => by
    obtain ⟨h1, h2⟩ := h p (List.mem_cons_self)
    have hd : due s.fly now p.2 f = true := by unfold due; rw [h1]; simpa using h2
    rw [go_yes hd, h1, if_pos rfl, go_again s now draw f r fun q hq => h q (List.mem_cons_of_mem _ hq)]
    rfl
theorem go_first (s : St) (now : Int) (draw : U) : ∀ (l : List (Int × Fl)) (f : Nat), f ≤ s.fly → (∀ p ∈ l, p.2.flies = false) → s.go now draw f l = ((l.take (s.fly - f)).map (s.sentP now draw) ++ l.drop (s.fly - f), f + min l.length (s.fly - f), (l.map (·.1)).take (s.fly - f))
  | [], f, _, _ => by simp [go]
  | p :: r, f, hf, h => by
    have h1 := h p (List.mem_cons_self)
    have h2 := fun q hq => h q (List.mem_cons_of_mem p hq)
    by_cases hlt : f < s.fly
    · have hd : due s.fly now p.2 f = true := by unfold due; rw [h1]; simpa using hlt
      rw [go_yes hd, h1, if_neg (by decide), go_first s now draw r (f + 1) (by omega) h2]
      rw [show s.fly - f = (s.fly - (f + 1)) + 1 by omega]
      simp only [List.take_succ_cons, List.drop_succ_cons, List.map_cons, List.cons_append, List.length_cons]
      refine Prod.ext rfl (Prod.ext ?_ rfl)
      show f + 1 + _ = f + _
      omega
    · have hd : due s.fly now p.2 f = false := by unfold due; rw [h1]; simpa using hlt
      have e : s.fly - f = 0 := by omega
      rw [go_no hd, go_none s now draw f r fun q hq => by unfold due; rw [h2 q hq]; simpa using hlt, e]
      simp
theorem go_mem (s : St) (now : Int) (draw : U) : ∀ (l : List (Int × Fl)) (f : Nat), ∀ q ∈ (s.go now draw f l).1, ∃ p ∈ l, q = p ∨ q = s.sentP now draw p
  | [], f, q, h => by simp [go] at h
  | p :: r, f, q, h => by
    cases hd : due s.fly now p.2 f with
    | true =>
      rw [go_yes hd] at h
      rcases List.mem_cons.1 h with rfl | h
      · exact ⟨p, List.mem_cons_self, .inr rfl⟩
      · obtain ⟨p', h1, h2⟩ := go_mem s now draw r _ q h
        exact ⟨p', List.mem_cons_of_mem _ h1, h2⟩
    | false =>
      rw [go_no hd] at h
      rcases List.mem_cons.1 h with rfl | h
      · exact ⟨_, List.mem_cons_self, .inl rfl⟩
      · obtain ⟨p', h1, h2⟩ := go_mem s now draw r _ q h
        exact ⟨p', List.mem_cons_of_mem _ h1, h2⟩
theorem go_keys (s : St) (now : Int) (draw : U) : ∀ (l : List (Int × Fl)) (f : Nat), (s.go now draw f l).1.map (·.1) = l.map (·.1)
  | [], f => by simp [go]
  | p :: r, f => by
    cases hd : due s.fly now p.2 f with
    | true => rw [go_yes hd, List.map_cons, List.map_cons, go_keys s now draw r]
    | false => rw [go_no hd, List.map_cons, List.map_cons, go_keys s now draw r]
theorem times_sendAll (s : St) (now : Int) (draw : U) (T : Nat) (h : ∀ q ∈ s.l, q.2.times ≤ T) : ∀ q ∈ (s.sendAll now draw).l, q.2.times ≤ T + 1 := by
  intro q hq
  rw [sendAll_go] at hq
  obtain ⟨p, hp, he⟩ := go_mem s now draw s.l s.flying q hq
  have := h p hp
  rcases he with rfl | rfl
  · omega
  · show p.2.times + 1 ≤ T + 1
    omega
theorem len_sendAll (s : St) (now : Int) (draw : U) : (s.sendAll now draw).l.length = s.l.length := by
  rw [sendAll_go]
  have := congrArg List.length (go_keys s now draw s.l s.flying)
  simpa using this
/-- Batches that were put and never sent. -/
structure Fresh (s : St) : Prop where
  fl : ∀ q ∈ s.l, q.2 = fresh
  up : s.l.Pairwise fun p q => p.1 < q.1
  zero : s.flying = 0
theorem insL_mem (x : Int × Fl) : ∀ l : List (Int × Fl), ∀ q ∈ insL x l, q = x ∨ q ∈ l
  | [], q, h => by simpa [insL] using h
  | y :: r, q, h => by
    unfold insL at h
    split at h
    · rcases List.mem_cons.1 h with h | h
      · exact .inl h
      · exact .inr h
    · rcases List.mem_cons.1 h with h | h
      · exact .inr (by rw [h]; exact List.mem_cons_self)
      · rcases insL_mem x r q h with h | h
        · exact .inl h
        · exact .inr (List.mem_cons_of_mem _ h)
theorem insL_up (x : Int × Fl) : ∀ l : List (Int × Fl), (l.Pairwise fun p q => p.1 < q.1) → (∀ q ∈ l, q.1 ≠ x.1) → (insL x l).Pairwise fun p q => p.1 < q.1
  | [], _, _ => List.pairwise_singleton _ _
  | y :: r, h, hn => by
    obtain ⟨h1, h2⟩ := List.pairwise_cons.1 h
    unfold insL
    split
    · rename_i hlt
      refine List.pairwise_cons.2 ⟨fun z hz => ?_, h⟩
      rcases List.mem_cons.1 hz with rfl | hz
      · exact hlt
      · exact Int.lt_trans hlt (h1 z hz)
    · rename_i hlt
      refine List.pairwise_cons.2 ⟨fun z hz => ?_, insL_up x r h2 fun e he => hn e (List.mem_cons_of_mem _ he)⟩
      rcases insL_mem x r z hz with rfl | hz
      · have := hn y (List.mem_cons_self)
        omega
      · exact h1 z hz
theorem insL_len (x : Int × Fl) : ∀ l : List (Int × Fl), (insL x l).length = l.length + 1
  | [] => rfl
  | y :: r => by
    unfold insL
    split
    · rfl
    · rw [List.length_cons, insL_len x r, List.length_cons]
theorem put_fresh (s : St) (k : Int) (h : s.Fresh) : (s.put k).Fresh := by
  unfold put
  split
  · exact h
  · rename_i hn
    have hno : ∀ q ∈ s.l, q.1 ≠ k := fun q hq he => hn (.inl (List.any_eq_true.2 ⟨q, hq, by simpa using he⟩))
    exact ⟨fun q hq => (insL_mem _ _ q hq).elim (fun e => by rw [e]) (h.fl q), insL_up _ _ h.up hno, h.zero⟩
theorem put_len (s : St) (k : Int) : (s.put k).l.length ≤ s.l.length + 1 := by
  unfold put
  split
  · omega
  · show (insL _ _).length ≤ _
    rw [insL_len]
    exact Nat.le_refl _
theorem put_same (s : St) (k : Int) : (s.put k).fly = s.fly ∧ (s.put k).base = s.base ∧ (s.put k).most = s.most ∧ (s.put k).flying = s.flying := by
  unfold put
  split <;> exact ⟨rfl, rfl, rfl, rfl⟩
def puts (s : St) (zs : List Int) : St := zs.foldl put s
theorem puts_fresh (zs : List Int) : ∀ s : St, s.Fresh → (s.puts zs).Fresh := by
  induction zs with
  | nil => exact fun s h => h
  | cons z zs ih => exact fun s h => ih _ (put_fresh s z h)
theorem puts_len (zs : List Int) : ∀ s : St, (s.puts zs).l.length ≤ s.l.length + zs.length := by
  induction zs with
  | nil => exact fun s => Nat.le_refl _
  | cons z zs ih =>
    intro s
    have h1 := ih (s.put z)
    have h2 := put_len s z
    show ((s.put z).puts zs).l.length ≤ _
    simp only [List.length_cons]
    omega
theorem puts_same (zs : List Int) : ∀ s : St, (s.puts zs).fly = s.fly ∧ (s.puts zs).base = s.base ∧ (s.puts zs).most = s.most ∧ (s.puts zs).flying = s.flying := by
  induction zs with
  | nil => exact fun s => ⟨rfl, rfl, rfl, rfl⟩
  | cons z zs ih =>
    intro s
    obtain ⟨a1, a2, a3, a4⟩ := ih (s.put z)
    obtain ⟨b1, b2, b3, b4⟩ := put_same s z
    exact ⟨a1.trans b1, a2.trans b2, a3.trans b3, a4.trans b4⟩
theorem puts_snoc (s : St) (zs : List Int) (i : Nat) (h : i < zs.length) : s.puts (zs.take (i + 1)) = (s.puts (zs.take i)).put zs[i] := by
  unfold puts
  rw [List.take_succ_eq_append_getElem h, List.foldl_append]
  rfl
end St
end Go.Proofs.Ytelodofjokmfjaa.Tele
