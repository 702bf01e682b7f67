/- What the reference's functions on senders come to, in plain words. No conditions. -/
import Derived.Test.YtelodofjokmfjaaPSendDoesx9
import Derived.Test.YtelodofjokmfjaaPSendDoesx10
import Derived.Test.YtelodofjokmfjaaPSend2
import Derived.Test.YtelodofjokmfjaaHash1
namespace Go.Proofs.Ytelodofjokmfjaa.Tele
open Go.RowKit Go.Proofs.YtelodofjokmfjaaW.PrintWords Go.Proofs.YtelodofjokmfjaaW.PrintLast Go.Proofs.YtelodofjokmfjaaW.PrintMore Go.Proofs.Ytelodofjokmfjaa.PSendDoes
set_option linter.unusedVariables false
set_option linter.unusedSimpArgs false

abbrev Bs := List (Int × Fl)
/-- A batch as the reference has it. -/
def lift1 (p : Int × Fl) : S70 := ⟨p.1, if p.2.flies then 1 else 0, (p.2.times : Int), p.2.at_⟩
def lift (l : Bs) : List S70 := l.map lift1
theorem lift_len (l : Bs) : (lift l).length = l.length := List.length_map _
theorem rd_lift (l : Bs) (j : Nat) (h : j < l.length) : rd_T70 (lift l) (j : Int) = lift1 l[j] := by
  unfold rd_T70 lift
  rw [Int.toNat_natCast, List.getD_eq_getElem?_getD, List.getElem?_map, List.getElem?_eq_getElem h]
  rfl
theorem wrap_succ (j : Nat) (h : j ≤ 1000000) : wrap64 ((j : Int) + 1) = ((j + 1 : Nat) : Int) := by unfold wrap64; omega
/-- Where a batch stands; below 0: nowhere. -/
def posn (l : Bs) (k : Int) : Int := match l.findIdx? (fun p => p.1 == k) with | some i => (i : Int) | none => -1
theorem place_l0 (l : Bs) (seq a b c : Int) (hl : l.length ≤ 100000) : ∀ (d j k : Nat), j + d = l.length → d < k → (∀ q (h : q < l.length), q < j → l[q].1 ≠ seq) → telemeterref17_place.l0 k seq (j : Int) (lift l) a b c = some (posn l seq)
  | 0, j, k, hd, hk, hn => by
    obtain ⟨k, rfl⟩ : ∃ m, k = m + 1 := ⟨k - 1, by omega⟩
    simp only [telemeterref17_place.l0]
    rw [if_neg (by rw [lift_len]; omega)]
    unfold posn
    rw [List.findIdx?_eq_none_iff.2]
    intro x hx
    obtain ⟨q, hq, rfl⟩ := List.getElem_of_mem hx
    simpa using hn q hq (by omega)
  | d + 1, j, k, hd, hk, hn => by
    obtain ⟨k, rfl⟩ : ∃ m, k = m + 1 := ⟨k - 1, by omega⟩
    have hj : j < l.length := by omega
    simp only [telemeterref17_place.l0]
    rw [if_pos (by rw [lift_len]; omega), if_pos (by omega), rd_lift l j hj]
    by_cases h : l[j].1 = seq
    · rw [if_pos (show (lift1 l[j]).f0 = seq from h)]
      unfold posn
      rw [(List.findIdx?_eq_some_iff_getElem).2 ⟨hj, by simpa using h, fun q hq => by simpa using hn q (by omega) hq⟩]
    · rw [if_neg (show ¬ (lift1 l[j]).f0 = seq from h), wrap_succ j (by omega)]
      exact place_l0 l seq a b c hl d (j + 1) k (by omega) (by omega) fun q hq hqj => by
        rcases Nat.lt_succ_iff_lt_or_eq.1 hqj with h1 | rfl
        · exact hn q hq h1
        · exact h
theorem place_ev (l : Bs) (seq a b c : Int) (hl : l.length ≤ 100000) : Ev (fun k => telemeterref17_place.f k (lift l) a b c seq) (posn l seq) :=
  ⟨l.length + 1, fun k hk => by
    unfold telemeterref17_place.f
    exact place_l0 l seq a b c hl l.length 0 k (by omega) (by omega) fun q _ h => absurd h (Nat.not_lt_zero _)⟩
theorem posn_get (l : Bs) (k : Int) : (posn l k = -1 ∧ (l.find? fun p => p.1 == k) = none ∧ (l.any fun p => p.1 == k) = false) ∨ ∃ (i : Nat) (h : i < l.length), posn l k = (i : Int) ∧ l[i].1 = k ∧ (l.find? fun p => p.1 == k) = some l[i] ∧ (l.any fun p => p.1 == k) = true := by
  unfold posn
  cases hf : l.findIdx? (fun p => p.1 == k) with
  | none =>
    rw [List.findIdx?_eq_none_iff] at hf
    exact .inl ⟨rfl, List.find?_eq_none.2 fun x hx => by simpa using hf x hx, by simpa using hf⟩
  | some i =>
    obtain ⟨hi, h1, h2⟩ := List.findIdx?_eq_some_iff_getElem.1 hf
    refine .inr ⟨i, hi, rfl, by simpa using h1, ?_, List.any_eq_true.2 ⟨l[i], List.getElem_mem hi, h1⟩⟩
    rw [List.find?_eq_some_iff_getElem]
    exact ⟨h1, i, hi, rfl, fun j hj => by simpa using h2 j hj⟩
theorem insL_pre (x : Int × Fl) : ∀ (A B : Bs), (∀ y ∈ A, y.1 < x.1) → St.insL x (A ++ B) = A ++ St.insL x B
  | [], B, _ => rfl
  | y :: r, B, h => by
    have h1 := h y List.mem_cons_self
    rw [List.cons_append, St.insL, if_neg (by omega), insL_pre x r B fun z hz => h z (List.mem_cons_of_mem _ hz)]
    rfl
theorem insL_first (x y : Int × Fl) (r : Bs) (h : x.1 < y.1) : St.insL x (y :: r) = x :: y :: r := by
  rw [St.insL, if_pos h]
theorem lift_snoc (l : Bs) (j : Nat) (h : j < l.length) : lift (l.take j) ++ [(⟨(rd_T70 (lift l) (j : Int)).f0, (rd_T70 (lift l) (j : Int)).f1, (rd_T70 (lift l) (j : Int)).f2, (rd_T70 (lift l) (j : Int)).f3⟩ : S70)] = lift (l.take (j + 1)) := by
  rw [rd_lift l j h, List.take_succ_eq_append_getElem h]
  unfold lift
  rw [List.map_append]
  rfl
theorem put_l0 (l : Bs) (seq a b c : Int) (hl : l.length ≤ 100000) (hno : ∀ p ∈ l, p.1 ≠ seq) : ∀ (d j k : Nat), j + d = l.length → d < k → (∀ y ∈ l.take j, y.1 < seq) → telemeterref17_Put.l0 k seq (lift (l.take j)) (j : Int) (lift l) a b c = some (lift (St.insL (seq, St.fresh) l), a, b, c, true)
  | 0, j, k, hd, hk, hn => by
    obtain ⟨k, rfl⟩ : ∃ m, k = m + 1 := ⟨k - 1, by omega⟩
    have hj : j = l.length := by omega
    subst hj
    have hn' : ∀ y ∈ l, y.1 < seq := by simpa using hn
    have e := insL_pre (seq, St.fresh) l [] hn'
    rw [List.append_nil] at e
    have hnew : (⟨seq, 0, 0, 0⟩ : S70) = lift1 (seq, St.fresh) := rfl
    simp only [telemeterref17_Put.l0]
    rw [if_neg (by rw [lift_len]; omega), if_pos (by rw [lift_len, List.length_take]; omega)]
    simp only [Option.bind_some]
    rw [if_pos (by omega), if_pos (by rw [lift_len]; exact Int.le_refl _)]
    simp only [Option.bind_some, Int.toNat_natCast]
    rw [if_pos (by rw [List.length_append, List.length_drop, lift_len, lift_len, List.length_take]; simp; omega), e, List.take_length]
    rw [List.drop_eq_nil_of_le (by rw [lift_len]; exact Nat.le_refl _), List.append_nil, hnew]
    unfold lift St.insL
    rw [List.map_append]
    rfl
  | d + 1, j, k, hd, hk, hn => by
    obtain ⟨k, rfl⟩ : ∃ m, k = m + 1 := ⟨k - 1, by omega⟩
    have hj : j < l.length := by omega
    have hnew : (⟨seq, 0, 0, 0⟩ : S70) = lift1 (seq, St.fresh) := rfl
    simp only [telemeterref17_Put.l0]
    rw [if_pos (by rw [lift_len]; omega), if_pos (by omega)]
    by_cases h : l[j].1 < seq
    · rw [if_pos (show (rd_T70 (lift l) (j : Int)).f0 < seq by rw [rd_lift l j hj]; exact h), if_pos (by rw [lift_len, List.length_take]; omega), lift_snoc l j hj, wrap_succ j (by omega)]
      exact put_l0 l seq a b c hl hno d (j + 1) k (by omega) (by omega) fun y hy => by
        rw [List.take_succ_eq_append_getElem hj] at hy
        rcases List.mem_append.1 hy with hy | hy
        · exact hn y hy
        · rw [List.mem_singleton.1 hy]; exact h
    · rw [if_neg (show ¬ (rd_T70 (lift l) (j : Int)).f0 < seq by rw [rd_lift l j hj]; exact h), if_pos (by rw [lift_len, List.length_take]; omega)]
      simp only [Option.bind_some]
      rw [if_pos (by rw [lift_len]; omega)]
      simp only [Option.bind_some, Int.toNat_natCast]
      rw [if_pos (by rw [List.length_append, List.length_drop, lift_len, lift_len, List.length_take]; simp; omega)]
      have hne := hno l[j] (List.getElem_mem hj)
      have e : St.insL (seq, St.fresh) l = l.take j ++ (seq, St.fresh) :: l.drop j := by
        conv => lhs; rw [← List.take_append_drop j l]
        rw [insL_pre _ _ _ hn, List.drop_eq_getElem_cons hj, insL_first _ _ _ (by show seq < l[j].1; omega)]
      rw [e, hnew]
      unfold lift
      rw [List.map_append, List.map_cons, List.map_drop, List.append_assoc, List.singleton_append]
theorem put_ev (s : St) (seq : Int) (hl : s.l.length ≤ 100000) : Ev (fun k => telemeterref17_Put.f k (lift s.l) s.fly s.base s.most seq) (lift (s.put seq).l, s.fly, s.base, s.most, decide (¬ (s.has seq = true ∨ seq < 0))) := by
  unfold telemeterref17_Put.f St.put St.has
  by_cases h0 : seq < 0
  · refine Ev.congr (fun k => by rw [if_pos h0]) ⟨1, fun k hk => ?_⟩
    obtain ⟨k, rfl⟩ : ∃ m, k = m + 1 := ⟨k - 1, by omega⟩
    simp only [telemeterref17_Put.j0]
    simp [h0]
  · refine Ev.congr (fun k => by rw [if_neg h0]) (Ev.bind (place_ev s.l seq _ _ _ hl) ?_)
    rcases posn_get s.l seq with ⟨hp, hf, ha⟩ | ⟨i, hi, hp, hs, hf, ha⟩
    · rw [hp, ha, show (decide ((-1 : Int) ≥ 0)) = false from rfl]
      refine ⟨s.l.length + 2, fun k hk => ?_⟩
      obtain ⟨k, rfl⟩ : ∃ m, k = m + 1 := ⟨k - 1, by omega⟩
      simp only [telemeterref17_Put.j0]
      rw [if_neg (by decide), if_neg (by simp [h0])]
      have := put_l0 s.l seq s.fly s.base s.most hl (fun p hp' => by
        have := List.any_eq_false.1 ha p hp'
        simpa using this) s.l.length 0 k (by omega) (by omega) (fun y hy => by simp at hy)
      simp only [List.take_zero] at this
      rw [show ((0 : Nat) : Int) = 0 from rfl] at this
      rw [show (lift ([] : Bs)) = [] from rfl] at this
      rw [this]
      simp [h0]
    · rw [hp, ha, show decide ((i : Int) ≥ 0) = true by simp]
      refine ⟨1, fun k hk => ?_⟩
      obtain ⟨k, rfl⟩ : ∃ m, k = m + 1 := ⟨k - 1, by omega⟩
      simp only [telemeterref17_Put.j0]
      simp
theorem filter_at (l : Bs) (hs : l.Pairwise fun p q => p.1 < q.1) (i : Nat) (h : i < l.length) (k : Int) (hk : l[i].1 = k) : l.filter (fun p => !(p.1 == k)) = l.take i ++ l.drop (i + 1) := by
  conv => lhs; rw [← List.take_append_drop i l, List.drop_eq_getElem_cons h]
  have hp := List.pairwise_iff_getElem.1 hs
  rw [List.filter_append, List.filter_cons_of_neg (by simp [hk]), List.filter_eq_self.2, List.filter_eq_self.2]
  · intro p hp'
    obtain ⟨q, hq, rfl⟩ := List.getElem_of_mem hp'
    rw [List.length_drop] at hq
    rw [List.getElem_drop]
    have := hp i (i + 1 + q) h (by omega) (by omega)
    simp
    omega
  · intro p hp'
    obtain ⟨q, hq, rfl⟩ := List.getElem_of_mem hp'
    rw [List.length_take] at hq
    rw [List.getElem_take]
    have := hp q i (by omega) h (by omega)
    simp
    omega
theorem done_some (l : Bs) (fly base most seq : Int) (hl : l.length ≤ 100000) (i : Nat) (hi : i < l.length) (N : Nat) (hN : 1000000 ≤ N) :
    (if (i : Int) < 0 then some (lift l, fly, base, most, false) else (if 0 ≤ (i : Int) then (if (i : Int) ≤ ((lift l).length : Int) then ((some ((lift l).take ((i : Int)).toNat : List (S70))).bind fun y279 => (if ([] : List (S70)).length + y279.length < N then ((some (([] : List (S70)) ++ y279 : List (S70))).bind fun y283 => (if 0 ≤ (wrap64 ((i : Int) + 1)) then (if (wrap64 ((i : Int) + 1)) ≤ ((lift l).length : Int) then ((some ((lift l).drop ((wrap64 ((i : Int) + 1)) : Int).toNat : List (S70))).bind fun y286 => (if y283.length + y286.length < N then (some ((y283 ++ y286), fly, base, most, true)) else (none))) else (none)) else (none))) else (none))) else (none)) else (none))) = some (lift (l.take i ++ l.drop (i + 1)), fly, base, most, true) := by
  rw [wrap_succ i (by omega), if_neg (by omega), if_pos (by omega), if_pos (by rw [lift_len]; omega)]
  simp only [Option.bind_some, Int.toNat_natCast]
  rw [if_pos (by rw [List.length_nil, List.length_take, lift_len]; omega)]
  rw [if_pos (by omega), if_pos (by rw [lift_len]; omega), if_pos (by rw [List.nil_append, List.length_take, List.length_drop, lift_len]; omega), List.nil_append]
  unfold lift
  rw [List.map_append, List.map_take, List.map_drop]
theorem done_ev (s : St) (seq : Int) (hl : s.l.length ≤ 100000) (hs : s.l.Pairwise fun p q => p.1 < q.1) : Ev (fun k => telemeterref17_Done.f k (lift s.l) s.fly s.base s.most seq) (lift (s.done seq).l, s.fly, s.base, s.most, (s.find seq).isSome) := by
  unfold telemeterref17_Done.f St.done St.find
  refine Ev.bind (place_ev s.l seq _ _ _ hl) ?_
  rcases posn_get s.l seq with ⟨hp, hf, ha⟩ | ⟨i, hi, hp, hs', hf, ha⟩
  · rw [hp, hf]
    exact ⟨0, fun k _ => rfl⟩
  · rw [hp, hf]
    refine ⟨0, fun k _ => ?_⟩
    have h1 := done_some s.l s.fly s.base s.most seq hl i hi 4398046511104 (by decide)
    have h2 := filter_at s.l hs i hi seq hs'
    simp only [Option.map_some, Option.isSome_some]
    rw [h2]
    exact h1
/-- How many fly. -/
def flyers (l : Bs) : Nat := (l.filter (·.2.flies)).length
theorem flyers_app (A B : Bs) : flyers (A ++ B) = flyers A + flyers B := by unfold flyers; rw [List.filter_append, List.length_append]
theorem flyers_le (l : Bs) : flyers l ≤ l.length := List.length_filter_le _ _
theorem flyers_one (p : Int × Fl) : flyers [p] = if p.2.flies then 1 else 0 := by unfold flyers; cases h : p.2.flies <;> simp [h]
theorem flying_l0 (l : Bs) (a b c : Int) (hl : l.length ≤ 100000) : ∀ (d j k : Nat), j + d = l.length → d < k → telemeterref17_Flying.l0 k (flyers (l.take j) : Int) (j : Int) (lift l) a b c = some (flyers l : Int)
  | 0, j, k, hd, hk => by
    obtain ⟨k, rfl⟩ : ∃ m, k = m + 1 := ⟨k - 1, by omega⟩
    simp only [telemeterref17_Flying.l0]
    rw [if_neg (by rw [lift_len]; omega), List.take_of_length_le (by omega)]
  | d + 1, j, k, hd, hk => by
    obtain ⟨k, rfl⟩ : ∃ m, k = m + 1 := ⟨k - 1, by omega⟩
    have hj : j < l.length := by omega
    simp only [telemeterref17_Flying.l0]
    rw [if_pos (by rw [lift_len]; omega), if_pos (by omega), rd_lift l j hj, wrap_succ j (by omega)]
    have h1 := flyers_le (l.take j)
    rw [List.length_take] at h1
    have e : wrap64 ((flyers (l.take j) : Int) + (lift1 l[j]).f1) = (flyers (l.take (j + 1)) : Int) := by
      rw [List.take_succ_eq_append_getElem hj, flyers_app, flyers_one]
      unfold lift1 wrap64
      simp only
      cases (l[j]).2.flies <;> simp <;> omega
    rw [e]
    exact flying_l0 l a b c hl d (j + 1) k (by omega) (by omega)
theorem flying_at (l : Bs) (a b c : Int) (hl : l.length ≤ 100000) (k : Nat) (hk : l.length < k) : telemeterref17_Flying.f k (lift l) a b c = some (flyers l : Int) := by
  unfold telemeterref17_Flying.f
  have := flying_l0 l a b c hl l.length 0 k (by omega) (by omega)
  rw [List.take_zero] at this
  exact this
theorem flying_ev (l : Bs) (a b c : Int) (hl : l.length ≤ 100000) : Ev (fun k => telemeterref17_Flying.f k (lift l) a b c) (flyers l : Int) := ⟨l.length + 1, fun k hk => flying_at l a b c hl k (by omega)⟩
def nx (a : Option Int) (p : Int × Fl) : Option Int := if p.2.flies then (match a with | none => some p.2.at_ | some x => some (min x p.2.at_)) else a
def nxT (a : Option Int) : Int × Bool := match a with | none => (0, false) | some x => (x, true)
theorem next_l0 (l : Bs) (a b c : Int) (hl : l.length ≤ 100000) : ∀ (d j k : Nat), j + d = l.length → d < k → ∀ o : Option Int, o = (l.take j).foldl nx none → telemeterref17_Next.l0 k (nxT o).1 (nxT o).2 (j : Int) (lift l) a b c = some (nxT (l.foldl nx none))
  | 0, j, k, hd, hk, o, ho => by
    obtain ⟨k, rfl⟩ : ∃ m, k = m + 1 := ⟨k - 1, by omega⟩
    simp only [telemeterref17_Next.l0]
    rw [if_neg (by rw [lift_len]; omega), ho, List.take_of_length_le (by omega)]
  | d + 1, j, k, hd, hk, o, ho => by
    obtain ⟨k, rfl⟩ : ∃ m, k = m + 1 := ⟨k - 1, by omega⟩
    have hj : j < l.length := by omega
    have ho' : nx o l[j] = (l.take (j + 1)).foldl nx none := by rw [List.take_succ_eq_append_getElem hj, List.foldl_append, ← ho]; rfl
    have ih := next_l0 l a b c hl d (j + 1) k (by omega) (by omega) _ ho'
    simp only [telemeterref17_Next.l0]
    rw [if_pos (by rw [lift_len]; omega), if_pos (by omega), rd_lift l j hj, wrap_succ j (by omega)]
    unfold nx at ih
    unfold lift1
    simp only
    cases hf : l[j].2.flies with
    | false =>
      rw [hf] at ih
      simp only [Bool.false_eq_true, if_false] at ih ⊢
      rw [if_neg (by decide)]
      exact ih
    | true =>
      rw [hf] at ih
      simp only [if_true] at ih ⊢
      cases o with
      | none =>
        rw [if_neg (by simp [nxT])]
        exact ih
      | some x =>
        rw [if_pos (show (nxT (some x)).2 = true from rfl)]
        show (if l[j].2.at_ < x then telemeterref17_Next.l0 k l[j].2.at_ true _ _ a b c else telemeterref17_Next.l0 k x true _ _ a b c) = _
        have ih' : telemeterref17_Next.l0 k (min x l[j].2.at_) true ((j + 1 : Nat) : Int) (lift l) a b c = some (nxT (l.foldl nx none)) := ih
        by_cases hlt : l[j].2.at_ < x
        · rw [if_pos hlt]
          rw [show min x l[j].2.at_ = l[j].2.at_ by omega] at ih'
          exact ih'
        · rw [if_neg hlt]
          rw [show min x l[j].2.at_ = x by omega] at ih'
          exact ih'
theorem next_ev (s : St) (a b c : Int) (hl : s.l.length ≤ 100000) : Ev (fun k => telemeterref17_Next.f k (lift s.l) a b c) (nxT s.next) := ⟨s.l.length + 1, fun k hk => by
  unfold telemeterref17_Next.f
  exact next_l0 s.l a b c hl s.l.length 0 k (by omega) (by omega) none rfl⟩
end Go.Proofs.Ytelodofjokmfjaa.Tele
