/- What the reference's Delay and Due come to, in plain words. No conditions. -/
import Derived.Test.YtelodofjokmfjaaPRef17
namespace Go.Proofs.Ytelodofjokmfjaa.Tele
open Go.RowKit Go.Proofs.YtelodofjokmfjaaW.PrintWords Go.Proofs.YtelodofjokmfjaaW.PrintLast Go.Proofs.YtelodofjokmfjaaW.PrintMore Go.Proofs.Ytelodofjokmfjaa.PSendDoes
set_option linter.unusedVariables false
set_option linter.unusedSimpArgs false

theorem part_f (X : U) (n : Nat) (hn : n < 64) : telemeterref06_part.f (X.toNat : Int) (n : Int) = some ((sx X n).toNat : Int) := by
  have hw : IntKind.u64.wrap (n : Int) = (n : Int) := by rw [IntKind.wrap_u64]; omega
  unfold telemeterref06_part.f
  rw [hw, if_pos (by omega)]
  unfold shr
  rw [Int.toNat_natCast, show min n IntKind.u64.bits = n from Nat.min_eq_left (Nat.le_of_lt hn), u_shr' X n _ (by rw [Int.natCast_pow]; rfl), u_xor]
  rfl
theorem mix_f (X : U) : telemeterref06_Mix.f (X.toNat : Int) = some ((mix X).toNat : Int) := by
  unfold telemeterref06_Mix.f
  have h1 := part_f X 30 (by decide)
  have h2 := part_f (sx X 30 * C1) 27 (by decide)
  have h3 := part_f (sx (sx X 30 * C1) 27 * C2) 31 (by decide)
  have e1 : IntKind.u64.wrap (((sx X 30).toNat : Int) * 13787848793156543929) = ((sx X 30 * C1).toNat : Int) := u_mul (sx X 30) C1
  have e2 : IntKind.u64.wrap (((sx (sx X 30 * C1) 27).toNat : Int) * 10723151780598845931) = ((sx (sx X 30 * C1) 27 * C2).toNat : Int) := u_mul _ C2
  rw [show ((30 : Nat) : Int) = 30 from rfl] at h1
  rw [show ((27 : Nat) : Int) = 27 from rfl] at h2
  rw [show ((31 : Nat) : Int) = 31 from rfl] at h3
  rw [h1, Option.bind_some, e1, h2, Option.bind_some, e2, h3]
  rfl
theorem grown_big (base most k : Nat) (h1 : 1 ≤ base) (h2 : base ≤ most) : 1 ≤ grown base most k ∧ grown base most k ≤ 2 * most := ⟨grown_pos base most h1 k, grown_le base most h2 k⟩
theorem delay_end (D : U) (w m : Nat) (hw1 : 1 ≤ w) (hw : w ≤ 2000) (hm : m ≤ 1000) (hm1 : 1 ≤ m) :
    (if (IntKind.u64.wrap (wrap64 ((mn (w : Int) (m : Int)) + 1))) = 0 then (none) else (some (wrap64 ((mn (w : Int) (m : Int)) + (wrap64 (Int.tmod (D.toNat : Int) (IntKind.u64.wrap (wrap64 ((mn (w : Int) (m : Int)) + 1)))))))) : Option Int) = some ((min w m + D.toNat % (min w m + 1) : Nat) : Int) := by
  have e0 : mn (w : Int) (m : Int) = ((min w m : Nat) : Int) := by unfold mn; split <;> omega
  have e1 : wrap64 (((min w m : Nat) : Int) + 1) = ((min w m + 1 : Nat) : Int) := by unfold wrap64; omega
  have e2 : IntKind.u64.wrap ((min w m + 1 : Nat) : Int) = ((min w m + 1 : Nat) : Int) := by rw [IntKind.wrap_u64]; omega
  have hlt := Nat.mod_lt D.toNat (show 0 < min w m + 1 by omega)
  have e3 : Int.tmod (D.toNat : Int) ((min w m + 1 : Nat) : Int) = ((D.toNat % (min w m + 1) : Nat) : Int) := by rw [Int.tmod_eq_emod_of_nonneg (by omega)]; exact (Int.natCast_emod _ _).symm
  rw [e0, e1, e2, if_neg (by omega), e3]
  generalize D.toNat % (min w m + 1) = x at *
  congr 1
  unfold wrap64
  omega
theorem delay_l0 (D : U) (base most n : Nat) (h1 : 1 ≤ base) (h2 : base ≤ most) (hm : most ≤ 1000) (hn : n ≤ 10000) : ∀ (d i k : Nat), i + d = n → d < k → telemeterref17_Delay.l0 k ((n + 1 : Nat) : Int) (D.toNat : Int) (grown base most i : Int) (most : Int) ((i + 1 : Nat) : Int) = some (dly base most n D.toNat : Int)
  | 0, i, k, hd, hk => by
    obtain ⟨k, rfl⟩ : ∃ m, k = m + 1 := ⟨k - 1, by omega⟩
    obtain rfl : i = n := by omega
    obtain ⟨g1, g2⟩ := grown_big base most i h1 h2
    simp only [telemeterref17_Delay.l0]
    rw [if_neg (by omega), delay_end D _ _ g1 (by omega) hm (by omega)]
    rfl
  | d + 1, i, k, hd, hk => by
    obtain ⟨k, rfl⟩ : ∃ m, k = m + 1 := ⟨k - 1, by omega⟩
    obtain ⟨g1, g2⟩ := grown_big base most i h1 h2
    simp only [telemeterref17_Delay.l0]
    rw [if_pos (by omega)]
    by_cases hlt : grown base most i < most
    · rw [if_pos (by omega), show wrap64 (2 * (grown base most i : Int)) = ((grown base most (i + 1) : Nat) : Int) by
        have : grown base most (i + 1) = 2 * grown base most i := by show (if _ then _ else _) = _; rw [if_neg (by omega)]
        rw [this]
        unfold wrap64
        omega, wrap_succ (i + 1) (by omega)]
      exact delay_l0 D base most n h1 h2 hm hn d (i + 1) k (by omega) (by omega)
    · rw [if_neg (by omega), delay_end D _ _ g1 (by omega) hm (by omega)]
      have e := grown_stays base most i (by omega) (n - i)
      rw [show i + (n - i) = n by omega] at e
      unfold dly wait
      rw [e]
theorem bound_f (a : Nat) (h1 : 1 ≤ a) (h2 : a ≤ 1000) : telemeterref17_bound.f (a : Int) = some (a : Int) := by
  unfold telemeterref17_bound.f mn mx
  rw [if_neg (by omega), if_neg (by omega)]
theorem delay_at (D : U) (base most n : Nat) (h1 : 1 ≤ base) (h2 : base ≤ most) (hm : most ≤ 1000) (hn : n ≤ 10000) (k : Nat) (hk : n < k) : telemeterref17_Delay.f k (base : Int) (most : Int) ((n + 1 : Nat) : Int) (D.toNat : Int) = some (dly base most n D.toNat : Int) := by
  unfold telemeterref17_Delay.f
  rw [bound_f base h1 (by omega), bound_f most (by omega) hm]
  simp only [Option.bind_some]
  exact delay_l0 D base most n h1 h2 hm hn n 0 k (by omega) hk
theorem sent_lift (s : St) (now : Int) (D : U) (p : Int × Fl) : lift1 (p.1, s.sent now D p.1 p.2) = ⟨p.1, 1, ((p.2.times + 1 : Nat) : Int), now + (dly s.base s.most p.2.times (mix (D + BitVec.ofInt 64 p.1)).toNat : Nat)⟩ := rfl
/-- Where the rounds stand: D looked at, the rest not yet. -/
theorem due_l0 (s : St) (now : Int) (D : U) (h1 : 1 ≤ s.base) (h2 : s.base ≤ s.most) (hm : s.most ≤ 1000) (h0 : 0 ≤ now) (hnow : now ≤ 100000) (N M : Nat) (hN : N ≤ 100000) (hM : M ≤ 9000) : ∀ (B A : Bs) (out : List Int) (k : Nat), A.length + B.length = N → out.length ≤ A.length → (∀ p ∈ B, p.2.times ≤ M) → 2 * B.length + N + M + 10 < k →
    telemeterref17_Due.l0 k now (D.toNat : Int) out (A.length : Int) (lift (A ++ B)) s.fly s.base s.most = some (lift (A ++ (s.go now D (flyers (A ++ B)) B).1), (s.fly : Int), (s.base : Int), (s.most : Int), out ++ (s.go now D (flyers (A ++ B)) B).2.2)
  | [], A, out, k, hl, ho, ht, hk => by
    obtain ⟨k, rfl⟩ : ∃ m, k = m + 1 := ⟨k - 1, by omega⟩
    simp only [telemeterref17_Due.l0]
    rw [if_neg (by rw [lift_len, List.append_nil]; omega)]
    simp [St.go]
  | p :: r, A, out, k, hl, ho, ht, hk => by
    rw [List.length_cons] at hl hk
    obtain ⟨k, rfl⟩ : ∃ m, k = m + 1 := ⟨k - 1, by omega⟩
    obtain ⟨k, rfl⟩ : ∃ m, k = m + 1 := ⟨k - 1, by omega⟩
    have hj : A.length < (A ++ p :: r).length := by rw [List.length_append, List.length_cons]; omega
    have hp : (A ++ p :: r)[A.length] = p := by rw [List.getElem_append_right (Nat.le_refl _)]; simp
    have hrd := rd_lift (A ++ p :: r) A.length hj
    rw [hp] at hrd
    have hpt := ht p List.mem_cons_self
    have hfl := flying_at (A ++ p :: r) s.fly s.base s.most (by rw [List.length_append, List.length_cons]; omega) (k + 1) (by rw [List.length_append, List.length_cons]; omega)
    have hf : flyers (A ++ p :: r) = flyers A + flyers [p] + flyers r := by rw [flyers_app, show p :: r = [p] ++ r from rfl, flyers_app, Nat.add_assoc]
    have happ : A ++ p :: r = (A ++ [p]) ++ r := by rw [List.append_assoc]; rfl
    have no : St.due s.fly now p.2 (flyers (A ++ p :: r)) = false → telemeterref17_Due.j1 (k + 1) now (D.toNat : Int) out (A.length : Int) true (lift (A ++ p :: r)) s.fly s.base s.most (lift1 p).f0 (lift1 p).f1 (lift1 p).f2 (lift1 p).f3 = some (lift (A ++ (s.go now D (flyers (A ++ p :: r)) (p :: r)).1), (s.fly : Int), (s.base : Int), (s.most : Int), out ++ (s.go now D (flyers (A ++ p :: r)) (p :: r)).2.2) := fun hd => by
      rw [St.go_no hd]
      simp only [telemeterref17_Due.j1, if_true]
      have ih := due_l0 s now D h1 h2 hm h0 hnow N M hN hM r (A ++ [p]) out k (by rw [List.length_append, List.length_singleton]; omega) (by rw [List.length_append]; omega) (fun q hq => ht q (List.mem_cons_of_mem _ hq)) (by omega)
      rw [List.length_append, List.length_singleton] at ih
      rw [wrap_succ A.length (by omega), happ, ih, List.append_assoc]
      rfl
    have yes : St.due s.fly now p.2 (flyers (A ++ p :: r)) = true → telemeterref17_Due.j1 (k + 1) now (D.toNat : Int) out (A.length : Int) false (lift (A ++ p :: r)) s.fly s.base s.most (lift1 p).f0 (lift1 p).f1 (lift1 p).f2 (lift1 p).f3 = some (lift (A ++ (s.go now D (flyers (A ++ p :: r)) (p :: r)).1), (s.fly : Int), (s.base : Int), (s.most : Int), out ++ (s.go now D (flyers (A ++ p :: r)) (p :: r)).2.2) := fun hd => by
      rw [St.go_yes hd]
      have hmx := mix_f (D + BitVec.ofInt 64 p.1)
      have hdl := delay_at (mix (D + BitVec.ofInt 64 p.1)) s.base s.most p.2.times h1 h2 hm (by omega) k (by omega)
      have hseq : IntKind.u64.wrap ((D.toNat : Int) + IntKind.u64.wrap p.1) = ((D + BitVec.ofInt 64 p.1).toNat : Int) := by rw [wrapU p.1, u_add]
      have hdle := dly_le s.base s.most p.2.times (mix (D + BitVec.ofInt 64 p.1)).toNat
      have hwle := wait_le s.base s.most p.2.times
      simp only [telemeterref17_Due.j1]
      rw [if_neg (by decide), show (lift1 p).f0 = p.1 from rfl, show (lift1 p).f2 = (p.2.times : Int) from rfl, hseq, hmx]
      simp only [Option.bind_some]
      rw [wrap_succ p.2.times (by omega), hdl]
      simp only [Option.bind_some]
      rw [if_pos (by omega), if_pos (by rw [lift_len]; omega), if_pos (by omega), wrap_succ A.length (by omega), Int.toNat_natCast,
        show wrap64 (now + ((dly s.base s.most p.2.times (mix (D + BitVec.ofInt 64 p.1)).toNat : Nat) : Int)) = now + ((dly s.base s.most p.2.times (mix (D + BitVec.ofInt 64 p.1)).toNat : Nat) : Int) by unfold wrap64; omega, ← sent_lift s now D p]
      have hset : (lift (A ++ p :: r)).set A.length (lift1 (p.1, s.sent now D p.1 p.2)) = lift ((A ++ [(p.1, s.sent now D p.1 p.2)]) ++ r) := by
        unfold lift
        rw [List.map_append, List.set_append_right _ _ (by rw [List.length_map]; exact Nat.le_refl _), List.length_map, Nat.sub_self, List.map_cons, List.set_cons_zero, List.append_assoc, List.map_append]
        rfl
      have hff : flyers ((A ++ [(p.1, s.sent now D p.1 p.2)]) ++ r) = if p.2.flies then flyers (A ++ p :: r) else flyers (A ++ p :: r) + 1 := by
        rw [flyers_app, flyers_app, hf, flyers_one, flyers_one]
        rw [show (s.sent now D p.1 p.2).flies = true from rfl]
        cases p.2.flies <;> simp <;> omega
      have ih := due_l0 s now D h1 h2 hm h0 hnow N M hN hM r (A ++ [(p.1, s.sent now D p.1 p.2)]) (out ++ [p.1]) k (by rw [List.length_append, List.length_singleton]; omega) (by rw [List.length_append, List.length_append, List.length_singleton, List.length_singleton]; omega) (fun q hq => ht q (List.mem_cons_of_mem _ hq)) (by omega)
      rw [List.length_append, List.length_singleton, hff] at ih
      rw [hset, ih, List.append_assoc, List.append_assoc]
      rfl
    simp only [telemeterref17_Due.l0]
    rw [if_pos (by rw [lift_len]; omega), if_pos (by omega), hrd]
    cases hfs : p.2.flies with
    | true =>
      have e1 : (lift1 p).f1 = 1 := by unfold lift1; simp [hfs]
      rw [if_pos e1, if_neg (show ¬ (lift1 p).f1 = 0 by rw [e1]; decide)]
      by_cases ha : p.2.at_ ≤ now
      · rw [if_neg (show ¬ (lift1 p).f3 > now by show ¬ now < p.2.at_; omega)]
        exact yes (by unfold St.due; rw [hfs]; simpa using ha)
      · rw [if_pos (show (lift1 p).f3 > now by show now < p.2.at_; omega)]
        exact no (by unfold St.due; rw [hfs]; simpa using ha)
    | false =>
      have e1 : (lift1 p).f1 = 0 := by unfold lift1; simp [hfs]
      rw [if_neg (show ¬ (lift1 p).f1 = 1 by rw [e1]; decide), if_pos e1, hfl]
      simp only [Option.bind_some]
      by_cases ha : flyers (A ++ p :: r) < s.fly
      · rw [show decide ((flyers (A ++ p :: r) : Int) ≥ (s.fly : Int)) = false by rw [decide_eq_false_iff_not]; omega]
        exact yes (by unfold St.due; rw [hfs]; simpa using ha)
      · rw [show decide ((flyers (A ++ p :: r) : Int) ≥ (s.fly : Int)) = true by rw [decide_eq_true_eq]; omega]
        exact no (by unfold St.due; rw [hfs]; simpa using ha)
theorem due_ev (s : St) (now : Int) (D : U) (h1 : 1 ≤ s.base) (h2 : s.base ≤ s.most) (hm : s.most ≤ 1000) (h0 : 0 ≤ now) (hnow : now ≤ 100000) (hl : s.l.length ≤ 100000) (M : Nat) (hM : M ≤ 9000) (ht : ∀ p ∈ s.l, p.2.times ≤ M) (hf : s.flying = flyers s.l) :
    Ev (fun k => telemeterref17_Due.f k (lift s.l) s.fly s.base s.most now (D.toNat : Int)) (lift (s.sendAll now D).l, (s.fly : Int), (s.base : Int), (s.most : Int), s.outs now D) := ⟨2 * s.l.length + s.l.length + M + 11, fun k hk => by
  have h := due_l0 s now D h1 h2 hm h0 hnow s.l.length M hl hM s.l [] [] k (by simp) (Nat.le_refl _) ht (by omega)
  show telemeterref17_Due.f k (lift s.l) s.fly s.base s.most now (D.toNat : Int) = _
  unfold telemeterref17_Due.f
  rw [if_pos (by rw [List.length_nil, lift_len]; omega), List.nil_append, St.sendAll_go, St.outs_go, hf]
  simpa using h⟩
end Go.Proofs.Ytelodofjokmfjaa.Tele
