/- A sender and the reference's beside it. No conditions. -/
import Derived.Test.YtelodofjokmfjaaPSRel
import Derived.Test.YtelodofjokmfjaaLawNext
namespace Go.Proofs.Ytelodofjokmfjaa.Tele
open Go.RowKit Go.Proofs.YtelodofjokmfjaaW.PrintWords Go.Proofs.YtelodofjokmfjaaW.PrintLast Go.Proofs.YtelodofjokmfjaaW.PrintMore Go.Proofs.Ytelodofjokmfjaa.PSendDoes
set_option linter.unusedVariables false
set_option linter.unusedSimpArgs false

abbrev RV (w : World) (B : Nat) (P : Nat → Prop) (v : Value) (L : Bs) : Prop := Kd.R k70 70 w B P v (lift L)
/-- The sender p is s; v is the reference's list L, apart from it; G: variables of the law's own. -/
def PairS (w0 w : World) (p : Nat) (G : Nat → Prop) (v : Value) (s : St) (L : Bs) : Prop :=
  ∃ O P, (∀ j, O j → w0.heap.size ≤ j) ∧ IsS w O p s ∧ Below w0.heap.size w0 w ∧ RV w w0.heap.size P v L ∧ (∀ q, P q → ¬ O q ∧ ¬ G q) ∧ ∀ q, G q → ¬ O q ∧ w0.heap.size ≤ q ∧ q < w.heap.size
/-- The variables are as they were. -/
def KeepG (G : Nat → Prop) (w w' : World) : Prop := ∀ q, G q → w'.heap[q]? = w.heap[q]?
theorem Blk.kept {w w' : World} {g : Nat} {t : TypeId} {cs : Array Value} {G : Nat → Prop} (h : Blk w g t cs) (k : KeepG G w w') (hg : G g) : Blk w' g t cs := (k g hg).trans h
theorem IsS.chg {w w' : World} {O S : Nat → Prop} {p : Nat} {s : St} (h : IsS w O p s) (k : Chg S w w') (hS : ∀ j, O j → ¬ S j) : IsS w' O p s := by
  obtain ⟨b, m, F, h⟩ := h
  exact ⟨b, m, F, { h with st := h.st.chg k (hS _ h.hp), mp := h.mp.chg k (hS _ h.hb), fl := fun e he => (h.fl e he).chg k (hS _ (h.hm e he)), hO := fun j hj => Nat.lt_of_lt_of_le (h.hO j hj) k.size }⟩
theorem IsS.lt {w : World} {O : Nat → Prop} {p : Nat} {s : St} (h : IsS w O p s) : ∀ j, O j → j < w.heap.size := by
  obtain ⟨b, m, F, h⟩ := h
  exact h.hO
section
variable {w0 w w' : World} {p : Nat} {G : Nat → Prop} {v : Value} {s : St} {L : Bs}
theorem PairS.below (h : PairS w0 w p G v s L) : Below w0.heap.size w0 w := by
  obtain ⟨O, P, h1, h2, h3, _⟩ := h
  exact h3
theorem PairS.slice (h : PairS w0 w p G v s L) : ∃ a c, v = .slice a L.length c := by
  obtain ⟨O, P, h1, h2, h3, h4, _⟩ := h
  obtain ⟨a, c, e⟩ := Kd.R_slice h4
  exact ⟨a, c, by rw [e, lift_len]⟩
theorem PairS.next (h : PairS w0 w p G v s L) (k : Below w.heap.size w w') : PairS w0 w' p G v s L ∧ KeepG G w w' := by
  obtain ⟨O, P, h1, h2, h3, h4, h5, h6⟩ := h
  exact ⟨⟨O, P, h1, h2.next k, bnext h3 k, Kd.R_below h4 k, h5, fun q hq => ⟨(h6 q hq).1, (h6 q hq).2.1, Nat.lt_of_lt_of_le (h6 q hq).2.2 k.size⟩⟩, fun q hq => k.block q (h6 q hq).2.2⟩
/-- A variable more. -/
theorem PairS.alloc (h : PairS w0 w p G v s L) (o : Obj) : PairS w0 (w.alloc o) p (fun q => G q ∨ q = w.heap.size) v s L := by
  have k := bl_alloc (Below.refl w.heap.size w) o
  obtain ⟨O, P, h1, h2, h3, h4, h5, h6⟩ := h
  refine ⟨O, fun q => P q ∧ q < w.heap.size, h1, h2.next k, bnext h3 k, Kd.R_mono (Kd.R_below (Kd.R_bound h4) k) (fun q hq => ⟨hq.1, hq.2.2.1⟩), fun q hq => ⟨(h5 q hq.1).1, fun hg => hg.elim (h5 q hq.1).2 fun e => by have := hq.2; omega⟩, fun q hq => ?_⟩
  rw [World.size_alloc]
  rcases hq with hq | rfl
  · exact ⟨(h6 q hq).1, (h6 q hq).2.1, Nat.lt_succ_of_lt (h6 q hq).2.2⟩
  · exact ⟨fun ho => by have := h2.lt _ ho; omega, h3.size, Nat.lt_succ_self _⟩
/-- A variable is written. -/
theorem PairS.set (h : PairS w0 w p G v s L) {g : Nat} (hg : G g) (i : Nat) (u : Value) : PairS w0 (w.setCell ⟨g, i, none⟩ u) p G v s L := by
  obtain ⟨O, P, h1, h2, h3, h4, h5, h6⟩ := h
  have hc : Chg (fun j => j = g) w (w.setCell ⟨g, i, none⟩ u) := Chg.setCell (S := fun j => j = g) (p := ⟨g, i, none⟩) (Chg.refl _ _) (.inl rfl) _
  exact ⟨O, P, h1, h2.chg hc fun j hj e => (h6 g hg).1 (e ▸ hj), bchg h3 hc fun j e => by rw [e]; exact (h6 g hg).2.1, Kd.R_far (p := ⟨g, i, none⟩) h4 (fun q hq e => (h5 q hq).2 (by rw [e]; exact hg)) u, h5, fun q hq => by rw [World.size_setCell]; exact h6 q hq⟩
/-- Fewer variables. -/
theorem PairS.fewer {G' : Nat → Prop} (h : PairS w0 w p G v s L) (hG : ∀ q, G' q → G q) : PairS w0 w p G' v s L := by
  obtain ⟨O, P, h1, h2, h3, h4, h5, h6⟩ := h
  exact ⟨O, P, h1, h2, h3, h4, fun q hq => ⟨(h5 q hq).1, fun hg => (h5 q hq).2 (hG q hg)⟩, fun q hq => h6 q (hG q hq)⟩
theorem pairs_prog {O O' P : Nat → Prop} {s' : St} (h1 : ∀ j, O j → w0.heap.size ≤ j) (h3 : Below w0.heap.size w0 w) (h4 : RV w w0.heap.size P v L) (h5 : ∀ q, P q → ¬ O q ∧ ¬ G q) (h6 : ∀ q, G q → ¬ O q ∧ w0.heap.size ≤ q ∧ q < w.heap.size)
    (hS : IsS w' O' p s') (hO : ∀ j, O' j → O j ∨ w.heap.size ≤ j) (hc : Chg O w w') : PairS w0 w' p G v s' L ∧ KeepG G w w' := by
  refine ⟨⟨O', fun q => P q ∧ q < w.heap.size, fun j hj => (hO j hj).elim (h1 j) fun hh => Nat.le_trans h3.size hh, hS, bchg h3 hc h1, ?_, fun q hq => ⟨fun ho => ?_, (h5 q hq.1).2⟩, fun q hq => ⟨fun ho => ?_, (h6 q hq).2.1, Nat.lt_of_lt_of_le (h6 q hq).2.2 hc.size⟩⟩, fun q hq => hc.block q (h6 q hq).2.2 (h6 q hq).1⟩
  · exact Kd.R_mono (Kd.R_step (Kd.R_bound h4) (fun q hq hlt => hc.block q hlt (h5 q hq.1).1)) (fun q hq => ⟨hq.1, hq.2.2.1⟩)
  · rcases hO q ho with hh | hh
    · exact (h5 q hq.1).1 hh
    · omega
  · rcases hO q ho with hh | hh
    · exact (h6 q hq).1 hh
    · have := (h6 q hq).2.2
      omega
theorem pairs_ref {O P : Nat → Prop} {v' : Value} {L' : Bs} (h1 : ∀ j, O j → w0.heap.size ≤ j) (h2 : IsS w O p s) (h3 : Below w0.heap.size w0 w) (h5 : ∀ q, P q → ¬ O q ∧ ¬ G q) (h6 : ∀ q, G q → ¬ O q ∧ w0.heap.size ≤ q ∧ q < w.heap.size)
    (hR : RV w' w0.heap.size (fun q => P q ∨ w.heap.size ≤ q) v' L') (hb : Below w0.heap.size w0 w') (hk : Kept w w' P) : PairS w0 w' p G v' s L' ∧ KeepG G w w' := by
  have hc : Chg P w w' := ⟨hb.os.trans h3.os.symm, hb.tape.trans h3.tape.symm, hb.output.trans h3.output.symm, hk.1, fun j hj hs => hk.2 j hj hs⟩
  have hO := h2.lt
  refine ⟨⟨O, _, h1, h2.chg hc fun j hj hp => (h5 j hp).1 hj, hb, hR, fun q hq => hq.elim (h5 q) fun hh => ⟨fun ho => by have := hO q ho; omega, fun hg => by have := (h6 q hg).2.2; omega⟩, fun q hq => ⟨(h6 q hq).1, (h6 q hq).2.1, Nat.lt_of_lt_of_le (h6 q hq).2.2 hk.1⟩⟩, fun q hq => hk.2 q (h6 q hq).2.2 fun hp => (h5 q hp).2 hq⟩
end
section
variable {w0 w : World} {p : Nat} {G : Nat → Prop} {v : Value} {s : St} {L : Bs} {fly base most k : Nat}
theorem sput (x : Int) (h : PairS w0 w p G v s L) (hx : (Lit.int .i64 x).wf = true) (hl : s.l.length < 100000) :
    Calls Try.prog 12 #[.pointer (some ⟨p, 0, none⟩), .int .i64 x] w fun e w' => e = .returned (.bool (!decide (s.has x = true ∨ x < 0))) ∧ PairS w0 w' p G v (s.put x) L ∧ KeepG G w w' := by
  obtain ⟨O, P, h1, h2, h3, h4, h5, h6⟩ := h
  refine (put_calls O p s x w h2 hx hl).mono ?_
  rintro e w' ⟨rfl, hS, hc⟩
  exact ⟨rfl, pairs_prog h1 h3 h4 h5 h6 hS (fun j hj => hj.elim .inl fun hh => .inr hh.1) hc⟩
theorem sdone (x : Int) (h : PairS w0 w p G v s L) (hx : (Lit.int .i64 x).wf = true) (hr : SRel s fly base most k) (hk : k ≤ 1000) :
    Calls Try.prog 18 #[.pointer (some ⟨p, 0, none⟩), .int .i64 x] w fun e w' => e = .returned (.bool (s.find x).isSome) ∧ PairS w0 w' p G v (s.done x) L ∧ KeepG G w w' := by
  have h9 := h
  obtain ⟨O, P, h1, h2, h3, h4, h5, h6⟩ := h
  cases hf : s.find x with
  | none =>
    have e : s.done x = s := by unfold St.done; rw [hf]
    rw [e]
    refine (done_no O p s x w h2 hx hf).mono ?_
    rintro e w' ⟨rfl, rfl⟩
    exact ⟨rfl, h9, fun q hq => rfl⟩
  | some f =>
    refine (done_yes O p s x f w h2 hx hf (hr.flies x f hf) (by have := hr.fle; omega)).mono ?_
    rintro e w' ⟨rfl, hS, hc⟩
    exact ⟨rfl, pairs_prog h1 h3 h4 h5 h6 hS (fun j hj => .inl hj) hc⟩
theorem sdue (now : Nat) (D : U) (h : PairS w0 w p G v s L) (hr : SRel s fly base most k) (hk : k ≤ 1000) (hnow : now ≤ 100000) :
    Calls Try.prog 14 #[.pointer (some ⟨p, 0, none⟩), .int .i64 (now : Int), uv D] w fun e w' => ∃ u, e = .returned u ∧ Ints w' w.heap.size u (s.outs now D) ∧ PairS w0 w' p G v (s.sendAll now D) L ∧ KeepG G w w' := by
  obtain ⟨O, P, h1, h2, h3, h4, h5, h6⟩ := h
  refine (due_all O p s now D w h2 (by omega) (fun q hq => by have := hr.times q hq; omega) (by have := hr.fle; omega)).mono ?_
  rintro e w' ⟨u, rfl, hi, hS, hc⟩
  exact ⟨u, rfl, hi, pairs_prog h1 h3 h4 h5 h6 hS (fun j hj => .inl hj) hc⟩
theorem snext (h : PairS w0 w p G v s L) :
    Calls Try.prog 17 #[.pointer (some ⟨p, 0, none⟩)] w fun e w' => e = .returned (.tuple #[.int .i64 (nxT s.next).1, .bool (nxT s.next).2]) ∧ PairS w0 w' p G v s L ∧ KeepG G w w' := by
  have h9 := h
  obtain ⟨O, P, h1, h2, h3, h4, h5, h6⟩ := h
  refine (next_calls O p s w h2).mono ?_
  rintro e w' ⟨o, rfl, hb, hw⟩
  rw [best_next s o hb]
  exact ⟨by cases s.next <;> rfl, h9.next hw⟩
theorem slen (h : PairS w0 w p G v s L) : Calls Try.prog 13 #[.pointer (some ⟨p, 0, none⟩)] w fun e w' => e = .returned (.int .i64 (s.l.length : Int)) ∧ w' = w := by
  obtain ⟨O, P, h1, h2, h3, h4, h5, h6⟩ := h
  exact len_calls O p s w h2
theorem sflying (h : PairS w0 w p G v s L) : Calls Try.prog 16 #[.pointer (some ⟨p, 0, none⟩)] w fun e w' => e = .returned (.int .i64 (s.flying : Int)) ∧ w' = w := by
  obtain ⟨O, P, h1, h2, h3, h4, h5, h6⟩ := h
  exact flying_calls O p s w h2
/-- The reference's variable, as a value. -/
abbrev rv (v : Value) (fly base most : Nat) : Value := .agg #[v, .int .i64 (fly : Int), .int .i64 (base : Int), .int .i64 (most : Int)]
theorem rput (x : Int) (t : St) (h : PairS w0 w p G v s t.l) (hl : t.l.length ≤ 100000) :
    Calls Try.prog 20 #[rv v t.fly t.base t.most, .int .i64 x] w fun e w' => ∃ v', e = .returned (.tuple #[rv v' t.fly t.base t.most, .bool (decide (¬ (t.has x = true ∨ x < 0)))]) ∧ PairS w0 w' p G v' s (t.put x).l ∧ KeepG G w w' := by
  obtain ⟨O, P, h1, h2, h3, h4, h5, h6⟩ := h
  obtain ⟨kk, hkk⟩ := (put_ev t x hl).rounds
  refine (telemeterref17_Put.calls kk P v (lift t.l) _ _ _ x _ _ _ _ _ w0 w h3 h4 hkk).mono ?_
  rintro e w' ⟨v', rfl, hR, hb, hk⟩
  exact ⟨v', rfl, pairs_ref h1 h2 h3 h5 h6 hR hb hk⟩
theorem rdone (x : Int) (t : St) (h : PairS w0 w p G v s t.l) (hl : t.l.length ≤ 100000) (hup : t.l.Pairwise fun p q => p.1 < q.1) :
    Calls Try.prog 22 #[rv v t.fly t.base t.most, .int .i64 x] w fun e w' => ∃ v', e = .returned (.tuple #[rv v' t.fly t.base t.most, .bool (t.find x).isSome]) ∧ PairS w0 w' p G v' s (t.done x).l ∧ KeepG G w w' := by
  obtain ⟨O, P, h1, h2, h3, h4, h5, h6⟩ := h
  obtain ⟨kk, hkk⟩ := (done_ev t x hl hup).rounds
  refine (telemeterref17_Done.calls kk P v (lift t.l) _ _ _ x _ _ _ _ _ w0 w h3 h4 hkk).mono ?_
  rintro e w' ⟨v', rfl, hR, hb, hk⟩
  exact ⟨v', rfl, pairs_ref h1 h2 h3 h5 h6 hR hb hk⟩
theorem reads_of_R {a : Option Addr} {n c : Nat} {B : Nat} {P : Nat → Prop} (h : RV w B P (.slice a n c) L) : n = (lift L).length ∧ n ≤ c ∧ Kd.C k70 w a (lift L).length (lift L) := by
  obtain ⟨h1, h2, h3⟩ := Kd.R_reads' h
  exact ⟨h1, h2, h3⟩
theorem ints_of_R {B : Nat} {P : Nat → Prop} {u : Value} {l : List Int} (h : Kd.R (Kd.int .i64) 3 w B P u l) : Ints w B u l := by
  obtain ⟨_, inner, ho, hr⟩ := h
  have e : inner = encs (Value.int .i64) l := Kd.reps_encs hr
  rw [e] at ho
  exact ints_of rfl ho
theorem rdue (now : Nat) (D : U) (t : St) (h : PairS w0 w p G v s t.l) (hr : SRel t fly base most k) (hk : k ≤ 1000) (hb1 : 1 ≤ base) (hb2 : base ≤ most) (hm : most ≤ 1000) (hnow : now ≤ 100000) :
    Calls Try.prog 21 #[rv v t.fly t.base t.most, .int .i64 (now : Int), uv D] w fun e w' => ∃ v' u, e = .returned (.tuple #[rv v' t.fly t.base t.most, u]) ∧ Ints w' w.heap.size u (t.outs now D) ∧ PairS w0 w' p G v' s (t.sendAll now D).l ∧ KeepG G w w' := by
  have h9 := h
  obtain ⟨O, P, h1, h2, h3, h4, h5, h6⟩ := h
  obtain ⟨a, c, rfl⟩ := Kd.R_slice h4
  obtain ⟨e1, e2, hC⟩ := reads_of_R h4
  obtain ⟨kk, hkk⟩ := (due_ev t now D (by rw [hr.base]; exact hb1) (by rw [hr.base, hr.most]; exact hb2) (by rw [hr.most]; exact hm) (by omega) (by omega) (by have := hr.len; omega) k (by omega) hr.times hr.fl).rounds
  refine (telemeterref17_Due.calls kk a c (lift t.l) _ _ _ _ _ _ _ _ _ _ w hC e2 hkk).mono ?_
  rintro e w' ⟨v', u, rfl, hR, hRi, hb⟩
  have hO := h2.lt
  refine ⟨v', u, rfl, ints_of_R hRi, ⟨O, fun q => w.heap.size ≤ q, h1, h2.next hb, bnext h3 hb, Kd.R_mono (Kd.R_lower (Kd.R_bound hR) h3.size) (fun q hq => hq.2.1), fun q hq => ⟨fun ho => by have := hO q ho; omega, fun hg => by have := (h6 q hg).2.2; omega⟩, fun q hq => ⟨(h6 q hq).1, (h6 q hq).2.1, Nat.lt_of_lt_of_le (h6 q hq).2.2 hb.size⟩⟩, fun q hq => hb.block q (h6 q hq).2.2⟩
theorem rnext (t : St) (h : PairS w0 w p G v s t.l) (hl : t.l.length ≤ 100000) :
    Calls Try.prog 23 #[rv v t.fly t.base t.most] w fun e w' => e = .returned (.tuple #[.int .i64 (nxT t.next).1, .bool (nxT t.next).2]) ∧ Below w.heap.size w w' := by
  obtain ⟨O, P, h1, h2, h3, h4, h5, h6⟩ := h
  obtain ⟨a, c, rfl⟩ := Kd.R_slice h4
  obtain ⟨e1, e2, hC⟩ := reads_of_R h4
  obtain ⟨kk, hkk⟩ := (next_ev t t.fly t.base t.most hl).rounds
  exact telemeterref17_Next.calls kk a c (lift t.l) _ _ _ _ _ w hC e2 hkk
theorem rflying (t : St) (h : PairS w0 w p G v s t.l) (hl : t.l.length ≤ 100000) :
    Calls Try.prog 24 #[rv v t.fly t.base t.most] w fun e w' => e = .returned (.int .i64 (flyers t.l : Int)) ∧ Below w.heap.size w w' := by
  obtain ⟨O, P, h1, h2, h3, h4, h5, h6⟩ := h
  obtain ⟨a, c, rfl⟩ := Kd.R_slice h4
  obtain ⟨e1, e2, hC⟩ := reads_of_R h4
  obtain ⟨kk, hkk⟩ := (flying_ev t.l t.fly t.base t.most hl).rounds
  exact telemeterref17_Flying.calls kk a c (lift t.l) _ _ _ _ w hC e2 hkk
theorem rnew (fly base most : Nat) (w : World) (h1 : 1 ≤ fly) (h2 : fly ≤ 64) (h3 : 1 ≤ base) (h4 : base ≤ most) (h5 : most ≤ 1000) :
    Calls Try.prog 19 #[.int .i64 (fly : Int), .int .i64 (base : Int), .int .i64 (most : Int)] w fun e w' => ∃ v', e = .returned (.tuple #[rv v' fly base most, .bool true]) ∧ RV w' w.heap.size (fun _ => True) v' [] ∧ Below w.heap.size w w' := by
  have h : telemeterref17_New.f (fly : Int) (base : Int) (most : Int) = some (([] : List S70), (fly : Int), (base : Int), (most : Int), true) := by
    unfold telemeterref17_New.f
    rw [if_pos (by omega), if_pos (by omega), if_pos (by omega), if_pos (by omega)]
    simp
    omega
  exact telemeterref17_New.calls _ _ _ _ _ _ _ _ w h
theorem pairs_start {w1 : World} (hM : Mine w0 w p s) (hR : RV w1 w.heap.size (fun _ => True) v L) (hb : Below w.heap.size w w1) : PairS w0 w1 p (fun _ => False) v s L := by
  obtain ⟨O, h1, h2, h3⟩ := hM
  have hO := h2.lt
  exact ⟨O, fun q => w.heap.size ≤ q, h1, h2.next hb, bnext h3 hb, Kd.R_mono (Kd.R_lower (Kd.R_bound hR) h3.size) (fun q hq => hq.2.1), fun q hq => ⟨fun ho => by have := hO q ho; omega, fun hg => hg⟩, fun q hq => hq.elim⟩
end
/-- The same, and blocks H that the sender does not write. -/
def PairH (w0 w : World) (p : Nat) (G H : Nat → Prop) (v : Value) (s : St) (L : Bs) : Prop :=
  ∃ O P, (∀ j, O j → w0.heap.size ≤ j) ∧ IsS w O p s ∧ Below w0.heap.size w0 w ∧ RV w w0.heap.size P v L ∧ (∀ q, P q → ¬ O q ∧ ¬ G q) ∧ (∀ q, G q → ¬ O q ∧ w0.heap.size ≤ q ∧ q < w.heap.size) ∧ ∀ q, H q → ¬ O q ∧ q < w.heap.size
section
variable {w0 w w' : World} {p : Nat} {G H : Nat → Prop} {v : Value} {s : St} {L : Bs} {fly base most k : Nat}
theorem PairH.slice (h : PairH w0 w p G H v s L) : ∃ a c, v = .slice a L.length c := by
  obtain ⟨O, P, h1, h2, h3, h4, _⟩ := h
  obtain ⟨a, c, e⟩ := Kd.R_slice h4
  exact ⟨a, c, by rw [e, lift_len]⟩
theorem PairH.below (h : PairH w0 w p G H v s L) : Below w0.heap.size w0 w := by
  obtain ⟨O, P, h1, h2, h3, _⟩ := h
  exact h3
theorem PairH.alloc (h : PairH w0 w p G H v s L) (o : Obj) : PairH w0 (w.alloc o) p (fun q => G q ∨ q = w.heap.size) H v s L := by
  have k := bl_alloc (Below.refl w.heap.size w) o
  obtain ⟨O, P, h1, h2, h3, h4, h5, h6, h7⟩ := h
  refine ⟨O, fun q => P q ∧ q < w.heap.size, h1, h2.next k, bnext h3 k, Kd.R_mono (Kd.R_below (Kd.R_bound h4) k) (fun q hq => ⟨hq.1, hq.2.2.1⟩), fun q hq => ⟨(h5 q hq.1).1, fun hg => hg.elim (h5 q hq.1).2 fun e => by have := hq.2; omega⟩, fun q hq => ?_, fun q hq => ?_⟩
  · rw [World.size_alloc]
    rcases hq with hq | rfl
    · exact ⟨(h6 q hq).1, (h6 q hq).2.1, Nat.lt_succ_of_lt (h6 q hq).2.2⟩
    · exact ⟨fun ho => by have := h2.lt _ ho; omega, h3.size, Nat.lt_succ_self _⟩
  · rw [World.size_alloc]
    exact ⟨(h7 q hq).1, Nat.lt_succ_of_lt (h7 q hq).2⟩
theorem PairH.set (h : PairH w0 w p G H v s L) {g : Nat} (hg : G g) (i : Nat) (u : Value) : PairH w0 (w.setCell ⟨g, i, none⟩ u) p G H v s L := by
  obtain ⟨O, P, h1, h2, h3, h4, h5, h6, h7⟩ := h
  have hc : Chg (fun j => j = g) w (w.setCell ⟨g, i, none⟩ u) := Chg.setCell (S := fun j => j = g) (p := ⟨g, i, none⟩) (Chg.refl _ _) (.inl rfl) _
  exact ⟨O, P, h1, h2.chg hc fun j hj e => (h6 g hg).1 (e ▸ hj), bchg h3 hc fun j e => by rw [e]; exact (h6 g hg).2.1, Kd.R_far (p := ⟨g, i, none⟩) h4 (fun q hq e => (h5 q hq).2 (by rw [e]; exact hg)) u, h5, fun q hq => by rw [World.size_setCell]; exact h6 q hq, fun q hq => by rw [World.size_setCell]; exact h7 q hq⟩
theorem rdueH (now : Nat) (D : U) (t : St) (h : PairS w0 w p G v s t.l) (hr : SRel t fly base most k) (hk : k ≤ 1000) (hb1 : 1 ≤ base) (hb2 : base ≤ most) (hm : most ≤ 1000) (hnow : now ≤ 100000) :
    Calls Try.prog 21 #[rv v t.fly t.base t.most, .int .i64 (now : Int), uv D] w fun e w' => ∃ v' u, e = .returned (.tuple #[rv v' t.fly t.base t.most, u]) ∧ Ints w' w.heap.size u (t.outs now D) ∧ PairH w0 w' p G (fun q => w.heap.size ≤ q ∧ q < w'.heap.size) v' s (t.sendAll now D).l ∧ KeepG G w w' ∧ Below w.heap.size w w' := by
  have h9 := h
  obtain ⟨O, P, h1, h2, h3, h4, h5, h6⟩ := h
  obtain ⟨a, c, rfl⟩ := Kd.R_slice h4
  obtain ⟨e1, e2, hC⟩ := reads_of_R h4
  obtain ⟨kk, hkk⟩ := (due_ev t now D (by rw [hr.base]; exact hb1) (by rw [hr.base, hr.most]; exact hb2) (by rw [hr.most]; exact hm) (by omega) (by omega) (by have := hr.len; omega) k (by omega) hr.times hr.fl).rounds
  refine (telemeterref17_Due.calls kk a c (lift t.l) _ _ _ _ _ _ _ _ _ _ w hC e2 hkk).mono ?_
  rintro e w' ⟨v', u, rfl, hR, hRi, hb⟩
  have hO := h2.lt
  refine ⟨v', u, rfl, ints_of_R hRi, ⟨O, fun q => w.heap.size ≤ q, h1, h2.next hb, bnext h3 hb, Kd.R_mono (Kd.R_lower (Kd.R_bound hR) h3.size) (fun q hq => hq.2.1), fun q hq => ⟨fun ho => by have := hO q ho; omega, fun hg => by have := (h6 q hg).2.2; omega⟩, fun q hq => ⟨(h6 q hq).1, (h6 q hq).2.1, Nat.lt_of_lt_of_le (h6 q hq).2.2 hb.size⟩, fun q hq => ⟨fun ho => by have := hO q ho; omega, hq.2⟩⟩, fun q hq => hb.block q (h6 q hq).2.2, hb⟩
theorem sdueH (now : Nat) (D : U) (h : PairH w0 w p G H v s L) (hr : SRel s fly base most k) (hk : k ≤ 1000) (hnow : now ≤ 100000) :
    Calls Try.prog 14 #[.pointer (some ⟨p, 0, none⟩), .int .i64 (now : Int), uv D] w fun e w' => ∃ u, e = .returned u ∧ Ints w' w.heap.size u (s.outs now D) ∧ PairS w0 w' p G v (s.sendAll now D) L ∧ KeepG G w w' ∧ KeepG H w w' ∧ w.heap.size ≤ w'.heap.size := by
  obtain ⟨O, P, h1, h2, h3, h4, h5, h6, h7⟩ := h
  refine (due_all O p s now D w h2 (by omega) (fun q hq => by have := hr.times q hq; omega) (by have := hr.fle; omega)).mono ?_
  rintro e w' ⟨u, rfl, hi, hS, hc⟩
  obtain ⟨a1, a2⟩ := pairs_prog h1 h3 h4 h5 h6 hS (fun j hj => .inl hj) hc
  exact ⟨u, rfl, hi, a1, a2, fun q hq => hc.block q (h7 q hq).2 (h7 q hq).1, hc.size⟩
theorem Ints.kept {w1 : World} {B : Nat} {u : Value} {l : List Int} (h : Ints w1 B u l) (hw : ∀ q, B ≤ q → q < w1.heap.size → w.heap[q]? = w1.heap[q]?) (hz : w1.heap.size ≤ w.heap.size) (k : KeepG (fun q => B ≤ q ∧ q < w1.heap.size) w w') (hs : w.heap.size ≤ w'.heap.size) : Ints w' B u l := by
  obtain ⟨a, cap, h1, h2, h3⟩ := h
  refine ⟨a, cap, h1, h2.far fun ad had hp => ⟨Nat.le_trans hz hs, ?_⟩, h3⟩
  obtain ⟨ad', had', hlt, _⟩ := h2.2.2.2 hp
  have : ad' = ad := by rw [had] at had'; exact (Option.some.inj had').symm
  subst this
  exact (k _ ⟨h3 _ had, hlt⟩).trans (hw _ (h3 _ had) hlt)
end
end Go.Proofs.Ytelodofjokmfjaa.Tele
