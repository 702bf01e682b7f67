/- What the laws WindowOpen and WindowTurns want to know of the plain windows. No conditions. -/
import Derived.Test.YtjpfamminemegaaPWin2
import Derived.Test.YtjpfamminemegaaPSk3
set_option linter.unusedVariables false
set_option linter.unusedSimpArgs false
namespace Go.Proofs.Ytjpfamminemegaa.Tele
namespace Win
/-- WindowOpen's loop: s0 was closed; the open while's count of ka is no less than c. -/
structure OpenInv (m : Win) (n : Nat) (s0 : Sk) (ka : List UInt8) (c : Nat) : Prop where
  now : m.now ≤ n
  last : (m.turn n).last = some s0
  ok : (m.turn n).this.Ok
  le : c ≤ (m.turn n).this.count ka
theorem open_start (seed : U) (n : Nat) (old ka : List UInt8) (hn : 2 ≤ n) (hn2 : n ≤ 1099511627776) :
    (new 4 64 seed n).err 0 = 0 ∧ ∃ s0, s0.Ok ∧ s0.count old = 7 ∧ OpenInv ((new 4 64 seed n).add 0 old 7) n s0 ka 0 := by
  have h0 : (new 4 64 seed n).ok ((0 : Nat) : Int) = true := ok_yes _ _ (Nat.zero_le _) (by omega)
  obtain ⟨t1, t2, t3, t4, t5⟩ := new_turn 4 64 seed n 0 (by omega)
  have e1 := add_yes (new 4 64 seed n) 0 old 7 h0
  have ok0 := Sk.new_ok 4 64 (seed + BitVec.ofNat 64 (0 / n)) (by omega) (by omega) (by omega) (by omega)
  have al0 := Sk.alone_new 4 64 (seed + BitVec.ofNat 64 (0 / n)) old
  obtain ⟨m1, hm1⟩ : ∃ m1, m1 = (new 4 64 seed n).add ((0 : Nat) : Int) old 7 := ⟨_, rfl⟩
  have s1 : m1.this = (Sk.new 4 64 (seed + BitVec.ofNat 64 (0 / n))).add old 7 := by rw [hm1, e1, ← t1]
  have n1 : m1.now = 0 := by rw [hm1, e1]; exact t2
  have l1 : m1.long = n := by rw [hm1, e1]; exact t3
  have r1 : m1.rows = 4 := by rw [hm1, e1]; exact t4
  have w1 : m1.W = 64 := by rw [hm1, e1]; exact t5
  have ok1 := Sk.add_ok _ ok0 old 7
  have al1 := Sk.alone_add _ ok0 old 0 7 al0
  rw [← s1] at ok1 al1
  have hd : n / m1.long = m1.now / m1.long + 1 := by rw [n1, l1, Nat.div_self (by omega), Nat.zero_div]
  have ht := turn_to m1 n hd
  refine ⟨err_yes _ _ h0, m1.this, ok1, Sk.alone_count _ ok1 old _ al1, ?_⟩
  show OpenInv ((new 4 64 seed n).add ((0 : Nat) : Int) old 7) n m1.this ka 0
  rw [← hm1]
  refine ⟨by omega, by rw [ht], ?_, Nat.zero_le _⟩
  rw [ht]
  show (m1.fresh _).Ok
  unfold fresh
  rw [r1, w1]
  exact Sk.new_ok 4 64 _ (by omega) (by omega) (by omega) (by omega)
theorem open_step (m : Win) (n : Nat) (s0 : Sk) (ka key old : List UInt8) (c : Nat) (hn2 : n ≤ 1099511627776) (h : OpenInv m n s0 ka c) (h7 : s0.count old = 7) :
    m.err (n : Int) = 0 ∧ (m.add (n : Int) key 1).err (n : Int) = 0 ∧ c ≤ (m.add (n : Int) key 1).opened (n : Int) ka ∧ (m.add (n : Int) key 1).turnAny (n : Int) = m.add (n : Int) key 1 ∧ (m.add (n : Int) key 1).closed (n : Int) old = 7 ∧
      OpenInv (m.add (n : Int) key 1) n s0 ka ((m.add (n : Int) key 1).opened (n : Int) ka) := by
  have hy := ok_yes m n h.now hn2
  have e1 := add_yes m n key 1 hy
  obtain ⟨m1, hm1⟩ : ∃ m1, m1 = m.add (n : Int) key 1 := ⟨_, rfl⟩
  rw [← hm1] at e1 ⊢
  have n1 : m1.now = n := by rw [e1]; exact (turn_now m n).1
  have s1 : m1.this = (m.turn n).this.add key 1 := by rw [e1]
  have l1 : m1.last = some s0 := by rw [e1]; exact h.last
  have hy1 := ok_yes m1 n (by omega) hn2
  have tr : m1.turn n = m1 := by
    have := turn_refl m1
    rwa [n1] at this
  have ho : m1.opened (n : Int) ka = m1.this.count ka := by rw [opened_yes _ _ _ hy1, tr]
  have hc := Sk.count_mono _ h.ok key ka 1
  rw [← s1] at hc
  refine ⟨err_yes _ _ hy, err_yes _ _ hy1, by rw [ho]; exact Nat.le_trans h.le hc, by rw [turnAny_yes _ _ hy1, tr], by rw [closed_yes _ _ _ hy1, tr, l1]; exact h7, ?_⟩
  rw [ho]
  refine ⟨by omega, by rw [tr, l1], ?_, by rw [tr]; exact Nat.le_refl _⟩
  rw [tr, s1]
  exact Sk.add_ok _ h.ok _ _

/-- WindowTurns' loop: in while q, i of which are counted, so many of the key. -/
structure TurnInv (m : Win) (n q top : Nat) (key : List UInt8) (i many : Nat) : Prop where
  now : m.now ≤ top
  long : m.long = n
  wide : m.rows = 3 ∧ m.W = 16
  s : ∃ s : Sk, s.Ok ∧ s.Low ∧ s.total = i ∧ s.AtLeast key many ∧ (∀ t, t / n = q → m.now ≤ t → (m.turn t).this = s) ∧ (i = 0 ∧ many = 0 ∨ m.now / n = q)
theorem turn_start (seed : U) (n q top : Nat) (key : List UInt8) (hn : 1 ≤ n) : TurnInv (new 3 16 seed n) n q top key 0 0 := by
  refine ⟨Nat.zero_le _, rfl, ⟨rfl, rfl⟩, Sk.new 3 16 (seed + BitVec.ofNat 64 q), Sk.new_ok _ _ _ (by omega) (by omega) (by omega) (by omega), Sk.low_new _ _ _, rfl, fun j hj => Nat.zero_le _, fun t ht _ => ?_, .inl ⟨rfl, rfl⟩⟩
  rw [(new_turn 3 16 seed n t hn).1, ht]
theorem turn_step (m : Win) (n q top t : Nat) (key k : List UInt8) (i many many' : Nat) (hi : i < 60) (h : TurnInv m n q top key i many) (ht : t / n = q) (htop : top ≤ t) (htm : t ≤ 1099511627776) (hm : many' = many ∨ k = key ∧ many' = many + 1) (hmm : many ≤ i) :
    m.err (t : Int) = 0 ∧ TurnInv (m.add (t : Int) k 1) n q t key (i + 1) many' := by
  obtain ⟨s, hok, hlow, htot, hat, hs, _⟩ := h.s
  have hle : m.now ≤ t := Nat.le_trans h.now htop
  have hy := ok_yes m t hle htm
  have e1 := add_yes m t k 1 hy
  have hthis := hs t ht hle
  obtain ⟨m1, hm1⟩ : ∃ m1, m1 = m.add (t : Int) k 1 := ⟨_, rfl⟩
  rw [← hm1] at e1 ⊢
  obtain ⟨a1, a2, a3, a4, a5⟩ := turn_now m t
  have n1 : m1.now = t := by rw [e1]; exact a1
  have l1 : m1.long = n := by rw [e1]; exact a2.trans h.long
  have s1 : m1.this = s.add k 1 := by rw [e1, hthis]
  refine ⟨err_yes _ _ hy, by omega, l1, ⟨by rw [e1]; exact a3.trans h.wide.1, by rw [e1]; exact a4.trans h.wide.2⟩, s.add k 1, Sk.add_ok _ hok _ _, Sk.low_add _ hok hlow _ _, by rw [Sk.total_add _ _ _ (by omega), htot], ?_, fun t' ht' _ => ?_, .inr (by rw [n1]; exact ht)⟩
  · rcases hm with rfl | ⟨rfl, rfl⟩
    · exact Sk.atLeast_mono _ hok _ _ _ _ hat
    · exact Sk.atLeast_own _ hok _ _ _ (by omega) hat
  · rw [turn_in m1 t' (by rw [l1, n1, ht', ht])]
    exact s1
theorem turn_end (m : Win) (n q top t1 t2 : Nat) (key : List UInt8) (i many : Nat) (hi : i ≤ 60) (hn : 1 ≤ n) (h : TurnInv m n q top key i many) (htop : top ≤ t1) (h1 : t1 / n = q + 1) (h2 : t2 / n = q + 2) (h12 : t1 ≤ t2) (h2m : t2 ≤ 1099511627776) (hz : m.now / n ≤ q) (hmi : many ≤ i) :
    m.err (t1 : Int) = 0 ∧ many ≤ m.closed (t1 : Int) key ∧ m.closed (t1 : Int) key ≤ i ∧ (m.turnAny (t1 : Int)).err (t2 : Int) = 0 ∧ (m.turnAny (t1 : Int)).closed (t2 : Int) key = 0 := by
  obtain ⟨s, hok, hlow, htot, hat, hs, hor⟩ := h.s
  have hy := ok_yes m t1 (Nat.le_trans h.now htop) (by omega)
  rw [turnAny_yes _ _ hy, closed_yes _ _ _ hy]
  obtain ⟨a1, a2, a3, a4, a5⟩ := turn_now m t1
  have hy2 := ok_yes (m.turn t1) t2 (by omega) h2m
  have hne : ¬ t1 / m.long = m.now / m.long := by rw [h.long, h1]; omega
  have hthis : (m.turn t1).this = m.fresh (t1 / m.long) := by
    unfold turn
    rw [if_neg hne]
    split <;> rfl
  have hc2 : (m.turn t1).closed (t2 : Int) key = 0 := by
    rw [closed_yes _ _ _ hy2, turn_to (m.turn t1) t2 (by rw [a1, a2, h.long, h1, h2])]
    show (m.turn t1).this.count key = 0
    rw [hthis]
    unfold fresh
    exact Sk.count_new _ _ _ _ (by rw [h.wide.1]; omega)
  refine ⟨err_yes _ _ hy, ?_, ?_, err_yes _ _ hy2, hc2⟩
  · by_cases hd : t1 / m.long = m.now / m.long + 1
    · rw [turn_to m t1 hd]
      rcases hor with ⟨_, hm0⟩ | hq
      · omega
      · have ht : (m.turn m.now).this = s := hs m.now hq (Nat.le_refl _)
        rw [turn_refl] at ht
        show many ≤ m.this.count key
        rw [ht]
        exact Sk.atLeast_count s key many (by omega) hat
    · have hl : (m.turn t1).last = none := by
        unfold turn
        rw [if_neg hne, if_neg hd]
      rcases hor with ⟨_, hm0⟩ | hq
      · omega
      · exact absurd (by rw [h.long, h1, hq]) hd
  · by_cases hd : t1 / m.long = m.now / m.long + 1
    · rw [turn_to m t1 hd]
      have hq : m.now / n = q := by rw [h.long, h1] at hd; omega
      have ht : (m.turn m.now).this = s := hs m.now hq (Nat.le_refl _)
      rw [turn_refl] at ht
      show m.this.count key ≤ i
      rw [ht, ← htot]
      exact Sk.count_low s hok hlow key
    · have hl : (m.turn t1).last = none := by
        unfold turn
        rw [if_neg hne, if_neg hd]
      rw [hl]
      exact Nat.zero_le _
end Win
end Go.Proofs.Ytjpfamminemegaa.Tele
