/- Merged texts of the walk: PWin, PWin2, PWin3, Win1, Win2, WinM. No conditions. -/
import Derived.Test.YtjpfamminemegaaBaseB
import Derived.Deep.QuietTactic
import Derived.BigQuiet
set_option linter.unusedVariables false
set_option linter.unusedSimpArgs false
namespace Go.Proofs.Ytjpfamminemegaa.Tele

structure Win where
  rows : Nat
  W : Nat
  seed : U
  long : Nat
  now : Nat
  last : Option Sk
  this : Sk

namespace Win
def fresh (m : Win) (k : Nat) : Sk := Sk.new m.rows m.W (m.seed + BitVec.ofNat 64 k)
/-- May one go on to this time? -/
def ok (m : Win) (now : Int) : Bool := decide ((m.now : Int) ≤ now) && decide (now ≤ 1099511627776)
/-- Goes on to a time that one may go on to. -/
def turn (m : Win) (now : Nat) : Win :=
  if now / m.long = m.now / m.long then { m with now := now }
  else if now / m.long = m.now / m.long + 1 then { m with now := now, last := some m.this, this := m.fresh (now / m.long) }
  else { m with now := now, last := none, this := m.fresh (now / m.long) }
def turnAny (m : Win) (now : Int) : Win := if m.ok now then m.turn now.toNat else m
def add (m : Win) (now : Int) (key : List UInt8) (n : Nat) : Win := if m.ok now then { m.turn now.toNat with this := (m.turn now.toNat).this.add key n } else m
def err (m : Win) (now : Int) : Int := if m.ok now then 0 else 60
def closed (m : Win) (now : Int) (key : List UInt8) : Nat := if m.ok now then (match (m.turn now.toNat).last with | some s => s.count key | none => 0) else 0
def opened (m : Win) (now : Int) (key : List UInt8) : Nat := if m.ok now then (m.turn now.toNat).this.count key else 0
structure Ok (m : Win) : Prop where
  rows1 : 1 ≤ m.rows
  rows8 : m.rows ≤ 8
  W1 : 1 ≤ m.W
  Wm : m.W ≤ 1024
  long1 : 1 ≤ m.long
  longm : m.long ≤ 1099511627776
  nowm : m.now ≤ 1099511627776
def new (rows W : Nat) (seed : U) (long : Nat) : Win := { rows, W, seed, long, now := 0, last := none, this := Sk.new rows W (seed + BitVec.ofNat 64 0) }
theorem new_ok (rows W : Nat) (seed : U) (long : Nat) (h1 : 1 ≤ rows) (h2 : rows ≤ 8) (h3 : 1 ≤ W) (h4 : W ≤ 1024) (h5 : 1 ≤ long) (h6 : long ≤ 1099511627776) : (new rows W seed long).Ok := ⟨h1, h2, h3, h4, h5, h6, Nat.zero_le _⟩
theorem turn_ok (m : Win) (h : m.Ok) (now : Nat) (hn : now ≤ 1099511627776) : (m.turn now).Ok := by
  unfold turn
  split
  · exact ⟨h.1, h.2, h.3, h.4, h.5, h.6, hn⟩
  · split
    · exact ⟨h.1, h.2, h.3, h.4, h.5, h.6, hn⟩
    · exact ⟨h.1, h.2, h.3, h.4, h.5, h.6, hn⟩
end Win
end Go.Proofs.Ytjpfamminemegaa.Tele
set_option linter.unusedVariables false
set_option linter.unusedSimpArgs false
namespace Go.Proofs.Ytjpfamminemegaa.Tele
namespace Win
theorem new_turn (rows W : Nat) (seed : U) (long t : Nat) (hl : 1 ≤ long) :
    ((new rows W seed long).turn t).this = Sk.new rows W (seed + BitVec.ofNat 64 (t / long)) ∧ ((new rows W seed long).turn t).now = t ∧ ((new rows W seed long).turn t).long = long ∧ ((new rows W seed long).turn t).rows = rows ∧ ((new rows W seed long).turn t).W = W := by
  unfold turn
  have h0 : (new rows W seed long).now / (new rows W seed long).long = 0 := by simp [new]
  rw [h0]
  by_cases h1 : t / (new rows W seed long).long = 0
  · rw [if_pos h1]
    have : t / long = 0 := h1
    rw [this]
    exact ⟨rfl, rfl, rfl, rfl, rfl⟩
  · rw [if_neg h1]
    split <;> exact ⟨rfl, rfl, rfl, rfl, rfl⟩
theorem turn_now (m : Win) (t : Nat) : (m.turn t).now = t ∧ (m.turn t).long = m.long ∧ (m.turn t).rows = m.rows ∧ (m.turn t).W = m.W ∧ (m.turn t).seed = m.seed := by
  unfold turn
  split
  · exact ⟨rfl, rfl, rfl, rfl, rfl⟩
  · split <;> exact ⟨rfl, rfl, rfl, rfl, rfl⟩
theorem turn_refl (m : Win) : m.turn m.now = m := by
  unfold turn
  rw [if_pos rfl]
theorem turn_in (m : Win) (t : Nat) (h : t / m.long = m.now / m.long) : m.turn t = { m with now := t } := by unfold turn; rw [if_pos h]
theorem turn_to (m : Win) (t : Nat) (h : t / m.long = m.now / m.long + 1) : m.turn t = { m with now := t, last := some m.this, this := m.fresh (t / m.long) } := by
  have : ¬ t / m.long = m.now / m.long := by omega
  unfold turn
  rw [if_neg this, if_pos h]
theorem ok_yes (m : Win) (t : Nat) (h1 : m.now ≤ t) (h2 : t ≤ 1099511627776) : m.ok (t : Int) = true := by
  unfold ok
  have : (m.now : Int) ≤ (t : Int) := by omega
  have : (t : Int) ≤ 1099511627776 := by omega
  simp [*]
theorem ok_back (m : Win) (t : Int) (h : t < (m.now : Int)) : m.ok t = false := by
  unfold ok
  have : ¬ ((m.now : Int) ≤ t) := by omega
  simp [this]
theorem ok_far (m : Win) (t : Int) (h : 1099511627776 < t) : m.ok t = false := by
  unfold ok
  have : ¬ (t ≤ 1099511627776) := by omega
  simp [this]
theorem err_yes (m : Win) (t : Int) (h : m.ok t = true) : m.err t = 0 := by unfold err; rw [h]; rfl
theorem err_no' (m : Win) (t : Int) (h : m.ok t = false) : m.err t = 60 := by unfold err; rw [h]; rfl
theorem add_yes (m : Win) (t : Nat) (key : List UInt8) (n : Nat) (h : m.ok (t : Int) = true) : m.add (t : Int) key n = { m.turn t with this := (m.turn t).this.add key n } := by unfold add; rw [h]; rfl
theorem add_no (m : Win) (t : Int) (key : List UInt8) (n : Nat) (h : m.ok t = false) : m.add t key n = m := by unfold add; rw [h]; rfl
theorem opened_yes (m : Win) (t : Nat) (key : List UInt8) (h : m.ok (t : Int) = true) : m.opened (t : Int) key = (m.turn t).this.count key := by unfold opened; rw [h]; rfl
theorem turnAny_yes (m : Win) (t : Nat) (h : m.ok (t : Int) = true) : m.turnAny (t : Int) = m.turn t := by unfold turnAny; rw [h]; rfl
theorem closed_yes (m : Win) (t : Nat) (key : List UInt8) (h : m.ok (t : Int) = true) : m.closed (t : Int) key = (match (m.turn t).last with | some s => s.count key | none => 0) := by unfold closed; rw [h]; rfl

/-- All that WindowTimes asks. -/
theorem times (seed : U) (x y : Nat) (far : Int) (k : List UInt8) (hxy : x ≤ y) (hy : y ≤ 65535) (hf : 1099511627776 < far) :
    (new 2 8 seed 10).err (y : Int) = 0 ∧ ((new 2 8 seed 10).add (y : Int) k 2).err (x : Int) = (if x = y then 0 else 60) ∧ (((new 2 8 seed 10).add (y : Int) k 2).add (x : Int) k 3).err far = 60 ∧
      (((new 2 8 seed 10).add (y : Int) k 2).add (x : Int) k 3).add far k 3 = ((new 2 8 seed 10).add (y : Int) k 2).add (x : Int) k 3 ∧
      (((new 2 8 seed 10).add (y : Int) k 2).add (x : Int) k 3).err (y : Int) = 0 ∧ (((new 2 8 seed 10).add (y : Int) k 2).add (x : Int) k 3).opened (y : Int) k = (if x = y then 5 else 2) := by
  have hy0 : (new 2 8 seed 10).ok (y : Int) = true := ok_yes _ _ (Nat.zero_le _) (by omega)
  obtain ⟨t1, t2, t3, t4, t5⟩ := new_turn 2 8 seed 10 y (by omega)
  have e1 := add_yes (new 2 8 seed 10) y k 2 hy0
  obtain ⟨m1, hm1⟩ : ∃ m1, m1 = (new 2 8 seed 10).add (y : Int) k 2 := ⟨_, rfl⟩
  have n1 : m1.now = y := by rw [hm1, e1]; exact t2
  have s1 : m1.this = (Sk.new 2 8 (seed + BitVec.ofNat 64 (y / 10))).add k 2 := by rw [hm1, e1, ← t1]
  have ok0 := Sk.new_ok 2 8 (seed + BitVec.ofNat 64 (y / 10)) (by omega) (by omega) (by omega) (by omega)
  have al0 := Sk.alone_new 2 8 (seed + BitVec.ofNat 64 (y / 10)) k
  have ok1 := Sk.add_ok _ ok0 k 2
  have al1 := Sk.alone_add _ ok0 k 0 2 al0
  rw [← s1] at ok1 al1
  rw [← hm1]
  have hyy : m1.ok (y : Int) = true := ok_yes _ _ (by omega) (by omega)
  by_cases hx : x = y
  · subst hx
    rw [if_pos rfl, if_pos rfl]
    have tr : m1.turn x = m1 := by rw [← n1]; exact turn_refl m1
    have e2 := add_yes m1 x k 3 hyy
    rw [tr] at e2
    obtain ⟨m2, hm2⟩ : ∃ m2, m2 = m1.add (x : Int) k 3 := ⟨_, rfl⟩
    rw [← hm2] at e2 ⊢
    have n2 : m2.now = x := by rw [e2]; exact n1
    have hy2 : m2.ok (x : Int) = true := ok_yes _ _ (by omega) (by omega)
    have tr2 : m2.turn x = m2 := by
      have := turn_refl m2
      rwa [n2] at this
    refine ⟨err_yes _ _ hy0, err_yes _ _ hyy, err_no' _ _ (ok_far _ _ hf), add_no _ _ _ _ (ok_far _ _ hf), err_yes _ _ hy2, ?_⟩
    rw [opened_yes _ _ _ hy2, tr2, e2]
    show (m1.this.add k 3).count k = 5
    rw [Sk.alone_count _ (Sk.add_ok _ ok1 k 3) k _ (Sk.alone_add _ ok1 k _ 3 al1)]
    rfl
  · rw [if_neg hx, if_neg hx]
    have hb : m1.ok (x : Int) = false := ok_back _ _ (by omega)
    rw [add_no _ _ _ _ hb]
    have tr : m1.turn y = m1 := by
      have := turn_refl m1
      rwa [n1] at this
    refine ⟨err_yes _ _ hy0, err_no' _ _ hb, err_no' _ _ (ok_far _ _ hf), add_no _ _ _ _ (ok_far _ _ hf), err_yes _ _ hyy, ?_⟩
    rw [opened_yes _ _ _ hyy, tr, Sk.alone_count _ ok1 k _ al1]
    rfl
end Win
end Go.Proofs.Ytjpfamminemegaa.Tele
set_option linter.unusedVariables false
set_option linter.unusedSimpArgs false
namespace Go.Proofs.Ytjpfamminemegaa.Tele
namespace Win
/-- WindowOpen's loop: s0 was closed; the open while's count of ka is no less than c. -/
structure OpenInv (m : Win) (n : Nat) (s0 : Sk) (ka : List UInt8) (c : Nat) : Prop where
  now : m.now ≤ n
  last : (m.turn n).last = some s0
  ok : (m.turn n).this.Ok
  le : c ≤ (m.turn n).this.count ka
theorem open_start (seed : U) (n : Nat) (old ka : List UInt8) (hn : 2 ≤ n) (hn2 : n ≤ 1099511627776) :
    (new 4 64 seed n).err 0 = 0 ∧ ∃ s0, s0.Ok ∧ s0.count old = 7 ∧ OpenInv ((new 4 64 seed n).add 0 old 7) n s0 ka 0 := by
  have h0 : (new 4 64 seed n).ok ((0 : Nat) : Int) = true := ok_yes _ _ (Nat.zero_le _) (by omega)
  obtain ⟨t1, t2, t3, t4, t5⟩ := new_turn 4 64 seed n 0 (by omega)
  have e1 := add_yes (new 4 64 seed n) 0 old 7 h0
  have ok0 := Sk.new_ok 4 64 (seed + BitVec.ofNat 64 (0 / n)) (by omega) (by omega) (by omega) (by omega)
  have al0 := Sk.alone_new 4 64 (seed + BitVec.ofNat 64 (0 / n)) old
  obtain ⟨m1, hm1⟩ : ∃ m1, m1 = (new 4 64 seed n).add ((0 : Nat) : Int) old 7 := ⟨_, rfl⟩
  have s1 : m1.this = (Sk.new 4 64 (seed + BitVec.ofNat 64 (0 / n))).add old 7 := by rw [hm1, e1, ← t1]
  have n1 : m1.now = 0 := by rw [hm1, e1]; exact t2
  have l1 : m1.long = n := by rw [hm1, e1]; exact t3
  have r1 : m1.rows = 4 := by rw [hm1, e1]; exact t4
  have w1 : m1.W = 64 := by rw [hm1, e1]; exact t5
  have ok1 := Sk.add_ok _ ok0 old 7
  have al1 := Sk.alone_add _ ok0 old 0 7 al0
  rw [← s1] at ok1 al1
  have hd : n / m1.long = m1.now / m1.long + 1 := by rw [n1, l1, Nat.div_self (by omega), Nat.zero_div]
  have ht := turn_to m1 n hd
  refine ⟨err_yes _ _ h0, m1.this, ok1, Sk.alone_count _ ok1 old _ al1, ?_⟩
  show OpenInv ((new 4 64 seed n).add ((0 : Nat) : Int) old 7) n m1.this ka 0
  rw [← hm1]
  refine ⟨by omega, by rw [ht], ?_, Nat.zero_le _⟩
  rw [ht]
  show (m1.fresh _).Ok
  unfold fresh
  rw [r1, w1]
  exact Sk.new_ok 4 64 _ (by omega) (by omega) (by omega) (by omega)
theorem open_step (m : Win) (n : Nat) (s0 : Sk) (ka key old : List UInt8) (c : Nat) (hn2 : n ≤ 1099511627776) (h : OpenInv m n s0 ka c) (h7 : s0.count old = 7) :
    m.err (n : Int) = 0 ∧ (m.add (n : Int) key 1).err (n : Int) = 0 ∧ c ≤ (m.add (n : Int) key 1).opened (n : Int) ka ∧ (m.add (n : Int) key 1).turnAny (n : Int) = m.add (n : Int) key 1 ∧ (m.add (n : Int) key 1).closed (n : Int) old = 7 ∧
      OpenInv (m.add (n : Int) key 1) n s0 ka ((m.add (n : Int) key 1).opened (n : Int) ka) := by
  have hy := ok_yes m n h.now hn2
  have e1 := add_yes m n key 1 hy
  obtain ⟨m1, hm1⟩ : ∃ m1, m1 = m.add (n : Int) key 1 := ⟨_, rfl⟩
  rw [← hm1] at e1 ⊢
  have n1 : m1.now = n := by rw [e1]; exact (turn_now m n).1
  have s1 : m1.this = (m.turn n).this.add key 1 := by rw [e1]
  have l1 : m1.last = some s0 := by rw [e1]; exact h.last
  have hy1 := ok_yes m1 n (by omega) hn2
  have tr : m1.turn n = m1 := by
    have := turn_refl m1
    rwa [n1] at this
  have ho : m1.opened (n : Int) ka = m1.this.count ka := by rw [opened_yes _ _ _ hy1, tr]
  have hc := Sk.count_mono _ h.ok key ka 1
  rw [← s1] at hc
  refine ⟨err_yes _ _ hy, err_yes _ _ hy1, by rw [ho]; exact Nat.le_trans h.le hc, by rw [turnAny_yes _ _ hy1, tr], by rw [closed_yes _ _ _ hy1, tr, l1]; exact h7, ?_⟩
  rw [ho]
  refine ⟨by omega, by rw [tr, l1], ?_, by rw [tr]; exact Nat.le_refl _⟩
  rw [tr, s1]
  exact Sk.add_ok _ h.ok _ _

/-- WindowTurns' loop: in while q, i of which are counted, so many of the key. -/
structure TurnInv (m : Win) (n q top : Nat) (key : List UInt8) (i many : Nat) : Prop where
  now : m.now ≤ top
  long : m.long = n
  wide : m.rows = 3 ∧ m.W = 16
  s : ∃ s : Sk, s.Ok ∧ s.Low ∧ s.total = i ∧ s.AtLeast key many ∧ (∀ t, t / n = q → m.now ≤ t → (m.turn t).this = s) ∧ (i = 0 ∧ many = 0 ∨ m.now / n = q)
theorem turn_start (seed : U) (n q top : Nat) (key : List UInt8) (hn : 1 ≤ n) : TurnInv (new 3 16 seed n) n q top key 0 0 := by
  refine ⟨Nat.zero_le _, rfl, ⟨rfl, rfl⟩, Sk.new 3 16 (seed + BitVec.ofNat 64 q), Sk.new_ok _ _ _ (by omega) (by omega) (by omega) (by omega), Sk.low_new _ _ _, rfl, fun j hj => Nat.zero_le _, fun t ht _ => ?_, .inl ⟨rfl, rfl⟩⟩
  rw [(new_turn 3 16 seed n t hn).1, ht]
theorem turn_step (m : Win) (n q top t : Nat) (key k : List UInt8) (i many many' : Nat) (hi : i < 60) (h : TurnInv m n q top key i many) (ht : t / n = q) (htop : top ≤ t) (htm : t ≤ 1099511627776) (hm : many' = many ∨ k = key ∧ many' = many + 1) (hmm : many ≤ i) :
    m.err (t : Int) = 0 ∧ TurnInv (m.add (t : Int) k 1) n q t key (i + 1) many' := by
  obtain ⟨s, hok, hlow, htot, hat, hs, _⟩ := h.s
  have hle : m.now ≤ t := Nat.le_trans h.now htop
  have hy := ok_yes m t hle htm
  have e1 := add_yes m t k 1 hy
  have hthis := hs t ht hle
  obtain ⟨m1, hm1⟩ : ∃ m1, m1 = m.add (t : Int) k 1 := ⟨_, rfl⟩
  rw [← hm1] at e1 ⊢
  obtain ⟨a1, a2, a3, a4, a5⟩ := turn_now m t
  have n1 : m1.now = t := by rw [e1]; exact a1
  have l1 : m1.long = n := by rw [e1]; exact a2.trans h.long
  have s1 : m1.this = s.add k 1 := by rw [e1, hthis]
  refine ⟨err_yes _ _ hy, by omega, l1, ⟨by rw [e1]; exact a3.trans h.wide.1, by rw [e1]; exact a4.trans h.wide.2⟩, s.add k 1, Sk.add_ok _ hok _ _, Sk.low_add _ hok hlow _ _, by rw [Sk.total_add _ _ _ (by omega), htot], ?_, fun t' ht' _ => ?_, .inr (by rw [n1]; exact ht)⟩
  · rcases hm with rfl | ⟨rfl, rfl⟩
    · exact Sk.atLeast_mono _ hok _ _ _ _ hat
    · exact Sk.atLeast_own _ hok _ _ _ (by omega) hat
  · rw [turn_in m1 t' (by rw [l1, n1, ht', ht])]
    exact s1
theorem turn_end (m : Win) (n q top t1 t2 : Nat) (key : List UInt8) (i many : Nat) (hi : i ≤ 60) (hn : 1 ≤ n) (h : TurnInv m n q top key i many) (htop : top ≤ t1) (h1 : t1 / n = q + 1) (h2 : t2 / n = q + 2) (h12 : t1 ≤ t2) (h2m : t2 ≤ 1099511627776) (hz : m.now / n ≤ q) (hmi : many ≤ i) :
    m.err (t1 : Int) = 0 ∧ many ≤ m.closed (t1 : Int) key ∧ m.closed (t1 : Int) key ≤ i ∧ (m.turnAny (t1 : Int)).err (t2 : Int) = 0 ∧ (m.turnAny (t1 : Int)).closed (t2 : Int) key = 0 := by
  obtain ⟨s, hok, hlow, htot, hat, hs, hor⟩ := h.s
  have hy := ok_yes m t1 (Nat.le_trans h.now htop) (by omega)
  rw [turnAny_yes _ _ hy, closed_yes _ _ _ hy]
  obtain ⟨a1, a2, a3, a4, a5⟩ := turn_now m t1
  have hy2 := ok_yes (m.turn t1) t2 (by omega) h2m
  have hne : ¬ t1 / m.long = m.now / m.long := by rw [h.long, h1]; omega
  have hthis : (m.turn t1).this = m.fresh (t1 / m.long) := by
    unfold turn
    rw [if_neg hne]
    split <;> rfl
  have hc2 : (m.turn t1).closed (t2 : Int) key = 0 := by
    rw [closed_yes _ _ _ hy2, turn_to (m.turn t1) t2 (by rw [a1, a2, h.long, h1, h2])]
    show (m.turn t1).this.count key = 0
    rw [hthis]
    unfold fresh
    exact Sk.count_new _ _ _ _ (by rw [h.wide.1]; omega)
  refine ⟨err_yes _ _ hy, ?_, ?_, err_yes _ _ hy2, hc2⟩
  · by_cases hd : t1 / m.long = m.now / m.long + 1
    · rw [turn_to m t1 hd]
      rcases hor with ⟨_, hm0⟩ | hq
      · omega
      · have ht : (m.turn m.now).this = s := hs m.now hq (Nat.le_refl _)
        rw [turn_refl] at ht
        show many ≤ m.this.count key
        rw [ht]
        exact Sk.atLeast_count s key many (by omega) hat
    · have hl : (m.turn t1).last = none := by
        unfold turn
        rw [if_neg hne, if_neg hd]
      rcases hor with ⟨_, hm0⟩ | hq
      · omega
      · exact absurd (by rw [h.long, h1, hq]) hd
  · by_cases hd : t1 / m.long = m.now / m.long + 1
    · rw [turn_to m t1 hd]
      have hq : m.now / n = q := by rw [h.long, h1] at hd; omega
      have ht : (m.turn m.now).this = s := hs m.now hq (Nat.le_refl _)
      rw [turn_refl] at ht
      show m.this.count key ≤ i
      rw [ht, ← htot]
      exact Sk.count_low s hok hlow key
    · have hl : (m.turn t1).last = none := by
        unfold turn
        rw [if_neg hne, if_neg hd]
      rw [hl]
      exact Nat.zero_le _
end Win
end Go.Proofs.Ytjpfamminemegaa.Tele
namespace Go.Proofs.Ytjpfamminemegaa.Tele
open Go.RowKit
set_option linter.unusedVariables false
set_option linter.unusedSimpArgs false

theorem cell0 {w : World} {b : Nat} {t : TypeId} {v : Value} (h : Blk w b t #[v]) : w.cell? ⟨b, 0, none⟩ = some v := by
  rw [h.cell]; rfl
theorem fresh_calls (b0 b1 b2 rows W : Nat) (seed : U) (k : Nat) (w : World) (h0 : Blk w b0 3 #[.int .i64 (rows : Int)]) (h1 : Blk w b1 3 #[.int .i64 (W : Int)]) (h2 : Blk w b2 22 #[uv seed]) (hr1 : 1 ≤ rows) (hr8 : rows ≤ 8) (hW1 : 1 ≤ W) (hWm : W ≤ 1024) (hk : k ≤ 1099511627776) :
    Calls Try.prog 35 #[.int .i64 (k : Int), pv b0, pv b1, pv b2] w fun e w' => ∃ p c, e = .returned (pv p) ∧ Below w.heap.size w w' ∧ IsSk w' p c (Sk.new rows W (seed + BitVec.ofNat 64 k)) ∧ w.heap.size ≤ p ∧ w.heap.size ≤ c := by
  have q0 := cell0 h0
  have q1 := cell0 h1
  have q2 := cell0 h2
  have hs := Lib.hid (show IntKind.u64.wrap ((seed.toNat : Int) + (k : Int)) = ((seed + BitVec.ofNat 64 k).toNat : Int) by
    have e : (k : Int) = ((BitVec.ofNat 64 k).toNat : Int) := by rw [BitVec.toNat_ofNat, Nat.mod_eq_of_lt (by omega)]
    rw [← u_add, ← e])
  clear h0 h1 h2
  go_enter Try.func35, Try.ntmps35
  go_wp2_with fail
  rw [hs.out]
  refine (new_any rows W _ _ hr1 hr8 hW1 hWm).mono ?_
  rintro e w1 ⟨p, c, rfl, hb, hsk, hp, hc⟩
  go_wp2
  go_ret
  exact ⟨p, c, rfl, hb, hsk, hp, hc⟩

theorem fresh_no (b0 b1 b2 : Nat) (rows W : Int) (seed : U) (w : World) (h0 : Blk w b0 3 #[.int .i64 rows]) (h1 : Blk w b1 3 #[.int .i64 W]) (h2 : Blk w b2 22 #[uv seed]) (hr1 : rows < 1) :
    Calls Try.prog 35 #[.int .i64 0, pv b0, pv b1, pv b2] w fun e w' => e = .returned (.pointer none) ∧ Below w.heap.size w w' := by
  have q0 := cell0 h0
  have q1 := cell0 h1
  have q2 := cell0 h2
  have hs := Lib.hid (show IntKind.u64.wrap ((seed.toNat : Int)) = ((seed + BitVec.ofNat 64 0).toNat : Int) by
    have := u_add seed (BitVec.ofNat 64 0)
    rw [← this]; simp)
  clear h0 h1 h2
  go_enter Try.func35, Try.ntmps35
  go_wp2_with fail
  first | rw [hs.out] | skip
  refine (new_no rows W _ _ (.inl hr1)).mono ?_
  rintro e w1 ⟨rfl, rfl⟩
  go_wp2
  go_ret
  exact ⟨rfl, Below.refl _ _⟩
/-- What the closed while's pointer leads to. -/
def ClosedAt (w : World) (O : Nat → Prop) (po co : Nat) (cl : Value) : Option Sk → Prop
  | none => cl = .pointer none
  | some s => ∃ pc cc, cl = pv pc ∧ IsSk w pc cc s ∧ pc ≠ po ∧ cc ≠ co ∧ O pc ∧ O cc
structure WinAt (w : World) (O : Nat → Prop) (g b0 b1 b2 po co : Nat) (cl : Value) (m : Win) : Prop where
  ok : m.Ok
  bx0 : Blk w b0 3 #[.int .i64 (m.rows : Int)]
  bx1 : Blk w b1 3 #[.int .i64 (m.W : Int)]
  bx2 : Blk w b2 22 #[uv m.seed]
  st : Blk w g 76 #[.func (.func 35) #[] #[pv b0, pv b1, pv b2], .int .i64 (m.long : Int), .int .i64 (m.now : Int), cl, pv po]
  op : IsSk w po co m.this
  ne : b2 ≠ co
  cls : ClosedAt w O po co cl m.last
  inO : O g ∧ O b0 ∧ O b1 ∧ O b2 ∧ O po ∧ O co
/-- Block g is a window; it hangs on the blocks of O alone. -/
def IsWin (w : World) (O : Nat → Prop) (g : Nat) (m : Win) : Prop := ∃ b0 b1 b2 po co cl, WinAt w O g b0 b1 b2 po co cl m
section
variable {w w' : World} {O O' S : Nat → Prop} {g b0 b1 b2 po co : Nat} {cl : Value} {m : Win}
theorem ClosedAt.chg {l : Option Sk} (h : ClosedAt w O po co cl l) (k : Chg S w w') (hS : ∀ j, O j → ¬ S j) : ClosedAt w' O po co cl l := by
  cases l with
  | none => exact h
  | some s =>
    obtain ⟨pc, cc, e, hs, h1, h2, h3, h4⟩ := h
    exact ⟨pc, cc, e, hs.chg k (hS _ h3) (hS _ h4), h1, h2, h3, h4⟩
theorem ClosedAt.mono {l : Option Sk} (h : ClosedAt w O po co cl l) (hO : ∀ j, O j → O' j) : ClosedAt w O' po co cl l := by
  cases l with
  | none => exact h
  | some s =>
    obtain ⟨pc, cc, e, hs, h1, h2, h3, h4⟩ := h
    exact ⟨pc, cc, e, hs, h1, h2, hO _ h3, hO _ h4⟩
theorem WinAt.chg (h : WinAt w O g b0 b1 b2 po co cl m) (k : Chg S w w') (hS : ∀ j, O j → ¬ S j) : WinAt w' O g b0 b1 b2 po co cl m :=
  ⟨h.ok, h.bx0.chg k (hS _ h.inO.2.1), h.bx1.chg k (hS _ h.inO.2.2.1), h.bx2.chg k (hS _ h.inO.2.2.2.1), h.st.chg k (hS _ h.inO.1), h.op.chg k (hS _ h.inO.2.2.2.2.1) (hS _ h.inO.2.2.2.2.2), h.ne, h.cls.chg k hS, h.inO⟩
theorem WinAt.mono (h : WinAt w O g b0 b1 b2 po co cl m) (hO : ∀ j, O j → O' j) : WinAt w O' g b0 b1 b2 po co cl m :=
  ⟨h.ok, h.bx0, h.bx1, h.bx2, h.st, h.op, h.ne, h.cls.mono hO, hO _ h.inO.1, hO _ h.inO.2.1, hO _ h.inO.2.2.1, hO _ h.inO.2.2.2.1, hO _ h.inO.2.2.2.2.1, hO _ h.inO.2.2.2.2.2⟩
theorem WinAt.next (h : WinAt w O g b0 b1 b2 po co cl m) (k : Below w.heap.size w w') : WinAt w' O g b0 b1 b2 po co cl m := h.chg (.of_below (fun _ => False) k) fun _ _ hf => hf
theorem IsWin.chg (h : IsWin w O g m) (k : Chg S w w') (hS : ∀ j, O j → ¬ S j) : IsWin w' O g m := by
  obtain ⟨b0, b1, b2, po, co, cl, h⟩ := h
  exact ⟨b0, b1, b2, po, co, cl, h.chg k hS⟩
theorem IsWin.next (h : IsWin w O g m) (k : Below w.heap.size w w') : IsWin w' O g m := by
  obtain ⟨b0, b1, b2, po, co, cl, h⟩ := h
  exact ⟨b0, b1, b2, po, co, cl, h.next k⟩
theorem IsWin.mono (h : IsWin w O g m) (hO : ∀ j, O j → O' j) : IsWin w O' g m := by
  obtain ⟨b0, b1, b2, po, co, cl, h⟩ := h
  exact ⟨b0, b1, b2, po, co, cl, h.mono hO⟩
end
/-- O, and the blocks that are new. -/
def Plus (O : Nat → Prop) (w w' : World) (j : Nat) : Prop := O j ∨ (w.heap.size ≤ j ∧ j < w'.heap.size)

theorem wnew_yes (rows W long : Nat) (seed : U) (w : World) (h1 : 1 ≤ rows) (h2 : rows ≤ 8) (h3 : 1 ≤ W) (h4 : W ≤ 1024) (h5 : 1 ≤ long) (h6 : long ≤ 1099511627776) :
    Calls Try.prog 26 #[.int .i64 (rows : Int), .int .i64 (W : Int), uv seed, .int .i64 (long : Int)] w fun e w' => ∃ g, e = .returned (pv g) ∧ Below w.heap.size w w' ∧ IsWin w' (Plus (fun _ => False) w w') g (Win.new rows W seed long) := by
  go_enter Try.func26, Try.ntmps26
  go_wp2_with fail
  obtain ⟨W0, hW0⟩ : ∃ W0 : World, W0 = ((w.alloc (.cells #[.int .i64 (rows : Int)] 3)).alloc (.cells #[.int .i64 (W : Int)] 3)).alloc (.cells #[uv seed] 22) := ⟨_, rfl⟩
  have hb0 : Blk W0 w.heap.size 3 #[.int .i64 (rows : Int)] := by rw [hW0]; exact ((Blk.new w _ _).alloc _).alloc _
  have hb1 : Blk W0 (w.heap.size + 1) 3 #[.int .i64 (W : Int)] := by rw [hW0]; have := (Blk.new (w.alloc (.cells #[.int .i64 (rows : Int)] 3)) 3 #[.int .i64 (W : Int)]).alloc (.cells #[uv seed] 22); rwa [World.size_alloc] at this
  have hb2 : Blk W0 (w.heap.size + 1 + 1) 22 #[uv seed] := by rw [hW0]; have := Blk.new ((w.alloc (.cells #[.int .i64 (rows : Int)] 3)).alloc (.cells #[.int .i64 (W : Int)] 3)) 22 #[uv seed]; rwa [World.size_alloc, World.size_alloc] at this
  have hsz : W0.heap.size = w.heap.size + 1 + 1 + 1 := by rw [hW0]; simp
  have hbw : Below w.heap.size w W0 := by rw [hW0]; exact bl_alloc (bl_alloc (bl_alloc (Below.refl _ _) _) _) _
  rw [← hW0]
  clear hW0
  refine (fresh_calls w.heap.size (w.heap.size + 1) (w.heap.size + 1 + 1) rows W seed 0 W0 hb0 hb1 hb2 h1 h2 h3 h4 (by omega)).mono ?_
  rintro e w1 ⟨p, c, rfl, hb, hsk, hp, hc⟩
  replace hb0 := hb0.next hb
  replace hb1 := hb1.next hb
  replace hb2 := hb2.next hb
  replace hbw := bnext hbw hb
  have hs1 := hb.size
  clear hb
  go_wp2
  go_ret
  refine ⟨w1.heap.size, rfl, bl_alloc hbw _, w.heap.size, w.heap.size + 1, w.heap.size + 1 + 1, p, c, .pointer none, Win.new_ok rows W seed long h1 h2 h3 h4 h5 h6, hb0.alloc _, hb1.alloc _, hb2.alloc _, Blk.new _ _ _, hsk.next (bl_alloc (Below.refl _ _) _), by omega, rfl, ?_⟩
  have hpl := hsk.st.lt
  have hcl := hsk.cl.lt
  refine ⟨.inr ⟨by omega, by simp⟩, .inr ⟨by omega, ?_⟩, .inr ⟨by omega, ?_⟩, .inr ⟨by omega, ?_⟩, .inr ⟨by omega, ?_⟩, .inr ⟨by omega, ?_⟩⟩ <;> (rw [World.size_alloc]; omega)
theorem wnew_long (rows W : Nat) (long : Int) (seed : U) (w : World) (h1 : 1 ≤ rows) (h2 : rows ≤ 8) (h3 : 1 ≤ W) (h4 : W ≤ 1024) (h5 : long < 1) :
    Calls Try.prog 26 #[.int .i64 (rows : Int), .int .i64 (W : Int), uv seed, .int .i64 long] w fun e w' => e = .returned (.pointer none) ∧ Below w.heap.size w w' := by
  go_enter Try.func26, Try.ntmps26
  go_wp2_with fail
  refine (fresh_calls w.heap.size (w.heap.size + 1) (w.heap.size + 1 + 1) rows W seed 0 _ (((Blk.new w _ _).alloc _).alloc _) (by have := (Blk.new (w.alloc (.cells #[.int .i64 (rows : Int)] 3)) 3 #[.int .i64 (W : Int)]).alloc (.cells #[uv seed] 22); rwa [World.size_alloc] at this) (by have := Blk.new ((w.alloc (.cells #[.int .i64 (rows : Int)] 3)).alloc (.cells #[.int .i64 (W : Int)] 3)) 22 #[uv seed]; rwa [World.size_alloc, World.size_alloc] at this) h1 h2 h3 h4 (by omega)).mono ?_
  rintro e w1 ⟨p, c, rfl, hb, _⟩
  have hbw := bnext (bl_alloc (bl_alloc (bl_alloc (Below.refl _ _) _) _) _) hb
  clear hb
  go_wp2
  go_ret
  exact ⟨rfl, hbw⟩
theorem wnew_rows (rows W long : Int) (seed : U) (w : World) (h1 : rows < 1) :
    Calls Try.prog 26 #[.int .i64 rows, .int .i64 W, uv seed, .int .i64 long] w fun e w' => e = .returned (.pointer none) ∧ Below w.heap.size w w' := by
  go_enter Try.func26, Try.ntmps26
  go_wp2_with fail
  refine (fresh_no w.heap.size (w.heap.size + 1) (w.heap.size + 1 + 1) rows W seed _ (((Blk.new w _ _).alloc _).alloc _) (by have := (Blk.new (w.alloc (.cells #[.int .i64 rows] 3)) 3 #[.int .i64 W]).alloc (.cells #[uv seed] 22); rwa [World.size_alloc] at this) (by have := Blk.new ((w.alloc (.cells #[.int .i64 rows] 3)).alloc (.cells #[.int .i64 W] 3)) 22 #[uv seed]; rwa [World.size_alloc, World.size_alloc] at this) h1).mono ?_
  rintro e w1 ⟨rfl, hb⟩
  have hbw := bnext (bl_alloc (bl_alloc (bl_alloc (Below.refl _ _) _) _) _) hb
  clear hb
  go_wp2
  go_ret
  exact ⟨rfl, hbw⟩
theorem err_no (m : Win) (now : Int) (h : ¬ ((m.now : Int) ≤ now ∧ now ≤ 1099511627776)) : m.ok now = false := by
  unfold Win.ok
  by_cases h1 : (m.now : Int) ≤ now
  · by_cases h2 : now ≤ 1099511627776
    · exact absurd ⟨h1, h2⟩ h
    · simp [h2]
  · simp [h1]
theorem turn_no (O : Nat → Prop) (g : Nat) (m : Win) (now : Int) (w : World) (h : IsWin w O g m) (hn : m.ok now = false) :
    Calls Try.prog 38 #[pv g, .int .i64 now] w fun e w' => e = .returned (.int .u16 60) ∧ Below w.heap.size w w' := by
  obtain ⟨b0, b1, b2, po, co, cl, h⟩ := h
  have q2 := h.st.cell 2
  simp only [List.size_toArray, List.getElem?_toArray, List.getElem?_cons_zero, List.getElem?_cons_succ] at q2
  clear h
  unfold Win.ok at hn
  by_cases h1 : (m.now : Int) ≤ now
  · have h2 : ¬ now ≤ 1099511627776 := by
      intro h2
      simp [h1, h2] at hn
    clear hn
    go_enter Try.func38, Try.ntmps38
    go_wp2
    go_ret
    exact ⟨rfl, Below.refl _ _⟩
  · clear hn
    go_enter Try.func38, Try.ntmps38
    go_wp2
    go_ret
    exact ⟨rfl, Below.refl _ _⟩
theorem IsSk.far {w : World} {p c : Nat} {s : Sk} (h : IsSk w p c s) (q i : Nat) (v : Value) (hp : p ≠ q) (hc : c ≠ q) : IsSk (w.setCell ⟨q, i, none⟩ v) p c s :=
  ⟨h.ok, h.st.far (p := ⟨q, i, none⟩) hp v, h.cl.far (p := ⟨q, i, none⟩) hc v⟩
theorem ClosedAt.set {w : World} {O : Nat → Prop} {po co g : Nat} {cl : Value} {l : Option Sk} {cs : Array Value} (h : ClosedAt w O po co cl l) (hg : Blk w g 76 cs) (i : Nat) (v : Value) : ClosedAt (w.setCell ⟨g, i, none⟩ v) O po co cl l := by
  cases l with
  | none => exact h
  | some s =>
    obtain ⟨pc, cc, e, hs, h1, h2, h3, h4⟩ := h
    exact ⟨pc, cc, e, hs.far g i v (hs.st.ne_ hg (by decide)) (hs.cl.ne_ hg (by decide)), h1, h2, h3, h4⟩
/-- What lives on when the window's own block is written. -/
structure Beside (w : World) (O : Nat → Prop) (b0 b1 b2 po co : Nat) (cl : Value) (m : Win) : Prop where
  bx0 : Blk w b0 3 #[.int .i64 (m.rows : Int)]
  bx1 : Blk w b1 3 #[.int .i64 (m.W : Int)]
  bx2 : Blk w b2 22 #[uv m.seed]
  op : IsSk w po co m.this
  cls : ClosedAt w O po co cl m.last
theorem WinAt.beside {w : World} {O : Nat → Prop} {g b0 b1 b2 po co : Nat} {cl : Value} {m : Win} (h : WinAt w O g b0 b1 b2 po co cl m) : Beside w O b0 b1 b2 po co cl m := ⟨h.bx0, h.bx1, h.bx2, h.op, h.cls⟩
theorem Beside.set {w : World} {O : Nat → Prop} {g b0 b1 b2 po co : Nat} {cl : Value} {m : Win} {cs : Array Value} (h : Beside w O b0 b1 b2 po co cl m) (hg : Blk w g 76 cs) (i : Nat) (v : Value) : Beside (w.setCell ⟨g, i, none⟩ v) O b0 b1 b2 po co cl m :=
  ⟨h.bx0.far (p := ⟨g, i, none⟩) (h.bx0.ne_ hg (by decide)) v, h.bx1.far (p := ⟨g, i, none⟩) (h.bx1.ne_ hg (by decide)) v, h.bx2.far (p := ⟨g, i, none⟩) (h.bx2.ne_ hg (by decide)) v,
    h.op.far g i v (h.op.st.ne_ hg (by decide)) (h.op.cl.ne_ hg (by decide)), h.cls.set hg i v⟩
theorem Beside.drewN {w : World} {O : Nat → Prop} {b0 b1 b2 po co : Nat} {cl : Value} {m : Win} (h : Beside w O b0 b1 b2 po co cl m) (n : Nat) : Beside (w.drewN n) O b0 b1 b2 po co cl m := by
  refine ⟨h.bx0, h.bx1, h.bx2, ⟨h.op.ok, h.op.st, h.op.cl⟩, ?_⟩
  have hc := h.cls
  cases hl : m.last with
  | none => rw [hl] at hc; exact hc
  | some s =>
    rw [hl] at hc
    obtain ⟨pc, cc, e, hs, h1⟩ := hc
    exact ⟨pc, cc, e, ⟨hs.ok, hs.st, hs.cl⟩, h1⟩
theorem Beside.next {w w' : World} {O : Nat → Prop} {b0 b1 b2 po co : Nat} {cl : Value} {m : Win} (h : Beside w O b0 b1 b2 po co cl m) (k : Below w.heap.size w w') : Beside w' O b0 b1 b2 po co cl m :=
  ⟨h.bx0.next k, h.bx1.next k, h.bx2.next k, h.op.next k, h.cls.chg (.of_below (fun _ => False) k) fun _ _ hf => hf⟩
theorem turn_same (O : Nat → Prop) (g : Nat) (m : Win) (now : Nat) (w : World) (h : IsWin w O g m) (hn1 : m.now ≤ now) (hn2 : now ≤ 1099511627776) (hd : now / m.long = m.now / m.long) :
    Calls Try.prog 38 #[pv g, .int .i64 (now : Int)] w fun e w' => e = .returned (.int .u16 0) ∧ Chg O w w' ∧ IsWin w' (Plus O w w') g (m.turn now) := by
  obtain ⟨b0, b1, b2, po, co, cl, h⟩ := h
  have q1 := h.st.cell 1
  have q2 := h.st.cell 2
  have f2 := h.st.frozen 2
  simp only [List.size_toArray, List.getElem?_toArray, List.getElem?_cons_zero, List.getElem?_cons_succ] at q1 q2
  have hl1 := h.ok.long1
  have hlm := h.ok.longm
  have hnm := h.ok.nowm
  obtain ⟨l, hl⟩ : ∃ l, m.long = l := ⟨_, rfl⟩
  obtain ⟨n, hn⟩ : ∃ n, m.now = n := ⟨_, rfl⟩
  rw [hl] at q1 hl1 hlm hd
  rw [hn] at q2 hnm hn1 hd
  have hT : m.turn now = { m with now := now } := by unfold Win.turn; rw [hl, hn, if_pos hd]
  have HT := Lib.hid hT
  have HL := Lib.hid hl
  clear hT hl hn
  have ham : now / l ≤ 1099511627776 := Nat.le_trans (Nat.div_le_self _ _) hn2
  have ha : (now : Int) / (l : Int) = ((now / l : Nat) : Int) := by rw [Int.natCast_ediv]
  have hb : (n : Int) / (l : Int) = ((now / l : Nat) : Int) := by rw [hd, Int.natCast_ediv]
  obtain ⟨a, haa⟩ : ∃ a, now / l = a := ⟨_, rfl⟩
  rw [haa] at ham ha hb
  clear haa hd
  go_enter Try.func38, Try.ntmps38
  go_wp2
  go_quiet (fail)
  go_wp2
  go_ret
  rw [HT.out]
  have hch : Chg O w ((w.drewN nq).setCell ⟨g, 2, none⟩ (.int .i64 (now : Int))) := ((Chg.refl O w).drewN nq).setCell (p := ⟨g, 2, none⟩) (.inl h.inO.1) _
  refine ⟨rfl, hch, b0, b1, b2, po, co, cl, ?_⟩
  have hbs := (h.beside.drewN nq).set (show Blk (w.drewN nq) g 76 _ from h.st) 2 (.int .i64 (now : Int))
  have hst := (show Blk (w.drewN nq) g 76 _ from h.st).set_ 2 (.int .i64 (now : Int))
  exact ⟨⟨h.ok.1, h.ok.2, h.ok.3, h.ok.4, h.ok.5, h.ok.6, hn2⟩, hbs.bx0, hbs.bx1, hbs.bx2, hst, hbs.op, h.ne, hbs.cls.mono fun j hj => Or.inl hj, Or.inl h.inO.1, Or.inl h.inO.2.1, Or.inl h.inO.2.2.1, Or.inl h.inO.2.2.2.1, Or.inl h.inO.2.2.2.2.1, Or.inl h.inO.2.2.2.2.2⟩
theorem turn_next (O : Nat → Prop) (g : Nat) (m : Win) (now : Nat) (w : World) (h : IsWin w O g m) (hn1 : m.now ≤ now) (hn2 : now ≤ 1099511627776) (hd : now / m.long = m.now / m.long + 1) :
    Calls Try.prog 38 #[pv g, .int .i64 (now : Int)] w fun e w' => e = .returned (.int .u16 0) ∧ Chg O w w' ∧ IsWin w' (Plus O w w') g (m.turn now) := by
  obtain ⟨b0, b1, b2, po, co, cl, h⟩ := h
  have q1 := h.st.cell 1
  have q2 := h.st.cell 2
  have f2 := h.st.frozen 2
  simp only [List.size_toArray, List.getElem?_toArray, List.getElem?_cons_zero, List.getElem?_cons_succ] at q1 q2
  have hl1 := h.ok.long1
  have hlm := h.ok.longm
  have hnm := h.ok.nowm
  obtain ⟨l, hl⟩ : ∃ l, m.long = l := ⟨_, rfl⟩
  obtain ⟨n, hn⟩ : ∃ n, m.now = n := ⟨_, rfl⟩
  rw [hl] at q1 hl1 hlm hd
  rw [hn] at q2 hnm hn1 hd
  have hT : m.turn now = { m with now := now, last := some m.this, this := m.fresh (now / m.long) } := by
    have hne : ¬ now / l = n / l := by omega
    unfold Win.turn; rw [hl, hn, if_neg hne, if_pos hd]
  have HT := Lib.hid hT
  have HL := Lib.hid hl
  have ham : now / l ≤ 1099511627776 := Nat.le_trans (Nat.div_le_self _ _) hn2
  obtain ⟨b, hbb⟩ : ∃ b, n / l = b := ⟨_, rfl⟩
  have ha : (now : Int) / (l : Int) = (b : Int) + 1 := by rw [← hbb, ← Int.natCast_ediv, hd]; rfl
  have hb : (n : Int) / (l : Int) = (b : Int) := by rw [← hbb, Int.natCast_ediv]
  have hbm : b ≤ 1099511627775 := by omega
  have HB := Lib.hid (show now / m.long = b + 1 by rw [hl, hd, hbb])
  have hq1 : ((b : Int) + 1 == (b : Int)) = false := by rw [beq_eq_false_iff_ne]; omega
  clear hT hl hn hbb hd ham
  have q3 := h.st.cell 3
  have q4 := h.st.cell 4
  have f3 := h.st.frozen 3
  have f4 := h.st.frozen 4
  have q0 := h.st.cell 0
  simp only [List.size_toArray, List.getElem?_toArray, List.getElem?_cons_zero, List.getElem?_cons_succ] at q0 q3 q4
  go_enter Try.func38, Try.ntmps38
  go_wp2
  go_quiet (fail)
  have hch : Chg O w ((w.drewN nq).setCell ⟨g, 2, none⟩ (.int .i64 (now : Int))) := ((Chg.refl O w).drewN nq).setCell (p := ⟨g, 2, none⟩) (.inl h.inO.1) _
  have hst1 := (show Blk (w.drewN nq) g 76 _ from h.st).set_ 2 (.int .i64 (now : Int))
  have hbs1 := (h.beside.drewN nq).set (show Blk (w.drewN nq) g 76 _ from h.st) 2 (.int .i64 (now : Int))
  have hch2 := hch.setCell (p := ⟨g, 3, none⟩) (.inl h.inO.1) (pv po)
  have hst2 := hst1.set_ 3 (pv po)
  have hbs2 := hbs1.set hst1 3 (pv po)
  have f31 := hst1.frozen 3
  have q31 := hst1.cell 3
  have q41 := hst1.cell 4
  have q02 := hst2.cell 0
  simp only [List.size_toArray, List.setIfInBounds_toArray, List.set_cons_zero, List.set_cons_succ, List.getElem?_toArray, List.getElem?_cons_zero, List.getElem?_cons_succ] at q31 q41 q02 hst2
  clear hch hst1 hbs1
  go_wp2_with fail
  have hbm1 : b + 1 ≤ 1099511627776 := by omega
  rw [show ((b : Int) + 1) = ((b + 1 : Nat) : Int) from rfl]
  refine (fresh_calls b0 b1 b2 m.rows m.W m.seed (b + 1) _ hbs2.bx0 hbs2.bx1 hbs2.bx2 h.ok.1 h.ok.2 h.ok.3 h.ok.4 hbm1).mono ?_
  rintro e w3 ⟨p', c', rfl, hb3, hsk, hp', hc'⟩
  have hpl := hbs2.op.st.lt
  have hcl2 := hbs2.op.cl.lt
  have hb2l := hbs2.bx2.lt
  have hgl := hst2.lt
  have hw3 := hb3.size
  have hws := hch2.size
  replace hst2 := hst2.next hb3
  replace hbs2 := hbs2.next hb3
  replace hch2 := hch2.thenB hb3
  have r4 := hst2.cell 4
  have g4 := hst2.frozen 4
  simp only [List.getElem?_toArray, List.getElem?_cons_zero, List.getElem?_cons_succ] at r4
  have hst4 := hst2.set_ 4 (pv p')
  have hbs4 := hbs2.set hst2 4 (pv p')
  have hch4 := hch2.setCell (p := ⟨g, 4, none⟩) (.inl h.inO.1) (pv p')
  have hsk4 := hsk.far g 4 (pv p') (by omega) (by omega)
  have hpl4 := hsk4.st.lt
  have hcl4 := hsk4.cl.lt
  clear hch2 hb3
  go_wp2
  go_ret
  rw [HT.out]
  refine ⟨rfl, hch4, b0, b1, b2, p', c', _, ⟨h.ok.1, h.ok.2, h.ok.3, h.ok.4, h.ok.5, h.ok.6, hn2⟩, hbs4.bx0, hbs4.bx1, hbs4.bx2, hst4, ?_, by omega, ?_, Or.inl h.inO.1, Or.inl h.inO.2.1, Or.inl h.inO.2.2.1, Or.inl h.inO.2.2.2.1, Or.inr ⟨by omega, hpl4⟩, Or.inr ⟨by omega, hcl4⟩⟩
  · show IsSk _ p' c' (m.fresh (now / m.long))
    rw [HB.out]
    exact hsk4
  · exact ⟨po, co, rfl, hbs4.op, by omega, by omega, Or.inl h.inO.2.2.2.2.1, Or.inl h.inO.2.2.2.2.2⟩
theorem turn_far (O : Nat → Prop) (g : Nat) (m : Win) (now : Nat) (w : World) (h : IsWin w O g m) (hn1 : m.now ≤ now) (hn2 : now ≤ 1099511627776) (hd : ¬ now / m.long = m.now / m.long) (hd2 : ¬ now / m.long = m.now / m.long + 1) :
    Calls Try.prog 38 #[pv g, .int .i64 (now : Int)] w fun e w' => e = .returned (.int .u16 0) ∧ Chg O w w' ∧ IsWin w' (Plus O w w') g (m.turn now) := by
  obtain ⟨b0, b1, b2, po, co, cl, h⟩ := h
  have q1 := h.st.cell 1
  have q2 := h.st.cell 2
  have f2 := h.st.frozen 2
  simp only [List.size_toArray, List.getElem?_toArray, List.getElem?_cons_zero, List.getElem?_cons_succ] at q1 q2
  have hl1 := h.ok.long1
  have hlm := h.ok.longm
  have hnm := h.ok.nowm
  obtain ⟨l, hl⟩ : ∃ l, m.long = l := ⟨_, rfl⟩
  obtain ⟨n, hn⟩ : ∃ n, m.now = n := ⟨_, rfl⟩
  rw [hl] at q1 hl1 hlm hd hd2
  rw [hn] at q2 hnm hn1 hd hd2
  have hT : m.turn now = { m with now := now, last := none, this := m.fresh (now / m.long) } := by
    unfold Win.turn; rw [hl, hn, if_neg hd, if_neg hd2]
  have HT := Lib.hid hT
  have HL := Lib.hid hl
  have ham : now / l ≤ 1099511627776 := Nat.le_trans (Nat.div_le_self _ _) hn2
  have hbm : n / l ≤ 1099511627776 := Nat.le_trans (Nat.div_le_self _ _) hnm
  have ha : (now : Int) / (l : Int) = ((now / l : Nat) : Int) := by rw [Int.natCast_ediv]
  have hb : (n : Int) / (l : Int) = ((n / l : Nat) : Int) := by rw [Int.natCast_ediv]
  have HB0 : now / m.long = now / l := by rw [hl]
  obtain ⟨a, haa⟩ : ∃ a, now / l = a := ⟨_, rfl⟩
  obtain ⟨b, hbb⟩ : ∃ b, n / l = b := ⟨_, rfl⟩
  rw [haa] at ham ha hd hd2 HB0
  rw [hbb] at hbm hb hd hd2
  have HB := Lib.hid HB0
  have hq1 : (a == b) = false := by rw [beq_eq_false_iff_ne]; exact hd
  have hq1' : ((a : Int) == (b : Int)) = false := by rw [beq_eq_false_iff_ne]; omega
  have hq2 : ((a : Int) == (b : Int) + 1) = false := by rw [beq_eq_false_iff_ne]; omega
  clear hT hl hn hbb haa hd hd2 HB0
  have q3 := h.st.cell 3
  have q4 := h.st.cell 4
  have f3 := h.st.frozen 3
  have f4 := h.st.frozen 4
  have q0 := h.st.cell 0
  simp only [List.size_toArray, List.getElem?_toArray, List.getElem?_cons_zero, List.getElem?_cons_succ] at q0 q3 q4
  go_enter Try.func38, Try.ntmps38
  go_wp2
  go_quiet (fail)
  have hch : Chg O w ((w.drewN nq).setCell ⟨g, 2, none⟩ (.int .i64 (now : Int))) := ((Chg.refl O w).drewN nq).setCell (p := ⟨g, 2, none⟩) (.inl h.inO.1) _
  have hst1 := (show Blk (w.drewN nq) g 76 _ from h.st).set_ 2 (.int .i64 (now : Int))
  have hbs1 := (h.beside.drewN nq).set (show Blk (w.drewN nq) g 76 _ from h.st) 2 (.int .i64 (now : Int))
  have hch2 := hch.setCell (p := ⟨g, 3, none⟩) (.inl h.inO.1) (.pointer none)
  have hst2 := hst1.set_ 3 (.pointer none)
  have hbs2 := hbs1.set hst1 3 (.pointer none)
  have f31 := hst1.frozen 3
  have q31 := hst1.cell 3
  have q41 := hst1.cell 4
  have q02 := hst2.cell 0
  simp only [List.size_toArray, List.setIfInBounds_toArray, List.set_cons_zero, List.set_cons_succ, List.getElem?_toArray, List.getElem?_cons_zero, List.getElem?_cons_succ] at q31 q41 q02 hst2
  clear hch hst1 hbs1
  go_wp2_with fail
  refine (fresh_calls b0 b1 b2 m.rows m.W m.seed a _ hbs2.bx0 hbs2.bx1 hbs2.bx2 h.ok.1 h.ok.2 h.ok.3 h.ok.4 ham).mono ?_
  rintro e w3 ⟨p', c', rfl, hb3, hsk, hp', hc'⟩
  have hpl := hbs2.op.st.lt
  have hcl2 := hbs2.op.cl.lt
  have hb2l := hbs2.bx2.lt
  have hgl := hst2.lt
  have hw3 := hb3.size
  have hws := hch2.size
  replace hst2 := hst2.next hb3
  replace hbs2 := hbs2.next hb3
  replace hch2 := hch2.thenB hb3
  have r4 := hst2.cell 4
  have g4 := hst2.frozen 4
  simp only [List.getElem?_toArray, List.getElem?_cons_zero, List.getElem?_cons_succ] at r4
  have hst4 := hst2.set_ 4 (pv p')
  have hbs4 := hbs2.set hst2 4 (pv p')
  have hch4 := hch2.setCell (p := ⟨g, 4, none⟩) (.inl h.inO.1) (pv p')
  have hsk4 := hsk.far g 4 (pv p') (by omega) (by omega)
  have hpl4 := hsk4.st.lt
  have hcl4 := hsk4.cl.lt
  clear hch2 hb3
  go_wp2
  go_ret
  rw [HT.out]
  refine ⟨rfl, hch4, b0, b1, b2, p', c', _, ⟨h.ok.1, h.ok.2, h.ok.3, h.ok.4, h.ok.5, h.ok.6, hn2⟩, hbs4.bx0, hbs4.bx1, hbs4.bx2, hst4, ?_, by omega, ?_, Or.inl h.inO.1, Or.inl h.inO.2.1, Or.inl h.inO.2.2.1, Or.inl h.inO.2.2.2.1, Or.inr ⟨by omega, hpl4⟩, Or.inr ⟨by omega, hcl4⟩⟩
  · show IsSk _ p' c' (m.fresh (now / m.long))
    rw [HB.out]
    exact hsk4
  · exact rfl
theorem turn_yes (O : Nat → Prop) (g : Nat) (m : Win) (now : Nat) (w : World) (h : IsWin w O g m) (hn1 : m.now ≤ now) (hn2 : now ≤ 1099511627776) :
    Calls Try.prog 38 #[pv g, .int .i64 (now : Int)] w fun e w' => e = .returned (.int .u16 0) ∧ Chg O w w' ∧ IsWin w' (Plus O w w') g (m.turn now) := by
  by_cases hd : now / m.long = m.now / m.long
  · exact turn_same O g m now w h hn1 hn2 hd
  · by_cases hd2 : now / m.long = m.now / m.long + 1
    · exact turn_next O g m now w h hn1 hn2 hd2
    · exact turn_far O g m now w h hn1 hn2 hd hd2
end Go.Proofs.Ytjpfamminemegaa.Tele
namespace Go.Proofs.Ytjpfamminemegaa.Tele
open Go.RowKit
set_option linter.unusedVariables false
set_option linter.unusedSimpArgs false

theorem ok_iff (m : Win) (now : Int) (h : m.ok now = true) : (m.now : Int) ≤ now ∧ now ≤ 1099511627776 := by
  unfold Win.ok at h
  simpa using h
theorem ok_cases (m : Win) (now : Int) : m.ok now = false ∨ ∃ n : Nat, now = (n : Int) ∧ m.now ≤ n ∧ n ≤ 1099511627776 ∧ m.ok (n : Int) = true := by
  cases h : m.ok now with
  | false => exact .inl rfl
  | true =>
    obtain ⟨h1, h2⟩ := ok_iff m now h
    refine .inr ⟨now.toNat, by omega, by omega, by omega, ?_⟩
    rw [show ((now.toNat : Nat) : Int) = now from by omega]
    exact h
theorem plus_mono {O : Nat → Prop} {w w1 w2 : World} (h : w1.heap.size ≤ w2.heap.size) : ∀ j, Plus O w w1 j → Plus O w w2 j := fun j hj => by
  rcases hj with hj | ⟨h1, h2⟩
  · exact .inl hj
  · exact .inr ⟨h1, by omega⟩
theorem IsWin.plus {w w1 w2 : World} {O : Nat → Prop} {g : Nat} {m : Win} (h : IsWin w1 (Plus O w w1) g m) (k : Below w1.heap.size w1 w2) : IsWin w2 (Plus O w w2) g m := (h.next k).mono (plus_mono k.size)
/-- The open while's sketch has gone on. -/
theorem WinAt.open_ {w w' : World} {O : Nat → Prop} {g b0 b1 b2 po co : Nat} {cl : Value} {m : Win} {s : Sk} (h : WinAt w O g b0 b1 b2 po co cl m) (k : Chg (fun b => b = po ∨ b = co) w w') (hs : IsSk w' po co s) : WinAt w' O g b0 b1 b2 po co cl { m with this := s } := by
  have ne1 : ∀ {b : Nat} {t : TypeId} {cs : Array Value}, Blk w b t cs → t ≠ 90 → (t ≠ 22 ∨ b ≠ co) → ¬ (b = po ∨ b = co) := by
    intro b t cs hb h1 h2 hh
    rcases hh with rfl | rfl
    · exact (hb.ne_ h.op.st h1) rfl
    · rcases h2 with h2 | h2
      · exact (hb.ne_ h.op.cl h2) rfl
      · exact h2 rfl
  refine ⟨⟨h.ok.1, h.ok.2, h.ok.3, h.ok.4, h.ok.5, h.ok.6, h.ok.7⟩, h.bx0.chg k (ne1 h.bx0 (by decide) (.inl (by decide))), h.bx1.chg k (ne1 h.bx1 (by decide) (.inl (by decide))), h.bx2.chg k (ne1 h.bx2 (by decide) (.inr h.ne)), h.st.chg k (ne1 h.st (by decide) (.inl (by decide))), hs, h.ne, ?_, h.inO⟩
  have hc := h.cls
  show ClosedAt w' O po co cl m.last
  cases hl : m.last with
  | none => rw [hl] at hc; exact hc
  | some s' =>
    rw [hl] at hc
    obtain ⟨pc, cc, e, hs', h1, h2, h3⟩ := hc
    refine ⟨pc, cc, e, hs'.chg k ?_ ?_, h1, h2, h3⟩
    · rintro (rfl | rfl)
      · exact h1 rfl
      · exact (hs'.st.ne_ h.op.cl (by decide)) rfl
    · rintro (rfl | rfl)
      · exact (hs'.cl.ne_ h.op.st (by decide)) rfl
      · exact h2 rfl
theorem wadd_calls (O : Nat → Prop) (g : Nat) (m : Win) (now : Int) (key : ByteArray) (n : Nat) (w : World) (h : IsWin w O g m) (hk : key.size ≤ 140737488351232) (hn : n ≤ 18446744073709551615) :
    Calls Try.prog 29 #[pv g, .int .i64 now, .string key, nv n] w fun e w' => e = .returned (.int .u16 (m.err now)) ∧ Chg O w w' ∧ IsWin w' (Plus O w w') g (m.add now key.data.toList n) := by
  rcases ok_cases m now with hno | ⟨t, rfl, ht1, ht2, hyes⟩
  · have hE := Lib.hid (show m.err now = 60 by unfold Win.err; rw [hno]; rfl)
    have hA := Lib.hid (show m.add now key.data.toList n = m by unfold Win.add; rw [hno]; rfl)
    rw [hE.out, hA.out]
    go_enter Try.func29, Try.ntmps29
    go_wp2_with fail
    refine (turn_no O g m now _ h hno).mono ?_
    rintro e w1 ⟨rfl, hb⟩
    go_wp2
    go_ret
    exact ⟨rfl, .of_below O hb, (h.next hb).mono fun j hj => .inl hj⟩
  · have hE := Lib.hid (show m.err (t : Int) = 0 by unfold Win.err; rw [hyes]; rfl)
    have hA := Lib.hid (show m.add (t : Int) key.data.toList n = { m.turn t with this := (m.turn t).this.add key.data.toList n } by unfold Win.add; rw [hyes]; rfl)
    rw [hE.out, hA.out]
    go_enter Try.func29, Try.ntmps29
    go_wp2_with fail
    refine (turn_yes O g m t _ h ht1 ht2).mono ?_
    rintro e w1 ⟨rfl, hch, hw1⟩
    obtain ⟨b0, b1, b2, po, co, cl, hat⟩ := hw1
    have q4 := hat.st.cell 4
    simp only [List.getElem?_toArray, List.getElem?_cons_zero, List.getElem?_cons_succ] at q4
    go_wp2_with fail
    refine (add_calls po co _ key n _ hat.op hk hn).mono ?_
    rintro e w2 ⟨rfl, hg, hs2⟩
    have hat2 := hat.open_ hg hs2
    have hio := hat.inO
    go_wp2
    go_ret
    refine ⟨rfl, hch.trans hg ?_, b0, b1, b2, po, co, cl, hat2.mono (plus_mono hg.size)⟩
    rintro j hj (rfl | rfl)
    · rcases hio.2.2.2.2.1 with h1 | ⟨h1, _⟩
      · exact h1
      · omega
    · rcases hio.2.2.2.2.2 with h1 | ⟨h1, _⟩
      · exact h1
      · omega
theorem wclosed_calls (O : Nat → Prop) (g : Nat) (m : Win) (now : Int) (key : ByteArray) (w : World) (h : IsWin w O g m) (hk : key.size ≤ 140737488351232) :
    Calls Try.prog 28 #[pv g, .int .i64 now, .string key] w fun e w' => e = .returned (.tuple #[nv (m.closed now key.data.toList), .int .u16 (m.err now)]) ∧ Chg O w w' ∧ IsWin w' (Plus O w w') g (m.turnAny now) := by
  rcases ok_cases m now with hno | ⟨t, rfl, ht1, ht2, hyes⟩
  · have hE := Lib.hid (show m.err now = 60 by unfold Win.err; rw [hno]; rfl)
    have hA := Lib.hid (show m.turnAny now = m by unfold Win.turnAny; rw [hno]; rfl)
    have hC := Lib.hid (show m.closed now key.data.toList = 0 by unfold Win.closed; rw [hno]; rfl)
    rw [hE.out, hA.out, hC.out]
    go_enter Try.func28, Try.ntmps28
    go_wp2_with fail
    refine (turn_no O g m now _ h hno).mono ?_
    rintro e w1 ⟨rfl, hb⟩
    go_wp2
    go_ret2
    exact ⟨rfl, .of_below O hb, (h.next hb).mono fun j hj => .inl hj⟩
  · have hE := Lib.hid (show m.err (t : Int) = 0 by unfold Win.err; rw [hyes]; rfl)
    have hA := Lib.hid (show m.turnAny (t : Int) = m.turn t by unfold Win.turnAny; rw [hyes]; rfl)
    rw [hE.out, hA.out]
    cases hl : (m.turn t).last with
    | none =>
      have hC := Lib.hid (show m.closed (t : Int) key.data.toList = 0 by
        have : (t : Int).toNat = t := by omega
        unfold Win.closed; rw [hyes, this, hl]; rfl)
      rw [hC.out]
      go_enter Try.func28, Try.ntmps28
      go_wp2_with fail
      refine (turn_yes O g m t _ h ht1 ht2).mono ?_
      rintro e w1 ⟨rfl, hch, hw1⟩
      obtain ⟨b0, b1, b2, po, co, cl, hat⟩ := hw1
      have hcl := hat.cls
      rw [hl] at hcl
      have hcl2 : cl = .pointer none := hcl
      subst hcl2
      have q3 := hat.st.cell 3
      simp only [List.getElem?_toArray, List.getElem?_cons_zero, List.getElem?_cons_succ] at q3
      have HL := Lib.hid hl
      clear hl hcl
      go_wp2
      go_ret2
      exact ⟨rfl, hch, b0, b1, b2, po, co, _, hat⟩
    | some s =>
      have hC := Lib.hid (show m.closed (t : Int) key.data.toList = s.count key.data.toList by
        have : (t : Int).toNat = t := by omega
        unfold Win.closed; rw [hyes, this, hl]; rfl)
      rw [hC.out]
      go_enter Try.func28, Try.ntmps28
      go_wp2_with fail
      refine (turn_yes O g m t _ h ht1 ht2).mono ?_
      rintro e w1 ⟨rfl, hch, hw1⟩
      obtain ⟨b0, b1, b2, po, co, cl, hat⟩ := hw1
      have hcl := hat.cls
      rw [hl] at hcl
      obtain ⟨pc, cc, rfl, hsk, _⟩ := hcl
      have q3 := hat.st.cell 3
      simp only [List.getElem?_toArray, List.getElem?_cons_zero, List.getElem?_cons_succ] at q3
      have HL := Lib.hid hl
      clear hl
      go_wp2_with fail
      refine (count_calls pc cc _ key _ hsk hk).mono ?_
      rintro e w2 ⟨rfl, hb⟩
      go_wp2
      go_ret2
      exact ⟨rfl, hch.thenB hb, b0, b1, b2, po, co, _, (hat.next hb).mono (plus_mono hb.size)⟩
end Go.Proofs.Ytjpfamminemegaa.Tele
namespace Go.Proofs.Ytjpfamminemegaa.Tele
open Go.RowKit
set_option linter.unusedVariables false
set_option linter.unusedSimpArgs false

/-- What a law knows of the one window that it made: all its blocks are new. -/
structure Mine (w0 w : World) (g : Nat) (m : Win) : Prop where
  below : Below w0.heap.size w0 w
  win : IsWin w (fun j => w0.heap.size ≤ j ∧ j < w.heap.size) g m
theorem mine_new {w0 w1 w2 : World} {g : Nat} {m : Win} (h : Below w0.heap.size w0 w1) (k : Below w1.heap.size w1 w2) (hw : IsWin w2 (Plus (fun _ => False) w1 w2) g m) : Mine w0 w2 g m :=
  ⟨bnext h k, hw.mono fun j hj => by
    have := h.size
    rcases hj with hj | ⟨h1, h2⟩
    · exact hj.elim
    · exact ⟨by omega, h2⟩⟩
theorem Mine.step {w0 w1 w2 : World} {g : Nat} {m m' : Win} (h : Mine w0 w1 g m) (k : Chg (fun j => w0.heap.size ≤ j ∧ j < w1.heap.size) w1 w2) (hw : IsWin w2 (Plus (fun j => w0.heap.size ≤ j ∧ j < w1.heap.size) w1 w2) g m') : Mine w0 w2 g m' :=
  ⟨bchg h.below k fun j hj => hj.1, hw.mono fun j hj => by
    have := h.below.size
    have := k.size
    rcases hj with ⟨h1, h2⟩ | ⟨h1, h2⟩
    · exact ⟨h1, by omega⟩
    · exact ⟨by omega, h2⟩⟩
theorem Mine.next {w0 w1 w2 : World} {g : Nat} {m : Win} (h : Mine w0 w1 g m) (k : Below w1.heap.size w1 w2) : Mine w0 w2 g m :=
  ⟨bnext h.below k, (h.win.next k).mono fun j hj => ⟨hj.1, Nat.lt_of_lt_of_le hj.2 k.size⟩⟩
end Go.Proofs.Ytjpfamminemegaa.Tele
