/- What the laws on windows want to know of the plain windows. No conditions. -/
import Derived.Test.YtiohjmpnkoohjaaPWin
set_option linter.unusedVariables false
set_option linter.unusedSimpArgs false
namespace Go.Proofs.Ytiohjmpnkoohjaa.Tele
namespace Win
theorem new_turn (rows W : Nat) (seed : U) (long t : Nat) (hl : 1 ≤ long) :
    ((new rows W seed long).turn t).this = Sk.new rows W (seed + BitVec.ofNat 64 (t / long)) ∧ ((new rows W seed long).turn t).now = t ∧ ((new rows W seed long).turn t).long = long ∧ ((new rows W seed long).turn t).rows = rows ∧ ((new rows W seed long).turn t).W = W := by
  unfold turn
  have h0 : (new rows W seed long).now / (new rows W seed long).long = 0 := by simp [new]
  rw [h0]
  by_cases h1 : t / (new rows W seed long).long = 0
  · rw [if_pos h1]
    have : t / long = 0 := h1
    rw [this]
    exact ⟨rfl, rfl, rfl, rfl, rfl⟩
  · rw [if_neg h1]
    split <;> exact ⟨rfl, rfl, rfl, rfl, rfl⟩
theorem turn_now (m : Win) (t : Nat) : (m.turn t).now = t ∧ (m.turn t).long = m.long ∧ (m.turn t).rows = m.rows ∧ (m.turn t).W = m.W ∧ (m.turn t).seed = m.seed := by
  unfold turn
  split
  · exact ⟨rfl, rfl, rfl, rfl, rfl⟩
  · split <;> exact ⟨rfl, rfl, rfl, rfl, rfl⟩
theorem turn_refl (m : Win) : m.turn m.now = m := by
  unfold turn
  rw [if_pos rfl]
theorem turn_in (m : Win) (t : Nat) (h : t / m.long = m.now / m.long) : m.turn t = { m with now := t } := by unfold turn; rw [if_pos h]
theorem turn_to (m : Win) (t : Nat) (h : t / m.long = m.now / m.long + 1) : m.turn t = { m with now := t, last := some m.this, this := m.fresh (t / m.long) } := by
  have : ¬ t / m.long = m.now / m.long := by omega
  unfold turn
  rw [if_neg this, if_pos h]
theorem ok_yes (m : Win) (t : Nat) (h1 : m.now ≤ t) (h2 : t ≤ 1099511627776) : m.ok (t : Int) = true := by
  unfold ok
  have : (m.now : Int) ≤ (t : Int) := by omega
  have : (t : Int) ≤ 1099511627776 := by omega
  simp [*]
theorem ok_back (m : Win) (t : Int) (h : t < (m.now : Int)) : m.ok t = false := by
  unfold ok
  have : ¬ ((m.now : Int) ≤ t) := by omega
  simp [this]
theorem ok_far (m : Win) (t : Int) (h : 1099511627776 < t) : m.ok t = false := by
  unfold ok
  have : ¬ (t ≤ 1099511627776) := by omega
  simp [this]
theorem err_yes (m : Win) (t : Int) (h : m.ok t = true) : m.err t = 0 := by unfold err; rw [h]; rfl
theorem err_no' (m : Win) (t : Int) (h : m.ok t = false) : m.err t = 60 := by unfold err; rw [h]; rfl
theorem add_yes (m : Win) (t : Nat) (key : List UInt8) (n : Nat) (h : m.ok (t : Int) = true) : m.add (t : Int) key n = { m.turn t with this := (m.turn t).this.add key n } := by unfold add; rw [h]; rfl
theorem add_no (m : Win) (t : Int) (key : List UInt8) (n : Nat) (h : m.ok t = false) : m.add t key n = m := by unfold add; rw [h]; rfl
theorem opened_yes (m : Win) (t : Nat) (key : List UInt8) (h : m.ok (t : Int) = true) : m.opened (t : Int) key = (m.turn t).this.count key := by unfold opened; rw [h]; rfl
theorem turnAny_yes (m : Win) (t : Nat) (h : m.ok (t : Int) = true) : m.turnAny (t : Int) = m.turn t := by unfold turnAny; rw [h]; rfl
theorem closed_yes (m : Win) (t : Nat) (key : List UInt8) (h : m.ok (t : Int) = true) : m.closed (t : Int) key = (match (m.turn t).last with | some s => s.count key | none => 0) := by unfold closed; rw [h]; rfl

/-- All that WindowTimes asks. -/
theorem times (seed : U) (x y : Nat) (far : Int) (k : List UInt8) (hxy : x ≤ y) (hy : y ≤ 65535) (hf : 1099511627776 < far) :
    (new 2 8 seed 10).err (y : Int) = 0 ∧ ((new 2 8 seed 10).add (y : Int) k 2).err (x : Int) = (if x = y then 0 else 60) ∧ (((new 2 8 seed 10).add (y : Int) k 2).add (x : Int) k 3).err far = 60 ∧
      (((new 2 8 seed 10).add (y : Int) k 2).add (x : Int) k 3).add far k 3 = ((new 2 8 seed 10).add (y : Int) k 2).add (x : Int) k 3 ∧
      (((new 2 8 seed 10).add (y : Int) k 2).add (x : Int) k 3).err (y : Int) = 0 ∧ (((new 2 8 seed 10).add (y : Int) k 2).add (x : Int) k 3).opened (y : Int) k = (if x = y then 5 else 2) := by
  have hy0 : (new 2 8 seed 10).ok (y : Int) = true := ok_yes _ _ (Nat.zero_le _) (by omega)
  obtain ⟨t1, t2, t3, t4, t5⟩ := new_turn 2 8 seed 10 y (by omega)
  have e1 := add_yes (new 2 8 seed 10) y k 2 hy0
  obtain ⟨m1, hm1⟩ : ∃ m1, m1 = (new 2 8 seed 10).add (y : Int) k 2 := ⟨_, rfl⟩
  have n1 : m1.now = y := by rw [hm1, e1]; exact t2
  have s1 : m1.this = (Sk.new 2 8 (seed + BitVec.ofNat 64 (y / 10))).add k 2 := by rw [hm1, e1, ← t1]
  have ok0 := Sk.new_ok 2 8 (seed + BitVec.ofNat 64 (y / 10)) (by omega) (by omega) (by omega) (by omega)
  have al0 := Sk.alone_new 2 8 (seed + BitVec.ofNat 64 (y / 10)) k
  have ok1 := Sk.add_ok _ ok0 k 2
  have al1 := Sk.alone_add _ ok0 k 0 2 al0
  rw [← s1] at ok1 al1
  rw [← hm1]
  have hyy : m1.ok (y : Int) = true := ok_yes _ _ (by omega) (by omega)
  by_cases hx : x = y
  · subst hx
    rw [if_pos rfl, if_pos rfl]
    have tr : m1.turn x = m1 := by rw [← n1]; exact turn_refl m1
    have e2 := add_yes m1 x k 3 hyy
    rw [tr] at e2
    obtain ⟨m2, hm2⟩ : ∃ m2, m2 = m1.add (x : Int) k 3 := ⟨_, rfl⟩
    rw [← hm2] at e2 ⊢
    have n2 : m2.now = x := by rw [e2]; exact n1
    have hy2 : m2.ok (x : Int) = true := ok_yes _ _ (by omega) (by omega)
    have tr2 : m2.turn x = m2 := by
      have := turn_refl m2
      rwa [n2] at this
    refine ⟨err_yes _ _ hy0, err_yes _ _ hyy, err_no' _ _ (ok_far _ _ hf), add_no _ _ _ _ (ok_far _ _ hf), err_yes _ _ hy2, ?_⟩
    rw [opened_yes _ _ _ hy2, tr2, e2]
    show (m1.this.add k 3).count k = 5
    rw [Sk.alone_count _ (Sk.add_ok _ ok1 k 3) k _ (Sk.alone_add _ ok1 k _ 3 al1)]
    rfl
  · rw [if_neg hx, if_neg hx]
    have hb : m1.ok (x : Int) = false := ok_back _ _ (by omega)
    rw [add_no _ _ _ _ hb]
    have tr : m1.turn y = m1 := by
      have := turn_refl m1
      rwa [n1] at this
    refine ⟨err_yes _ _ hy0, err_no' _ _ hb, err_no' _ _ (ok_far _ _ hf), add_no _ _ _ _ (ok_far _ _ hf), err_yes _ _ hyy, ?_⟩
    rw [opened_yes _ _ _ hyy, tr, Sk.alone_count _ ok1 k _ al1]
    rfl
end Win
end Go.Proofs.Ytiohjmpnkoohjaa.Tele
