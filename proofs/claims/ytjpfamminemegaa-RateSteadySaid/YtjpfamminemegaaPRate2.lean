/- What the laws RateFirst and RateSteady want to know of the plain windows. No conditions. -/
import Derived.Test.YtjpfamminemegaaRate2
import Derived.Test.YtjpfamminemegaaPWin3
set_option linter.unusedVariables false
set_option linter.unusedSimpArgs false
namespace Go.Proofs.Ytjpfamminemegaa.Tele
theorem by_zero (t : Nat) : by_ t 0 = 0 := if_pos (Nat.zero_le _)
namespace Win
theorem ask_yes (m : Win) (t : Nat) (key : List UInt8) (h : m.ok (t : Int) = true) : m.ask (t : Int) key = { m.turn t with this := (m.turn t).this.add key 1 } := by
  unfold ask
  rw [if_pos h, Int.toNat_natCast]
  obtain ⟨a1, a2, a3, a4, a5⟩ := turn_now m t
  have ht : t ≤ 1099511627776 := by have := (ok_iff m t h).2; omega
  have hy := ok_yes (m.turn t) t (by omega) ht
  have tr : (m.turn t).turn t = m.turn t := by
    have := turn_refl (m.turn t)
    rwa [a1] at this
  rw [add_yes _ _ _ _ hy, tr]
theorem askd_yes (m : Win) (T t : Nat) (key : List UInt8) (h : m.ok (t : Int) = true) : m.askd T (t : Int) key = by_ T (match (m.turn t).last with | some s => s.count key | none => 0) := by
  unfold askd
  rw [if_pos h, closed_yes _ _ _ h]
  rfl
/-- RateFirst's loop: in the first while nothing is closed. -/
structure FirstInv (m : Win) (n : Nat) : Prop where
  now : m.now = 0
  last : m.last = none
  long : m.long = n
theorem first_start (rows W n : Nat) (seed : U) : FirstInv (new rows W seed n) n := ⟨rfl, rfl, rfl⟩
theorem first_step (m : Win) (n T : Nat) (key : List UInt8) (h : FirstInv m n) : m.askd T 0 key = 0 ∧ m.err 0 = 0 ∧ FirstInv (m.ask 0 key) n := by
  have hy : m.ok ((0 : Nat) : Int) = true := ok_yes m 0 (by rw [h.now]; exact Nat.le_refl _) (by omega)
  have ht : m.turn 0 = m := by
    have := turn_refl m
    rwa [h.now] at this
  have e1 := askd_yes m T 0 key hy
  have e2 := ask_yes m 0 key hy
  rw [ht, h.last] at e1
  rw [ht] at e2
  refine ⟨e1.trans (by_zero T), err_yes _ _ hy, ?_⟩
  show FirstInv (m.ask ((0 : Nat) : Int) key) n
  rw [e2]
  exact ⟨h.now, h.last, h.long⟩
theorem first_end (m : Win) (n T : Nat) (key : List UInt8) (h : FirstInv m n) (hn : 1 ≤ n) (hn2 : n ≤ 1000) : m.askd T ((2 * n : Nat) : Int) key = 0 ∧ m.err ((2 * n : Nat) : Int) = 0 := by
  have hy : m.ok ((2 * n : Nat) : Int) = true := ok_yes m _ (by rw [h.now]; exact Nat.zero_le _) (by omega)
  have hl : (m.turn (2 * n)).last = none := by
    have h2 : 2 * n / m.long = 2 := by rw [h.long, Nat.mul_div_cancel _ (by omega)]
    have h0 : m.now / m.long = 0 := by rw [h.now, Nat.zero_div]
    unfold turn
    rw [h2, h0, if_neg (by omega), if_neg (by omega)]
  have e1 := askd_yes m T _ key hy
  rw [hl] at e1
  exact ⟨e1.trans (by_zero T), err_yes _ _ hy⟩
/-- RateSteady's loops: in while k, key asked i times. -/
structure SteadyInv (m : Win) (N k i : Nat) (key : List UInt8) : Prop where
  long : m.long = N
  wide : m.rows = 2 ∧ m.W = 16
  now : m.now ≤ k * N + i
  here : i = 0 ∨ m.now / N = k
  s : ∀ t, t / N = k → m.now ≤ t → (∃ s, (m.turn t).this = s ∧ s.Ok ∧ s.Alone key i) ∧ (k = 0 → (m.turn t).last = none) ∧ (1 ≤ k → ∃ s, (m.turn t).last = some s ∧ s.Ok ∧ s.Alone key N)
theorem steady_start (seed : U) (N : Nat) (key : List UInt8) (hN : 1 ≤ N) : SteadyInv (new 2 16 seed N) N 0 0 key := by
  refine ⟨rfl, ⟨rfl, rfl⟩, Nat.zero_le _, .inl rfl, fun t ht _ => ⟨⟨_, (new_turn 2 16 seed N t hN).1, Sk.new_ok _ _ _ (by omega) (by omega) (by omega) (by omega), Sk.alone_new _ _ _ _⟩, fun _ => ?_, fun h => absurd h (by omega)⟩⟩
  have h : t / (new 2 16 seed N).long = (new 2 16 seed N).now / (new 2 16 seed N).long := by
    show t / N = 0 / N
    rw [ht, Nat.zero_div]
  rw [turn_in _ t h]
  rfl
theorem steady_step (m : Win) (N k i T : Nat) (key : List UInt8) (hN : 1 ≤ N) (hN2 : N ≤ 1000) (hk : k ≤ 1000) (hi : i < N) (h : SteadyInv m N k i key) :
    m.askd T ((k * N + i : Nat) : Int) key = (if k = 0 then 0 else by_ T N) ∧ m.err ((k * N + i : Nat) : Int) = 0 ∧ SteadyInv (m.ask ((k * N + i : Nat) : Int) key) N k (i + 1) key := by
  have hb : k * N ≤ 1000 * 1000 := Nat.mul_le_mul hk hN2
  have hy : m.ok ((k * N + i : Nat) : Int) = true := ok_yes m _ h.now (by omega)
  have hq : (k * N + i) / N = k := by rw [Nat.add_comm, Nat.add_mul_div_right _ _ (by omega), Nat.div_eq_of_lt hi, Nat.zero_add]
  obtain ⟨⟨s, hs1, hs2, hs3⟩, hl0, hl1⟩ := h.s _ hq h.now
  have e1 := askd_yes m T _ key hy
  have e2 := ask_yes m _ key hy
  obtain ⟨a1, a2, a3, a4, a5⟩ := turn_now m (k * N + i)
  have hge : k * N + i < k * N + (i + 1) := by omega
  generalize k * N + i = t at *
  refine ⟨?_, err_yes _ _ hy, ?_⟩
  · rw [e1]
    by_cases h0 : k = 0
    · rw [hl0 h0, if_pos h0]
      exact by_zero T
    · obtain ⟨s', r1, r2, r3⟩ := hl1 (by omega)
      rw [r1, if_neg h0]
      show by_ T (s'.count key) = _
      rw [Sk.alone_count _ r2 key N r3]
  · obtain ⟨m1, hm1⟩ : ∃ m1, m1 = m.ask (t : Int) key := ⟨_, rfl⟩
    rw [← hm1] at e2 ⊢
    have n1 : m1.now = t := by rw [e2]; exact a1
    have l1 : m1.long = N := by rw [e2]; exact a2.trans h.long
    have s1 : m1.this = s.add key 1 := by rw [e2, ← hs1]
    have t1 : m1.last = (m.turn t).last := by rw [e2]
    have hal := Sk.alone_add _ hs2 key i 1 hs3
    have hsat : sat i 1 = i + 1 := by unfold sat; rw [if_pos (by omega)]
    rw [hsat] at hal
    have hnow := h.now
    refine ⟨l1, ⟨by rw [e2]; exact a3.trans h.wide.1, by rw [e2]; exact a4.trans h.wide.2⟩, ?_, .inr (by rw [n1]; exact hq), fun t' ht' _ => ?_⟩
    · rw [n1]
      exact Nat.le_of_lt hge
    · rw [turn_in m1 t' (by rw [l1, n1, ht', hq])]
      exact ⟨⟨_, s1, Sk.add_ok _ hs2 _ _, hal⟩, fun h0 => t1.trans (hl0 h0), fun h1 => by
        obtain ⟨s', r1, r2, r3⟩ := hl1 h1
        exact ⟨s', t1.trans r1, r2, r3⟩⟩
theorem steady_next (m : Win) (N k : Nat) (key : List UInt8) (hN : 1 ≤ N) (h : SteadyInv m N k N key) : SteadyInv m N (k + 1) 0 key := by
  have hd : m.now / N = k := by
    rcases h.here with h0 | h0
    · omega
    · exact h0
  refine ⟨h.long, h.wide, by have := h.now; rw [Nat.add_mul]; omega, .inl rfl, fun t ht hle => ?_⟩
  obtain ⟨⟨s, hs1, hs2, hs3⟩, _⟩ := h.s m.now hd (Nat.le_refl _)
  rw [turn_refl] at hs1
  rw [turn_to m t (by rw [h.long, ht, hd])]
  refine ⟨⟨_, rfl, ?_, ?_⟩, fun h0 => absurd h0 (by omega), fun _ => ⟨s, by show some m.this = some s; rw [hs1], hs2, hs3⟩⟩
  · show (m.fresh _).Ok
    unfold fresh
    rw [h.wide.1, h.wide.2]
    exact Sk.new_ok _ _ _ (by omega) (by omega) (by omega) (by omega)
  · show (m.fresh _).Alone key 0
    unfold fresh
    exact Sk.alone_new _ _ _ _
end Win
end Go.Proofs.Ytjpfamminemegaa.Tele
