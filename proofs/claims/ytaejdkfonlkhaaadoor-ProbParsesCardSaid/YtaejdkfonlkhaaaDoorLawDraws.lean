/- The walk of the law ProbDraws. No conditions but that the library's table is as it was laid. -/
import Derived.Test.YtaejdkfonlkhaaaDoorLawGrows
namespace Go.Proofs.YtaejdkfonlkhaaaDoor.Tele
open Go.RowKit
set_option linter.unusedVariables false
set_option linter.unusedSimpArgs false

theorem number_drawn (c0 c2 c3 c4 c5 c6 c7 c8 : Value) (lo rv : Int) (w : World) (h0 : 0 < rv) (h1 : rv ≤ 72057594037927936) :
    Calls Tryd.prog 28 #[.agg #[c0, .int .u64 lo, c2, c3, c4, c5, c6, c7, c8, .int .u64 rv]] w fun e w' => e = .returned (.int .u64 (rv - 1)) ∧ Below w.heap.size w w' := by
  go_enter Tryd.func28, Tryd.ntmps28
  go_wp2_with fail
  go_ret
  exact ⟨rfl, bl_alloc (Below.refl _ _) _⟩
theorem number_low (c0 c2 c3 c4 c5 c6 c7 c8 : Value) (lo rv v : Int) (w : World) (h0 : rv ≤ 0 ∨ 72057594037927936 < rv) (hv : bits .and .u64 lo 72057594037927935 = v) :
    Calls Tryd.prog 28 #[.agg #[c0, .int .u64 lo, c2, c3, c4, c5, c6, c7, c8, .int .u64 rv]] w fun e w' => e = .returned (.int .u64 v) ∧ Below w.heap.size w w' := by
  rcases h0 with h0 | h0
  · go_enter Tryd.func28, Tryd.ntmps28
    go_wp2_with fail
    go_ret
    exact ⟨rfl, bl_alloc (Below.refl _ _) _⟩
  · have h1 : 0 < rv := by omega
    go_enter Tryd.func28, Tryd.ntmps28
    go_wp2_with fail
    go_ret
    exact ⟨rfl, bl_alloc (Below.refl _ _) _⟩
/-- A trace's number. -/
def numb (lo rv : Nat) : Nat := if 0 < rv ∧ rv ≤ 72057594037927936 then rv - 1 else lo % 72057594037927936
theorem number_calls (c0 c2 c3 c4 c5 c6 c7 c8 : Value) (lo rv : Nat) (w : World) (hl : lo < 18446744073709551616) :
    Calls Tryd.prog 28 #[.agg #[c0, .int .u64 (lo : Int), c2, c3, c4, c5, c6, c7, c8, .int .u64 (rv : Int)]] w fun e w' => e = .returned (.int .u64 (numb lo rv : Int)) ∧ Below w.heap.size w w' := by
  by_cases h : 0 < rv ∧ rv ≤ 72057594037927936
  · have e : ((numb lo rv : Nat) : Int) = (rv : Int) - 1 := by unfold numb; rw [if_pos h]; omega
    rw [e]
    exact number_drawn _ _ _ _ _ _ _ _ _ _ w (by omega) (by omega)
  · have e : numb lo rv = lo % 72057594037927936 := if_neg h
    rw [e]
    refine number_low _ _ _ _ _ _ _ _ _ _ _ w (by omega) ?_
    have h := bits_and_u64_nat lo 72057594037927935 hl (by omega)
    rw [show lo &&& 72057594037927935 = lo % 72057594037927936 from Nat.and_two_pow_sub_one_eq_mod lo 56] at h
    exact h
theorem draws_walk (hi lo n m : Nat) (w : World) (r : Int) (r0 : 0 ≤ r) (hT : Tab w) (hn : n < 72057594037927936) (hlo : lo < 18446744073709551616) (hr : r % 72057594037927936 = (n : Int)) (hm : (lo : Int) % 72057594037927936 = (m : Int)) (p q : Nat) (hp : (n : Int) + 1 = (p : Int)) (hq : 72057594037927937 + (n : Int) = (q : Int))
    (h1 : numb lo p = n) (h2 : numb lo 0 = m) (h3 : numb lo q = m) :
    Calls Tryd.prog 12 #[.int .u64 (hi : Int), .int .u64 (lo : Int), .int .u64 r] w fun e w' => e = .returned (.bool true) ∧ Below w.heap.size w w' := by
  have q1 : ((n : Int) == (n : Int)) = true := by simp
  have q2 : ((m : Int) == (m : Int)) = true := by simp
  have C1 := Lib.hid fun c0 c2 c3 c4 c5 c6 c7 c8 w => by have := number_calls c0 c2 c3 c4 c5 c6 c7 c8 lo p w hlo; rw [h1] at this; exact this
  have C2 := Lib.hid fun c0 c2 c3 c4 c5 c6 c7 c8 w => by have := number_calls c0 c2 c3 c4 c5 c6 c7 c8 lo 0 w hlo; rw [h2, show ((0 : Nat) : Int) = 0 from rfl] at this; exact this
  have C3 := Lib.hid fun c0 c2 c3 c4 c5 c6 c7 c8 w => by have := number_calls c0 c2 c3 c4 c5 c6 c7 c8 lo q w hlo; rw [h3] at this; exact this
  have hq2 : (q : Int) ≤ 18446744073709551615 := by omega
  clear h1 h2 h3
  go_enter Tryd.func12, Tryd.ntmps12
  go_wp2_with fail
  refine (known_calls _ hT).mono ?_
  rintro e w2 ⟨rfl, hb⟩
  go_wp2_with fail
  refine (C1.out _ _ _ _ _ _ _ _ _).mono ?_
  rintro e w3 ⟨rfl, hb1⟩
  have hb := bnext hb hb1
  clear hb1
  go_wp2_with fail
  refine (C2.out _ _ _ _ _ _ _ _ _).mono ?_
  rintro e w4 ⟨rfl, hb1⟩
  have hb := bnext hb hb1
  clear hb1
  go_wp2_with fail
  refine (C3.out _ _ _ _ _ _ _ _ _).mono ?_
  rintro e w5 ⟨rfl, hb1⟩
  have hb := bnext hb hb1
  clear hb1
  go_wp2
  go_ret
  exact ⟨rfl, hb⟩
theorem probDraws_walk (hi lo r : Int) (w : World) (ha : (Lit.int .u64 hi).wf = true) (hb : (Lit.int .u64 lo).wf = true) (hc : (Lit.int .u64 r).wf = true) (hT : Tab w) :
    Calls Tryd.prog 12 #[.int .u64 hi, .int .u64 lo, .int .u64 r] w fun e w' => e = .returned (.bool true) ∧ Below w.heap.size w w' := by
  obtain ⟨hi, rfl, hi1⟩ := nat_of_wf ha
  obtain ⟨lo, rfl, lo1⟩ := nat_of_wf hb
  obtain ⟨r, rfl, r1⟩ := nat_of_wf hc
  refine draws_walk hi lo (r % 72057594037927936) (lo % 72057594037927936) w r (by omega) hT (by omega) (by omega) (by omega) (by omega) (r % 72057594037927936 + 1) (72057594037927937 + r % 72057594037927936) (by omega) (by omega) ?_ ?_ ?_
  · unfold numb; rw [if_pos (by omega)]; omega
  · unfold numb; rw [if_neg (by omega)]
  · unfold numb; rw [if_neg (by omega)]
end Go.Proofs.YtaejdkfonlkhaaaDoor.Tele
