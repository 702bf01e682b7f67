/- The walk of the law RateBy. No conditions. -/
import Derived.Test.YtjpfamminemegaaRate3
import Derived.Test.YtjpfamminemegaaRef9
namespace Go.Proofs.Ytjpfamminemegaa.Tele
open Go.RowKit
set_option linter.unusedVariables false
set_option linter.unusedSimpArgs false

theorem toward_both (a b n : Nat) (hn : n < 18446744073709551616) : ∃ v er : Nat, er ≤ 1 ∧
    (∀ w, Calls Try.prog 9 #[.int .u64 (a : Int), .int .u64 (b : Int), .int .u64 (n : Int)] w fun e w' => e = .returned (.tuple #[.int .u64 (v : Int), .int .u16 (er : Int)]) ∧ ∃ m, w' = w.drewN m) ∧
    (∀ w, Calls Try.prog 10 #[.int .u64 (a : Int), .int .u64 (b : Int), .int .u64 (n : Int)] w fun e w' => e = .returned (.tuple #[.int .u64 (v : Int), .int .i64 (er : Int)]) ∧ w' = w) := by
  by_cases h : 72057594037927936 ≤ max a b ∨ n = 0
  · refine ⟨0, 1, by omega, fun w => (toward_err a b n w h).mono ?_, fun w => refToward_err a b n w h⟩
    rintro e w' ⟨rfl, rfl⟩
    exact ⟨rfl, 0, rfl⟩
  · exact ⟨toward a b n, 0, by omega, fun w => toward_ok a b n w (by omega) (by omega) (by omega) hn, fun w => refToward_ok a b n w (by omega) (by omega) (by omega) hn⟩
theorem rateBy_walk (a b c k : Int) (w : World) (ha : (Lit.int .u64 a).wf = true) (hb : (Lit.int .u64 b).wf = true) (hc : (Lit.int .u64 c).wf = true) (hk : (Lit.int .u8 k).wf = true) :
    Calls Try.prog 3 #[.int .u64 a, .int .u64 b, .int .u64 c, .int .u8 k] w fun e w' => e = .returned (.bool true) ∧ Below w.heap.size w w' := by
  obtain ⟨a, rfl, ha1⟩ := nat_of_wf ha
  obtain ⟨b, rfl, hb1⟩ := nat_of_wf hb
  obtain ⟨c, rfl, hc1⟩ := nat_of_wf hc
  obtain ⟨hk0, hk1⟩ := u8_of_wf hk
  clear ha hb hc hk
  obtain ⟨s, hs, hs1⟩ : ∃ s : Nat, k % 56 = (s : Int) ∧ s ≤ 55 := ⟨(k % 56).toNat, by omega, by omega⟩
  obtain ⟨x0, hx0⟩ : ∃ x0 : Nat, (a : Int) % 72057594037927936 = (x0 : Int) := ⟨a % 72057594037927936, by omega⟩
  obtain ⟨x, hx⟩ : ∃ x : Nat, (x0 : Int) / 2 ^ s = (x : Int) := ⟨x0 / 2 ^ s, by rw [castPow]; exact (Int.natCast_ediv _ _).symm⟩
  obtain ⟨y, hy⟩ : ∃ y : Nat, (b : Int) % 72057594037927936 = (y : Int) := ⟨b % 72057594037927936, by omega⟩
  obtain ⟨n, hn, hn1, hn2⟩ : ∃ n : Nat, 1 + (c : Int) % 9 = (n : Int) ∧ 1 ≤ n ∧ n ≤ 9 := ⟨1 + c % 9, by omega, by omega, by omega⟩
  obtain ⟨p, hp, hp1⟩ : ∃ p : Nat, (a : Int) % 50 = (p : Int) ∧ p ≤ 50 := ⟨a % 50, by omega, by omega⟩
  obtain ⟨q, hq, hq1⟩ : ∃ q : Nat, (b : Int) % 50 = (q : Int) ∧ q ≤ 50 := ⟨b % 50, by omega, by omega⟩
  obtain ⟨v1, e1, he1, t1, r1⟩ := toward_both a b c (by omega)
  obtain ⟨v2, e2, he2, t2, r2⟩ := toward_both x y n (by omega)
  have T1 := Lib.hid t1
  have R1 := Lib.hid r1
  have T2 := Lib.hid t2
  have R2 := Lib.hid r2
  have B1 := Lib.hid (fun w => by_calls a b w (by omega))
  have B2 := Lib.hid (fun w => refBy_calls a b w (by omega))
  have B3 := Lib.hid (fun w => by_calls p q w (by omega))
  have B4 := Lib.hid (fun w => refBy_calls p q w (by omega))
  have C1 := Lib.hid (fun w => clamp_calls (a : Int) (b : Int) (c : Int) w)
  have C2 := Lib.hid (fun w => refClamp_calls (a : Int) (b : Int) (c : Int) w)
  clear t1 r1 t2 r2
  generalize by_ a b = b1 at *
  generalize by_ p q = b2 at *
  generalize min (max (a : Int) (b : Int)) (c : Int) = m at *
  have q1 : ((v1 : Int) == (v1 : Int)) = true := by simp
  have q2 : ((v2 : Int) == (v2 : Int)) = true := by simp
  have q3 : ((b1 : Int) == (b1 : Int)) = true := by simp
  have q4 : ((b2 : Int) == (b2 : Int)) = true := by simp
  have q5 : (m == m) = true := by simp
  have q6 : ((e1 : Int) == (e1 : Int)) = true := by simp
  have q7 : ((e2 : Int) == (e2 : Int)) = true := by simp
  go_enter Try.func3, Try.ntmps3
  go_wp2_with fail
  refine (T1.out _).mono ?_
  rintro e w1 ⟨rfl, n1, rfl⟩
  go_wp2_with fail
  refine (R1.out _).mono ?_
  rintro e w1 ⟨rfl, rfl⟩
  go_wp2_with fail
  refine (T2.out _).mono ?_
  rintro e w1 ⟨rfl, n2, rfl⟩
  go_wp2_with fail
  refine (R2.out _).mono ?_
  rintro e w1 ⟨rfl, rfl⟩
  go_wp2_with fail
  refine (rknown_calls _).mono ?_
  rintro e w1 ⟨rfl, hb⟩
  have hb := bnext (pw_below_drewN (Below.refl _ _) _) hb
  go_wp2_with fail
  refine (B1.out _).mono ?_
  rintro e w2 ⟨rfl, n3, rfl⟩
  go_wp2_with fail
  refine (B2.out _).mono ?_
  rintro e w2 ⟨rfl, rfl⟩
  go_wp2_with fail
  refine (B3.out _).mono ?_
  rintro e w2 ⟨rfl, n4, rfl⟩
  go_wp2_with fail
  refine (B4.out _).mono ?_
  rintro e w2 ⟨rfl, rfl⟩
  go_wp2_with fail
  refine (C1.out _).mono ?_
  rintro e w2 ⟨rfl, rfl⟩
  go_wp2_with fail
  refine (C2.out _).mono ?_
  rintro e w2 ⟨rfl, rfl⟩
  go_wp2
  go_ret
  exact ⟨rfl, pw_below_drewN hb _⟩
end Go.Proofs.Ytjpfamminemegaa.Tele
