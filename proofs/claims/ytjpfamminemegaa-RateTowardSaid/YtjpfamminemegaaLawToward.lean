/- The walk of the law RateToward. No conditions. -/
import Derived.Test.YtjpfamminemegaaRate3
import Derived.Test.YtjpfamminemegaaPRate
namespace Go.Proofs.Ytjpfamminemegaa.Tele
open Go.RowKit
set_option linter.unusedVariables false
set_option linter.unusedSimpArgs false

theorem rateToward_walk (a b k : Int) (w : World) (ha : (Lit.int .u64 a).wf = true) (hb : (Lit.int .u64 b).wf = true) (hk : (Lit.int .u8 k).wf = true) :
    Calls Try.prog 6 #[.int .u64 a, .int .u64 b, .int .u8 k] w fun e w' => e = .returned (.bool true) ∧ Below w.heap.size w w' := by
  obtain ⟨A, rfl⟩ := u_of_wf ha
  obtain ⟨B, rfl⟩ := u_of_wf hb
  obtain ⟨hk0, hk1⟩ := u8_of_wf hk
  clear ha hb hk
  obtain ⟨x, hx, hxl⟩ : ∃ x : Nat, (A.toNat : Int) % 72057594037927936 = (x : Int) ∧ x < 72057594037927936 := ⟨A.toNat % 72057594037927936, by omega, by omega⟩
  obtain ⟨y, hy, hyl⟩ : ∃ y : Nat, (B.toNat : Int) % 72057594037927936 = (y : Int) ∧ y < 72057594037927936 := ⟨B.toNat % 72057594037927936, by omega, by omega⟩
  obtain ⟨n, hn, hn1, hn2⟩ : ∃ n : Nat, 1 + k % 9 = (n : Int) ∧ 1 ≤ n ∧ n ≤ 9 := ⟨(1 + k % 9).toNat, by omega, by omega, by omega⟩
  have h1 := Lib.hid (fun w => toward_ok x y n w hxl hyl hn1 (by omega))
  have h2 := Lib.hid (fun w => by have := toward_ok x y 72057594037927936 w hxl hyl (by omega) (by omega); rw [toward_whole x y hxl hyl] at this; exact this)
  have h3 := Lib.hid (fun w => by have := toward_ok x y 1 w hxl hyl (by omega) (by omega); rw [toward_one x y hxl hyl] at this; exact this)
  obtain ⟨t1, t2⟩ := toward_between x y n hxl hyl hn1
  generalize toward x y n = t at *
  obtain ⟨a, ha⟩ : ∃ a : Int, (A.toNat : Int) = a := ⟨_, rfl⟩
  obtain ⟨b, hb⟩ : ∃ b : Int, (B.toNat : Int) = b := ⟨_, rfl⟩
  rw [ha] at hx ⊢
  rw [hb] at hy ⊢
  have t3 : min (x : Int) (y : Int) ≤ (t : Int) := by omega
  have t4 : (t : Int) ≤ max (x : Int) (y : Int) := by omega
  have t5 : ((y : Int) == (y : Int)) = true := by simp
  have t6 : ((x : Int) == (x : Int)) = true := by simp
  have ha0 : 0 ≤ a := by omega
  have hb0 : 0 ≤ b := by omega
  clear ha hb t1 t2
  go_enter Try.func6, Try.ntmps6
  go_wp2_with fail
  refine (h1.out _).mono ?_
  rintro e w1 ⟨rfl, n1, rfl⟩
  go_wp2_with fail
  refine (h2.out _).mono ?_
  rintro e w1 ⟨rfl, n2, rfl⟩
  go_wp2_with fail
  refine (h3.out _).mono ?_
  rintro e w1 ⟨rfl, n3, rfl⟩
  go_wp2_with fail
  refine (rknown_calls _).mono ?_
  rintro e w1 ⟨rfl, hb⟩
  go_wp2
  go_ret
  exact ⟨rfl, bnext (pw_below_drewN (Below.refl _ _) _) hb⟩
end Go.Proofs.Ytjpfamminemegaa.Tele
