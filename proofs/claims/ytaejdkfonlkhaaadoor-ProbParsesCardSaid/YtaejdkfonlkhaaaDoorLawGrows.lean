/- The walk of the law ProbGrows. No conditions but that the library's table is as it was laid. -/
import Derived.Test.YtaejdkfonlkhaaaDoorKnown5
namespace Go.Proofs.YtaejdkfonlkhaaaDoor.Tele
open Go.RowKit
set_option linter.unusedVariables false
set_option linter.unusedSimpArgs false

theorem thr_any (keep of : Nat) (w : World) (h : keep ≤ of) (h1 : 1 ≤ of) (ho : of < 18446744073709551616) :
    Calls Tryd.prog 13 #[.int .u64 (keep : Int), .int .u64 (of : Int)] w fun e w' => e = .returned (.tuple #[.int .u64 ((thr keep of : Nat) : Int), .int .u16 0]) ∧ ∃ n, w' = w.drewN n := by
  by_cases hk : keep = of
  · subst hk
    have e : thr keep keep = 0 := by
      unfold thr
      rw [Nat.mul_comm, Nat.mul_div_cancel _ h1]
    rw [e]
    refine (thr_same keep w h1).mono ?_
    rintro e w' ⟨rfl, rfl⟩
    exact ⟨rfl, 0, rfl⟩
  · exact thr_less keep of w (by omega) ho
theorem thr_mono (x y of : Nat) (h : x ≤ y) : thr y of ≤ thr x of := by
  unfold thr
  have : x * 72057594037927936 / of ≤ y * 72057594037927936 / of := Nat.div_le_div_right (Nat.mul_le_mul_right _ h)
  omega
theorem thr_more (x o p : Nat) (h0 : 0 < o) (h : o ≤ p) : thr x o ≤ thr x p := by
  unfold thr
  have : x * 72057594037927936 / p ≤ x * 72057594037927936 / o := Nat.div_le_div_left h h0
  omega
theorem probGrows_walk (a b c : Int) (w : World) (ha : (Lit.int .u32 a).wf = true) (hb : (Lit.int .u32 b).wf = true) (hc : (Lit.int .u32 c).wf = true) (hT : Tab w) :
    Calls Tryd.prog 3 #[.int .u32 a, .int .u32 b, .int .u32 c] w fun e w' => e = .returned (.bool true) ∧ Below w.heap.size w w' := by
  obtain ⟨an, han, ha1⟩ := nat32_of_wf ha
  obtain ⟨bn, hbn, hb1⟩ := nat32_of_wf hb
  obtain ⟨cn, hcn, hc1⟩ := nat32_of_wf hc
  have ha0 : 0 ≤ a := by omega
  have hb0 : 0 ≤ b := by omega
  have hc0 : 0 ≤ c := by omega
  have ha2 : a ≤ 4294967295 := by omega
  have hb2 : b ≤ 4294967295 := by omega
  have hc2 : c ≤ 4294967295 := by omega
  clear ha hb hc
  obtain ⟨o, ho, ho1, ho2⟩ : ∃ o : Nat, c + 1 = (o : Int) ∧ 1 ≤ o ∧ o ≤ 4294967296 := ⟨cn + 1, by omega, by omega, by omega⟩
  obtain ⟨x, hx, hx1⟩ : ∃ x : Nat, min a b % ((o : Int) + 1) = (x : Int) ∧ x ≤ o := by
    have h1 := Int.emod_nonneg (min a b) (show ((o : Int) + 1) ≠ 0 by omega)
    have h2 := Int.emod_lt_of_pos (min a b) (show 0 < ((o : Int) + 1) by omega)
    exact ⟨(min a b % ((o : Int) + 1)).toNat, by omega, by omega⟩
  obtain ⟨z, hz, hz1⟩ : ∃ z : Nat, max a b % ((o : Int) + 1) = (z : Int) ∧ z ≤ o := by
    have h1 := Int.emod_nonneg (max a b) (show ((o : Int) + 1) ≠ 0 by omega)
    have h2 := Int.emod_lt_of_pos (max a b) (show 0 < ((o : Int) + 1) by omega)
    exact ⟨(max a b % ((o : Int) + 1)).toNat, by omega, by omega⟩
  obtain ⟨y, hy, hy1, hxy⟩ : ∃ y : Nat, max (x : Int) (z : Int) = (y : Int) ∧ y ≤ o ∧ x ≤ y := ⟨max x z, by omega, by omega, by omega⟩
  obtain ⟨p, hp, hp1, hop⟩ : ∃ p : Nat, (o : Int) + a + 1 = (p : Int) ∧ p ≤ 8589934592 ∧ o ≤ p := ⟨o + an + 1, by omega, by omega, by omega⟩
  have T1 := Lib.hid (fun w => thr_any x o w hx1 ho1 (by omega))
  have T2 := Lib.hid (fun w => thr_any y o w hy1 ho1 (by omega))
  have T3 := Lib.hid (fun w => thr_any x p w (by omega) (by omega) (by omega))
  have m1 := thr_mono x y o hxy
  have m2 := thr_more x o p ho1 hop
  generalize thr x o = s at *
  generalize thr y o = t at *
  generalize thr x p = u at *
  have g1 : decide (t ≤ s) = true := by simpa using m1
  have g2 : decide (s ≤ u) = true := by simpa using m2
  have hmn0 : 0 ≤ min a b := by omega
  have hmn1 : min a b ≤ 4294967295 := by omega
  have hmx0 : 0 ≤ max a b := by omega
  have hmx1 : max a b ≤ 4294967295 := by omega
  clear han hbn hcn
  go_enter Tryd.func3, Tryd.ntmps3
  go_wp2_with fail
  refine (T1.out _).mono ?_
  rintro e w1 ⟨rfl, n1, rfl⟩
  go_wp2_with fail
  refine (T2.out _).mono ?_
  rintro e w1 ⟨rfl, n2, rfl⟩
  go_wp2_with fail
  refine (T3.out _).mono ?_
  rintro e w1 ⟨rfl, n3, rfl⟩
  go_wp2_with fail
  refine (known_calls _ (by exact hT)).mono ?_
  rintro e w1 ⟨rfl, hb⟩
  go_wp2
  go_ret
  exact ⟨rfl, bnext (pw_below_drewN (Below.refl _ _) _) hb⟩
end Go.Proofs.YtaejdkfonlkhaaaDoor.Tele
