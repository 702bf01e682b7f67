/- The walks of the reference's functions on hash: they compute the same. No conditions but a text's length. -/
import Derived.Test.YtifooncbljpbiaaHash4
import Derived.Laws.ShiftsVar
namespace Go.Proofs.Ytifooncbljpbiaa.Tele
open Go.RowKit

theorem sx_int (X : U) (s : Nat) : bits .xor .u64 (X.toNat : Int) ((X.toNat : Int) / ((2 ^ s : Nat) : Int)) = ((sx X s).toNat : Int) := by
  rw [u_shr' X s _ rfl, u_xor]
  rfl
theorem part_calls (X : U) (s : Nat) (hs : s = 27 ∨ s = 30 ∨ s = 31) (w : World) : Calls Try.prog 18 #[uv X, .int .i64 (s : Int)] w fun e w' => e = .returned (uv (sx X s)) ∧ w' = w := by
  have HE := sx_int X s
  unfold uv
  rw [← HE]
  clear HE
  generalize (X.toNat : Int) = x
  rcases hs with rfl | rfl | rfl
  all_goals
    go_enter Try.func18, Try.ntmps18
    go_wp2
    go_ret
    exact ⟨by simp, rfl⟩
theorem refMix_walk (X A B C JA JB : U) (w : World) (h30 : ∀ w : World, Calls Try.prog 18 #[uv X, .int .i64 30] w fun e w' => e = .returned (uv A) ∧ w' = w)
    (h27 : ∀ w : World, Calls Try.prog 18 #[uv JA, .int .i64 27] w fun e w' => e = .returned (uv B) ∧ w' = w)
    (h31 : ∀ w : World, Calls Try.prog 18 #[uv JB, .int .i64 31] w fun e w' => e = .returned (uv C) ∧ w' = w)
    (m1 : Hid (IntKind.u64.wrap ((A.toNat : Int) * 13787848793156543929) = (JA.toNat : Int))) (m2 : Hid (IntKind.u64.wrap ((B.toNat : Int) * 10723151780598845931) = (JB.toNat : Int))) :
    Calls Try.prog 10 #[uv X] w fun e w' => e = .returned (uv C) ∧ w' = w := by
  have H30 := Lib.hid h30
  have H27 := Lib.hid h27
  have H31 := Lib.hid h31
  clear h30 h27 h31
  go_enter Try.func10, Try.ntmps10
  go_wp2_with fail
  refine (H30.out _).mono ?_
  rintro e w1 ⟨rfl, rfl⟩
  go_wp2_with fail
  rw [m1.out]
  refine (H27.out _).mono ?_
  rintro e w1 ⟨rfl, rfl⟩
  go_wp2_with fail
  rw [m2.out]
  refine (H31.out _).mono ?_
  rintro e w1 ⟨rfl, rfl⟩
  go_wp2
  go_ret
  exact ⟨rfl, rfl⟩
theorem refMix_calls (X : U) (w : World) : Calls Try.prog 10 #[uv X] w fun e w' => e = .returned (uv (mix X)) ∧ w' = w :=
  refMix_walk X (sx X 30) (sx (sx X 30 * C1) 27) (mix X) (sx X 30 * C1) (sx (sx X 30 * C1) 27 * C2) w (fun w => part_calls X 30 (by omega) w) (fun w => part_calls _ 27 (by omega) w) (fun w => part_calls _ 31 (by omega) w) (Lib.hid (u_mul _ C1)) (Lib.hid (u_mul _ C2))

theorem refOf_calls (X : U) (s : ByteArray) (w : World) (hs : s.size ≤ 140737488351232) : Calls Try.prog 14 #[uv X, .string s] w fun e w' => e = .returned (uv (of_ X s.data.toList)) ∧ w' = w := by
  go_enter Try.func14, Try.ntmps14
  go_wp2_with (go_at_call 10; refine (refMix_calls X _).mono ?_; rintro e w1 ⟨rfl, rfl⟩)
  go_loop [5, 6] (fun x i => ∃ k : Nat, k ≤ s.size ∧ i = .int .i64 k ∧ x = uv (ofK X s k)) (fun _ i => s.size - (intOf i).toNat)
  case atStart => exact ⟨0, Nat.zero_le _, rfl, rfl⟩
  case round =>
    obtain ⟨k, hk, rfl, rfl⟩ := hrel
    by_cases hlt : k < s.size
    · have HF := Lib.hid (ofK_succ X s k hlt)
      go_wp2
      go_round
      case rel => exact ⟨k + 1, by omega, by go_num, by rw [HF.out]⟩
      case measure => simp [intOf]; omega
    · have HE := Lib.hid (ofK_end X s k (by omega))
      have HL := Lib.hid (len_eq (ofK X s k) s.size (by omega))
      go_wp2_with fail
      rw [HL.out]
      refine (refMix_calls _ _).mono ?_
      rintro e w2 ⟨rfl, rfl⟩
      go_wp2
      go_ret
      exact ⟨by rw [← HE.out]; rfl, rfl⟩

theorem refIn_lo (X : U) (s : ByteArray) (n : Int) (w : World) (hn : n < 1) : Calls Try.prog 16 #[uv X, .string s, .int .i64 n] w fun e w' => e = .returned (.int .i64 (in_ X s.data.toList n)) ∧ w' = w := by
  have hE : in_ X s.data.toList n = 0 := by unfold in_; rw [if_pos hn]
  rw [hE]
  clear hE
  go_enter Try.func16, Try.ntmps16
  go_wp2
  go_ret
  exact ⟨rfl, rfl⟩
theorem refIn_hi (X : U) (s : ByteArray) (n : Int) (w : World) (hs : s.size ≤ 140737488351232) (hn : 1 ≤ n) (hn' : n ≤ 9223372036854775807) : Calls Try.prog 16 #[uv X, .string s, .int .i64 n] w fun e w' => e = .returned (.int .i64 (in_ X s.data.toList n)) ∧ w' = w := by
  have hE : in_ X s.data.toList n = ((of_ X s.data.toList).toNat : Int) % n := by unfold in_; rw [if_neg (by omega)]
  have hr := in_range X s.data.toList n hn
  rw [hE] at *
  clear hE
  have hof := fun w => refOf_calls X s w hs
  generalize of_ X s.data.toList = Y at *
  have H := Lib.hid hof
  clear hof
  go_enter Try.func16, Try.ntmps16
  go_wp2_with (go_at_call 14; refine (H.out _).mono ?_; rintro e w1 ⟨rfl, rfl⟩)
  go_ret
  exact ⟨by simp, rfl⟩
theorem refIn_calls (X : U) (s : ByteArray) (n : Int) (w : World) (hs : s.size ≤ 140737488351232) (hn' : n ≤ 9223372036854775807) : Calls Try.prog 16 #[uv X, .string s, .int .i64 n] w fun e w' => e = .returned (.int .i64 (in_ X s.data.toList n)) ∧ w' = w := by
  by_cases h : n < 1
  · exact refIn_lo X s n w h
  · exact refIn_hi X s n w hs (by omega) hn'
end Go.Proofs.Ytifooncbljpbiaa.Tele
