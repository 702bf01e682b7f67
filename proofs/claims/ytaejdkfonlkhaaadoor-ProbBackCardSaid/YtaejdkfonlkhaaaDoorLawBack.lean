/- The walk of the law ProbBack. No conditions but that the library's table is as it was laid. -/
import Derived.Test.YtaejdkfonlkhaaaDoorNear
import Derived.Test.YtaejdkfonlkhaaaDoorPDigs
namespace Go.Proofs.YtaejdkfonlkhaaaDoor.Tele
open Go.RowKit
set_option linter.unusedVariables false
set_option linter.unusedSimpArgs false

theorem parse_yes (l : List UInt8) (v : Nat) (w : World) (h1 : 1 ≤ l.length) (h2 : l.length ≤ 14) (hx : allHex l = true) (hv : pval l l.length = v) :
    Calls Tryd.prog 25 #[.string ⟨l.toArray⟩] w fun e w' => e = .returned (.tuple #[.int .u64 (v : Int), .int .u16 0]) ∧ w' = w := by
  have hs : (⟨l.toArray⟩ : ByteArray).size = l.length := by show l.toArray.size = _; simp
  have h := parse_main ⟨l.toArray⟩ w (by omega) (by omega)
  rw [show (⟨l.toArray⟩ : ByteArray).data.toList = l from rfl, hx, if_pos rfl, hs, hv] at h
  exact h
theorem str_app (l : List UInt8) : (⟨l.toArray⟩ : ByteArray) ++ ⟨#[48]⟩ = ⟨(l ++ [48]).toArray⟩ := by
  apply ByteArray.ext
  simp
theorem back_walk (v t n c : Nat) (s : ByteArray) (u : Int) (a k : Int) (w : World) (hT : Tab w) (hv : v < 18446744073709551616) (ht2 : t < 72057594037927936)
    (N : Hid (∀ w, Calls Tryd.prog 16 #[.int .u64 a, .int .u8 k] w fun e w' => e = .returned (.int .u64 (v : Int)) ∧ w' = w))
    (ht : (v : Int) % 72057594037927936 = (t : Int))
    (D : Hid (∀ w, Calls Tryd.prog 18 #[.int .u64 (t : Int)] w fun e w' => e = .returned (.tuple #[.string s, .int .u16 0]) ∧ Below w.heap.size w w'))
    (P : Hid (∀ w, Calls Tryd.prog 25 #[.string s] w fun e w' => e = .returned (.tuple #[.int .u64 (t : Int), .int .u16 0]) ∧ w' = w))
    (Q : Hid (∀ w, Calls Tryd.prog 25 #[.string (s ++ ⟨#[48]⟩)] w fun e w' => e = .returned (.tuple #[.int .u64 u, .int .u16 (c : Int)]) ∧ w' = w))
    (hsz : (s.size : Int) = (n : Int)) (hs2 : n ≤ 14) (hcase : (n = 14 ∧ c = 31) ∨ (n < 14 ∧ c = 0 ∧ u = (t : Int))) :
    Calls Tryd.prog 7 #[.int .u64 a, .int .u8 k] w fun e w' => e = .returned (.bool true) ∧ Below w.heap.size w w' := by
  rcases hcase with ⟨rfl, rfl⟩ | ⟨h14, rfl, rfl⟩
  · go_enter Tryd.func7, Tryd.ntmps7
    go_wp2_with fail
    refine (N.out _).mono ?_
    rintro e w1 ⟨rfl, rfl⟩
    go_wp2_with fail
    refine (D.out _).mono ?_
    rintro e w2 ⟨rfl, hb⟩
    go_wp2_with fail
    refine (P.out _).mono ?_
    rintro e w3 ⟨rfl, rfl⟩
    go_wp2_with fail
    refine (Q.out _).mono ?_
    rintro e w3 ⟨rfl, rfl⟩
    go_wp2_with fail
    refine (known_calls _ (hT.below hb)).mono ?_
    rintro e w4 ⟨rfl, hb4⟩
    have hb := bnext hb hb4
    go_wp2
    go_ret
    exact ⟨rfl, hb⟩
  · have hn : ((n : Int) == 14) = false := by rw [beq_eq_false_iff_ne]; omega
    go_enter Tryd.func7, Tryd.ntmps7
    go_wp2_with fail
    refine (N.out _).mono ?_
    rintro e w1 ⟨rfl, rfl⟩
    go_wp2_with fail
    refine (D.out _).mono ?_
    rintro e w2 ⟨rfl, hb⟩
    go_wp2_with fail
    refine (P.out _).mono ?_
    rintro e w3 ⟨rfl, rfl⟩
    go_wp2_with fail
    refine (Q.out _).mono ?_
    rintro e w3 ⟨rfl, rfl⟩
    go_wp2_with fail
    refine (known_calls _ (hT.below hb)).mono ?_
    rintro e w4 ⟨rfl, hb4⟩
    have hb := bnext hb hb4
    go_wp2
    go_ret
    exact ⟨rfl, hb⟩
theorem probBack_walk (a k : Int) (w : World) (ha : (Lit.int .u64 a).wf = true) (hk : (Lit.int .u8 k).wf = true) (hT : Tab w) :
    Calls Tryd.prog 7 #[.int .u64 a, .int .u8 k] w fun e w' => e = .returned (.bool true) ∧ Below w.heap.size w w' := by
  obtain ⟨a, rfl, ha1⟩ := nat_of_wf ha
  obtain ⟨hk0, hk1⟩ := u8_of_wf hk
  obtain ⟨v, hv, N⟩ := near_any (a : Int) k (by omega) (by omega) hk0 hk1
  obtain ⟨t, ht⟩ : ∃ t, t = v % 72057594037927936 := ⟨_, rfl⟩
  have ht1 : t < 72057594037927936 := by omega
  obtain ⟨h1, h2, h3, h4, h5, h6⟩ := digits_back t ht1
  have hs : (⟨(digits t).toArray⟩ : ByteArray).size = (digits t).length := by show (digits t).toArray.size = _; simp
  by_cases hl : (digits t).length < 14
  · refine back_walk v t (digits t).length 0 ⟨(digits t).toArray⟩ (t : Int) a k w hT hv ht1 (Lib.hid N) (by omega) (Lib.hid fun w => digits_calls t w ht1) (Lib.hid fun w => parse_yes _ _ w h1 h2 h3 h5) (Lib.hid fun w => ?_) (by omega) h2 (by omega)
    rw [str_app]
    exact parse_yes _ _ w (by simp) (by simp; omega) h4 (by rw [List.length_append]; exact h6 hl)
  · refine back_walk v t (digits t).length 31 ⟨(digits t).toArray⟩ 0 a k w hT hv ht1 (Lib.hid N) (by omega) (Lib.hid fun w => digits_calls t w ht1) (Lib.hid fun w => parse_yes _ _ w h1 h2 h3 h5) (Lib.hid fun w => ?_) (by omega) h2 (by omega)
    rw [str_app]
    exact parse_len _ w (.inr (by show 14 < ((digits t) ++ [48]).toArray.size; simp; omega))
end Go.Proofs.YtaejdkfonlkhaaaDoor.Tele
