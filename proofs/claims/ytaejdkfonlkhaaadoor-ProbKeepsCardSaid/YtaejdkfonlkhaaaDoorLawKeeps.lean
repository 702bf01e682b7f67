/- The walk of the law ProbKeeps. No conditions but that the library's table is as it was laid. -/
import Derived.Test.YtaejdkfonlkhaaaDoorNear
import Derived.Test.YtaejdkfonlkhaaaDoorRef5b
namespace Go.Proofs.YtaejdkfonlkhaaaDoor.Tele
open Go.RowKit
set_option linter.unusedVariables false
set_option linter.unusedSimpArgs false

theorem refKeep_calls (r t : Int) (w : World) : Calls Tryd.prog 21 #[.int .u64 r, .int .u64 t] w fun e w' => e = .returned (.bool (decide (t ≤ r ∧ r < 72057594037927936))) ∧ w' = w := by
  by_cases h1 : r < 72057594037927936
  · by_cases h2 : t ≤ r
    · rw [decide_eq_true ⟨h2, h1⟩]
      go_enter Tryd.func21, Tryd.ntmps21
      go_wp2
      go_ret
      exact ⟨rfl, rfl⟩
    · rw [decide_eq_false (by omega)]
      go_enter Tryd.func21, Tryd.ntmps21
      go_wp2
      go_ret
      exact ⟨rfl, rfl⟩
  · rw [decide_eq_false (by omega)]
    go_enter Tryd.func21, Tryd.ntmps21
    go_wp2
    go_ret
    exact ⟨rfl, rfl⟩
theorem keeps_walk (r t k n d c : Nat) (s : ByteArray) (bo : Bool) (a b k1 k2 : Int) (w : World) (hT : Tab w) (hc : (c : Int) ≤ 1)
    (N1 : Hid (∀ w, Calls Tryd.prog 16 #[.int .u64 a, .int .u8 k1] w fun e w' => e = .returned (.int .u64 (r : Int)) ∧ w' = w))
    (N2 : Hid (∀ w, Calls Tryd.prog 16 #[.int .u64 b, .int .u8 k2] w fun e w' => e = .returned (.int .u64 (t : Int)) ∧ w' = w))
    (W1 : Hid (∀ w, Tab w → Calls Tryd.prog 15 #[.int .u64 (t : Int)] w fun e w' => e = .returned (.tuple #[.int .u64 (n : Int), .int .u64 (d : Int), .int .u16 (c : Int)]) ∧ ∃ n, w' = w.drewN n))
    (W2 : Hid (∀ w, Calls Tryd.prog 17 #[.int .u64 (t : Int)] w fun e w' => e = .returned (.tuple #[.int .u64 (n : Int), .int .u64 (d : Int), .int .i64 (c : Int)]) ∧ ∃ n, w' = w.drewN n))
    (D1 : Hid (∀ w, Calls Tryd.prog 18 #[.int .u64 (t : Int)] w fun e w' => e = .returned (.tuple #[.string s, .int .u16 (c : Int)]) ∧ Below w.heap.size w w'))
    (D2 : Hid (∀ w, Calls Tryd.prog 19 #[.int .u64 (t : Int)] w fun e w' => e = .returned (.tuple #[.string s, .int .i64 (c : Int)]) ∧ w' = w))
    (K1 : Hid (∀ w, Calls Tryd.prog 20 #[.int .u64 (r : Int), .int .u64 (t : Int)] w fun e w' => e = .returned (.bool bo) ∧ w' = w))
    (K2 : Hid (∀ w, Calls Tryd.prog 21 #[.int .u64 (r : Int), .int .u64 (t : Int)] w fun e w' => e = .returned (.bool bo) ∧ w' = w))
    (P1 : Hid (∀ w, Calls Tryd.prog 22 #[.int .u64 (t : Int)] w fun e w' => e = .returned (.int .u64 (k : Int)) ∧ w' = w))
    (P2 : Hid (∀ w, Calls Tryd.prog 23 #[.int .u64 (t : Int)] w fun e w' => e = .returned (.int .u64 (k : Int)) ∧ w' = w)) :
    Calls Tryd.prog 5 #[.int .u64 a, .int .u64 b, .int .u8 k1, .int .u8 k2] w fun e w' => e = .returned (.bool true) ∧ Below w.heap.size w w' := by
  have q1 : (bo == bo) = true := by cases bo <;> rfl
  have q2 : ((k : Int) == (k : Int)) = true := by simp
  have q3 : ((n : Int) == (n : Int)) = true := by simp
  have q4 : ((d : Int) == (d : Int)) = true := by simp
  have q5 : ((c : Int) == (c : Int)) = true := by simp
  go_enter Tryd.func5, Tryd.ntmps5
  go_wp2_with fail
  refine (N1.out _).mono ?_
  rintro e w1 ⟨rfl, rfl⟩
  go_wp2_with fail
  refine (N2.out _).mono ?_
  rintro e w1 ⟨rfl, rfl⟩
  go_wp2_with fail
  refine (W1.out _ (by exact hT)).mono ?_
  rintro e w1 ⟨rfl, n1, rfl⟩
  go_wp2_with fail
  refine (W2.out _).mono ?_
  rintro e w1 ⟨rfl, n2, rfl⟩
  go_wp2_with fail
  refine (D1.out _).mono ?_
  rintro e w2 ⟨rfl, hb⟩
  have hb := bnext (pw_below_drewN (Below.refl _ _) _) hb
  go_wp2_with fail
  refine (D2.out _).mono ?_
  rintro e w3 ⟨rfl, rfl⟩
  go_wp2_with fail
  refine (known_calls _ (Tab.below (by exact hT) hb)).mono ?_
  rintro e w4 ⟨rfl, hb4⟩
  have hb := bnext hb hb4
  go_wp2_with fail
  refine (K1.out _).mono ?_
  rintro e w3 ⟨rfl, rfl⟩
  go_wp2_with fail
  refine (K2.out _).mono ?_
  rintro e w3 ⟨rfl, rfl⟩
  go_wp2_with fail
  refine (P1.out _).mono ?_
  rintro e w3 ⟨rfl, rfl⟩
  go_wp2_with fail
  refine (P2.out _).mono ?_
  rintro e w3 ⟨rfl, rfl⟩
  go_wp2
  go_ret
  exact ⟨rfl, hb⟩
theorem probKeeps_walk (a b k m : Int) (w : World) (ha : (Lit.int .u64 a).wf = true) (hb : (Lit.int .u64 b).wf = true) (hk : (Lit.int .u8 k).wf = true) (hm : (Lit.int .u8 m).wf = true) (hT : Tab w) :
    Calls Tryd.prog 5 #[.int .u64 a, .int .u64 b, .int .u8 k, .int .u8 m] w fun e w' => e = .returned (.bool true) ∧ Below w.heap.size w w' := by
  obtain ⟨a, rfl, ha1⟩ := nat_of_wf ha
  obtain ⟨b, rfl, hb1⟩ := nat_of_wf hb
  obtain ⟨hk0, hk1⟩ := u8_of_wf hk
  obtain ⟨hm0, hm1⟩ := u8_of_wf hm
  obtain ⟨r, hr, N1⟩ := near_any (a : Int) k (by omega) (by omega) hk0 hk1
  obtain ⟨t, ht, N2⟩ := near_any (b : Int) m (by omega) (by omega) hm0 hm1
  by_cases h : t < 72057594037927936
  · exact keeps_walk r t _ _ _ 0 _ _ a b k m w hT (by omega) (Lib.hid N1) (Lib.hid N2) (Lib.hid fun w hT => weight_calls t w h hT) (Lib.hid fun w => refWeight_calls t w h)
      (Lib.hid fun w => digits_calls t w h) (Lib.hid fun w => refDigits_calls t w h) (Lib.hid fun w => keep_calls _ _ w) (Lib.hid fun w => refKeep_calls _ _ w) (Lib.hid fun w => kept_calls t w) (Lib.hid fun w => refKept_calls t w)
  · exact keeps_walk r t _ 0 0 1 _ _ a b k m w hT (by omega) (Lib.hid N1) (Lib.hid N2) (Lib.hid fun w hT => (weight_err t w (by omega)).mono fun e w' ⟨h1, h2⟩ => ⟨h1, 0, h2⟩) (Lib.hid fun w => (refWeight_err t w (by omega)).mono fun e w' ⟨h1, h2⟩ => ⟨h1, 0, h2⟩)
      (Lib.hid fun w => (digits_err t w (by omega)).mono fun e w' ⟨h1, h2⟩ => ⟨h1, h2 ▸ Below.refl _ _⟩) (Lib.hid fun w => refDigits_err t w (by omega)) (Lib.hid fun w => keep_calls _ _ w) (Lib.hid fun w => refKeep_calls _ _ w) (Lib.hid fun w => kept_calls t w) (Lib.hid fun w => refKept_calls t w)
end Go.Proofs.YtaejdkfonlkhaaaDoor.Tele
