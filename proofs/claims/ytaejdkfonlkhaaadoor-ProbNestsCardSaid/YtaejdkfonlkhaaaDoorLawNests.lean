/- The walk of the law ProbNests. No conditions but that the library's table is as it was laid. -/
import Derived.Test.YtaejdkfonlkhaaaDoorNear
namespace Go.Proofs.YtaejdkfonlkhaaaDoor.Tele
open Go.RowKit
set_option linter.unusedVariables false
set_option linter.unusedSimpArgs false

theorem nests_walk (x s t k1 k2 hi lo : Int) (b1 b2 b3 b4 : Bool) (r a b k m n : Int) (w : World) (hT : Tab w)
    (N1 : Hid (∀ w, Calls Tryd.prog 16 #[.int .u64 r, .int .u8 n] w fun e w' => e = .returned (.int .u64 x) ∧ w' = w))
    (N2 : Hid (∀ w, Calls Tryd.prog 16 #[.int .u64 a, .int .u8 k] w fun e w' => e = .returned (.int .u64 s) ∧ w' = w))
    (N3 : Hid (∀ w, Calls Tryd.prog 16 #[.int .u64 b, .int .u8 m] w fun e w' => e = .returned (.int .u64 t) ∧ w' = w))
    (hhi : max s t = hi) (hlo : min s t = lo)
    (K1 : Hid (∀ w, Calls Tryd.prog 20 #[.int .u64 x, .int .u64 hi] w fun e w' => e = .returned (.bool b1) ∧ w' = w))
    (K2 : Hid (∀ w, Calls Tryd.prog 20 #[.int .u64 x, .int .u64 lo] w fun e w' => e = .returned (.bool b2) ∧ w' = w))
    (K3 : Hid (∀ w, Calls Tryd.prog 20 #[.int .u64 x, .int .u64 0] w fun e w' => e = .returned (.bool b3) ∧ w' = w))
    (K4 : Hid (∀ w, Calls Tryd.prog 20 #[.int .u64 x, .int .u64 72057594037927936] w fun e w' => e = .returned (.bool false) ∧ w' = w))
    (P1 : Hid (∀ w, Calls Tryd.prog 22 #[.int .u64 hi] w fun e w' => e = .returned (.int .u64 k1) ∧ w' = w))
    (P2 : Hid (∀ w, Calls Tryd.prog 22 #[.int .u64 lo] w fun e w' => e = .returned (.int .u64 k2) ∧ w' = w))
    (h12 : b1 = true → b2 = true) (hk : k1 ≤ k2) (h3 : b3 = decide (x < 72057594037927936)) :
    Calls Tryd.prog 9 #[.int .u64 r, .int .u64 a, .int .u64 b, .int .u8 k, .int .u8 m, .int .u8 n] w fun e w' => e = .returned (.bool true) ∧ Below w.heap.size w w' := by
  have H3 := Lib.hid h3
  clear h3
  cases b1 with
  | true =>
    obtain rfl := h12 rfl
    go_enter Tryd.func9, Tryd.ntmps9
    go_wp2_with fail
    refine (N1.out _).mono ?_
    rintro e w1 ⟨rfl, rfl⟩
    go_wp2_with fail
    refine (N2.out _).mono ?_
    rintro e w1 ⟨rfl, rfl⟩
    go_wp2_with fail
    refine (N3.out _).mono ?_
    rintro e w1 ⟨rfl, rfl⟩
    go_wp2_with fail
    refine (known_calls _ hT).mono ?_
    rintro e w2 ⟨rfl, hb⟩
    go_wp2_with fail
    refine (K1.out _).mono ?_
    rintro e w3 ⟨rfl, rfl⟩
    go_wp2_with fail
    refine (K2.out _).mono ?_
    rintro e w3 ⟨rfl, rfl⟩
    go_wp2_with fail
    refine (P1.out _).mono ?_
    rintro e w3 ⟨rfl, rfl⟩
    go_wp2_with fail
    refine (P2.out _).mono ?_
    rintro e w3 ⟨rfl, rfl⟩
    go_wp2_with fail
    refine (K3.out _).mono ?_
    rintro e w3 ⟨rfl, rfl⟩
    rw [H3.out]
    go_wp2_with fail
    refine (K4.out _).mono ?_
    rintro e w3 ⟨rfl, rfl⟩
    go_wp2
    go_ret
    exact ⟨rfl, hb⟩
  | false =>
    clear h12
    go_enter Tryd.func9, Tryd.ntmps9
    go_wp2_with fail
    refine (N1.out _).mono ?_
    rintro e w1 ⟨rfl, rfl⟩
    go_wp2_with fail
    refine (N2.out _).mono ?_
    rintro e w1 ⟨rfl, rfl⟩
    go_wp2_with fail
    refine (N3.out _).mono ?_
    rintro e w1 ⟨rfl, rfl⟩
    go_wp2_with fail
    refine (known_calls _ hT).mono ?_
    rintro e w2 ⟨rfl, hb⟩
    go_wp2_with fail
    refine (K1.out _).mono ?_
    rintro e w3 ⟨rfl, rfl⟩
    go_wp2_with fail
    refine (P1.out _).mono ?_
    rintro e w3 ⟨rfl, rfl⟩
    go_wp2_with fail
    refine (P2.out _).mono ?_
    rintro e w3 ⟨rfl, rfl⟩
    go_wp2_with fail
    refine (K3.out _).mono ?_
    rintro e w3 ⟨rfl, rfl⟩
    rw [H3.out]
    go_wp2_with fail
    refine (K4.out _).mono ?_
    rintro e w3 ⟨rfl, rfl⟩
    go_wp2
    go_ret
    exact ⟨rfl, hb⟩
theorem probNests_walk (r a b k m n : Int) (w : World) (hr : (Lit.int .u64 r).wf = true) (ha : (Lit.int .u64 a).wf = true) (hb : (Lit.int .u64 b).wf = true) (hk : (Lit.int .u8 k).wf = true) (hm : (Lit.int .u8 m).wf = true) (hn : (Lit.int .u8 n).wf = true) (hT : Tab w) :
    Calls Tryd.prog 9 #[.int .u64 r, .int .u64 a, .int .u64 b, .int .u8 k, .int .u8 m, .int .u8 n] w fun e w' => e = .returned (.bool true) ∧ Below w.heap.size w w' := by
  obtain ⟨r, rfl, hr1⟩ := nat_of_wf hr
  obtain ⟨a, rfl, ha1⟩ := nat_of_wf ha
  obtain ⟨b, rfl, hb1⟩ := nat_of_wf hb
  obtain ⟨hk0, hk1⟩ := u8_of_wf hk
  obtain ⟨hm0, hm1⟩ := u8_of_wf hm
  obtain ⟨hn0, hn1⟩ := u8_of_wf hn
  obtain ⟨x, hx, N1⟩ := near_any (r : Int) n (by omega) (by omega) hn0 hn1
  obtain ⟨s, hs, N2⟩ := near_any (a : Int) k (by omega) (by omega) hk0 hk1
  obtain ⟨t, ht, N3⟩ := near_any (b : Int) m (by omega) (by omega) hm0 hm1
  refine nests_walk (x : Int) (s : Int) (t : Int) _ _ ((max s t : Nat) : Int) ((min s t : Nat) : Int) _ _ _ false _ _ _ _ _ _ w hT (Lib.hid N1) (Lib.hid N2) (Lib.hid N3) (by omega) (by omega)
    (Lib.hid fun w => keep_calls _ _ w) (Lib.hid fun w => keep_calls _ _ w) (Lib.hid fun w => keep_calls _ _ w) (Lib.hid fun w => ?_) (Lib.hid fun w => kept_calls _ w) (Lib.hid fun w => kept_calls _ w) ?_ (by omega) ?_
  · have h := keep_calls (x : Int) 72057594037927936 w
    rw [decide_eq_false (by omega)] at h
    exact h
  · intro h
    have h' := of_decide_eq_true h
    exact decide_eq_true (by omega)
  · exact decide_eq_decide.mpr (by omega)
end Go.Proofs.YtaejdkfonlkhaaaDoor.Tele
