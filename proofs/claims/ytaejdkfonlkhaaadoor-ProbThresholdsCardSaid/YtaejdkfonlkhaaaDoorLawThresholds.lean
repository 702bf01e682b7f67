/- The walk of the law ProbThresholds. No conditions but that the library's table is as it was laid. -/
import Derived.Test.YtaejdkfonlkhaaaDoorLawGrows
import Derived.Test.YtaejdkfonlkhaaaDoorRef5
namespace Go.Proofs.YtaejdkfonlkhaaaDoor.Tele
open Go.RowKit
set_option linter.unusedVariables false
set_option linter.unusedSimpArgs false

theorem tells_core (a b : Nat) (t c : Int) (w : World) (c0 : 0 ≤ c) (c1 : c ≤ 1)
    (T : Hid (∀ w, Calls Tryd.prog 13 #[.int .u64 (a : Int), .int .u64 (b : Int)] w fun e w' => e = .returned (.tuple #[.int .u64 t, .int .u16 c]) ∧ ∃ n, w' = w.drewN n))
    (U : Hid (∀ w, Calls Tryd.prog 35 #[.int .u64 (a : Int), .int .u64 (b : Int)] w fun e w' => e = .returned (.tuple #[.int .u64 t, .int .i64 c]) ∧ w' = w)) :
    Calls Tryd.prog 24 #[.int .u64 (a : Int), .int .u64 (b : Int)] w fun e w' => e = .returned (.bool true) ∧ ∃ n, w' = w.drewN n := by
  go_enter Tryd.func24, Tryd.ntmps24
  go_wp2_with fail
  refine (T.out _).mono ?_
  rintro e w1 ⟨rfl, n1, rfl⟩
  go_wp2_with fail
  refine (U.out _).mono ?_
  rintro e w1 ⟨rfl, rfl⟩
  go_wp2
  go_ret
  exact ⟨rfl, _, rfl⟩
theorem tells_calls (a b : Nat) (w : World) (hb : b < 18446744073709551616) :
    Calls Tryd.prog 24 #[.int .u64 (a : Int), .int .u64 (b : Int)] w fun e w' => e = .returned (.bool true) ∧ ∃ n, w' = w.drewN n := by
  by_cases h : b = 0 ∨ b < a
  · exact tells_core a b 0 1 w (by omega) (by omega) (Lib.hid fun w => (thr_err a b w h).mono fun e w' ⟨h1, h2⟩ => ⟨h1, 0, h2⟩) (Lib.hid fun w => refThr_err a b w h)
  · by_cases h2 : a = b
    · subst h2
      exact tells_core a a 0 0 w (by omega) (by omega) (Lib.hid fun w => (thr_same a w (by omega)).mono fun e w' ⟨h1, h2⟩ => ⟨h1, 0, h2⟩) (Lib.hid fun w => refThr_same a w (by omega))
    · exact tells_core a b _ 0 w (by omega) (by omega) (Lib.hid fun w => thr_less a b w (by omega) hb) (Lib.hid fun w => refThr_less a b w (by omega) hb)
theorem probThresholds_walk (a b c d k : Int) (w : World) (ha : (Lit.int .u64 a).wf = true) (hb : (Lit.int .u64 b).wf = true) (hc : (Lit.int .u8 c).wf = true) (hd : (Lit.int .u8 d).wf = true) (hk : (Lit.int .u8 k).wf = true) (hT : Tab w) :
    Calls Tryd.prog 6 #[.int .u64 a, .int .u64 b, .int .u8 c, .int .u8 d, .int .u8 k] w fun e w' => e = .returned (.bool true) ∧ Below w.heap.size w w' := by
  obtain ⟨a, rfl, ha1⟩ := nat_of_wf ha
  obtain ⟨b, rfl, hb1⟩ := nat_of_wf hb
  obtain ⟨c, rfl, hc1⟩ := nat8_of_wf hc
  obtain ⟨d, rfl, hd1⟩ := nat8_of_wf hd
  obtain ⟨k, rfl, hk1⟩ := nat8_of_wf hk
  clear ha hb hc hd hk
  obtain ⟨s, hs, hs1⟩ : ∃ s : Nat, (k : Int) % 64 = (s : Int) ∧ s < 64 := ⟨k % 64, by omega, by omega⟩
  obtain ⟨y, hy⟩ : ∃ y : Nat, (a : Int) / 2 ^ s = (y : Int) := ⟨a / 2 ^ s, by rw [castPow]; exact (Int.natCast_ediv _ _).symm⟩
  have C1 := Lib.hid fun w => tells_calls a b w (by omega)
  have C2 := Lib.hid fun w => tells_calls c d w (by omega)
  have C3 := Lib.hid fun w => tells_calls y a w (by omega)
  have C4 := Lib.hid fun w => tells_calls a a w (by omega)
  go_enter Tryd.func6, Tryd.ntmps6
  go_wp2_with fail
  refine (C1.out _).mono ?_
  rintro e w1 ⟨rfl, n1, rfl⟩
  go_wp2_with fail
  refine (known_calls _ (show Tab (w.drewN n1) from hT)).mono ?_
  rintro e w2 ⟨rfl, hb⟩
  have hb := bnext (pw_below_drewN (Below.refl w.heap.size w) _) hb
  go_wp2_with fail
  refine (C2.out _).mono ?_
  rintro e w3 ⟨rfl, n2, rfl⟩
  have hb := pw_below_drewN hb n2
  go_wp2_with fail
  refine (C3.out _).mono ?_
  rintro e w3 ⟨rfl, n3, rfl⟩
  have hb := pw_below_drewN hb n3
  go_wp2_with fail
  refine (C4.out _).mono ?_
  rintro e w3 ⟨rfl, n4, rfl⟩
  have hb := pw_below_drewN hb n4
  go_wp2
  go_ret
  exact ⟨rfl, by simpa [World.drewN_drewN, Nat.add_assoc] using hb⟩
end Go.Proofs.YtaejdkfonlkhaaaDoor.Tele
