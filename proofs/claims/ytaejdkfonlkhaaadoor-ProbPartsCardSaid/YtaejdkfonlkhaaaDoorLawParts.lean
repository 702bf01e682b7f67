/- The walk of the law ProbParts. No conditions but that the library's table is as it was laid. -/
import Derived.Test.YtaejdkfonlkhaaaDoorLawGrows
namespace Go.Proofs.YtaejdkfonlkhaaaDoor.Tele
open Go.RowKit
set_option linter.unusedVariables false
set_option linter.unusedSimpArgs false

theorem parts_facts : ∀ s : Fin 57, thr 1 (2 ^ s.val) < 72057594037927936 ∧ 72057594037927936 / 2 ^ Lib.ctz 64 (72057594037927936 - thr 1 (2 ^ s.val)) = 2 ^ s.val ∧ (72057594037927936 - thr 1 (2 ^ s.val)) / 2 ^ Lib.ctz 64 (72057594037927936 - thr 1 (2 ^ s.val)) = 1 ∧ 1 ≤ 2 ^ s.val ∧ 2 ^ s.val ≤ 72057594037927936 := by decide +kernel
theorem probParts_walk (k : Int) (w : World) (hk : (Lit.int .u8 k).wf = true) (hT : Tab w) :
    Calls Tryd.prog 4 #[.int .u8 k] w fun e w' => e = .returned (.bool true) ∧ Below w.heap.size w w' := by
  obtain ⟨hk0, hk1⟩ := u8_of_wf hk
  clear hk
  obtain ⟨s, hs, hs1⟩ : ∃ s : Nat, k % 57 = (s : Int) ∧ s < 57 := ⟨(k % 57).toNat, by omega, by omega⟩
  obtain ⟨f1, f2, f3, f4, f5⟩ := parts_facts ⟨s, hs1⟩
  simp only at f1 f2 f3 f4 f5
  have hn : IntKind.u64.wrap ((2 : Int) ^ s) = ((2 ^ s : Nat) : Int) := by rw [castPow]; exact wrapN _ (by omega)
  obtain ⟨n, hne⟩ : ∃ n : Nat, n = 2 ^ s := ⟨_, rfl⟩
  rw [← hne] at f1 f2 f3 f4 f5 hn
  have T1 := Lib.hid (fun w => thr_any 1 n w f4 f4 (by omega))
  have T2 := Lib.hid (fun (w : World) (h : Tab w) => by have := weight_calls (thr 1 n) w f1 h; rw [f2, f3] at this; exact this)
  have T3 := Lib.hid (fun w => thr_same n w f4)
  generalize thr 1 n = t at *
  clear hne f2 f3
  have q1 : ((n : Int) == (n : Int)) = true := by simp
  go_enter Tryd.func4, Tryd.ntmps4
  go_wp2_with fail
  refine (T1.out _).mono ?_
  rintro e w1 ⟨rfl, n1, rfl⟩
  go_wp2_with fail
  refine (T2.out (w.drewN n1) (show Tab (w.drewN n1) from hT)).mono ?_
  rintro e w1 ⟨rfl, n2, rfl⟩
  go_wp2_with fail
  refine (T3.out _).mono ?_
  rintro e w1 ⟨rfl, rfl⟩
  go_wp2_with fail
  refine (known_calls _ (by exact hT)).mono ?_
  rintro e w1 ⟨rfl, hb⟩
  go_wp2
  go_ret
  exact ⟨rfl, bnext (pw_below_drewN (Below.refl _ _) _) hb⟩
end Go.Proofs.YtaejdkfonlkhaaaDoor.Tele
