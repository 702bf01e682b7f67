/- The chapter's example on thresholds holds. No conditions but that the library's table is as it was laid. -/
import Derived.Test.YtaejdkfonlkhaaaDoorParse
namespace Go.Proofs.YtaejdkfonlkhaaaDoor.Tele
open Go.RowKit
set_option linter.unusedVariables false
set_option linter.unusedSimpArgs false

theorem k5_facts : thr 1 4 = 54043195528445952 ∧ 72057594037927936 / 2 ^ Lib.ctz 64 (72057594037927936 - 54043195528445952) = 4 ∧ (72057594037927936 - 54043195528445952) / 2 ^ Lib.ctz 64 (72057594037927936 - 54043195528445952) = 1 ∧ digits 54043195528445952 = [99] ∧ allHex [99] = true ∧ pval [99] 1 = 54043195528445952 := by decide +kernel
theorem known_calls (w : World) (hT : Tab w) : Calls Tryd.prog 14 #[] w fun e w' => e = .returned (.bool true) ∧ Below w.heap.size w w' := by
  obtain ⟨f1, f2, f3, f4, f5, f6⟩ := k5_facts
  have C1 := Lib.hid (fun w => by have := thr_less 1 4 w (by omega) (by omega); rw [f1] at this; exact this)
  have C2 := Lib.hid (fun (w : World) (h : Tab w) => by have := weight_calls 54043195528445952 w (by omega) h; rw [f2, f3] at this; exact this)
  have C3 := Lib.hid (fun w => by have := digits_calls 54043195528445952 w (by omega); rw [f4] at this; exact this)
  have C4 := Lib.hid (fun w => by have := parse_main ⟨#[99]⟩ w (by decide) (by decide); rw [show (⟨#[99]⟩ : ByteArray).data.toList = [99] from rfl, f5, if_pos rfl, show (⟨#[99]⟩ : ByteArray).size = 1 from rfl, f6] at this; exact this)
  have C5 := Lib.hid (fun w => keep_calls 54043195528445952 54043195528445952 w)
  have C6 := Lib.hid (fun w => keep_calls 54043195528445951 54043195528445952 w)
  have C7 := Lib.hid (fun w => by have := kept_calls 54043195528445952 w; rw [show 72057594037927936 - 54043195528445952 = 18014398509481984 by omega] at this; exact this)
  clear f1 f2 f3 f4 f5 f6
  go_enter Tryd.func14, Tryd.ntmps14
  go_wp2_with fail
  refine (C1.out _).mono ?_
  rintro e w1 ⟨rfl, n1, rfl⟩
  go_wp2_with fail
  refine (C2.out (w.drewN n1) (show Tab (w.drewN n1) from hT)).mono ?_
  rintro e w2 ⟨rfl, n2, rfl⟩
  go_wp2_with fail
  refine (C3.out _).mono ?_
  rintro e w3 ⟨rfl, hb⟩
  have hb := bnext (pw_below_drewN (Below.refl w.heap.size w) _) hb
  go_wp2_with fail
  refine (C4.out _).mono ?_
  rintro e w4 ⟨rfl, rfl⟩
  go_wp2_with fail
  refine (C5.out _).mono ?_
  rintro e w5 ⟨rfl, rfl⟩
  go_wp2_with fail
  refine (C6.out _).mono ?_
  rintro e w6 ⟨rfl, rfl⟩
  go_wp2_with fail
  refine (C7.out _).mono ?_
  rintro e w7 ⟨rfl, rfl⟩
  go_wp2
  go_ret
  exact ⟨rfl, hb⟩
end Go.Proofs.YtaejdkfonlkhaaaDoor.Tele
