/- The chapter's example on sketches. No conditions. -/
import Derived.Test.YtppholbjhhlglaaSkTot
import Derived.Test.YtppholbjhhlglaaSk3
namespace Go.Proofs.Ytppholbjhhlglaa.Tele
open Go.RowKit
set_option linter.unusedVariables false
set_option linter.unusedSimpArgs false

def kA : ByteArray := ⟨#[97]⟩
def known1 : Sk := ((Sk.new 2 8 1#64).add [97] 3).add [97] 4
theorem known1_count : known1.count [97] = 7 := by decide +kernel
theorem known1_total : known1.total = 7 := by decide +kernel
theorem known_calls (w : World) : Calls Try.prog 10 #[] w fun e w' => e = .returned (.bool true) ∧ Below w.heap.size w w' := by
  have kc := Lib.hid known1_count
  have kt := Lib.hid known1_total
  go_enter Try.func10, Try.ntmps10
  go_wp2_with fail
  refine (new_any 2 8 1#64 _ (by omega) (by omega) (by omega) (by omega)).mono ?_
  rintro e w1 ⟨p, c, rfl, hb, hs, hp, hc⟩
  go_wp2_with fail
  refine (new_no 0 1 0#64 _ (by omega)).mono ?_
  rintro e w_ ⟨rfl, rfl⟩
  go_wp2_with fail
  refine (new_no 1 1025 0#64 _ (by omega)).mono ?_
  rintro e w_ ⟨rfl, rfl⟩
  go_wp2_with fail
  refine (add_calls p c _ kA 3 _ hs (by decide) (by omega)).mono ?_
  rintro e w2 ⟨rfl, hg, hs2⟩
  replace hb := bsk hb hg hp hc
  clear hs hg
  go_wp2_with fail
  refine (add_calls p c _ kA 4 _ hs2 (by decide) (by omega)).mono ?_
  rintro e w3 ⟨rfl, hg, hs3⟩
  replace hb := bsk hb hg hp hc
  clear hs2 hg
  replace hs3 : IsSk w3 p c known1 := hs3
  go_wp2_with fail
  refine (count_calls p c _ kA _ hs3 (by decide)).mono ?_
  rintro e w4 ⟨rfl, hb2⟩
  replace hs3 := hs3.next hb2
  replace hb := bnext hb hb2
  clear hb2
  rw [show known1.count kA.data.toList = 7 from kc.out]
  go_wp2_with fail
  refine (total_calls p c _ _ hs3).mono ?_
  rintro e w_ ⟨rfl, rfl⟩
  rw [kt.out]
  go_wp2
  go_ret
  exact ⟨rfl, hb⟩
end Go.Proofs.Ytppholbjhhlglaa.Tele
