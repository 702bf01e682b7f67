/- From the row's condition to the table that the walks ask for. No conditions. -/
import Derived.Test.YtaejdkfonlkhaaaDoorRows
import Derived.Test.YtaejdkfonlkhaaaDoorProb2
import Derived.Lib.LaidTab
import Derived.Lay
namespace Go.Proofs.YtaejdkfonlkhaaaDoor.Tele
open Go.RowKit
set_option linter.unusedVariables false
set_option linter.unusedSimpArgs false

theorem gTab : Tryd.prog.globalNamed "math/bits.deBruijn64tab" = some 2 := by kernel_rfl
theorem tTab : (Tryd.prog.globals[2]?).map (·.type) = some 69 := by kernel_rfl
theorem cTab1 : Tryd.prog.cellsOf 5 = 1 := by kernel_rfl
theorem cTab64 : Tryd.prog.cellsOf 69 = 64 := by kernel_rfl
def tabZ : List Int := List.map (fun n : Nat => (n : Int)) Lib.deBruijn64tab
theorem tabZ_get (j : Nat) : tabZ.getD j 0 = ((Lib.deBruijn64tab.getD j 0 : Nat) : Int) := by
  unfold tabZ
  rw [List.getD_eq_getElem?_getD, List.getD_eq_getElem?_getD, List.getElem?_map]
  cases Lib.deBruijn64tab[j]? <;> rfl
theorem tabZ_len : tabZ.length = 64 := by decide
theorem tab_of_laid {rest : List (String × DataW Unit)} {W : World} (h : laidMet Tryd.prog (("math/bits.deBruijn64tab", Rows.laid_math_bits_deBruijn64tab) :: rest) W) : Tab W := by
  have hI : Lib.TabIs Tryd.prog W "math/bits.deBruijn64tab" .u8 tabZ := Lib.tabIs_of_head (k := .u8) (zs := tabZ) gTab tTab Tryd.underlying69 Tryd.underlying5 cTab1 cTab64 h
  intro j hj
  rw [hI.cell gTab j (by rw [tabZ_len]; exact hj), tabZ_get]
end Go.Proofs.YtaejdkfonlkhaaaDoor.Tele
