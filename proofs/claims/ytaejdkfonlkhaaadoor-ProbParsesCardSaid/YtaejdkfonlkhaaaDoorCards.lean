/-
  DERIVED. GIVEN WITH THE SEED: THE CARDS: each row of YtaejdkfonlkhaaaDoorRows.lean that lists a variable, with what it lists TIED to the program's text (the seventh form; the later family's looks); each row that meets fmt, with fmt's text TOLD by the authors' own Lean function (tested against real Go, not proved from fmt's source: count such statements apart). THE CARD IS WHAT COUNTS. Prove the row's statement (the work); the ties are given (YtaejdkfonlkhaaaDoorTie.lean); close each card by the builder's one call (the guide's Derived/Test/ToyasCard.lean, 'card_holds'). Laid BY PROGRAM, IN A SANDBOX (cutbox-door.mjs). By AI agents, Wed Nov 11 2026. No macro, syntax, notation, axiom, sorry.
-/
import Derived.Test.YtaejdkfonlkhaaaDoorRows
import GoSem.ClaimSeven
namespace Go.Proofs.YtaejdkfonlkhaaaDoor
namespace Rows

/-- THE TIED CARD OF 'telemeterlaw05.ProbGrows'. -/
def probGrowsCard : Claim7 := { stood := { row := probGrowsRow, standIns := [], harness := (true, "86be2a4b21b9e019344f3d1a7d38593927402b36637b02643f8ab49a71ff77e1"), looks := false }, kinds := [], alts := [], laidByText := true, laidKinds := [.data, .data, .pinned], laidTests := true, laidLooks := .later }
def ProbGrowsCardSaid : Prop := Claim7.holds Tryd.pinned (.plain (OpenSpec.ofChange probGrowsSpec)) probGrowsCard

/-- THE TIED CARD OF 'telemeterlaw05.ProbParts'. -/
def probPartsCard : Claim7 := { stood := { row := probPartsRow, standIns := [], harness := (true, "86be2a4b21b9e019344f3d1a7d38593927402b36637b02643f8ab49a71ff77e1"), looks := false }, kinds := [], alts := [], laidByText := true, laidKinds := [.data, .data, .pinned], laidTests := true, laidLooks := .later }
def ProbPartsCardSaid : Prop := Claim7.holds Tryd.pinned (.plain (OpenSpec.ofChange probPartsSpec)) probPartsCard

/-- THE TIED CARD OF 'telemeterlaw05.ProbKeeps'. -/
def probKeepsCard : Claim7 := { stood := { row := probKeepsRow, standIns := [], harness := (true, "86be2a4b21b9e019344f3d1a7d38593927402b36637b02643f8ab49a71ff77e1"), looks := false }, kinds := [], alts := [], laidByText := true, laidKinds := [.data, .data, .pinned], laidTests := true, laidLooks := .later }
def ProbKeepsCardSaid : Prop := Claim7.holds Tryd.pinned (.plain (OpenSpec.ofChange probKeepsSpec)) probKeepsCard

/-- THE TIED CARD OF 'telemeterlaw05.ProbThresholds'. -/
def probThresholdsCard : Claim7 := { stood := { row := probThresholdsRow, standIns := [], harness := (true, "86be2a4b21b9e019344f3d1a7d38593927402b36637b02643f8ab49a71ff77e1"), looks := false }, kinds := [], alts := [], laidByText := true, laidKinds := [.data, .data, .pinned], laidTests := true, laidLooks := .later }
def ProbThresholdsCardSaid : Prop := Claim7.holds Tryd.pinned (.plain (OpenSpec.ofChange probThresholdsSpec)) probThresholdsCard

/-- THE TIED CARD OF 'telemeterlaw05.ProbBack'. -/
def probBackCard : Claim7 := { stood := { row := probBackRow, standIns := [], harness := (true, "86be2a4b21b9e019344f3d1a7d38593927402b36637b02643f8ab49a71ff77e1"), looks := false }, kinds := [], alts := [], laidByText := true, laidKinds := [.data, .data, .pinned], laidTests := true, laidLooks := .later }
def ProbBackCardSaid : Prop := Claim7.holds Tryd.pinned (.plain (OpenSpec.ofChange probBackSpec)) probBackCard

/-- THE TIED CARD OF 'telemeterlaw05.ProbShares'. -/
def probSharesCard : Claim7 := { stood := { row := probSharesRow, standIns := [], harness := (true, "86be2a4b21b9e019344f3d1a7d38593927402b36637b02643f8ab49a71ff77e1"), looks := false }, kinds := [], alts := [], laidByText := true, laidKinds := [.data, .data, .pinned], laidTests := true, laidLooks := .later }
def ProbSharesCardSaid : Prop := Claim7.holds Tryd.pinned (.plain (OpenSpec.ofChange probSharesSpec)) probSharesCard

/-- THE TIED CARD OF 'telemeterlaw05.ProbNests'. -/
def probNestsCard : Claim7 := { stood := { row := probNestsRow, standIns := [], harness := (true, "86be2a4b21b9e019344f3d1a7d38593927402b36637b02643f8ab49a71ff77e1"), looks := false }, kinds := [], alts := [], laidByText := true, laidKinds := [.data, .data, .pinned], laidTests := true, laidLooks := .later }
def ProbNestsCardSaid : Prop := Claim7.holds Tryd.pinned (.plain (OpenSpec.ofChange probNestsSpec)) probNestsCard

/-- THE TIED CARD OF 'telemeterlaw05.ProbWeighs'. -/
def probWeighsCard : Claim7 := { stood := { row := probWeighsRow, standIns := [], harness := (true, "86be2a4b21b9e019344f3d1a7d38593927402b36637b02643f8ab49a71ff77e1"), looks := false }, kinds := [], alts := [], laidByText := true, laidKinds := [.data, .data, .pinned], laidTests := true, laidLooks := .later }
def ProbWeighsCardSaid : Prop := Claim7.holds Tryd.pinned (.plain (OpenSpec.ofChange probWeighsSpec)) probWeighsCard

/-- THE TIED CARD OF 'telemeterlaw05.ProbParses'. -/
def probParsesCard : Claim7 := { stood := { row := probParsesRow, standIns := [], harness := (true, "86be2a4b21b9e019344f3d1a7d38593927402b36637b02643f8ab49a71ff77e1"), looks := false }, kinds := [], alts := [], laidByText := true, laidKinds := [.data, .data, .pinned], laidTests := true, laidLooks := .later }
def ProbParsesCardSaid : Prop := Claim7.holds Tryd.pinned (.plain (OpenSpec.ofChange probParsesSpec)) probParsesCard

/-- THE TIED CARD OF 'telemeterlaw05.ProbDraws'. -/
def probDrawsCard : Claim7 := { stood := { row := probDrawsRow, standIns := [], harness := (true, "86be2a4b21b9e019344f3d1a7d38593927402b36637b02643f8ab49a71ff77e1"), looks := false }, kinds := [], alts := [], laidByText := true, laidKinds := [.data, .data, .pinned], laidTests := true, laidLooks := .later }
def ProbDrawsCardSaid : Prop := Claim7.holds Tryd.pinned (.plain (OpenSpec.ofChange probDrawsSpec)) probDrawsCard

/-- THE SECOND FORM's CARD OF 'telemeterlaw05.ProbGrows'. -/
def probGrowsUptoCard : Claim7 := { stood := { row := probGrowsUptoRow, standIns := [], harness := (true, "86be2a4b21b9e019344f3d1a7d38593927402b36637b02643f8ab49a71ff77e1"), looks := false }, kinds := [], alts := [], laidByText := true, laidKinds := [.data, .data, .pinned], laidTests := true, laidLooks := .later }
def ProbGrowsUptoCardSaid : Prop := Claim7.holds Tryd.pinned (.plain (OpenSpec.upto probGrowsSpec)) probGrowsUptoCard

/-- THE SECOND FORM's CARD OF 'telemeterlaw05.ProbParts'. -/
def probPartsUptoCard : Claim7 := { stood := { row := probPartsUptoRow, standIns := [], harness := (true, "86be2a4b21b9e019344f3d1a7d38593927402b36637b02643f8ab49a71ff77e1"), looks := false }, kinds := [], alts := [], laidByText := true, laidKinds := [.data, .data, .pinned], laidTests := true, laidLooks := .later }
def ProbPartsUptoCardSaid : Prop := Claim7.holds Tryd.pinned (.plain (OpenSpec.upto probPartsSpec)) probPartsUptoCard

/-- THE SECOND FORM's CARD OF 'telemeterlaw05.ProbKeeps'. -/
def probKeepsUptoCard : Claim7 := { stood := { row := probKeepsUptoRow, standIns := [], harness := (true, "86be2a4b21b9e019344f3d1a7d38593927402b36637b02643f8ab49a71ff77e1"), looks := false }, kinds := [], alts := [], laidByText := true, laidKinds := [.data, .data, .pinned], laidTests := true, laidLooks := .later }
def ProbKeepsUptoCardSaid : Prop := Claim7.holds Tryd.pinned (.plain (OpenSpec.upto probKeepsSpec)) probKeepsUptoCard

/-- THE SECOND FORM's CARD OF 'telemeterlaw05.ProbThresholds'. -/
def probThresholdsUptoCard : Claim7 := { stood := { row := probThresholdsUptoRow, standIns := [], harness := (true, "86be2a4b21b9e019344f3d1a7d38593927402b36637b02643f8ab49a71ff77e1"), looks := false }, kinds := [], alts := [], laidByText := true, laidKinds := [.data, .data, .pinned], laidTests := true, laidLooks := .later }
def ProbThresholdsUptoCardSaid : Prop := Claim7.holds Tryd.pinned (.plain (OpenSpec.upto probThresholdsSpec)) probThresholdsUptoCard

/-- THE SECOND FORM's CARD OF 'telemeterlaw05.ProbBack'. -/
def probBackUptoCard : Claim7 := { stood := { row := probBackUptoRow, standIns := [], harness := (true, "86be2a4b21b9e019344f3d1a7d38593927402b36637b02643f8ab49a71ff77e1"), looks := false }, kinds := [], alts := [], laidByText := true, laidKinds := [.data, .data, .pinned], laidTests := true, laidLooks := .later }
def ProbBackUptoCardSaid : Prop := Claim7.holds Tryd.pinned (.plain (OpenSpec.upto probBackSpec)) probBackUptoCard

/-- THE SECOND FORM's CARD OF 'telemeterlaw05.ProbShares'. -/
def probSharesUptoCard : Claim7 := { stood := { row := probSharesUptoRow, standIns := [], harness := (true, "86be2a4b21b9e019344f3d1a7d38593927402b36637b02643f8ab49a71ff77e1"), looks := false }, kinds := [], alts := [], laidByText := true, laidKinds := [.data, .data, .pinned], laidTests := true, laidLooks := .later }
def ProbSharesUptoCardSaid : Prop := Claim7.holds Tryd.pinned (.plain (OpenSpec.upto probSharesSpec)) probSharesUptoCard

/-- THE SECOND FORM's CARD OF 'telemeterlaw05.ProbNests'. -/
def probNestsUptoCard : Claim7 := { stood := { row := probNestsUptoRow, standIns := [], harness := (true, "86be2a4b21b9e019344f3d1a7d38593927402b36637b02643f8ab49a71ff77e1"), looks := false }, kinds := [], alts := [], laidByText := true, laidKinds := [.data, .data, .pinned], laidTests := true, laidLooks := .later }
def ProbNestsUptoCardSaid : Prop := Claim7.holds Tryd.pinned (.plain (OpenSpec.upto probNestsSpec)) probNestsUptoCard

/-- THE SECOND FORM's CARD OF 'telemeterlaw05.ProbWeighs'. -/
def probWeighsUptoCard : Claim7 := { stood := { row := probWeighsUptoRow, standIns := [], harness := (true, "86be2a4b21b9e019344f3d1a7d38593927402b36637b02643f8ab49a71ff77e1"), looks := false }, kinds := [], alts := [], laidByText := true, laidKinds := [.data, .data, .pinned], laidTests := true, laidLooks := .later }
def ProbWeighsUptoCardSaid : Prop := Claim7.holds Tryd.pinned (.plain (OpenSpec.upto probWeighsSpec)) probWeighsUptoCard

/-- THE SECOND FORM's CARD OF 'telemeterlaw05.ProbParses'. -/
def probParsesUptoCard : Claim7 := { stood := { row := probParsesUptoRow, standIns := [], harness := (true, "86be2a4b21b9e019344f3d1a7d38593927402b36637b02643f8ab49a71ff77e1"), looks := false }, kinds := [], alts := [], laidByText := true, laidKinds := [.data, .data, .pinned], laidTests := true, laidLooks := .later }
def ProbParsesUptoCardSaid : Prop := Claim7.holds Tryd.pinned (.plain (OpenSpec.upto probParsesSpec)) probParsesUptoCard

/-- THE SECOND FORM's CARD OF 'telemeterlaw05.ProbDraws'. -/
def probDrawsUptoCard : Claim7 := { stood := { row := probDrawsUptoRow, standIns := [], harness := (true, "86be2a4b21b9e019344f3d1a7d38593927402b36637b02643f8ab49a71ff77e1"), looks := false }, kinds := [], alts := [], laidByText := true, laidKinds := [.data, .data, .pinned], laidTests := true, laidLooks := .later }
def ProbDrawsUptoCardSaid : Prop := Claim7.holds Tryd.pinned (.plain (OpenSpec.upto probDrawsSpec)) probDrawsUptoCard
end Rows
end Go.Proofs.YtaejdkfonlkhaaaDoor
