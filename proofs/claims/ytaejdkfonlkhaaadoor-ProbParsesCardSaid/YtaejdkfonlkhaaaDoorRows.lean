/-
  NARROWER THAN 'FOR EVERY INPUT', by the rows' own cells (each row's printed sentence says how): ProbGrows: laid · ProbParts: laid · ProbKeeps: laid · ProbThresholds: laid · ProbBack: laid · ProbShares: laid · ProbNests: laid · ProbWeighs: laid · ProbParses: laid · ProbDraws: laid.
  DERIVED. THE GIVEN ROWS OF THIS SEAT. 10 by the template 'for every input the law returns true; each argument reads behind the call as it read before'; 0 by the template 'total and deterministic' (their statements: YtaejdkfonlkhaaaDoorTotals.lean).
  GIVEN WITH THE SEED: the statements are not yours to turn. If you find one false, say at which input.
  Laid BY PROGRAM, IN A SANDBOX (cutbox-rows.mjs): the forced cells as the released guide's own fill.sh prints them over the translation 29637d9d0b4c85d3… (all of the seat's roots in one cut). By AI agents, Wed Nov 11 2026. No macro, syntax, notation, axiom, sorry.
-/
import Derived.Test.YtaejdkfonlkhaaaDoorChecked
import GoSem.PinnedTables
import GoSem.Claim
import GoSem.ClaimJoined
import GoSem.ClaimMapViews
import Derived.JoinedTies
import Derived.KernelRfl
namespace Go.Proofs.YtaejdkfonlkhaaaDoor
/- THE CELL 'sum', in the pinned program and in every row, IS THE sha256 OF THE DUMP (.gsa) THAT YtaejdkfonlkhaaaDoorProg.lean LOADS. Nothing in Lean hashes anything: it is a label: what it is worth is what the hold of that sum in a sandbox is worth. -/
noncomputable def Tryd.pinned : Pinned := { name := "ytaejdkfonlkhaaadoor", sum := "29637d9d0b4c85d3cbcfcc6104332f9845e99afc61bb35d7afbf8a47a9cb27a5", checked := Tryd.checked }
namespace Rows
def none {H : Type} : Left H := { results := [], args := [] }

/- WHAT THE LISTED PACKAGE-LEVEL VARIABLES READ AS WHEN THE CALL BEGINS. Each datum BY PROGRAM (the guide's laid-datum.mjs) off the statement by which the dump's own 'gosem.cut.vars' lays the variable. In a bare row this is a premise. The card (YtaejdkfonlkhaaaDoorCards.lean) ties it to the program's text. -/
def laid_math_bits_deBruijn64tab {H : Type} : DataW H := .agg [.lit (.int .u8 0), .lit (.int .u8 1), .lit (.int .u8 56), .lit (.int .u8 2), .lit (.int .u8 57), .lit (.int .u8 49), .lit (.int .u8 28), .lit (.int .u8 3), .lit (.int .u8 61), .lit (.int .u8 58), .lit (.int .u8 42), .lit (.int .u8 50), .lit (.int .u8 38), .lit (.int .u8 29), .lit (.int .u8 17), .lit (.int .u8 4), .lit (.int .u8 62), .lit (.int .u8 47), .lit (.int .u8 59), .lit (.int .u8 36), .lit (.int .u8 45), .lit (.int .u8 43), .lit (.int .u8 51), .lit (.int .u8 22), .lit (.int .u8 53), .lit (.int .u8 39), .lit (.int .u8 33), .lit (.int .u8 30), .lit (.int .u8 24), .lit (.int .u8 18), .lit (.int .u8 12), .lit (.int .u8 5), .lit (.int .u8 63), .lit (.int .u8 55), .lit (.int .u8 48), .lit (.int .u8 27), .lit (.int .u8 60), .lit (.int .u8 41), .lit (.int .u8 37), .lit (.int .u8 16), .lit (.int .u8 46), .lit (.int .u8 35), .lit (.int .u8 44), .lit (.int .u8 21), .lit (.int .u8 52), .lit (.int .u8 32), .lit (.int .u8 23), .lit (.int .u8 11), .lit (.int .u8 54), .lit (.int .u8 26), .lit (.int .u8 40), .lit (.int .u8 15), .lit (.int .u8 34), .lit (.int .u8 20), .lit (.int .u8 31), .lit (.int .u8 10), .lit (.int .u8 25), .lit (.int .u8 14), .lit (.int .u8 19), .lit (.int .u8 9), .lit (.int .u8 13), .lit (.int .u8 8), .lit (.int .u8 7), .lit (.int .u8 6)]
def laid_unicode_utf8_acceptRanges {H : Type} : DataW H := .agg [.agg [.lit (.int .u8 128), .lit (.int .u8 191)], .agg [.lit (.int .u8 160), .lit (.int .u8 191)], .agg [.lit (.int .u8 128), .lit (.int .u8 159)], .agg [.lit (.int .u8 144), .lit (.int .u8 191)], .agg [.lit (.int .u8 128), .lit (.int .u8 143)], .agg [.lit (.int .u8 0), .lit (.int .u8 0)], .agg [.lit (.int .u8 0), .lit (.int .u8 0)], .agg [.lit (.int .u8 0), .lit (.int .u8 0)], .agg [.lit (.int .u8 0), .lit (.int .u8 0)], .agg [.lit (.int .u8 0), .lit (.int .u8 0)], .agg [.lit (.int .u8 0), .lit (.int .u8 0)], .agg [.lit (.int .u8 0), .lit (.int .u8 0)], .agg [.lit (.int .u8 0), .lit (.int .u8 0)], .agg [.lit (.int .u8 0), .lit (.int .u8 0)], .agg [.lit (.int .u8 0), .lit (.int .u8 0)], .agg [.lit (.int .u8 0), .lit (.int .u8 0)]]
/-- One of Go's own tables, pinned by name: the form's constant. -/
def laid_unicode_utf8_first : DataW Unit := Go.Pinned.utf8First

/-- 'telemeterlaw05.ProbGrows': WHATEVER THE INPUT: true; the input reads as it did. -/
def probGrowsSpec : ChangeSpec := { name := "probGrows", fn := fun _ => fun
  | [d1, d2, d3] => { results := [.lit (.bool true)], args := [d1, d2, d3] }
  | _ => none }
def probGrowsRow : OpenClaim := { program := "ytaejdkfonlkhaaadoor", sum := "29637d9d0b4c85d3cbcfcc6104332f9845e99afc61bb35d7afbf8a47a9cb27a5", func := "telemeter/telemeterlaw05.ProbGrows", spec := "probGrows", inPlace := ["internal/bytealg.IndexByteString", "internal/bytealg.IndexString"], named := ["math/bits.divideError", "math/bits.overflowError", "math/bits.deBruijn64tab", "unicode/utf8.first", "unicode/utf8.acceptRanges", "internal/bytealg.MaxLen"], apart := false, laid := [("math/bits.deBruijn64tab", laid_math_bits_deBruijn64tab), ("unicode/utf8.acceptRanges", laid_unicode_utf8_acceptRanges), ("unicode/utf8.first", laid_unicode_utf8_first)] }
def ProbGrowsSaid : Prop := probGrowsRow.holds Tryd.pinned (OpenSpec.ofChange probGrowsSpec)

/-- ITS FALSE NEIGHBOUR: 'it returns false'. Refute it at one input. -/
def probGrowsWrong : ChangeSpec := { name := "probGrows", fn := fun _ => fun
  | [d1, d2, d3] => { results := [.lit (.bool false)], args := [d1, d2, d3] }
  | _ => none }
def ProbGrowsWrongFalsely : Prop := probGrowsRow.holds Tryd.pinned (OpenSpec.ofChange probGrowsWrong)

/-- 'telemeterlaw05.ProbParts': WHATEVER THE INPUT: true; the input reads as it did. -/
def probPartsSpec : ChangeSpec := { name := "probParts", fn := fun _ => fun
  | [d] => { results := [.lit (.bool true)], args := [d] }
  | _ => none }
def probPartsRow : OpenClaim := { program := "ytaejdkfonlkhaaadoor", sum := "29637d9d0b4c85d3cbcfcc6104332f9845e99afc61bb35d7afbf8a47a9cb27a5", func := "telemeter/telemeterlaw05.ProbParts", spec := "probParts", inPlace := ["internal/bytealg.IndexByteString", "internal/bytealg.IndexString"], named := ["math/bits.divideError", "math/bits.overflowError", "math/bits.deBruijn64tab", "unicode/utf8.first", "unicode/utf8.acceptRanges", "internal/bytealg.MaxLen"], apart := false, laid := [("math/bits.deBruijn64tab", laid_math_bits_deBruijn64tab), ("unicode/utf8.acceptRanges", laid_unicode_utf8_acceptRanges), ("unicode/utf8.first", laid_unicode_utf8_first)] }
def ProbPartsSaid : Prop := probPartsRow.holds Tryd.pinned (OpenSpec.ofChange probPartsSpec)

/-- ITS FALSE NEIGHBOUR: 'it returns false'. Refute it at one input. -/
def probPartsWrong : ChangeSpec := { name := "probParts", fn := fun _ => fun
  | [d] => { results := [.lit (.bool false)], args := [d] }
  | _ => none }
def ProbPartsWrongFalsely : Prop := probPartsRow.holds Tryd.pinned (OpenSpec.ofChange probPartsWrong)

/-- 'telemeterlaw05.ProbKeeps': WHATEVER THE INPUT: true; the input reads as it did. -/
def probKeepsSpec : ChangeSpec := { name := "probKeeps", fn := fun _ => fun
  | [d1, d2, d3, d4] => { results := [.lit (.bool true)], args := [d1, d2, d3, d4] }
  | _ => none }
def probKeepsRow : OpenClaim := { program := "ytaejdkfonlkhaaadoor", sum := "29637d9d0b4c85d3cbcfcc6104332f9845e99afc61bb35d7afbf8a47a9cb27a5", func := "telemeter/telemeterlaw05.ProbKeeps", spec := "probKeeps", inPlace := ["internal/bytealg.IndexByteString", "internal/bytealg.IndexString"], named := ["math/bits.deBruijn64tab", "unicode/utf8.first", "unicode/utf8.acceptRanges", "math/bits.divideError", "math/bits.overflowError", "internal/bytealg.MaxLen"], apart := false, laid := [("math/bits.deBruijn64tab", laid_math_bits_deBruijn64tab), ("unicode/utf8.acceptRanges", laid_unicode_utf8_acceptRanges), ("unicode/utf8.first", laid_unicode_utf8_first)] }
def ProbKeepsSaid : Prop := probKeepsRow.holds Tryd.pinned (OpenSpec.ofChange probKeepsSpec)

/-- ITS FALSE NEIGHBOUR: 'it returns false'. Refute it at one input. -/
def probKeepsWrong : ChangeSpec := { name := "probKeeps", fn := fun _ => fun
  | [d1, d2, d3, d4] => { results := [.lit (.bool false)], args := [d1, d2, d3, d4] }
  | _ => none }
def ProbKeepsWrongFalsely : Prop := probKeepsRow.holds Tryd.pinned (OpenSpec.ofChange probKeepsWrong)

/-- 'telemeterlaw05.ProbThresholds': WHATEVER THE INPUT: true; the input reads as it did. -/
def probThresholdsSpec : ChangeSpec := { name := "probThresholds", fn := fun _ => fun
  | [d1, d2, d3, d4, d5] => { results := [.lit (.bool true)], args := [d1, d2, d3, d4, d5] }
  | _ => none }
def probThresholdsRow : OpenClaim := { program := "ytaejdkfonlkhaaadoor", sum := "29637d9d0b4c85d3cbcfcc6104332f9845e99afc61bb35d7afbf8a47a9cb27a5", func := "telemeter/telemeterlaw05.ProbThresholds", spec := "probThresholds", inPlace := ["internal/bytealg.IndexByteString", "internal/bytealg.IndexString"], named := ["math/bits.divideError", "math/bits.overflowError", "math/bits.deBruijn64tab", "unicode/utf8.first", "unicode/utf8.acceptRanges", "internal/bytealg.MaxLen"], apart := false, laid := [("math/bits.deBruijn64tab", laid_math_bits_deBruijn64tab), ("unicode/utf8.acceptRanges", laid_unicode_utf8_acceptRanges), ("unicode/utf8.first", laid_unicode_utf8_first)] }
def ProbThresholdsSaid : Prop := probThresholdsRow.holds Tryd.pinned (OpenSpec.ofChange probThresholdsSpec)

/-- ITS FALSE NEIGHBOUR: 'it returns false'. Refute it at one input. -/
def probThresholdsWrong : ChangeSpec := { name := "probThresholds", fn := fun _ => fun
  | [d1, d2, d3, d4, d5] => { results := [.lit (.bool false)], args := [d1, d2, d3, d4, d5] }
  | _ => none }
def ProbThresholdsWrongFalsely : Prop := probThresholdsRow.holds Tryd.pinned (OpenSpec.ofChange probThresholdsWrong)

/-- 'telemeterlaw05.ProbBack': WHATEVER THE INPUT: true; the input reads as it did. -/
def probBackSpec : ChangeSpec := { name := "probBack", fn := fun _ => fun
  | [d1, d2] => { results := [.lit (.bool true)], args := [d1, d2] }
  | _ => none }
def probBackRow : OpenClaim := { program := "ytaejdkfonlkhaaadoor", sum := "29637d9d0b4c85d3cbcfcc6104332f9845e99afc61bb35d7afbf8a47a9cb27a5", func := "telemeter/telemeterlaw05.ProbBack", spec := "probBack", inPlace := ["internal/bytealg.IndexByteString", "internal/bytealg.IndexString"], named := ["unicode/utf8.first", "unicode/utf8.acceptRanges", "math/bits.divideError", "math/bits.overflowError", "math/bits.deBruijn64tab", "internal/bytealg.MaxLen"], apart := false, laid := [("math/bits.deBruijn64tab", laid_math_bits_deBruijn64tab), ("unicode/utf8.acceptRanges", laid_unicode_utf8_acceptRanges), ("unicode/utf8.first", laid_unicode_utf8_first)] }
def ProbBackSaid : Prop := probBackRow.holds Tryd.pinned (OpenSpec.ofChange probBackSpec)

/-- ITS FALSE NEIGHBOUR: 'it returns false'. Refute it at one input. -/
def probBackWrong : ChangeSpec := { name := "probBack", fn := fun _ => fun
  | [d1, d2] => { results := [.lit (.bool false)], args := [d1, d2] }
  | _ => none }
def ProbBackWrongFalsely : Prop := probBackRow.holds Tryd.pinned (OpenSpec.ofChange probBackWrong)

/-- 'telemeterlaw05.ProbShares': WHATEVER THE INPUT: true; the input reads as it did. -/
def probSharesSpec : ChangeSpec := { name := "probShares", fn := fun _ => fun
  | [d1, d2] => { results := [.lit (.bool true)], args := [d1, d2] }
  | _ => none }
def probSharesRow : OpenClaim := { program := "ytaejdkfonlkhaaadoor", sum := "29637d9d0b4c85d3cbcfcc6104332f9845e99afc61bb35d7afbf8a47a9cb27a5", func := "telemeter/telemeterlaw05.ProbShares", spec := "probShares", inPlace := ["internal/bytealg.IndexByteString", "internal/bytealg.IndexString"], named := ["math/bits.divideError", "math/bits.overflowError", "math/bits.deBruijn64tab", "unicode/utf8.first", "unicode/utf8.acceptRanges", "internal/bytealg.MaxLen"], apart := false, laid := [("math/bits.deBruijn64tab", laid_math_bits_deBruijn64tab), ("unicode/utf8.acceptRanges", laid_unicode_utf8_acceptRanges), ("unicode/utf8.first", laid_unicode_utf8_first)] }
def ProbSharesSaid : Prop := probSharesRow.holds Tryd.pinned (OpenSpec.ofChange probSharesSpec)

/-- ITS FALSE NEIGHBOUR: 'it returns false'. Refute it at one input. -/
def probSharesWrong : ChangeSpec := { name := "probShares", fn := fun _ => fun
  | [d1, d2] => { results := [.lit (.bool false)], args := [d1, d2] }
  | _ => none }
def ProbSharesWrongFalsely : Prop := probSharesRow.holds Tryd.pinned (OpenSpec.ofChange probSharesWrong)

/-- 'telemeterlaw05.ProbNests': WHATEVER THE INPUT: true; the input reads as it did. -/
def probNestsSpec : ChangeSpec := { name := "probNests", fn := fun _ => fun
  | [d1, d2, d3, d4, d5, d6] => { results := [.lit (.bool true)], args := [d1, d2, d3, d4, d5, d6] }
  | _ => none }
def probNestsRow : OpenClaim := { program := "ytaejdkfonlkhaaadoor", sum := "29637d9d0b4c85d3cbcfcc6104332f9845e99afc61bb35d7afbf8a47a9cb27a5", func := "telemeter/telemeterlaw05.ProbNests", spec := "probNests", inPlace := ["internal/bytealg.IndexByteString", "internal/bytealg.IndexString"], named := ["math/bits.divideError", "math/bits.overflowError", "math/bits.deBruijn64tab", "unicode/utf8.first", "unicode/utf8.acceptRanges", "internal/bytealg.MaxLen"], apart := false, laid := [("math/bits.deBruijn64tab", laid_math_bits_deBruijn64tab), ("unicode/utf8.acceptRanges", laid_unicode_utf8_acceptRanges), ("unicode/utf8.first", laid_unicode_utf8_first)] }
def ProbNestsSaid : Prop := probNestsRow.holds Tryd.pinned (OpenSpec.ofChange probNestsSpec)

/-- ITS FALSE NEIGHBOUR: 'it returns false'. Refute it at one input. -/
def probNestsWrong : ChangeSpec := { name := "probNests", fn := fun _ => fun
  | [d1, d2, d3, d4, d5, d6] => { results := [.lit (.bool false)], args := [d1, d2, d3, d4, d5, d6] }
  | _ => none }
def ProbNestsWrongFalsely : Prop := probNestsRow.holds Tryd.pinned (OpenSpec.ofChange probNestsWrong)

/-- 'telemeterlaw05.ProbWeighs': WHATEVER THE INPUT: true; the input reads as it did. -/
def probWeighsSpec : ChangeSpec := { name := "probWeighs", fn := fun _ => fun
  | [d1, d2] => { results := [.lit (.bool true)], args := [d1, d2] }
  | _ => none }
def probWeighsRow : OpenClaim := { program := "ytaejdkfonlkhaaadoor", sum := "29637d9d0b4c85d3cbcfcc6104332f9845e99afc61bb35d7afbf8a47a9cb27a5", func := "telemeter/telemeterlaw05.ProbWeighs", spec := "probWeighs", inPlace := ["internal/bytealg.IndexByteString", "internal/bytealg.IndexString"], named := ["math/bits.deBruijn64tab", "math/bits.divideError", "math/bits.overflowError", "unicode/utf8.first", "unicode/utf8.acceptRanges", "internal/bytealg.MaxLen"], apart := false, laid := [("math/bits.deBruijn64tab", laid_math_bits_deBruijn64tab), ("unicode/utf8.acceptRanges", laid_unicode_utf8_acceptRanges), ("unicode/utf8.first", laid_unicode_utf8_first)] }
def ProbWeighsSaid : Prop := probWeighsRow.holds Tryd.pinned (OpenSpec.ofChange probWeighsSpec)

/-- ITS FALSE NEIGHBOUR: 'it returns false'. Refute it at one input. -/
def probWeighsWrong : ChangeSpec := { name := "probWeighs", fn := fun _ => fun
  | [d1, d2] => { results := [.lit (.bool false)], args := [d1, d2] }
  | _ => none }
def ProbWeighsWrongFalsely : Prop := probWeighsRow.holds Tryd.pinned (OpenSpec.ofChange probWeighsWrong)

/-- 'telemeterlaw05.ProbParses': WHATEVER THE INPUT: true; the input reads as it did. -/
def probParsesSpec : ChangeSpec := { name := "probParses", fn := fun _ => fun
  | [d1, d2, d3] => { results := [.lit (.bool true)], args := [d1, d2, d3] }
  | _ => none }
def probParsesRow : OpenClaim := { program := "ytaejdkfonlkhaaadoor", sum := "29637d9d0b4c85d3cbcfcc6104332f9845e99afc61bb35d7afbf8a47a9cb27a5", func := "telemeter/telemeterlaw05.ProbParses", spec := "probParses", inPlace := ["internal/bytealg.IndexByteString", "internal/bytealg.IndexString"], named := ["math/bits.divideError", "math/bits.overflowError", "math/bits.deBruijn64tab", "unicode/utf8.first", "unicode/utf8.acceptRanges", "internal/bytealg.MaxLen"], apart := false, laid := [("math/bits.deBruijn64tab", laid_math_bits_deBruijn64tab), ("unicode/utf8.acceptRanges", laid_unicode_utf8_acceptRanges), ("unicode/utf8.first", laid_unicode_utf8_first)] }
def ProbParsesSaid : Prop := probParsesRow.holds Tryd.pinned (OpenSpec.ofChange probParsesSpec)

/-- ITS FALSE NEIGHBOUR: 'it returns false'. Refute it at one input. -/
def probParsesWrong : ChangeSpec := { name := "probParses", fn := fun _ => fun
  | [d1, d2, d3] => { results := [.lit (.bool false)], args := [d1, d2, d3] }
  | _ => none }
def ProbParsesWrongFalsely : Prop := probParsesRow.holds Tryd.pinned (OpenSpec.ofChange probParsesWrong)

/-- 'telemeterlaw05.ProbDraws': WHATEVER THE INPUT: true; the input reads as it did. -/
def probDrawsSpec : ChangeSpec := { name := "probDraws", fn := fun _ => fun
  | [d1, d2, d3] => { results := [.lit (.bool true)], args := [d1, d2, d3] }
  | _ => none }
def probDrawsRow : OpenClaim := { program := "ytaejdkfonlkhaaadoor", sum := "29637d9d0b4c85d3cbcfcc6104332f9845e99afc61bb35d7afbf8a47a9cb27a5", func := "telemeter/telemeterlaw05.ProbDraws", spec := "probDraws", inPlace := ["internal/bytealg.IndexByteString", "internal/bytealg.IndexString"], named := ["math/bits.divideError", "math/bits.overflowError", "math/bits.deBruijn64tab", "unicode/utf8.first", "unicode/utf8.acceptRanges", "internal/bytealg.MaxLen"], apart := false, laid := [("math/bits.deBruijn64tab", laid_math_bits_deBruijn64tab), ("unicode/utf8.acceptRanges", laid_unicode_utf8_acceptRanges), ("unicode/utf8.first", laid_unicode_utf8_first)] }
def ProbDrawsSaid : Prop := probDrawsRow.holds Tryd.pinned (OpenSpec.ofChange probDrawsSpec)

/-- ITS FALSE NEIGHBOUR: 'it returns false'. Refute it at one input. -/
def probDrawsWrong : ChangeSpec := { name := "probDraws", fn := fun _ => fun
  | [d1, d2, d3] => { results := [.lit (.bool false)], args := [d1, d2, d3] }
  | _ => none }
def ProbDrawsWrongFalsely : Prop := probDrawsRow.holds Tryd.pinned (OpenSpec.ofChange probDrawsWrong)

/- THE SECOND FORM. 'bulk': how many values and letters a reading holds, each counted each time it is reached (what is shared counts as often as it is met; a slice's spare places count too). A statement '..UptoSaid' is the law's where the arguments, and the package variables that the reading takes, are together of bulk at most 1048576: NARROWER than '..Said'. Prove '..Said' where nothing that the law and all that it calls make is longer than what came in: it says more and counts as full. Else prove '..UptoSaid'. A law counts once. -/
mutual
def uptoBulk {H : Type} : DataW H → Nat
  | .lit (.string bytes) => bytes.length + 1
  | .lit _ => 1
  | .nil => 1
  | .ptr d => uptoBulk d + 1
  | .slice elems spare => uptoBulkAll elems + uptoBulkAll spare + 1
  | .agg parts => uptoBulkAll parts + 1
  | .iface _ d => uptoBulk d + 1
  | .map entries => uptoBulkEntries entries + 1
  | .held _ => 1
def uptoBulkAll {H : Type} : List (DataW H) → Nat
  | [] => 0
  | d :: r => uptoBulk d + uptoBulkAll r
def uptoBulkEntries {H : Type} : List (Lit × DataW H) → Nat
  | [] => 0
  | x :: r => uptoBulkEntry x + uptoBulkEntries r
def uptoBulkEntry {H : Type} : Lit × DataW H → Nat
  | (.string bytes, d) => bytes.length + uptoBulk d + 1
  | (_, d) => uptoBulk d + 1
 end
def uptoSmall : (H : Type) → List (DataW H) → Bool := fun _ ds => decide (uptoBulkAll ds ≤ 1048576)
def OpenSpec.upto (s : _root_.Go.ChangeSpec) : _root_.Go.OpenSpec := { _root_.Go.OpenSpec.ofChange s with cond := some uptoSmall }

/-- 'telemeterlaw05.ProbGrows', WHERE WHAT IT READS IS OF BULK AT MOST 1048576: true; the input reads as it did. -/
def probGrowsUptoRow : OpenClaim := { program := "ytaejdkfonlkhaaadoor", sum := "29637d9d0b4c85d3cbcfcc6104332f9845e99afc61bb35d7afbf8a47a9cb27a5", func := "telemeter/telemeterlaw05.ProbGrows", spec := "probGrows", inPlace := ["internal/bytealg.IndexByteString", "internal/bytealg.IndexString"], named := ["math/bits.divideError", "math/bits.overflowError", "math/bits.deBruijn64tab", "unicode/utf8.first", "unicode/utf8.acceptRanges", "internal/bytealg.MaxLen"], apart := false, laid := [("math/bits.deBruijn64tab", laid_math_bits_deBruijn64tab), ("unicode/utf8.acceptRanges", laid_unicode_utf8_acceptRanges), ("unicode/utf8.first", laid_unicode_utf8_first)], narrowed := true }
def ProbGrowsUptoSaid : Prop := probGrowsUptoRow.holds Tryd.pinned (OpenSpec.upto probGrowsSpec)

/-- 'telemeterlaw05.ProbParts', WHERE WHAT IT READS IS OF BULK AT MOST 1048576: true; the input reads as it did. -/
def probPartsUptoRow : OpenClaim := { program := "ytaejdkfonlkhaaadoor", sum := "29637d9d0b4c85d3cbcfcc6104332f9845e99afc61bb35d7afbf8a47a9cb27a5", func := "telemeter/telemeterlaw05.ProbParts", spec := "probParts", inPlace := ["internal/bytealg.IndexByteString", "internal/bytealg.IndexString"], named := ["math/bits.divideError", "math/bits.overflowError", "math/bits.deBruijn64tab", "unicode/utf8.first", "unicode/utf8.acceptRanges", "internal/bytealg.MaxLen"], apart := false, laid := [("math/bits.deBruijn64tab", laid_math_bits_deBruijn64tab), ("unicode/utf8.acceptRanges", laid_unicode_utf8_acceptRanges), ("unicode/utf8.first", laid_unicode_utf8_first)], narrowed := true }
def ProbPartsUptoSaid : Prop := probPartsUptoRow.holds Tryd.pinned (OpenSpec.upto probPartsSpec)

/-- 'telemeterlaw05.ProbKeeps', WHERE WHAT IT READS IS OF BULK AT MOST 1048576: true; the input reads as it did. -/
def probKeepsUptoRow : OpenClaim := { program := "ytaejdkfonlkhaaadoor", sum := "29637d9d0b4c85d3cbcfcc6104332f9845e99afc61bb35d7afbf8a47a9cb27a5", func := "telemeter/telemeterlaw05.ProbKeeps", spec := "probKeeps", inPlace := ["internal/bytealg.IndexByteString", "internal/bytealg.IndexString"], named := ["math/bits.deBruijn64tab", "unicode/utf8.first", "unicode/utf8.acceptRanges", "math/bits.divideError", "math/bits.overflowError", "internal/bytealg.MaxLen"], apart := false, laid := [("math/bits.deBruijn64tab", laid_math_bits_deBruijn64tab), ("unicode/utf8.acceptRanges", laid_unicode_utf8_acceptRanges), ("unicode/utf8.first", laid_unicode_utf8_first)], narrowed := true }
def ProbKeepsUptoSaid : Prop := probKeepsUptoRow.holds Tryd.pinned (OpenSpec.upto probKeepsSpec)

/-- 'telemeterlaw05.ProbThresholds', WHERE WHAT IT READS IS OF BULK AT MOST 1048576: true; the input reads as it did. -/
def probThresholdsUptoRow : OpenClaim := { program := "ytaejdkfonlkhaaadoor", sum := "29637d9d0b4c85d3cbcfcc6104332f9845e99afc61bb35d7afbf8a47a9cb27a5", func := "telemeter/telemeterlaw05.ProbThresholds", spec := "probThresholds", inPlace := ["internal/bytealg.IndexByteString", "internal/bytealg.IndexString"], named := ["math/bits.divideError", "math/bits.overflowError", "math/bits.deBruijn64tab", "unicode/utf8.first", "unicode/utf8.acceptRanges", "internal/bytealg.MaxLen"], apart := false, laid := [("math/bits.deBruijn64tab", laid_math_bits_deBruijn64tab), ("unicode/utf8.acceptRanges", laid_unicode_utf8_acceptRanges), ("unicode/utf8.first", laid_unicode_utf8_first)], narrowed := true }
def ProbThresholdsUptoSaid : Prop := probThresholdsUptoRow.holds Tryd.pinned (OpenSpec.upto probThresholdsSpec)

/-- 'telemeterlaw05.ProbBack', WHERE WHAT IT READS IS OF BULK AT MOST 1048576: true; the input reads as it did. -/
def probBackUptoRow : OpenClaim := { program := "ytaejdkfonlkhaaadoor", sum := "29637d9d0b4c85d3cbcfcc6104332f9845e99afc61bb35d7afbf8a47a9cb27a5", func := "telemeter/telemeterlaw05.ProbBack", spec := "probBack", inPlace := ["internal/bytealg.IndexByteString", "internal/bytealg.IndexString"], named := ["unicode/utf8.first", "unicode/utf8.acceptRanges", "math/bits.divideError", "math/bits.overflowError", "math/bits.deBruijn64tab", "internal/bytealg.MaxLen"], apart := false, laid := [("math/bits.deBruijn64tab", laid_math_bits_deBruijn64tab), ("unicode/utf8.acceptRanges", laid_unicode_utf8_acceptRanges), ("unicode/utf8.first", laid_unicode_utf8_first)], narrowed := true }
def ProbBackUptoSaid : Prop := probBackUptoRow.holds Tryd.pinned (OpenSpec.upto probBackSpec)

/-- 'telemeterlaw05.ProbShares', WHERE WHAT IT READS IS OF BULK AT MOST 1048576: true; the input reads as it did. -/
def probSharesUptoRow : OpenClaim := { program := "ytaejdkfonlkhaaadoor", sum := "29637d9d0b4c85d3cbcfcc6104332f9845e99afc61bb35d7afbf8a47a9cb27a5", func := "telemeter/telemeterlaw05.ProbShares", spec := "probShares", inPlace := ["internal/bytealg.IndexByteString", "internal/bytealg.IndexString"], named := ["math/bits.divideError", "math/bits.overflowError", "math/bits.deBruijn64tab", "unicode/utf8.first", "unicode/utf8.acceptRanges", "internal/bytealg.MaxLen"], apart := false, laid := [("math/bits.deBruijn64tab", laid_math_bits_deBruijn64tab), ("unicode/utf8.acceptRanges", laid_unicode_utf8_acceptRanges), ("unicode/utf8.first", laid_unicode_utf8_first)], narrowed := true }
def ProbSharesUptoSaid : Prop := probSharesUptoRow.holds Tryd.pinned (OpenSpec.upto probSharesSpec)

/-- 'telemeterlaw05.ProbNests', WHERE WHAT IT READS IS OF BULK AT MOST 1048576: true; the input reads as it did. -/
def probNestsUptoRow : OpenClaim := { program := "ytaejdkfonlkhaaadoor", sum := "29637d9d0b4c85d3cbcfcc6104332f9845e99afc61bb35d7afbf8a47a9cb27a5", func := "telemeter/telemeterlaw05.ProbNests", spec := "probNests", inPlace := ["internal/bytealg.IndexByteString", "internal/bytealg.IndexString"], named := ["math/bits.divideError", "math/bits.overflowError", "math/bits.deBruijn64tab", "unicode/utf8.first", "unicode/utf8.acceptRanges", "internal/bytealg.MaxLen"], apart := false, laid := [("math/bits.deBruijn64tab", laid_math_bits_deBruijn64tab), ("unicode/utf8.acceptRanges", laid_unicode_utf8_acceptRanges), ("unicode/utf8.first", laid_unicode_utf8_first)], narrowed := true }
def ProbNestsUptoSaid : Prop := probNestsUptoRow.holds Tryd.pinned (OpenSpec.upto probNestsSpec)

/-- 'telemeterlaw05.ProbWeighs', WHERE WHAT IT READS IS OF BULK AT MOST 1048576: true; the input reads as it did. -/
def probWeighsUptoRow : OpenClaim := { program := "ytaejdkfonlkhaaadoor", sum := "29637d9d0b4c85d3cbcfcc6104332f9845e99afc61bb35d7afbf8a47a9cb27a5", func := "telemeter/telemeterlaw05.ProbWeighs", spec := "probWeighs", inPlace := ["internal/bytealg.IndexByteString", "internal/bytealg.IndexString"], named := ["math/bits.deBruijn64tab", "math/bits.divideError", "math/bits.overflowError", "unicode/utf8.first", "unicode/utf8.acceptRanges", "internal/bytealg.MaxLen"], apart := false, laid := [("math/bits.deBruijn64tab", laid_math_bits_deBruijn64tab), ("unicode/utf8.acceptRanges", laid_unicode_utf8_acceptRanges), ("unicode/utf8.first", laid_unicode_utf8_first)], narrowed := true }
def ProbWeighsUptoSaid : Prop := probWeighsUptoRow.holds Tryd.pinned (OpenSpec.upto probWeighsSpec)

/-- 'telemeterlaw05.ProbParses', WHERE WHAT IT READS IS OF BULK AT MOST 1048576: true; the input reads as it did. -/
def probParsesUptoRow : OpenClaim := { program := "ytaejdkfonlkhaaadoor", sum := "29637d9d0b4c85d3cbcfcc6104332f9845e99afc61bb35d7afbf8a47a9cb27a5", func := "telemeter/telemeterlaw05.ProbParses", spec := "probParses", inPlace := ["internal/bytealg.IndexByteString", "internal/bytealg.IndexString"], named := ["math/bits.divideError", "math/bits.overflowError", "math/bits.deBruijn64tab", "unicode/utf8.first", "unicode/utf8.acceptRanges", "internal/bytealg.MaxLen"], apart := false, laid := [("math/bits.deBruijn64tab", laid_math_bits_deBruijn64tab), ("unicode/utf8.acceptRanges", laid_unicode_utf8_acceptRanges), ("unicode/utf8.first", laid_unicode_utf8_first)], narrowed := true }
def ProbParsesUptoSaid : Prop := probParsesUptoRow.holds Tryd.pinned (OpenSpec.upto probParsesSpec)

/-- 'telemeterlaw05.ProbDraws', WHERE WHAT IT READS IS OF BULK AT MOST 1048576: true; the input reads as it did. -/
def probDrawsUptoRow : OpenClaim := { program := "ytaejdkfonlkhaaadoor", sum := "29637d9d0b4c85d3cbcfcc6104332f9845e99afc61bb35d7afbf8a47a9cb27a5", func := "telemeter/telemeterlaw05.ProbDraws", spec := "probDraws", inPlace := ["internal/bytealg.IndexByteString", "internal/bytealg.IndexString"], named := ["math/bits.divideError", "math/bits.overflowError", "math/bits.deBruijn64tab", "unicode/utf8.first", "unicode/utf8.acceptRanges", "internal/bytealg.MaxLen"], apart := false, laid := [("math/bits.deBruijn64tab", laid_math_bits_deBruijn64tab), ("unicode/utf8.acceptRanges", laid_unicode_utf8_acceptRanges), ("unicode/utf8.first", laid_unicode_utf8_first)], narrowed := true }
def ProbDrawsUptoSaid : Prop := probDrawsUptoRow.holds Tryd.pinned (OpenSpec.upto probDrawsSpec)

end Rows
end Go.Proofs.YtaejdkfonlkhaaaDoor
