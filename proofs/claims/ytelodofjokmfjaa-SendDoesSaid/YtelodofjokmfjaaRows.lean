/-
  No cell of these rows narrows 'for every input' (looked for: loops, veiled, ifaces, maps, wideKeys, modest, calm, conditions, laid).
  DERIVED. THE GIVEN ROWS OF THIS SEAT. 6 by the template 'for every input the law returns true; each argument reads behind the call as it read before'; 0 by the template 'total and deterministic' (their statements: YtelodofjokmfjaaTotals.lean).
  GIVEN WITH THE SEED: the statements are not yours to turn. If you find one false, say at which input.
  Laid BY PROGRAM, IN A SANDBOX (cutbox-rows.mjs): the forced cells as the released guide's own fill.sh prints them over the translation d288ce3ba49c3d36… (all of the seat's roots in one cut). By AI agents, Wed Nov 11 2026. No macro, syntax, notation, axiom, sorry.
-/
import Derived.Test.YtelodofjokmfjaaChecked
import GoSem.Claim
import GoSem.ClaimJoined
import GoSem.ClaimMapViews
import Derived.JoinedTies
import Derived.KernelRfl
namespace Go.Proofs.Ytelodofjokmfjaa
/- THE CELL 'sum', in the pinned program and in every row, IS THE sha256 OF THE DUMP (.gsa) THAT YtelodofjokmfjaaProg.lean LOADS. Nothing in Lean hashes anything: it is a label: what it is worth is what the hold of that sum in a sandbox is worth. -/
noncomputable def Try.pinned : Pinned := { name := "ytelodofjokmfjaa", sum := "d288ce3ba49c3d3602af823ff1bedd2f8f6b975f1cf157abf457bcb65d935ee2", checked := Try.checked }
namespace Rows
def none {H : Type} : Left H := { results := [], args := [] }

/-- 'telemeterlaw17.SendGrows': WHATEVER THE INPUT: true; the input reads as it did. -/
def sendGrowsSpec : ChangeSpec := { name := "sendGrows", fn := fun _ => fun
  | [d1, d2, d3, d4] => { results := [.lit (.bool true)], args := [d1, d2, d3, d4] }
  | _ => none }
def sendGrowsRow : OpenClaim := { program := "ytelodofjokmfjaa", sum := "d288ce3ba49c3d3602af823ff1bedd2f8f6b975f1cf157abf457bcb65d935ee2", func := "telemeter/telemeterlaw17.SendGrows", spec := "sendGrows", unfollowed := true, recurses := true, apart := false }
def SendGrowsSaid : Prop := sendGrowsRow.holds Try.pinned (OpenSpec.ofChange sendGrowsSpec)

/-- ITS FALSE NEIGHBOUR: 'it returns false'. Refute it at one input. -/
def sendGrowsWrong : ChangeSpec := { name := "sendGrows", fn := fun _ => fun
  | [d1, d2, d3, d4] => { results := [.lit (.bool false)], args := [d1, d2, d3, d4] }
  | _ => none }
def SendGrowsWrongFalsely : Prop := sendGrowsRow.holds Try.pinned (OpenSpec.ofChange sendGrowsWrong)

/-- 'telemeterlaw17.SendFlies': WHATEVER THE INPUT: true; the input reads as it did. -/
def sendFliesSpec : ChangeSpec := { name := "sendFlies", fn := fun _ => fun
  | [d1, d2, d3] => { results := [.lit (.bool true)], args := [d1, d2, d3] }
  | _ => none }
def sendFliesRow : OpenClaim := { program := "ytelodofjokmfjaa", sum := "d288ce3ba49c3d3602af823ff1bedd2f8f6b975f1cf157abf457bcb65d935ee2", func := "telemeter/telemeterlaw17.SendFlies", spec := "sendFlies", unfollowed := true, recurses := true, apart := false }
def SendFliesSaid : Prop := sendFliesRow.holds Try.pinned (OpenSpec.ofChange sendFliesSpec)

/-- ITS FALSE NEIGHBOUR: 'it returns false'. Refute it at one input. -/
def sendFliesWrong : ChangeSpec := { name := "sendFlies", fn := fun _ => fun
  | [d1, d2, d3] => { results := [.lit (.bool false)], args := [d1, d2, d3] }
  | _ => none }
def SendFliesWrongFalsely : Prop := sendFliesRow.holds Try.pinned (OpenSpec.ofChange sendFliesWrong)

/-- 'telemeterlaw17.SendNext': WHATEVER THE INPUT: true; the input reads as it did. -/
def sendNextSpec : ChangeSpec := { name := "sendNext", fn := fun _ => fun
  | [d1, d2, d3] => { results := [.lit (.bool true)], args := [d1, d2, d3] }
  | _ => none }
def sendNextRow : OpenClaim := { program := "ytelodofjokmfjaa", sum := "d288ce3ba49c3d3602af823ff1bedd2f8f6b975f1cf157abf457bcb65d935ee2", func := "telemeter/telemeterlaw17.SendNext", spec := "sendNext", unfollowed := true, recurses := true, apart := false }
def SendNextSaid : Prop := sendNextRow.holds Try.pinned (OpenSpec.ofChange sendNextSpec)

/-- ITS FALSE NEIGHBOUR: 'it returns false'. Refute it at one input. -/
def sendNextWrong : ChangeSpec := { name := "sendNext", fn := fun _ => fun
  | [d1, d2, d3] => { results := [.lit (.bool false)], args := [d1, d2, d3] }
  | _ => none }
def SendNextWrongFalsely : Prop := sendNextRow.holds Try.pinned (OpenSpec.ofChange sendNextWrong)

/-- 'telemeterlaw17.SendDoes': WHATEVER THE INPUT: true; the input reads as it did. -/
def sendDoesSpec : ChangeSpec := { name := "sendDoes", fn := fun _ => fun
  | [d1, d2, d3, d4, d5] => { results := [.lit (.bool true)], args := [d1, d2, d3, d4, d5] }
  | _ => none }
def sendDoesRow : OpenClaim := { program := "ytelodofjokmfjaa", sum := "d288ce3ba49c3d3602af823ff1bedd2f8f6b975f1cf157abf457bcb65d935ee2", func := "telemeter/telemeterlaw17.SendDoes", spec := "sendDoes", unfollowed := true, recurses := true, apart := false }
def SendDoesSaid : Prop := sendDoesRow.holds Try.pinned (OpenSpec.ofChange sendDoesSpec)

/-- ITS FALSE NEIGHBOUR: 'it returns false'. Refute it at one input. -/
def sendDoesWrong : ChangeSpec := { name := "sendDoes", fn := fun _ => fun
  | [d1, d2, d3, d4, d5] => { results := [.lit (.bool false)], args := [d1, d2, d3, d4, d5] }
  | _ => none }
def SendDoesWrongFalsely : Prop := sendDoesRow.holds Try.pinned (OpenSpec.ofChange sendDoesWrong)

/-- 'telemeterlaw17.SendAll': WHATEVER THE INPUT: true; the input reads as it did. -/
def sendAllSpec : ChangeSpec := { name := "sendAll", fn := fun _ => fun
  | [d1, d2, d3] => { results := [.lit (.bool true)], args := [d1, d2, d3] }
  | _ => none }
def sendAllRow : OpenClaim := { program := "ytelodofjokmfjaa", sum := "d288ce3ba49c3d3602af823ff1bedd2f8f6b975f1cf157abf457bcb65d935ee2", func := "telemeter/telemeterlaw17.SendAll", spec := "sendAll", unfollowed := true, recurses := true, apart := false }
def SendAllSaid : Prop := sendAllRow.holds Try.pinned (OpenSpec.ofChange sendAllSpec)

/-- ITS FALSE NEIGHBOUR: 'it returns false'. Refute it at one input. -/
def sendAllWrong : ChangeSpec := { name := "sendAll", fn := fun _ => fun
  | [d1, d2, d3] => { results := [.lit (.bool false)], args := [d1, d2, d3] }
  | _ => none }
def SendAllWrongFalsely : Prop := sendAllRow.holds Try.pinned (OpenSpec.ofChange sendAllWrong)

/-- 'telemeterlaw17.SendAnew': WHATEVER THE INPUT: true; the input reads as it did. -/
def sendAnewSpec : ChangeSpec := { name := "sendAnew", fn := fun _ => fun
  | [d1, d2] => { results := [.lit (.bool true)], args := [d1, d2] }
  | _ => none }
def sendAnewRow : OpenClaim := { program := "ytelodofjokmfjaa", sum := "d288ce3ba49c3d3602af823ff1bedd2f8f6b975f1cf157abf457bcb65d935ee2", func := "telemeter/telemeterlaw17.SendAnew", spec := "sendAnew", unfollowed := true, recurses := true, apart := false }
def SendAnewSaid : Prop := sendAnewRow.holds Try.pinned (OpenSpec.ofChange sendAnewSpec)

/-- ITS FALSE NEIGHBOUR: 'it returns false'. Refute it at one input. -/
def sendAnewWrong : ChangeSpec := { name := "sendAnew", fn := fun _ => fun
  | [d1, d2] => { results := [.lit (.bool false)], args := [d1, d2] }
  | _ => none }
def SendAnewWrongFalsely : Prop := sendAnewRow.holds Try.pinned (OpenSpec.ofChange sendAnewWrong)

/- THE SECOND FORM. 'bulk': how many values and letters a reading holds, each counted each time it is reached (what is shared counts as often as it is met; a slice's spare places count too). A statement '..UptoSaid' is the law's where the arguments, and the package variables that the reading takes, are together of bulk at most 1048576: NARROWER than '..Said'. Prove '..Said' where nothing that the law and all that it calls make is longer than what came in: it says more and counts as full. Else prove '..UptoSaid'. A law counts once. -/
mutual
def uptoBulk {H : Type} : DataW H → Nat
  | .lit (.string bytes) => bytes.length + 1
  | .lit _ => 1
  | .nil => 1
  | .ptr d => uptoBulk d + 1
  | .slice elems spare => uptoBulkAll elems + uptoBulkAll spare + 1
  | .agg parts => uptoBulkAll parts + 1
  | .iface _ d => uptoBulk d + 1
  | .map entries => uptoBulkEntries entries + 1
  | .held _ => 1
def uptoBulkAll {H : Type} : List (DataW H) → Nat
  | [] => 0
  | d :: r => uptoBulk d + uptoBulkAll r
def uptoBulkEntries {H : Type} : List (Lit × DataW H) → Nat
  | [] => 0
  | x :: r => uptoBulkEntry x + uptoBulkEntries r
def uptoBulkEntry {H : Type} : Lit × DataW H → Nat
  | (.string bytes, d) => bytes.length + uptoBulk d + 1
  | (_, d) => uptoBulk d + 1
 end
def uptoSmall : (H : Type) → List (DataW H) → Bool := fun _ ds => decide (uptoBulkAll ds ≤ 1048576)
def OpenSpec.upto (s : _root_.Go.ChangeSpec) : _root_.Go.OpenSpec := { _root_.Go.OpenSpec.ofChange s with cond := some uptoSmall }

/-- 'telemeterlaw17.SendGrows', WHERE WHAT IT READS IS OF BULK AT MOST 1048576: true; the input reads as it did. -/
def sendGrowsUptoRow : OpenClaim := { program := "ytelodofjokmfjaa", sum := "d288ce3ba49c3d3602af823ff1bedd2f8f6b975f1cf157abf457bcb65d935ee2", func := "telemeter/telemeterlaw17.SendGrows", spec := "sendGrows", unfollowed := true, recurses := true, apart := false, narrowed := true }
def SendGrowsUptoSaid : Prop := sendGrowsUptoRow.holds Try.pinned (OpenSpec.upto sendGrowsSpec)

/-- 'telemeterlaw17.SendFlies', WHERE WHAT IT READS IS OF BULK AT MOST 1048576: true; the input reads as it did. -/
def sendFliesUptoRow : OpenClaim := { program := "ytelodofjokmfjaa", sum := "d288ce3ba49c3d3602af823ff1bedd2f8f6b975f1cf157abf457bcb65d935ee2", func := "telemeter/telemeterlaw17.SendFlies", spec := "sendFlies", unfollowed := true, recurses := true, apart := false, narrowed := true }
def SendFliesUptoSaid : Prop := sendFliesUptoRow.holds Try.pinned (OpenSpec.upto sendFliesSpec)

/-- 'telemeterlaw17.SendNext', WHERE WHAT IT READS IS OF BULK AT MOST 1048576: true; the input reads as it did. -/
def sendNextUptoRow : OpenClaim := { program := "ytelodofjokmfjaa", sum := "d288ce3ba49c3d3602af823ff1bedd2f8f6b975f1cf157abf457bcb65d935ee2", func := "telemeter/telemeterlaw17.SendNext", spec := "sendNext", unfollowed := true, recurses := true, apart := false, narrowed := true }
def SendNextUptoSaid : Prop := sendNextUptoRow.holds Try.pinned (OpenSpec.upto sendNextSpec)

/-- 'telemeterlaw17.SendDoes', WHERE WHAT IT READS IS OF BULK AT MOST 1048576: true; the input reads as it did. -/
def sendDoesUptoRow : OpenClaim := { program := "ytelodofjokmfjaa", sum := "d288ce3ba49c3d3602af823ff1bedd2f8f6b975f1cf157abf457bcb65d935ee2", func := "telemeter/telemeterlaw17.SendDoes", spec := "sendDoes", unfollowed := true, recurses := true, apart := false, narrowed := true }
def SendDoesUptoSaid : Prop := sendDoesUptoRow.holds Try.pinned (OpenSpec.upto sendDoesSpec)

/-- 'telemeterlaw17.SendAll', WHERE WHAT IT READS IS OF BULK AT MOST 1048576: true; the input reads as it did. -/
def sendAllUptoRow : OpenClaim := { program := "ytelodofjokmfjaa", sum := "d288ce3ba49c3d3602af823ff1bedd2f8f6b975f1cf157abf457bcb65d935ee2", func := "telemeter/telemeterlaw17.SendAll", spec := "sendAll", unfollowed := true, recurses := true, apart := false, narrowed := true }
def SendAllUptoSaid : Prop := sendAllUptoRow.holds Try.pinned (OpenSpec.upto sendAllSpec)

/-- 'telemeterlaw17.SendAnew', WHERE WHAT IT READS IS OF BULK AT MOST 1048576: true; the input reads as it did. -/
def sendAnewUptoRow : OpenClaim := { program := "ytelodofjokmfjaa", sum := "d288ce3ba49c3d3602af823ff1bedd2f8f6b975f1cf157abf457bcb65d935ee2", func := "telemeter/telemeterlaw17.SendAnew", spec := "sendAnew", unfollowed := true, recurses := true, apart := false, narrowed := true }
def SendAnewUptoSaid : Prop := sendAnewUptoRow.holds Try.pinned (OpenSpec.upto sendAnewSpec)

end Rows
end Go.Proofs.Ytelodofjokmfjaa
