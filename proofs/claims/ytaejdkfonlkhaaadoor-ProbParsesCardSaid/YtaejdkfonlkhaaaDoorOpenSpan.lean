/- A span that came in by value: its first and its last number are known. No conditions. -/
import Derived.Test.YtaejdkfonlkhaaaDoorBase
import Derived.SizedLaws
import Derived.ChangeSlices
import Derived.WideShapes
namespace Go.Proofs.YtaejdkfonlkhaaaDoor.Tele
open Go.RowKit Go.ChangeShapes Go.WideShapes
set_option linter.unusedVariables false
set_option linter.unusedSimpArgs false

theorem list10 {α : Type} (l : List α) (h : l.length = 10) : ∃ a0 a1 a2 a3 a4 a5 a6 a7 a8 a9, l = [a0, a1, a2, a3, a4, a5, a6, a7, a8, a9] := by
  match l, h with
  | [a0, a1, a2, a3, a4, a5, a6, a7, a8, a9], _ => exact ⟨a0, a1, a2, a3, a4, a5, a6, a7, a8, a9, rfl⟩
theorem span_open {H : Type} {enc : TypeId × Value → H} {W : World} {spare : Nat → Bool} {held : Bool} {r : Reach} {b0 : Nat} {v : Value} {d : DataW H} {ps : List MemPlace}
    (hv : Value.okWide Tryd.prog W r b0 52 v) (h : DataW.Trod enc Tryd.prog W 0 spare held 52 v d ps) :
    ∃ (c0 c2 c3 c4 c5 c6 c7 c8 : Value) (lo rv : Int), v = .agg #[c0, .int .u64 lo, c2, c3, c4, c5, c6, c7, c8, .int .u64 rv] ∧ (Lit.int .u64 lo).wf = true ∧ (Lit.int .u64 rv).wf = true := by
  obtain ⟨cs, rfl, hsz⟩ := okWide_struct Tryd.underlying52 hv
  rw [show Tryd.prog.cellsOf 52 = 10 by kernel_rfl] at hsz
  obtain ⟨l⟩ := cs
  obtain ⟨c0, c1, c2, c3, c4, c5, c6, c7, c8, c9, rfl⟩ := list10 l (by simpa using hsz)
  obtain ⟨fuel, hf⟩ := h
  obtain ⟨xs, n, _, _, _, hlen, hg⟩ := DataW.trod_struct Tryd.underlying52 hf
  have hlen : xs.length = 10 := hlen
  obtain ⟨y0, y1, y2, y3, y4, y5, y6, y7, y8, y9, rfl⟩ := list10 xs hlen
  have h1 := hg 1 { name := "Lo", type := 23, offset := 1, embedded := false, tag := "", pkgPath := "", byteOffset := 8 } rfl
  have h9 := hg 9 { name := "Rv", type := 23, offset := 9, embedded := false, tag := "", pkgPath := "", byteOffset := 96 } rfl
  rw [show Tryd.prog.cellsOf 23 = 1 by kernel_rfl] at h1 h9
  obtain ⟨lo, e1, _, w1⟩ := DataW.trod_int Tryd.underlying23 h1
  obtain ⟨rv, e9, _, w9⟩ := DataW.trod_int Tryd.underlying23 h9
  have e1 : [c1] = [Value.int .u64 lo] := e1
  have e9 : [c9] = [Value.int .u64 rv] := e9
  obtain rfl := (List.cons.inj e1).1
  obtain rfl := (List.cons.inj e9).1
  exact ⟨c0, c2, c3, c4, c5, c6, c7, c8, lo, rv, rfl, w1, w9⟩
end Go.Proofs.YtaejdkfonlkhaaaDoor.Tele
