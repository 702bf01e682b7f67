/- The law HashApart, out of its walk and the plain facts. No conditions. -/
import Derived.Test.YtifooncbljpbiaaLawApart
namespace Go.Proofs.Ytifooncbljpbiaa.Tele
open Go.RowKit
theorem beq_same {p q : Prop} [Decidable p] [Decidable q] (h : p ↔ q) : (decide p == decide q) = true := by
  by_cases hp : p
  · simp [hp, h.1 hp]
  · have hq : ¬ q := fun hq => hp (h.2 hq)
    simp [hp, hq]
theorem beq_int (x y : Int) : (x == y) = decide (x = y) := by
  by_cases h : x = y
  · simp [h]
  · simp [h]
theorem ofNat_inj (a b : Int) (ha : 0 ≤ a) (ha' : a ≤ 255) (hb : 0 ≤ b) (hb' : b ≤ 255) : UInt8.ofNat a.toNat = UInt8.ofNat b.toNat ↔ a = b := by
  constructor
  · intro h
    have h2 := congrArg UInt8.toNat h
    simp only [UInt8.toNat_ofNat'] at h2
    omega
  · intro h; rw [h]
theorem hashApart_walk (x y a b : Int) (w : World) (hx : (Lit.int .u64 x).wf = true) (hy : (Lit.int .u64 y).wf = true) (ha : (Lit.int .u8 a).wf = true) (hb : (Lit.int .u8 b).wf = true) :
    Calls Try.prog 6 #[.int .u64 x, .int .u64 y, .int .u8 a, .int .u8 b] w fun e w' => e = .returned (.bool true) ∧ Below w.heap.size w w' := by
  obtain ⟨X, rfl⟩ := u_of_wf hx
  obtain ⟨Y, rfl⟩ := u_of_wf hy
  have ha0 : 0 ≤ a ∧ a ≤ 255 := by simpa [Lit.wf, IntKind.min, IntKind.max, IntKind.bits, IntKind.signed] using ha
  have hb0 : 0 ≤ b ∧ b ≤ 255 := by simpa [Lit.wf, IntKind.min, IntKind.max, IntKind.bits, IntKind.signed] using hb
  refine apart_walk X Y (mix X) (mix Y) _ _ _ _ a b w (Lib.hid (mix_calls X)) (Lib.hid (mix_calls Y)) (Lib.hid (of_one X a)) (Lib.hid (of_one X b)) (Lib.hid (of_none X)) (Lib.hid (of_none Y)) ?_ ?_ ?_
  · rw [beq_int, beq_int]
    exact beq_same (by rw [u_inj, u_inj, mix_inj])
  · rw [beq_int, beq_int]
    exact beq_same (by rw [u_inj, of_one_inj, ofNat_inj a b ha0.1 ha0.2 hb0.1 hb0.2])
  · rw [beq_int, beq_int]
    exact beq_same (by rw [u_inj, u_inj, of_nil_inj])
end Go.Proofs.Ytifooncbljpbiaa.Tele
