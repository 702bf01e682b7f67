/- The chapter's examples on senders hold. No conditions. -/
import Derived.Test.YtelodofjokmfjaaSend3
namespace Go.Proofs.Ytelodofjokmfjaa.Tele
open Go.RowKit
set_option linter.unusedVariables false
set_option linter.unusedSimpArgs false

theorem plus_ge {O : Nat → Prop} {w w1 w2 : World} (hO : ∀ j, O j → w.heap.size ≤ j) (hb : Below w.heap.size w w1) : ∀ j, Plus O w1 w2 j → w.heap.size ≤ j := fun j hj => by
  have := hb.size
  rcases hj with hj | hj
  · exact hO j hj
  · omega
def k0 : St := ⟨[], 1, 2, 9, 0⟩
def k1 : St := k0.put 4
def k2 : St := k1.put 4
def k3 : St := k2.sendAll 0 0#64
theorem k_facts : k0.has 4 = false ∧ k1.has 4 = true ∧ k2.outs 0 0#64 = [4] ∧ k3.flying = 1 ∧ k3.l.length = 1 ∧ (k3.find 5).isNone = true ∧ k0.l.length = 0 ∧ k1.l.length = 1 ∧ k2.flying = 0 ∧ (k2.l.all fun q => q.2.times == 0) = true ∧ dly 2 9 2 0 = 8 ∧ dly 2 9 3 0 = 9 ∧ dly 2 9 0 5 = 4 := by decide +kernel
set_option maxRecDepth 8000 in
set_option maxHeartbeats 1000000 in
theorem known_calls (w : World) : Calls Try.prog 10 #[] w fun e w' => e = .returned (.bool true) ∧ Below w.heap.size w w' := by
  obtain ⟨f1, f2, f3, f4, f5, f6, f7, f8, f9, f10, f11, f12, f13⟩ := k_facts
  have N1 := Lib.hid fun w => new_yes 1 2 9 w (by omega) (by omega) (by omega) (by omega) (by omega)
  have N2 := Lib.hid fun w => new_no 0 1 1 w (.inl (by omega))
  have N3 := Lib.hid fun w => new_no 1 2 1 w (.inr ⟨by omega, by omega, by omega, by omega⟩)
  have P1 := Lib.hid fun O p w h => by have := put_calls O p k0 4 w h (by decide) (by rw [f7]; omega); rw [f1, show (!decide (false = true ∨ (4 : Int) < 0)) = true from by decide] at this; exact this
  have P2 := Lib.hid fun O p w h => by have := put_calls O p k1 4 w h (by decide) (by rw [f8]; omega); rw [f2, show (!decide (true = true ∨ (4 : Int) < 0)) = false from by decide] at this; exact this
  have D1 := Lib.hid fun O p w h => by
    have := due_all O p k2 0 0#64 w h (by omega) (fun q hq => by
      have h1 := List.all_eq_true.1 f10 q hq
      simp at h1
      omega) (by omega)
    rw [show ((0 : Nat) : Int) = 0 from rfl, f3] at this
    exact this
  have L1 := Lib.hid fun w => by have := delay_calls 2 9 2 0 w 3 (by omega) (by omega) (by omega) (by omega) (by omega) (by omega); rw [f11] at this; exact this
  have L2 := Lib.hid fun w => by have := delay_calls 2 9 3 0 w 4 (by omega) (by omega) (by omega) (by omega) (by omega) (by omega); rw [f12] at this; exact this
  have L3 := Lib.hid fun w => by have := delay_calls 2 9 0 5 w 1 (by omega) (by omega) (by omega) (by omega) (by omega) (by omega); rw [f13] at this; exact this
  have F1 := Lib.hid fun O p w h => by have := flying_calls O p k3 w h; rw [f4] at this; exact this
  have E1 := Lib.hid fun O p w h => by have := len_calls O p k3 w h; rw [f5] at this; exact this
  have G1 := Lib.hid fun O p w h => done_no O p k3 5 w h (by decide) (by cases hk : k3.find 5 with | none => rfl | some f => rw [hk] at f6; simp at f6)
  clear f1 f2 f3 f4 f5 f6 f7 f8 f9 f10 f11 f12 f13
  go_enter Try.func10, Try.ntmps10
  go_wp2_with fail
  refine (N1.out _).mono ?_
  rintro e w1 ⟨p, rfl, hS, hb⟩
  generalize hO : (fun j => w.heap.size ≤ j ∧ j < w1.heap.size) = O at hS
  have HO : Hid (∀ j, O j → w.heap.size ≤ j) := Lib.hid (fun j hj => by rw [← hO] at hj; exact hj.1)
  have HB := Lib.hid hb
  have HS := Lib.hid hS
  clear hb hS hO
  go_wp2_with fail
  refine (N2.out _).mono ?_
  rintro e w1 ⟨rfl, rfl⟩
  go_wp2_with fail
  refine (N3.out _).mono ?_
  rintro e w1 ⟨rfl, rfl⟩
  go_wp2_with fail
  refine (P1.out _ _ _ HS.out).mono ?_
  rintro e w2 ⟨rfl, hS, hc⟩
  have HB2 := Lib.hid (bchg HB.out hc HO.out)
  have HO2 := Lib.hid (plus_ge (w2 := w2) HO.out HB.out)
  have HS2 : Hid (IsS w2 (Plus O w1 w2) p k1) := Lib.hid hS
  clear hS hc HB HO HS
  go_wp2_with fail
  refine (P2.out _ _ _ HS2.out).mono ?_
  rintro e w3 ⟨rfl, hS, hc⟩
  have HB3 := Lib.hid (bchg HB2.out hc HO2.out)
  have HO3 := Lib.hid (plus_ge (w2 := w3) HO2.out HB2.out)
  have HS3 : Hid (IsS w3 (Plus (Plus O w1 w2) w2 w3) p k2) := Lib.hid hS
  clear hS hc HB2 HO2 HS2
  go_wp2_with fail
  refine (D1.out _ _ _ HS3.out).mono ?_
  rintro e w4 ⟨v, rfl, ⟨a, cap, rfl, hrow, _⟩, hS, hc⟩
  have HB4 := Lib.hid (bchg HB3.out hc HO3.out)
  have HS4 : Hid (IsS w4 (Plus (Plus O w1 w2) w2 w3) p k3) := Lib.hid hS
  have hcell : w4.cell? (adr a 0) = some (.int .i64 4) := hrow.cell 0 (by decide)
  have hidx := fun W => hrow.index Try.prog 31 3 Try.underlying31 (by kernel_rfl) 0 (by decide) W
  rw [show ([4] : List Int).length = 1 from rfl, show ((0 : Nat) : Int) = 0 from rfl] at hidx
  rw [show ([4] : List Int).length = 1 from rfl]
  generalize adr a 0 = ad at *
  clear hS hc HB3 HO3 HS3 hrow
  go_wp2_with fail
  refine (L1.out _).mono ?_
  rintro e w5 ⟨rfl, rfl⟩
  go_wp2_with fail
  refine (L2.out _).mono ?_
  rintro e w5 ⟨rfl, rfl⟩
  go_wp2_with fail
  refine (L3.out _).mono ?_
  rintro e w5 ⟨rfl, rfl⟩
  go_wp2_with fail
  refine (F1.out _ _ _ HS4.out).mono ?_
  rintro e w5 ⟨rfl, rfl⟩
  go_wp2_with fail
  refine (E1.out _ _ _ HS4.out).mono ?_
  rintro e w5 ⟨rfl, rfl⟩
  go_wp2_with fail
  refine (G1.out _ _ _ HS4.out).mono ?_
  rintro e w5 ⟨rfl, rfl⟩
  go_wp2
  go_ret
  exact ⟨rfl, HB4.out⟩
end Go.Proofs.Ytelodofjokmfjaa.Tele
