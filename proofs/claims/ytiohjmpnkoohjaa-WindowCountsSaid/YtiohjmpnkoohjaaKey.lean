/- The keys of the laws. No conditions. -/
import Derived.Test.YtiohjmpnkoohjaaSk3
import Derived.Laws.BytesArg
namespace Go.Proofs.Ytiohjmpnkoohjaa.Tele
open Go.RowKit
set_option linter.unusedVariables false
set_option linter.unusedSimpArgs false

/-- A text of one byte. -/
def oneS (n : Int) : ByteArray := strOfNums [n]
theorem conv_one (W : World) (g : Nat) (n : Int) (h : W.cell? ⟨g, 0, none⟩ = some (.int .u8 n)) : (convert 23 9 (.slice (some ⟨g, 0, none⟩) 1 1)).run Try.prog W = .ok (.string (oneS n)) W :=
  run_convert_bytes_arg W 23 5 Try.underlying23 Try.underlying5 g 0 1 1 [n] rfl (fun i hi => by
    have e : i = 0 := by omega
    subst e
    exact h) 9 Try.underlying9
/-- A key, as a choice says. -/
def keyS (c : Int) : ByteArray := ⟨#[107]⟩ ++ oneS (97 + c % 12)
def keyL (c : Int) : List UInt8 := [107, UInt8.ofNat (97 + c % 12).toNat]
theorem keyS_list (c : Int) : (keyS c).data.toList = keyL c := rfl
theorem keyS_size (c : Int) : (keyS c).size ≤ 140737488351232 := by
  have : (keyS c).size = (keyL c).length := by rw [← keyS_list]; simp
  rw [this]
  simp [keyL]
theorem keyL_mod (c : Int) : keyL (c % 12) = keyL c := by unfold keyL; rw [Int.emod_emod]
theorem keyL_inj (a b : Int) : keyL a = keyL b ↔ a % 12 = b % 12 := by
  constructor
  · intro h
    unfold keyL at h
    injection h with _ h
    injection h with h _
    have h2 := congrArg UInt8.toNat h
    simp only [UInt8.toNat_ofNat'] at h2
    omega
  · intro h
    unfold keyL
    rw [h]
theorem key_calls (c : Int) (w : World) (h0 : 0 ≤ c) (h1 : c ≤ 255) : Calls Try.prog 10 #[.int .u8 c] w fun e w' => e = .returned (.string (keyS c)) ∧ Below w.heap.size w w' := by
  have hcv := fun W g => conv_one W g (97 + c % 12)
  go_enter Try.func10, Try.ntmps10
  go_wp2
  go_ret
  exact ⟨rfl, bl_alloc (Below.refl _ _) _⟩
end Go.Proofs.Ytiohjmpnkoohjaa.Tele
