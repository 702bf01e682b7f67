/- What the laws on sketches share: the chapter's example, and the keys. No conditions. -/
import Derived.Test.YtppholbjhhlglaaSk1
import Derived.Laws.BytesArg
namespace Go.Proofs.Ytppholbjhhlglaa.Tele
open Go.RowKit
set_option linter.unusedVariables false
set_option linter.unusedSimpArgs false

/-- A pointer to a block's begin. -/
abbrev pv (p : Nat) : Value := .pointer (some ⟨p, 0, none⟩)
theorem new_any (rows W : Nat) (seed : U) (w : World) (h1 : 1 ≤ rows) (h2 : rows ≤ 8) (h3 : 1 ≤ W) (h4 : W ≤ 1024) :
    Calls Try.prog 9 #[.int .i64 (rows : Int), .int .i64 (W : Int), uv seed] w fun e w' => ∃ p c, e = .returned (pv p) ∧ Below w.heap.size w w' ∧ IsSk w' p c (Sk.new rows W seed) ∧ w.heap.size ≤ p ∧ w.heap.size ≤ c :=
  (new_yes rows W seed w h1 h2 h3 h4).mono fun e w' ⟨he, hb, hs⟩ => ⟨_, _, he, hb, hs, by omega, by omega⟩
/-- One more deed on a sketch of the call's own. -/
theorem bsk {w w1 w2 : World} {p c : Nat} (h : Below w.heap.size w w1) (k : Chg (fun b => b = p ∨ b = c) w1 w2) (hp : w.heap.size ≤ p) (hc : w.heap.size ≤ c) : Below w.heap.size w w2 :=
  bchg h k fun j hj => by rcases hj with rfl | rfl <;> assumption
def kA : ByteArray := ⟨#[97]⟩
def known1 : Sk := ((Sk.new 2 8 1#64).add [97] 3).add [97] 4
theorem known1_count : known1.count [97] = 7 := by decide +kernel
theorem known1_total : known1.total = 7 := by decide +kernel
theorem known_calls (w : World) : Calls Try.prog 10 #[] w fun e w' => e = .returned (.bool true) ∧ Below w.heap.size w w' := by
  have kc := Lib.hid known1_count
  have kt := Lib.hid known1_total
  go_enter Try.func10, Try.ntmps10
  go_wp2_with fail
  refine (new_any 2 8 1#64 _ (by omega) (by omega) (by omega) (by omega)).mono ?_
  rintro e w1 ⟨p, c, rfl, hb, hs, hp, hc⟩
  go_wp2_with fail
  refine (new_no 0 1 0#64 _ (by omega)).mono ?_
  rintro e w_ ⟨rfl, rfl⟩
  go_wp2_with fail
  refine (new_no 1 1025 0#64 _ (by omega)).mono ?_
  rintro e w_ ⟨rfl, rfl⟩
  go_wp2_with fail
  refine (add_calls p c _ kA 3 _ hs (by decide) (by omega)).mono ?_
  rintro e w2 ⟨rfl, hg, hs2⟩
  replace hb := bsk hb hg hp hc
  clear hs hg
  go_wp2_with fail
  refine (add_calls p c _ kA 4 _ hs2 (by decide) (by omega)).mono ?_
  rintro e w3 ⟨rfl, hg, hs3⟩
  replace hb := bsk hb hg hp hc
  clear hs2 hg
  replace hs3 : IsSk w3 p c known1 := hs3
  go_wp2_with fail
  refine (count_calls p c _ kA _ hs3 (by decide)).mono ?_
  rintro e w4 ⟨rfl, hb2⟩
  replace hs3 := hs3.next hb2
  replace hb := bnext hb hb2
  clear hb2
  rw [show known1.count kA.data.toList = 7 from kc.out]
  go_wp2_with fail
  refine (total_calls p c _ _ hs3).mono ?_
  rintro e w_ ⟨rfl, rfl⟩
  rw [kt.out]
  go_wp2
  go_ret
  exact ⟨rfl, hb⟩
/-- A text of one byte. -/
def oneS (n : Int) : ByteArray := strOfNums [n]
theorem conv_one (W : World) (g : Nat) (n : Int) (h : W.cell? ⟨g, 0, none⟩ = some (.int .u8 n)) : (convert 23 9 (.slice (some ⟨g, 0, none⟩) 1 1)).run Try.prog W = .ok (.string (oneS n)) W :=
  run_convert_bytes_arg W 23 5 Try.underlying23 Try.underlying5 g 0 1 1 [n] rfl (fun i hi => by
    have e : i = 0 := by omega
    subst e
    exact h) 9 Try.underlying9
/-- A key, as a choice says. -/
def keyS (c : Int) : ByteArray := ⟨#[107]⟩ ++ oneS (97 + c % 12)
def keyL (c : Int) : List UInt8 := [107, UInt8.ofNat (97 + c % 12).toNat]
theorem keyS_list (c : Int) : (keyS c).data.toList = keyL c := rfl
theorem keyS_size (c : Int) : (keyS c).size ≤ 140737488351232 := by
  have : (keyS c).size = (keyL c).length := by rw [← keyS_list]; simp
  rw [this]
  simp [keyL]
theorem keyL_mod (c : Int) : keyL (c % 12) = keyL c := by unfold keyL; rw [Int.emod_emod]
theorem keyL_inj (a b : Int) : keyL a = keyL b ↔ a % 12 = b % 12 := by
  constructor
  · intro h
    unfold keyL at h
    injection h with _ h
    injection h with h _
    have h2 := congrArg UInt8.toNat h
    simp only [UInt8.toNat_ofNat'] at h2
    omega
  · intro h
    unfold keyL
    rw [h]
theorem key_calls (c : Int) (w : World) (h0 : 0 ≤ c) (h1 : c ≤ 255) : Calls Try.prog 14 #[.int .u8 c] w fun e w' => e = .returned (.string (keyS c)) ∧ Below w.heap.size w w' := by
  have hcv := fun W g => conv_one W g (97 + c % 12)
  go_enter Try.func14, Try.ntmps14
  go_wp2
  go_ret
  exact ⟨rfl, bl_alloc (Below.refl _ _) _⟩
end Go.Proofs.Ytppholbjhhlglaa.Tele
