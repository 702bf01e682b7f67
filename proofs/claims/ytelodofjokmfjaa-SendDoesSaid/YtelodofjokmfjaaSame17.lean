/- Equal slices of numbers are the same. No conditions. -/
import Derived.Test.YtelodofjokmfjaaKnown17
namespace Go.Proofs.Ytelodofjokmfjaa.Tele
open Go.RowKit
set_option linter.unusedVariables false
set_option linter.unusedSimpArgs false

theorem Ints.next {w w' : World} {B : Nat} {v : Value} {l : List Int} (h : Ints w B v l) (k : Below w.heap.size w w') : Ints w' B v l := by
  obtain ⟨a, cap, h1, h2, h3⟩ := h
  exact ⟨a, cap, h1, RowOf.below h2 k, h3⟩
theorem Ints.chg {w w' : World} {B : Nat} {v : Value} {l : List Int} {O : Nat → Prop} (h : Ints w B v l) (k : Chg O w w') (hO : ∀ j, O j → j < B) : Ints w' B v l := by
  obtain ⟨a, cap, h1, h2, h3⟩ := h
  refine ⟨a, cap, h1, h2.far fun ad had hp => ⟨k.size, ?_⟩, h3⟩
  obtain ⟨ad', had', hlt, _⟩ := h2.2.2.2 hp
  have : ad' = ad := by rw [had] at had'; exact (Option.some.inj had').symm
  subst this
  have := h3 _ had
  exact k.block _ hlt fun hs => by have := hO _ hs; omega
theorem Ints.drewN {w : World} {B : Nat} {v : Value} {l : List Int} (h : Ints w B v l) (n : Nat) : Ints (w.drewN n) B v l := h
theorem same_yes (B1 B2 : Nat) (v1 v2 : Value) (l : List Int) (w : World) (h1 : Ints w B1 v1 l) (h2 : Ints w B2 v2 l) :
    Calls Try.prog 15 #[v1, v2] w fun e w' => e = .returned (.bool true) ∧ ∃ n, w' = w.drewN n := by
  obtain ⟨a1, c1, rfl, r1, _⟩ := h1
  obtain ⟨a2, c2, rfl, r2, _⟩ := h2
  obtain ⟨n, hn⟩ : ∃ n, n = l.length := ⟨_, rfl⟩
  rw [← hn] at r1 r2 ⊢
  have hmax : (n : Int) ≤ 9223372036854775807 := by
    have := r1.2.1
    have := r1.2.2.1
    omega
  have R1 := Lib.hid r1
  have R2 := Lib.hid r2
  clear hn r1 r2
  go_enter Try.func15, Try.ntmps15
  go_wp2_with fail
  go_loopw [5] (fun i wr => ∃ k nd : Nat, k ≤ n ∧ i = .int .i64 (k : Int) ∧ wr = w.drewN nd) (fun i _ => n - (intOf i).toNat)
  case atStart => exact ⟨0, 0, by omega, rfl, rfl⟩
  case round =>
    obtain ⟨k, nd, hk, rfl, rfl⟩ := hrel
    by_cases hlt : (k : Int) < (n : Int)
    · have i1 := fun W => R1.out.index Try.prog 31 3 Try.underlying31 (by kernel_rfl) k (by omega) W
      have i2 := fun W => R2.out.index Try.prog 31 3 Try.underlying31 (by kernel_rfl) k (by omega) W
      have d1 := R1.out.cell k (by omega)
      have d2 := R2.out.cell k (by omega)
      have hq : ((l.getD k 0) == (l.getD k 0)) = true := by simp
      generalize l.getD k 0 = z at *
      generalize adr a1 k = p1 at *
      generalize adr a2 k = p2 at *
      go_wp2_with fail
      go_quiet (fail)
      go_wp2_with fail
      go_roundw
      case rel => exact ⟨k + 1, nd + nq, by omega, by go_num, rfl⟩
      case measure => simp [intOf]; omega
    · go_wp2_with fail
      go_ret
      exact ⟨rfl, nd, rfl⟩
end Go.Proofs.Ytelodofjokmfjaa.Tele
