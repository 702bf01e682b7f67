/- The walks of package prob's weights. No conditions but that the library's table is as it was laid. -/
import Derived.Test.YtaejdkfonlkhaaaDoorProb
import Derived.Shelf.Spec.TrailingZeros
namespace Go.Proofs.YtaejdkfonlkhaaaDoor.Tele
open Go.RowKit
set_option linter.unusedVariables false
set_option linter.unusedSimpArgs false

/-- The library's table of sixty-four small numbers is as it was laid. -/
def Tab (w : World) : Prop := ∀ j, j < 64 → w.cell? ⟨2, j, none⟩ = some (.int .u8 (Lib.deBruijn64tab.getD j 0))
theorem Tab.below {w0 w : World} (h : Tab w0) (k : Below w0.heap.size w0 w) : Tab w := fun j hj => by
  have h1 := h j hj
  have hlt : 2 < w0.heap.size := by
    apply Classical.byContradiction
    intro hn
    have : w0.heap[2]? = none := Array.getElem?_eq_none (by omega)
    simp [World.cell?, this] at h1
  rw [k.cell (p := ⟨2, j, none⟩) hlt]
  exact h1
theorem tz_core (x k idx : Nat) (w : World) (hx0 : ((x : Int) == 0) = false)
    (key : IntKind.u64.wrap (bits BinOp.and IntKind.u64 (x : Int) (IntKind.u64.wrap (-(x : Int))) * 285870213051353865) / 288230376151711744 = (idx : Int))
    (hi : idx < 64) (hk : k < 64) (hcell : w.cell? ⟨2, idx, none⟩ = some (.int .u8 (k : Int))) :
    Calls Tryd.prog 32 #[.int .u64 (x : Int)] w fun e w' => e = .returned (.int .i64 (k : Int)) ∧ w' = w := by
  go_enter Tryd.func32, Tryd.ntmps32
  go_wp2
  go_ret
  exact ⟨rfl, rfl⟩
theorem tz_calls (x : Nat) (w : World) (hx0 : x ≠ 0) (hx : x < 18446744073709551616) (hT : Tab w) :
    Calls Tryd.prog 32 #[.int .u64 (x : Int)] w fun e w' => e = .returned (.int .i64 (Lib.ctz 64 x : Int)) ∧ w' = w := by
  obtain ⟨hlow, hk⟩ := Lib.lowest_bit 64 x hx0 hx
  obtain ⟨hi, htab⟩ := Lib.deBruijn64_at _ hk
  have hcell := hT _ hi
  rw [htab] at hcell
  exact tz_core x _ _ w (by rw [beq_eq_false_iff_ne]; omega) (tz64_key x _ hx hx0 hlow) hi hk hcell
theorem keep_calls (r t : Int) (w : World) : Calls Tryd.prog 20 #[.int .u64 r, .int .u64 t] w fun e w' => e = .returned (.bool (decide (t ≤ r ∧ r < 72057594037927936))) ∧ w' = w := by
  by_cases h1 : t ≤ r
  · by_cases h2 : r < 72057594037927936
    · rw [decide_eq_true (And.intro h1 h2)]
      go_enter Tryd.func20, Tryd.ntmps20
      go_wp2
      go_ret
      exact ⟨rfl, rfl⟩
    · rw [decide_eq_false (fun h => h2 h.2)]
      go_enter Tryd.func20, Tryd.ntmps20
      go_wp2
      go_ret
      exact ⟨rfl, rfl⟩
  · rw [decide_eq_false (fun h => h1 h.1)]
    go_enter Tryd.func20, Tryd.ntmps20
    go_wp2
    go_ret
    exact ⟨rfl, rfl⟩
theorem weight_err (t : Int) (w : World) (h : 72057594037927936 ≤ t) : Calls Tryd.prog 15 #[.int .u64 t] w fun e w' => e = .returned (.tuple #[.int .u64 0, .int .u64 0, .int .u16 1]) ∧ w' = w := by
  go_enter Tryd.func15, Tryd.ntmps15
  go_wp2
  go_ret3
  exact ⟨rfl, rfl⟩
theorem weight_walk (t k l a b : Nat) (w : World) (h : t < 72057594037927936) (hl : l ≤ 63)
    (HK : Hid (∀ w, Calls Tryd.prog 22 #[.int .u64 (t : Int)] w fun e w' => e = .returned (.int .u64 (k : Int)) ∧ w' = w))
    (HZ : Hid (Calls Tryd.prog 32 #[.int .u64 (k : Int)] w fun e w' => e = .returned (.int .i64 (l : Int)) ∧ w' = w))
    (ha : (72057594037927936 : Int) / 2 ^ l = (a : Int)) (hb : (k : Int) / 2 ^ l = (b : Int)) :
    Calls Tryd.prog 15 #[.int .u64 (t : Int)] w fun e w' => e = .returned (.tuple #[.int .u64 (a : Int), .int .u64 (b : Int), .int .u16 0]) ∧ ∃ n, w' = w.drewN n := by
  obtain ⟨x, hx⟩ : ∃ x : Int, (t : Int) = x := ⟨_, rfl⟩
  have h' : ¬ 72057594037927936 ≤ x := by omega
  rw [hx] at HK ⊢
  clear h hx
  go_enter Tryd.func15, Tryd.ntmps15
  go_wp2_with fail
  refine (HK.out _).mono ?_
  rintro e w1 ⟨rfl, rfl⟩
  go_wp2_with fail
  refine HZ.out.mono ?_
  rintro e w1 ⟨rfl, rfl⟩
  go_wp2_with fail
  go_quiet (((go_at_call 22; exact Calls.quiet_of_same (HK.out _))))
  go_wp2
  go_ret3
  exact ⟨rfl, _, rfl⟩
theorem weight_calls (t : Nat) (w : World) (h : t < 72057594037927936) (hT : Tab w) :
    Calls Tryd.prog 15 #[.int .u64 (t : Int)] w fun e w' => e = .returned (.tuple #[.int .u64 ((72057594037927936 / 2 ^ Lib.ctz 64 (72057594037927936 - t) : Nat) : Int), .int .u64 (((72057594037927936 - t) / 2 ^ Lib.ctz 64 (72057594037927936 - t) : Nat) : Int), .int .u16 0]) ∧ ∃ n, w' = w.drewN n := by
  have hz := tz_calls (72057594037927936 - t) w (by omega) (by omega) hT
  obtain ⟨_, hk⟩ := Lib.lowest_bit 64 (72057594037927936 - t) (by omega) (by omega)
  refine weight_walk t _ _ _ _ w h (by omega) (Lib.hid fun w => kept_calls t w) (Lib.hid hz) ?_ ?_
  · rw [castPow]; exact (Int.natCast_ediv _ _).symm
  · rw [castPow]; exact (Int.natCast_ediv _ _).symm
end Go.Proofs.YtaejdkfonlkhaaaDoor.Tele
