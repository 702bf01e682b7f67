-- PRINTED BY print.sh 35421559b90ae4d0a3588c463048766b98c2df88dd9212a6774a882060cdf62d: not written by this session
import Derived.Test.YtelodofjokmfjaaPSendDoesx0
namespace Go.Proofs.Ytelodofjokmfjaa.PSendDoes
open Go.RowKit Go.Proofs.YtelodofjokmfjaaW.PrintWords Go.Proofs.YtelodofjokmfjaaW.PrintLast Go.Proofs.YtelodofjokmfjaaW.PrintMore
attribute [local go_sem] max2_int min2_int max_two min_two max_three min_three max_four min_four   -- for this text's walks alone
set_option linter.unusedVariables false
set_option linter.unusedSimpArgs false

/-! ### telemeterref17_bound: function 37 -/
def telemeterref17_bound.f (a0 : Int) : Option (Int) := some (mn (mx a0 1) 1073741824)
set_option maxHeartbeats 8000000 in
set_option maxRecDepth 100000 in
theorem telemeterref17_bound.calls (a0 : Int) (r : Int) (w : World) (h : telemeterref17_bound.f a0 = some r) :
    Calls Try.prog 37 #[.int .i64 a0] w fun e w' => e = .returned (.int .i64 r) ∧ Below w.heap.size w w' := by
  have HB := Aside0.mk (Below.refl w.heap.size w)
  have H : (some (mn (mx a0 1) 1073741824)) = some r := h
  clear h
  obtain ⟨ji2, hji2⟩ : ∃ j_ : Int, (mx a0 1) = j_ := ⟨_, rfl⟩
  replace H : (some (mn (ji2) 1073741824)) = some r := by first | (rw [hji2] at H; exact H) | (simp only [hji2] at H ⊢; exact H)
  (try (have hji2l : 1 ≤ ji2 := by (rw [← hji2]; unfold mx; (repeat' split) <;> omega)))
  (try (have hji2m : 0 ≤ ji2 := by omega))
  have hji2_ : (if a0 < 1 then 1 else a0) = ji2 := hji2
  obtain ⟨ji3, hji3⟩ : ∃ j_ : Int, (mn (ji2) 1073741824) = j_ := ⟨_, rfl⟩
  replace H : (some ji3) = some r := by first | (rw [hji3] at H; exact H) | (simp only [hji3] at H ⊢; exact H)
  have hji3_ : (if 1073741824 < (ji2) then 1073741824 else (ji2)) = ji3 := hji3
  obtain rfl := Option.some.inj H
  go_enter Try.func37, Try.ntmps37
  go_wp2
  go_ret
  exact ⟨by first | rfl | (simp [errW_none, errW_some] <;> rfl) | (simp only [← hji2, ← hji3]; first | rfl | (simp [errW_none, errW_some] <;> rfl)) | (simp [*, errW_none, errW_some] <;> rfl), by repeat (first | (with_reducible first | exact HB.out | apply below_alloc | apply pw_below_drewN | apply below_drew1) | exact HB.out)⟩

/-! ### telemeterref17_Delay: function 31 -/
def telemeterref17_Delay.l0 : Nat → Int → Int → Int → Int → Int → Option (Int)
  | 0, _, _, _, _, _ => none
  | k + 1, x2, x3, x9, x10, x11 => if x11 < x2 then (if x9 < x10 then (telemeterref17_Delay.l0 k x2 x3 (wrap64 (2 * x9)) x10 (wrap64 (x11 + 1))) else (if (IntKind.u64.wrap (wrap64 ((mn x9 x10) + 1))) = 0 then (none) else (some (wrap64 ((mn x9 x10) + (wrap64 (Int.tmod x3 (IntKind.u64.wrap (wrap64 ((mn x9 x10) + 1)))))))))) else (if (IntKind.u64.wrap (wrap64 ((mn x9 x10) + 1))) = 0 then (none) else (some (wrap64 ((mn x9 x10) + (wrap64 (Int.tmod x3 (IntKind.u64.wrap (wrap64 ((mn x9 x10) + 1)))))))))
def telemeterref17_Delay.f (k : Nat) (a0 : Int) (a1 : Int) (a2 : Int) (a3 : Int) : Option (Int) := (telemeterref17_bound.f a0).bind fun t256 => ((telemeterref17_bound.f a1).bind fun t257 => (telemeterref17_Delay.l0 k a2 a3 t256 t257 1))
theorem telemeterref17_Delay.mono_l : ∀ k, (∀ y0 y1 y2 y3 y4, LeO (telemeterref17_Delay.l0 k y0 y1 y2 y3 y4) (telemeterref17_Delay.l0 (k + 1) y0 y1 y2 y3 y4))
  | 0 => fun _ _ _ _ _ r h => by simp [telemeterref17_Delay.l0] at h
  | k + 1 => by
    have ih0 := telemeterref17_Delay.mono_l k
    · intro y0 y1 y2 y3 y4
      unfold telemeterref17_Delay.l0
      repeat' first
      | (with_reducible exact ih0 _ _ _ _ _)
      | (with_reducible exact LeO.refl _)
      | (with_reducible exact LeO.none _)
      | (with_reducible refine LeO.ite ?_ ?_)
      | (with_reducible refine LeO.bind ?_ (fun _ => ?_))
      | exact ih0 _ _ _ _ _
      | exact LeO.none _
      | refine LeO.ite ?_ ?_
      | refine LeO.bind ?_ (fun _ => ?_)
theorem telemeterref17_Delay.mono : ∀ a0 a1 a2 a3 k, LeO (telemeterref17_Delay.f k a0 a1 a2 a3) (telemeterref17_Delay.f (k + 1) a0 a1 a2 a3) := by
  intro a0 a1 a2 a3 k
  have ih0 := telemeterref17_Delay.mono_l k
  unfold telemeterref17_Delay.f
  repeat' first
      | (with_reducible exact ih0 _ _ _ _ _)
      | (with_reducible exact LeO.refl _)
      | (with_reducible exact LeO.none _)
      | (with_reducible refine LeO.ite ?_ ?_)
      | (with_reducible refine LeO.bind ?_ (fun _ => ?_))
      | exact ih0 _ _ _ _ _
      | exact LeO.none _
      | refine LeO.ite ?_ ?_
      | refine LeO.bind ?_ (fun _ => ?_)
set_option maxHeartbeats 8000000 in
set_option maxRecDepth 100000 in
theorem telemeterref17_Delay.calls (k : Nat) (a0 : Int) (a1 : Int) (a2 : Int) (a3 : Int) (r : Int) (w : World) (h : telemeterref17_Delay.f k a0 a1 a2 a3 = some r) :
    Calls Try.prog 31 #[.int .i64 a0, .int .i64 a1, .int .i64 a2, .int .u64 a3] w fun e w' => e = .returned (.int .i64 r) ∧ Below w.heap.size w w' := by
  have HB := Aside0.mk (Below.refl w.heap.size w)
  have H : ((telemeterref17_bound.f a0).bind fun t256 => ((telemeterref17_bound.f a1).bind fun t257 => (telemeterref17_Delay.l0 k a2 a3 t256 t257 1))) = some r := h
  clear h
  replace H := Option.bind_eq_some_iff.mp H
  obtain ⟨t256, A50, H⟩ := H
  replace H : ((telemeterref17_bound.f a1).bind fun t257 => (telemeterref17_Delay.l0 k a2 a3 t256 t257 1)) = some r := H
  have A5 := Aside0.mk A50
  clear A50
  replace H := Option.bind_eq_some_iff.mp H
  obtain ⟨t257, A60, H⟩ := H
  replace H : (telemeterref17_Delay.l0 k a2 a3 t256 t257 1) = some r := H
  have A6 := Aside0.mk A60
  clear A60
  have H' := Aside0.mk H
  clear H
  go_enter Try.func31, Try.ntmps31
  go_wp2_with (first | ((with_reducible refine gate_callee (f := 37) rfl ?_); refine goesL_ (some 13) rfl rfl Try.func37 (by kernel_rfl) rfl #[.int .i64 a0] rfl (by (try simp only [List.map_toArray, List.map_cons, List.map_nil]); first | done | rfl | (simp only [List.length_drop, List.length_take]; rfl)) ?_; (with_reducible refine (telemeterref17_bound.calls a0 t256 _ A5.out).mono ?_); rintro e w7 ⟨rfl, hb⟩; refine ⟨_, rfl, ?_⟩; have n0_ := Aside0.mk (below_step (by repeat (first | (with_reducible first | exact HB.out | apply below_alloc | apply pw_below_drewN | apply below_drew1) | exact HB.out)) hb); clear HB; have HB := n0_; clear n0_; (try clear hb); (try clear hb2); (try clear hk); (try clear hi)) | ((with_reducible refine gate_callee (f := 37) rfl ?_); refine goesL_ (some 15) rfl rfl Try.func37 (by kernel_rfl) rfl #[.int .i64 a1] rfl (by (try simp only [List.map_toArray, List.map_cons, List.map_nil]); first | done | rfl | (simp only [List.length_drop, List.length_take]; rfl)) ?_; (with_reducible refine (telemeterref17_bound.calls a1 t257 _ A6.out).mono ?_); rintro e w8 ⟨rfl, hb⟩; refine ⟨_, rfl, ?_⟩; have n0_ := Aside0.mk (below_step (by repeat (first | (with_reducible first | exact HB.out | apply below_alloc | apply pw_below_drewN | apply below_drew1) | exact HB.out)) hb); clear HB; have HB := n0_; clear n0_; (try clear hb); (try clear hb2); (try clear hk); (try clear hi)))
  go_loopg [9, 11] k (fun kq v9 v11 w' => ∃ (x9_1 : Int) (x11_1 : Int), v9 = .int .i64 x9_1 ∧ v11 = .int .i64 x11_1 ∧ Aside0 (telemeterref17_Delay.l0 kq a2 a3 x9_1 t257 x11_1 = some r) ∧ Aside0 (kq ≤ k) ∧ Aside0 (Below w.heap.size w w'))
  case atStart => exact ⟨(t256), (1), (by first | rfl | (simp; done) | (simp [*]; done)), (by first | rfl | (simp; done) | (simp [*]; done)), H', ⟨Nat.le_refl _⟩, ⟨by repeat (first | (with_reducible first | exact HB.out | apply below_alloc | apply pw_below_drewN | apply below_drew1) | exact HB.out)⟩⟩
  case round =>
    clear H'
    try clear p2
    try clear c3
    obtain ⟨x9_1, x11_1, rfl, rfl, HA, HK1, HB⟩ := hrel
    cases gk with
    | zero => exact absurd HA.out (by simp [telemeterref17_Delay.l0])
    | succ k1 =>
      have H := HA.out
      clear HA
      simp only [telemeterref17_Delay.l0] at H
      by_cases c9 : x11_1 < a2
      · rw [if_pos c9] at H
        have c9b0 : decide (x11_1 < a2) = true := decide_eq_true c9
        clear c9
        by_cases c10 : x9_1 < t257
        · rw [if_pos c10] at H
          have c10b0 : decide (x9_1 < t257) = true := decide_eq_true c10
          clear c10
          have H' := Aside0.mk H
          clear H
          go_wp2
          go_roundg k1
          case measure => have := HK1.out; omega
          case rel => exact ⟨(wrap64 (2 * x9_1)), (wrap64 (x11_1 + 1)), (by first | rfl | (simp; done) | (simp [*]; done)), (by first | rfl | (simp; done) | (simp [*]; done)), H', ⟨by have := HK1.out; omega⟩, ⟨by repeat (first | (with_reducible first | exact HB.out | apply below_alloc | apply pw_below_drewN | apply below_drew1) | exact HB.out)⟩⟩
        · rw [if_neg c10] at H
          have c10b0 : decide (x9_1 < t257) = false := decide_eq_false c10
          clear c10
          obtain ⟨ji11, hji11⟩ : ∃ j_ : Int, (mn x9_1 t257) = j_ := ⟨_, rfl⟩
          replace H : (if (IntKind.u64.wrap (wrap64 ((ji11) + 1))) = 0 then (none) else (some (wrap64 ((ji11) + (wrap64 (Int.tmod a3 (IntKind.u64.wrap (wrap64 ((ji11) + 1))))))))) = some r := by first | (rw [hji11] at H; exact H) | (simp only [hji11] at H ⊢; exact H)
          have hji11_ : (if t257 < x9_1 then t257 else x9_1) = ji11 := hji11
          by_cases c12 : (IntKind.u64.wrap (wrap64 ((ji11) + 1))) = 0
          · rw [if_pos c12] at H
            exact absurd H (by simp)
          · rw [if_neg c12] at H
            have c12b0 : ((IntKind.u64.wrap (wrap64 ((ji11) + 1))) == 0) = false := beq_eq_false_iff_ne.mpr c12
            have c12b1 : ((IntKind.u64.wrap (wrap64 ((ji11) + 1))) != 0) = true := bne_iff_ne.mpr c12
            obtain rfl := Option.some.inj H
            go_wp2
            go_ret
            exact ⟨by first | rfl | (simp [errW_none, errW_some] <;> rfl) | (simp only [← hji11]; first | rfl | (simp [errW_none, errW_some] <;> rfl)) | (simp [*, errW_none, errW_some] <;> rfl), by repeat (first | (with_reducible first | exact HB.out | apply below_alloc | apply pw_below_drewN | apply below_drew1) | exact HB.out)⟩
      · rw [if_neg c9] at H
        have c9b0 : decide (x11_1 < a2) = false := decide_eq_false c9
        clear c9
        obtain ⟨ji13, hji13⟩ : ∃ j_ : Int, (mn x9_1 t257) = j_ := ⟨_, rfl⟩
        replace H : (if (IntKind.u64.wrap (wrap64 ((ji13) + 1))) = 0 then (none) else (some (wrap64 ((ji13) + (wrap64 (Int.tmod a3 (IntKind.u64.wrap (wrap64 ((ji13) + 1))))))))) = some r := by first | (rw [hji13] at H; exact H) | (simp only [hji13] at H ⊢; exact H)
        have hji13_ : (if t257 < x9_1 then t257 else x9_1) = ji13 := hji13
        by_cases c14 : (IntKind.u64.wrap (wrap64 ((ji13) + 1))) = 0
        · rw [if_pos c14] at H
          exact absurd H (by simp)
        · rw [if_neg c14] at H
          have c14b0 : ((IntKind.u64.wrap (wrap64 ((ji13) + 1))) == 0) = false := beq_eq_false_iff_ne.mpr c14
          have c14b1 : ((IntKind.u64.wrap (wrap64 ((ji13) + 1))) != 0) = true := bne_iff_ne.mpr c14
          obtain rfl := Option.some.inj H
          go_wp2
          go_ret
          exact ⟨by first | rfl | (simp [errW_none, errW_some] <;> rfl) | (simp only [← hji13]; first | rfl | (simp [errW_none, errW_some] <;> rfl)) | (simp [*, errW_none, errW_some] <;> rfl), by repeat (first | (with_reducible first | exact HB.out | apply below_alloc | apply pw_below_drewN | apply below_drew1) | exact HB.out)⟩

/-! ### telemeterref06_part: function 38 -/
def telemeterref06_part.f (a0 : Int) (a1 : Int) : Option (Int) := if 0 ≤ (IntKind.u64.wrap (a1)) then (some (Go.bits .xor .u64 a0 (shr .u64 a0 (IntKind.u64.wrap (a1))))) else (none)
set_option maxHeartbeats 8000000 in
set_option maxRecDepth 100000 in
theorem telemeterref06_part.calls (a0 : Int) (a1 : Int) (r : Int) (w : World) (h : telemeterref06_part.f a0 a1 = some r) :
    Calls Try.prog 38 #[.int .u64 a0, .int .i64 a1] w fun e w' => e = .returned (.int .u64 r) ∧ Drawn0 w w' := by
  have H : (if 0 ≤ (IntKind.u64.wrap (a1)) then (some (Go.bits .xor .u64 a0 (shr .u64 a0 (IntKind.u64.wrap (a1))))) else (none)) = some r := h
  clear h
  obtain ⟨ji3, hji3⟩ : ∃ j_ : Int, (IntKind.u64.wrap (a1)) = j_ := ⟨_, rfl⟩
  replace H : (if 0 ≤ (ji3) then (some (Go.bits .xor .u64 a0 (shr .u64 a0 (ji3)))) else (none)) = some r := by first | (rw [hji3] at H; exact H) | (simp only [hji3] at H ⊢; exact H)
  by_cases c4 : 0 ≤ (ji3)
  · rw [if_pos c4] at H
    have c4b0 := eq_true c4
    have c4b1 : decide (0 ≤ (ji3)) = true := decide_eq_true c4
    clear c4
    obtain ⟨ji5, hji5⟩ : ∃ j_ : Int, (shr .u64 a0 (ji3)) = j_ := ⟨_, rfl⟩
    replace H : (some (Go.bits .xor .u64 a0 (ji5))) = some r := by first | (rw [hji5] at H; exact H) | (simp only [hji5] at H ⊢; exact H)
    have hji5_ : (a0 / 2 ^ min (ji3).toNat 64) = ji5 := hji5
    have hji5z : (ji3) ≤ 64 → (a0 / 2 ^ (ji3).toNat) = ji5 := shr_small hji5
    obtain rfl := Option.some.inj H
    go_enter Try.func38, Try.ntmps38
    go_wp2
    go_ret
    exact ⟨by first | rfl | (simp; done) | (simp only [← hji3, ← hji5] <;> (first | rfl | simp)) | (simp [*]; done), by repeat (first | exact Drawn0.refl _ | apply Drawn0.step)⟩
  · rw [if_neg c4] at H
    exact absurd H (by simp)

/-! ### telemeterref06_Mix: function 32 -/
def telemeterref06_Mix.f (a0 : Int) : Option (Int) := (telemeterref06_part.f a0 30).bind fun t258 => ((telemeterref06_part.f (IntKind.u64.wrap (t258 * 13787848793156543929)) 27).bind fun t259 => ((telemeterref06_part.f (IntKind.u64.wrap (t259 * 10723151780598845931)) 31).bind fun t260 => (some t260)))
set_option maxHeartbeats 8000000 in
set_option maxRecDepth 100000 in
theorem telemeterref06_Mix.calls (a0 : Int) (r : Int) (w : World) (h : telemeterref06_Mix.f a0 = some r) :
    Calls Try.prog 32 #[.int .u64 a0] w fun e w' => e = .returned (.int .u64 r) ∧ Drawn0 w w' := by
  have H : ((telemeterref06_part.f a0 30).bind fun t258 => ((telemeterref06_part.f (IntKind.u64.wrap (t258 * 13787848793156543929)) 27).bind fun t259 => ((telemeterref06_part.f (IntKind.u64.wrap (t259 * 10723151780598845931)) 31).bind fun t260 => (some t260)))) = some r := h
  clear h
  replace H := Option.bind_eq_some_iff.mp H
  obtain ⟨t258, A20, H⟩ := H
  replace H : ((telemeterref06_part.f (IntKind.u64.wrap (t258 * 13787848793156543929)) 27).bind fun t259 => ((telemeterref06_part.f (IntKind.u64.wrap (t259 * 10723151780598845931)) 31).bind fun t260 => (some t260))) = some r := H
  have A2 := Aside0.mk A20
  clear A20
  replace H := Option.bind_eq_some_iff.mp H
  obtain ⟨t259, A30, H⟩ := H
  replace H : ((telemeterref06_part.f (IntKind.u64.wrap (t259 * 10723151780598845931)) 31).bind fun t260 => (some t260)) = some r := H
  have A3 := Aside0.mk A30
  clear A30
  replace H := Option.bind_eq_some_iff.mp H
  obtain ⟨t260, A40, H⟩ := H
  replace H : (some t260) = some r := H
  have A4 := Aside0.mk A40
  clear A40
  obtain rfl := Option.some.inj H
  go_enter Try.func32, Try.ntmps32
  go_wp2_with (first | ((with_reducible refine gate_callee (f := 38) rfl ?_); refine goesL_ (some 4) rfl rfl Try.func38 (by kernel_rfl) rfl #[.int .u64 a0, .int .i64 30] rfl (by (try simp only [List.map_toArray, List.map_cons, List.map_nil]); first | done | rfl | (simp only [List.length_drop, List.length_take]; rfl)) ?_; (with_reducible refine (telemeterref06_part.calls a0 30 t258 _ A2.out).mono ?_); rintro e w' ⟨rfl, ⟨nd, rfl⟩⟩; refine ⟨_, rfl, ?_⟩) | ((with_reducible refine gate_callee (f := 38) rfl ?_); refine goesL_ (some 7) rfl rfl Try.func38 (by kernel_rfl) rfl #[.int .u64 (IntKind.u64.wrap (t258 * 13787848793156543929)), .int .i64 27] rfl (by (try simp only [List.map_toArray, List.map_cons, List.map_nil]); first | done | rfl | (simp only [List.length_drop, List.length_take]; rfl)) ?_; (with_reducible refine (telemeterref06_part.calls (IntKind.u64.wrap (t258 * 13787848793156543929)) 27 t259 _ A3.out).mono ?_); rintro e w' ⟨rfl, ⟨nd, rfl⟩⟩; refine ⟨_, rfl, ?_⟩) | ((with_reducible refine gate_callee (f := 38) rfl ?_); refine goesL_ (some 10) rfl rfl Try.func38 (by kernel_rfl) rfl #[.int .u64 (IntKind.u64.wrap (t259 * 10723151780598845931)), .int .i64 31] rfl (by (try simp only [List.map_toArray, List.map_cons, List.map_nil]); first | done | rfl | (simp only [List.length_drop, List.length_take]; rfl)) ?_; (with_reducible refine (telemeterref06_part.calls (IntKind.u64.wrap (t259 * 10723151780598845931)) 31 t260 _ A4.out).mono ?_); rintro e w' ⟨rfl, ⟨nd, rfl⟩⟩; refine ⟨_, rfl, ?_⟩))
  go_ret
  exact ⟨by first | rfl | (simp; done) | (simp [*]; done), by repeat (first | exact Drawn0.refl _ | apply Drawn0.step)⟩

end Go.Proofs.Ytelodofjokmfjaa.PSendDoes
