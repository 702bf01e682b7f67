-- PRINTED BY print.sh 35421559b90ae4d0a3588c463048766b98c2df88dd9212a6774a882060cdf62d: not written by this session
import Derived.Test.YtiohjmpnkoohjaaPWindowCountsx0
import Derived.Test.YtiohjmpnkoohjaaPWindowCountsx1
namespace Go.Proofs.Ytiohjmpnkoohjaa.PWindowCounts
open Go.RowKit Go.Proofs.YtiohjmpnkoohjaaW.PrintWords Go.Proofs.YtiohjmpnkoohjaaW.PrintLast Go.Proofs.YtiohjmpnkoohjaaW.PrintMore
attribute [local go_sem] max2_int min2_int max_two min_two max_three min_three max_four min_four   -- for this text's walks alone
set_option linter.unusedVariables false
set_option linter.unusedSimpArgs false

/-! ### telemeterref07_Count: function 16 -/
def telemeterref07_Count.l0 : Nat → ByteArray → Int → Int → List (List Int) → Int → Int → Int → Option (Int)
  | 0, _, _, _, _, _, _, _ => none
  | k + 1, x1, x5, x6, x156000, x156001, x156002, x156003 => if x6 < (x156000.length : Int) then (if 0 ≤ x6 then ((telemeterref07_place.f k x156000 x156001 x156002 x156003 x6 x1).bind fun t157 => (if 0 ≤ t157 then (if t157 < ((rd_L2 x156000 x6).length : Int) then (telemeterref07_Count.l0 k x1 (mn x5 (rd (rd_L2 x156000 x6) t157)) (wrap64 (x6 + 1)) x156000 x156001 x156002 x156003) else (none)) else (none))) else (none)) else (some x5)
def telemeterref07_Count.f (k : Nat) (l0_0 : List (List Int)) (a0_1 : Int) (a0_2 : Int) (a0_3 : Int) (a1 : ByteArray) : Option (Int) := telemeterref07_Count.l0 k a1 18446744073709551615 0 l0_0 a0_1 a0_2 a0_3
theorem telemeterref07_Count.mono_l : ∀ k, (∀ y0 y1 y2 y3 y4 y5 y6, LeO (telemeterref07_Count.l0 k y0 y1 y2 y3 y4 y5 y6) (telemeterref07_Count.l0 (k + 1) y0 y1 y2 y3 y4 y5 y6))
  | 0 => fun _ _ _ _ _ _ _ r h => by simp [telemeterref07_Count.l0] at h
  | k + 1 => by
    have ih0 := telemeterref07_Count.mono_l k
    · intro y0 y1 y2 y3 y4 y5 y6
      unfold telemeterref07_Count.l0
      repeat' first
      | (with_reducible exact ih0 _ _ _ _ _ _ _)
      | (with_reducible exact telemeterref07_place.mono _ _ _ _ _ _ _)
      | (with_reducible exact LeO.refl _)
      | (with_reducible exact LeO.none _)
      | (with_reducible refine LeO.ite ?_ ?_)
      | (with_reducible refine LeO.bind ?_ (fun _ => ?_))
      | exact ih0 _ _ _ _ _ _ _
      | exact telemeterref07_place.mono _ _ _ _ _ _ _
      | exact LeO.none _
      | refine LeO.ite ?_ ?_
      | refine LeO.bind ?_ (fun _ => ?_)
theorem telemeterref07_Count.mono : ∀ a0 a1 a2 a3 a4 k, LeO (telemeterref07_Count.f k a0 a1 a2 a3 a4) (telemeterref07_Count.f (k + 1) a0 a1 a2 a3 a4) := by
  intro a0 a1 a2 a3 a4 k
  have ih0 := telemeterref07_Count.mono_l k
  unfold telemeterref07_Count.f
  repeat' first
      | (with_reducible exact ih0 _ _ _ _ _ _ _)
      | (with_reducible exact telemeterref07_place.mono _ _ _ _ _ _ _)
      | (with_reducible exact LeO.refl _)
      | (with_reducible exact LeO.none _)
      | (with_reducible refine LeO.ite ?_ ?_)
      | (with_reducible refine LeO.bind ?_ (fun _ => ?_))
      | exact ih0 _ _ _ _ _ _ _
      | exact telemeterref07_place.mono _ _ _ _ _ _ _
      | exact LeO.none _
      | refine LeO.ite ?_ ?_
      | refine LeO.bind ?_ (fun _ => ?_)
def telemeterref07_Count.T5 : Bool × List (List Nat × List Nat) := (true, [([], []), ([], []), ([1], [1]), ([], []), ([2, 3], [2, 3]), ([4], [4]), ([], []), ([], []), ([], []), ([6, 7, 8], [6, 7, 8]), ([5, 9], [5, 9]), ([10], [10]), ([0, 11], [0, 11]), ([12, 9, 0, 1, 2, 3, 4, 5, 6, 7, 8, 9, 10, 11, 12], [0, 12])])
def telemeterref07_Count.B5 : List Nat := [0, 0, 2, 0, 14, 30, 0, 0, 0, 448, 1022, 2046, 4095, 8191]
theorem telemeterref07_Count.tab5 : rtab .any (opsOf Try.f16 5) = telemeterref07_Count.T5 := by kernel_rfl
theorem telemeterref07_Count.bits5 : waitsOk telemeterref07_Count.T5.2 telemeterref07_Count.B5 = true := by kernel_rfl
set_option maxHeartbeats 8000000 in
set_option maxRecDepth 100000 in
theorem telemeterref07_Count.calls (k : Nat) (A0_0 : Option Addr) (c0_0 : Nat) (l0_0 : List (List Int)) (a0_1 : Int) (a0_2 : Int) (a0_3 : Int) (a1 : ByteArray) (r : Int) (w : World) (hr0_0 : Kd.C (Kd.slice 22 (Kd.int .u64)) w A0_0 l0_0.length l0_0) (hc0_0 : l0_0.length ≤ c0_0) (h : telemeterref07_Count.f k l0_0 a0_1 a0_2 a0_3 a1 = some r) :
    Calls Try.prog 16 #[.agg #[.slice A0_0 l0_0.length c0_0, .int .i64 a0_1, .int .u64 a0_2, .int .u64 a0_3], .string a1] w fun e w' => e = .returned (.int .u64 r) ∧ Below w.heap.size w w' := by
  have hu36 := Try.underlying36
  have HR0_0 := Aside0.mk hr0_0
  have HC0_0 := Aside0.mk hc0_0
  clear hr0_0 hc0_0
  have HB := Aside0.mk (Below.refl w.heap.size w)
  have H : (telemeterref07_Count.l0 k a1 18446744073709551615 0 l0_0 a0_1 a0_2 a0_3) = some r := h
  clear h
  have H' := Aside0.mk H
  clear H
  go_enter Try.func16, Try.ntmps16
  go_wp2_with (first | ((with_reducible refine gate_dst (N := 2) rfl ?_); refine box_event ?hg (N := 2) ?hd (cs := #[.slice A0_0 l0_0.length c0_0, .int .i64 a0_1, .int .u64 a0_2, .int .u64 a0_3]) (t := 36) ?hr ?_; (case hd => rfl); (case hg => rfl); (case hr => first | (go_simp; done) | (go_simp; rfl)); intro gb155 hg w3 hbox hb; have n0_ := Aside0.mk (below_step (by repeat (first | (with_reducible first | exact HB.out | apply below_alloc | apply pw_below_drewN | apply below_drew1) | exact HB.out)) hb); have n1_ := Aside0.mk (hbox); have n2_ := Aside0.mk ((by rw [hg]; exact (below_size (by repeat (first | (with_reducible first | exact HB.out | apply below_alloc | apply pw_below_drewN | apply below_drew1) | exact HB.out))) : w.heap.size ≤ gb155)); have n3_ := Aside0.mk ((by rw [hg]; exact (below_size (by repeat (first | (with_reducible first | exact HB.out | apply below_alloc | apply pw_below_drewN | apply below_drew1) | exact HB.out))) : w.heap.size ≤ gb155)); clear HB; have HB := n0_; have BK155 := n1_; have GW155 := n2_; have GE155 := n3_; clear n0_ n1_ n2_ n3_; clear hb hbox hg))
  go_loopg [5, 6] k (fun kq v5 v6 w' => ∃ (x5_1 : Int) (x6_1 : Int), v5 = .int .u64 x5_1 ∧ v6 = .int .i64 x6_1 ∧ Aside0 (telemeterref07_Count.l0 kq a1 x5_1 x6_1 l0_0 a0_1 a0_2 a0_3 = some r) ∧ Aside0 (kq ≤ k) ∧ Aside0 (w'.heap[gb155]? = some (.cells #[(.slice A0_0 l0_0.length c0_0), .int .i64 a0_1, .int .u64 a0_2, .int .u64 a0_3] 36 (0, 0))) ∧ Aside0 (Below w.heap.size w w'))
  case atStart => exact ⟨(18446744073709551615), (0), (by first | rfl | (simp; done) | (simp [*]; done)), (by first | rfl | (simp; done) | (simp [*]; done)), H', ⟨Nat.le_refl _⟩, ⟨by (with_reducible repeat (first | refine blk_drewN ?_ _ | refine blk_drew ?_ | refine blk_alloc ?_ _)); exact BK155.out⟩, ⟨by repeat (first | (with_reducible first | exact HB.out | apply below_alloc | apply pw_below_drewN | apply below_drew1 | refine below_set ?_ GE155.out) | exact HB.out)⟩⟩
  case round =>
    clear H'
    try clear c1
    try clear p2
    obtain ⟨x5_1, x6_1, rfl, rfl, HA, HK1, BK155, HB⟩ := hrel
    cases gk with
    | zero => exact absurd HA.out (by simp [telemeterref07_Count.l0])
    | succ k1 =>
      have H := HA.out
      clear HA
      simp only [telemeterref07_Count.l0] at H
      by_cases c4 : x6_1 < (l0_0.length : Int)
      · rw [if_pos c4] at H
        have c4b0 : decide (x6_1 < (l0_0.length : Int)) = true := decide_eq_true c4
        clear c4
        by_cases c5 : 0 ≤ x6_1
        · rw [if_pos c5] at H
          have c5b0 : decide (0 ≤ x6_1) = true := decide_eq_true c5
          clear c5
          replace H := Option.bind_eq_some_iff.mp H
          obtain ⟨t157, A60, H⟩ := H
          replace H : (if 0 ≤ t157 then (if t157 < ((rd_L2 l0_0 x6_1).length : Int) then (telemeterref07_Count.l0 k1 a1 (mn x5_1 (rd (rd_L2 l0_0 x6_1) t157)) (wrap64 (x6_1 + 1)) l0_0 a0_1 a0_2 a0_3) else (none)) else (none)) = some r := H
          have A6 := Aside0.mk A60
          clear A60
          by_cases c7 : 0 ≤ t157
          · rw [if_pos c7] at H
            have c7b0 : decide (0 ≤ t157) = true := decide_eq_true c7
            clear c7
            by_cases c8 : t157 < ((rd_L2 l0_0 x6_1).length : Int)
            · rw [if_pos c8] at H
              have c8b0 : decide (t157 < ((rd_L2 l0_0 x6_1).length : Int)) = true := decide_eq_true c8
              clear c8
              obtain ⟨ji9, hji9⟩ : ∃ j_ : Int, (mn x5_1 (rd (rd_L2 l0_0 x6_1) t157)) = j_ := ⟨_, rfl⟩
              replace H : (telemeterref07_Count.l0 k1 a1 ji9 (wrap64 (x6_1 + 1)) l0_0 a0_1 a0_2 a0_3) = some r := by first | (rw [hji9] at H; exact H) | (simp only [hji9] at H ⊢; exact H)
              (try rw [hji9] at A6)
              have hji9_ : (if (rd (rd_L2 l0_0 x6_1) t157) < x5_1 then (rd (rd_L2 l0_0 x6_1) t157) else x5_1) = ji9 := hji9
              have H' := Aside0.mk H
              clear H
              have hcz10_0 : wr.cell? ⟨gb155, 0, none⟩ = some (.slice A0_0 l0_0.length c0_0) := (blk_cell BK155.out 0).trans rfl
              have hcz10_1 : wr.cell? ⟨gb155, 1, none⟩ = some (.int .i64 a0_1) := (blk_cell BK155.out 1).trans rfl
              have hcz10_2 : wr.cell? ⟨gb155, 2, none⟩ = some (.int .u64 a0_2) := (blk_cell BK155.out 2).trans rfl
              have hcz10_3 : wr.cell? ⟨gb155, 3, none⟩ = some (.int .u64 a0_3) := (blk_cell BK155.out 3).trans rfl
              have hfz10_0 := blk_frozen BK155.out 0
              have hfz10_1 := blk_frozen BK155.out 1
              have hfz10_2 := blk_frozen BK155.out 2
              have hfz10_3 := blk_frozen BK155.out 3
              try go_wp2
              have n0_ := Aside0.mk (blk_drew BK155.out)
              have n1_ := Aside0.mk (below_drew1 HB.out)
              clear BK155
              clear HB
              have BK155 := n0_
              have HB := n1_
              clear n0_ n1_
              have p156 : 0 ≤ (x6_1 : Int) := of_decide_eq_true (by first | (with_reducible assumption) | assumption)
              have q156 : x6_1 < (l0_0.length : Int) := of_decide_eq_true (by first | (with_reducible assumption) | assumption)
              obtain ⟨ad156, A156_0, c156_0, e156, hx156_0, hl156_0, hi156_0⟩ := at_L2 HR0_0.out x6_1 p156 q156
              have hw156_0 := hx156_0
              cases e156
              replace hx156_0 := (HB.out.cell (World.block_lt_of_cell? w _ hx156_0)).trans hx156_0
              have HR156_0 := Aside0.mk hi156_0
              have HC156_0 := Aside0.mk hl156_0
              clear hi156_0 hl156_0
              replace p156 := eq_true p156
              replace q156 := eq_true q156
              have p158 : 0 ≤ (t157 : Int) := of_decide_eq_true (by first | (with_reducible assumption) | assumption)
              have q158 : t157 < ((rd_L2 l0_0 x6_1).length : Int) := of_decide_eq_true (by first | (with_reducible assumption) | assumption)
              obtain ⟨ad158, e158, hx158_0⟩ := Kd.at_int HR156_0.out t157 p158 q158
              have hw158_0 := hx158_0
              cases e158
              replace hx158_0 := (HB.out.cell (World.block_lt_of_cell? w _ hx158_0)).trans hx158_0
              replace p158 := eq_true p158
              replace q158 := eq_true q158
              refine start_ (n := 14) (S := fun w' => w'.cell? ⟨gb155, 0, none⟩ = some (.slice (some ad156) l0_0.length c0_0) ∧ w'.cell? ⟨gb155, 1, none⟩ = some (.int .i64 a0_1) ∧ w'.cell? ⟨gb155, 2, none⟩ = some (.int .u64 a0_2) ∧ w'.cell? ⟨gb155, 3, none⟩ = some (.int .u64 a0_3) ∧ w'.cell? (ad156.add (x6_1).toNat) = some (.slice (some ad158) (rd_L2 l0_0 x6_1).length c156_0) ∧ w'.cell? (ad158.add (t157).toNat) = some (.int .u64 (rd (rd_L2 l0_0 x6_1) t157))) (ds := []) #[false, false, false, false, false, false, false, false, false, false, false, false, false, false] (by kernel_rfl) rfl rfl ⟨(blk_cell BK155.out 0).trans rfl, (blk_cell BK155.out 1).trans rfl, (blk_cell BK155.out 2).trans rfl, (blk_cell BK155.out 3).trans rfl, ((HB.out.cell (World.block_lt_of_cell? w _ hw156_0)).trans hw156_0), ((HB.out.cell (World.block_lt_of_cell? w _ hw158_0)).trans hw158_0)⟩ (fun hHeld => ?_); refine with_tabW telemeterref07_Count.tab5 telemeterref07_Count.bits5 (fun HT_ HW_ => ?_)
              generalize wr.drew = w11 at BK155 HB HR156_0 hx156_0 hx158_0 hHeld ⊢
              refine pure_ (i := 0) (N := some 14) (v := ?_) (a' := ?_) #[true, false, false, false, false, false, false, false, false, false, false, false, false, false] rfl rfl (any_of HT_.out (by kernel_rfl)) (fun _ _ _ h => h) (Or.inl ⟨by rfl, ?_⟩) ?_ ?_
              rotate_left
              · intro w'
                go_simp
                with_reducible rfl
              rotate_left
              · simp only [Act.put, List.setIfInBounds_toArray, List.set_cons_zero, List.set_cons_succ, i64_w, i32_w]
                rfl
              refine pure_ (i := 1) (N := some 15) (v := ?_) (a' := ?_) #[true, true, false, false, false, false, false, false, false, false, false, false, false, false] rfl rfl (any_of HT_.out (by kernel_rfl)) (fun _ _ _ h => h) (Or.inl ⟨by rfl, ?_⟩) ?_ ?_
              rotate_left
              · intro w'
                go_simp
                with_reducible rfl
              rotate_left
              · simp only [Act.put, List.setIfInBounds_toArray, List.set_cons_zero, List.set_cons_succ, i64_w, i32_w]
                rfl
              refine pure_ (i := 3) (N := some 17) (v := ?_) (a' := ?_) #[true, true, false, true, false, false, false, false, false, false, false, false, false, false] rfl rfl (any_of HT_.out (by kernel_rfl)) (fun _ _ _ h => h) (Or.inl ⟨by rfl, ?_⟩) ?_ ?_
              rotate_left
              · intro w'
                go_simp
                with_reducible rfl
              rotate_left
              · simp only [Act.put, List.setIfInBounds_toArray, List.set_cons_zero, List.set_cons_succ, i64_w, i32_w]
                rfl
              refine pure_ (i := 7) (N := some 21) (v := ?_) (a' := ?_) #[true, true, false, true, false, false, false, true, false, false, false, false, false, false] rfl rfl (any_of HT_.out (by kernel_rfl)) (fun _ _ _ h => h) (Or.inl ⟨by rfl, ?_⟩) ?_ ?_
              rotate_left
              · intro w'
                go_simp
                with_reducible rfl
              rotate_left
              · simp only [Act.put, List.setIfInBounds_toArray, List.set_cons_zero, List.set_cons_succ, i64_w, i32_w]
                rfl
              refine pure_ (i := 8) (N := some 22) (v := ?_) (a' := ?_) #[true, true, false, true, false, false, false, true, true, false, false, false, false, false] rfl rfl (any_of HT_.out (by kernel_rfl)) (fun _ _ _ h => h) (Or.inl ⟨by rfl, ?_⟩) ?_ ?_
              rotate_left
              · intro w'
                go_simp
                with_reducible rfl
              rotate_left
              · simp only [Act.put, List.setIfInBounds_toArray, List.set_cons_zero, List.set_cons_succ, i64_w, i32_w]
                rfl
              refine take_ (i := 2) (N := some 16) (v := ?_) (a' := ?_) #[true, true, true, true, false, false, false, true, true, false, false, false, false, false] rfl rfl (take_ofW HT_.out HW_.out (by kernel_rfl)) (fun _ _ _ h => h) (Or.inl ⟨by rfl, ?_⟩) hHeld ?_ ?_
              rotate_left
              · rintro w' ⟨s0, s1, s2, s3, s4, s5⟩
                go_simp
                with_reducible rfl
              rotate_left
              · simp only [Act.put, List.setIfInBounds_toArray, List.set_cons_zero, List.set_cons_succ, i64_w, i32_w]
                rfl
              refine pure_ (i := 4) (N := some 18) (v := ?_) (a' := ?_) #[true, true, true, true, true, false, false, true, true, false, false, false, false, false] rfl rfl (any_of HT_.out (by kernel_rfl)) (fun _ _ _ h => h) (Or.inl ⟨by rfl, ?_⟩) ?_ ?_
              rotate_left
              · intro w'
                go_simp
                with_reducible rfl
              rotate_left
              · simp only [Act.put, List.setIfInBounds_toArray, List.set_cons_zero, List.set_cons_succ, i64_w, i32_w]
                rfl
              refine take_ (i := 5) (N := some 19) (v := ?_) (a' := ?_) #[true, true, true, true, true, true, false, true, true, false, false, false, false, false] rfl rfl (take_ofW HT_.out HW_.out (by kernel_rfl)) (fun _ _ _ h => h) (Or.inl ⟨by rfl, ?_⟩) hHeld ?_ ?_
              rotate_left
              · rintro w' ⟨s0, s1, s2, s3, s4, s5⟩
                go_simp
                with_reducible rfl
              rotate_left
              · simp only [Act.put, List.setIfInBounds_toArray, List.set_cons_zero, List.set_cons_succ, i64_w, i32_w]
                rfl
              refine take_ (i := 6) (N := some 20) (v := ?_) (a' := ?_) #[true, true, true, true, true, true, true, true, true, false, false, false, false, false] rfl rfl (take_ofW HT_.out HW_.out (by kernel_rfl)) (fun _ _ _ h => h) (Or.inl ⟨by rfl, ?_⟩) hHeld ?_ ?_
              rotate_left
              · rintro w' ⟨s0, s1, s2, s3, s4, s5⟩
                go_simp
                with_reducible rfl
              rotate_left
              · simp only [Act.put, List.setIfInBounds_toArray, List.set_cons_zero, List.set_cons_succ, i64_w, i32_w]
                rfl
              refine one_ (i := 9) (N := some 23) #[true, true, true, true, true, true, true, true, true, true, false, false, false, false] rfl rfl (one_of HT_.out (by kernel_rfl)) (by decide) (fun K hK => ?_)
              refine goes_ Try.func25 (by kernel_rfl) rfl #[.agg #[.slice (some ad156) l0_0.length c0_0, .int .i64 a0_1, .int .u64 a0_2, .int .u64 a0_3], .int .i64 x6_1, .string a1] (by rfl) rfl rfl (by (try simp only [List.map_toArray, List.map_cons, List.map_nil]); first | done | rfl | (simp only [List.length_drop, List.length_take]; rfl)) ?_
              with_reducible refine (telemeterref07_place.calls k1 _ _ l0_0 a0_1 a0_2 a0_3 x6_1 a1 t157 _ ?side1 ?side2 A6.out).mono ?_
              (case side1 => repeat (first | exact (Kd.C_below HR0_0.out HB.out) | (with_reducible refine Kd.C_alloc ?_ _) | (with_reducible refine Kd.C_drewN ?_ _) | (with_reducible refine Kd.C_drew ?_)))
              (case side2 => exact HC0_0.out)
              rintro e w12 ⟨rfl, hb⟩
              refine ⟨_, rfl, ?_⟩
              have n0_ := Aside0.mk (blk_below (g := gb155) (o := .cells #[.slice (some ad156) l0_0.length c0_0, .int .i64 a0_1, .int .u64 a0_2, .int .u64 a0_3] 36 (0, 0)) (by (with_reducible repeat (first | refine blk_drewN ?_ _ | refine blk_drew ?_ | refine blk_alloc ?_ _)); exact BK155.out) hb)
              have n1_ := Aside0.mk (below_step (by repeat (first | (with_reducible first | exact HB.out | apply below_alloc | apply pw_below_drewN | apply below_drew1 | refine below_set ?_ GE155.out) | exact HB.out)) hb)
              clear BK155
              clear HB
              have BK155 := n0_
              have HB := n1_
              clear n0_ n1_
              (try clear hb)
              (try clear hb2)
              (try clear hk)
              (try clear hi)
              refine hK.out _ _ ⟨(blk_cell BK155.out 0).trans rfl, (blk_cell BK155.out 1).trans rfl, (blk_cell BK155.out 2).trans rfl, (blk_cell BK155.out 3).trans rfl, ((HB.out.cell (World.block_lt_of_cell? w _ hw156_0)).trans hw156_0), ((HB.out.cell (World.block_lt_of_cell? w _ hw158_0)).trans hw158_0)⟩ (fun hHeld => ?_)
              clear hK K
              refine norm_ (a' := ?_) ?_ ?_
              rotate_left
              · show Act.put _ (some 23) _ = _
                simp only [Act.put, List.setIfInBounds_toArray, List.set_cons_zero, List.set_cons_succ, i64_w, i32_w]
                rfl
              refine pure_ (i := 10) (N := some 24) (v := ?_) (a' := ?_) #[true, true, true, true, true, true, true, true, true, true, true, false, false, false] rfl rfl (any_of HT_.out (by kernel_rfl)) (fun _ _ _ h => h) (Or.inl ⟨by rfl, ?_⟩) ?_ ?_
              rotate_left
              · intro w'
                go_simp
                with_reducible rfl
              rotate_left
              · simp only [Act.put, List.setIfInBounds_toArray, List.set_cons_zero, List.set_cons_succ, i64_w, i32_w]
                rfl
              refine take_ (i := 11) (N := some 25) (v := ?_) (a' := ?_) #[true, true, true, true, true, true, true, true, true, true, true, true, false, false] rfl rfl (take_ofW HT_.out HW_.out (by kernel_rfl)) (fun _ _ _ h => h) (Or.inl ⟨by rfl, ?_⟩) hHeld ?_ ?_
              rotate_left
              · rintro w' ⟨s0, s1, s2, s3, s4, s5⟩
                go_simp
                with_reducible rfl
              rotate_left
              · simp only [Act.put, List.setIfInBounds_toArray, List.set_cons_zero, List.set_cons_succ, i64_w, i32_w]
                rfl
              refine pure_ (i := 12) (N := some 26) (v := ?_) (a' := ?_) #[true, true, true, true, true, true, true, true, true, true, true, true, true, false] rfl rfl (any_of HT_.out (by kernel_rfl)) (fun _ _ _ h => h) (Or.inl ⟨by rfl, ?_⟩) ?_ ?_
              rotate_left
              · intro w'
                go_simp
                with_reducible rfl
              rotate_left
              · simp only [Act.put, List.setIfInBounds_toArray, List.set_cons_zero, List.set_cons_succ, i64_w, i32_w]
                rfl
              refine pure_ (i := 13) (N := some 5) (v := ?_) (a' := ?_) #[true, true, true, true, true, true, true, true, true, true, true, true, true, true] rfl rfl (any_of HT_.out (by kernel_rfl)) (fun _ _ _ h => h) (Or.inl ⟨by rfl, ?_⟩) ?_ ?_
              rotate_left
              · intro w'
                go_simp
                with_reducible rfl
              rotate_left
              · simp only [Act.put, List.setIfInBounds_toArray, List.set_cons_zero, List.set_cons_succ, i64_w, i32_w]
                rfl
              refine done_ (done_of HT_.out (by kernel_rfl)) ?_
              try go_wp2
              go_roundg k1
              case measure => have := HK1.out; omega
              case rel => exact ⟨(ji9), (wrap64 (x6_1 + 1)), (by first | rfl | (simp; done) | (simp only [← hji9] <;> (first | rfl | simp)) | (simp [*]; done)), (by first | rfl | (simp; done) | (simp [*]; done)), H', ⟨by have := HK1.out; omega⟩, ⟨by (with_reducible repeat (first | refine blk_drewN ?_ _ | refine blk_drew ?_ | refine blk_alloc ?_ _)); exact BK155.out⟩, ⟨by repeat (first | (with_reducible first | exact HB.out | apply below_alloc | apply pw_below_drewN | apply below_drew1 | refine below_set ?_ GE155.out) | exact HB.out)⟩⟩
            · rw [if_neg c8] at H
              exact absurd H (by simp)
          · rw [if_neg c7] at H
            exact absurd H (by simp)
        · rw [if_neg c5] at H
          exact absurd H (by simp)
      · rw [if_neg c4] at H
        have c4b0 : decide (x6_1 < (l0_0.length : Int)) = false := decide_eq_false c4
        clear c4
        obtain rfl := Option.some.inj H
        have hcz13_0 : wr.cell? ⟨gb155, 0, none⟩ = some (.slice A0_0 l0_0.length c0_0) := (blk_cell BK155.out 0).trans rfl
        have hcz13_1 : wr.cell? ⟨gb155, 1, none⟩ = some (.int .i64 a0_1) := (blk_cell BK155.out 1).trans rfl
        have hcz13_2 : wr.cell? ⟨gb155, 2, none⟩ = some (.int .u64 a0_2) := (blk_cell BK155.out 2).trans rfl
        have hcz13_3 : wr.cell? ⟨gb155, 3, none⟩ = some (.int .u64 a0_3) := (blk_cell BK155.out 3).trans rfl
        have hfz13_0 := blk_frozen BK155.out 0
        have hfz13_1 := blk_frozen BK155.out 1
        have hfz13_2 := blk_frozen BK155.out 2
        have hfz13_3 := blk_frozen BK155.out 3
        go_wp2
        go_ret
        exact ⟨by first | rfl | (simp [errW_none, errW_some] <;> rfl) | (simp [*, errW_none, errW_some] <;> rfl), by repeat (first | (with_reducible first | exact HB.out | apply below_alloc | apply pw_below_drewN | apply below_drew1 | refine below_set ?_ GE155.out) | exact HB.out)⟩

/-! ### telemeterref07_plus: function 28 -/
def telemeterref07_plus.f (a0 : Int) (a1 : Int) : Option (Int) := if a0 > (IntKind.u64.wrap (18446744073709551615 - a1)) then (some 18446744073709551615) else (some (IntKind.u64.wrap (a0 + a1)))
set_option maxHeartbeats 8000000 in
set_option maxRecDepth 100000 in
theorem telemeterref07_plus.calls (a0 : Int) (a1 : Int) (r : Int) (w : World) (h : telemeterref07_plus.f a0 a1 = some r) :
    Calls Try.prog 28 #[.int .u64 a0, .int .u64 a1] w fun e w' => e = .returned (.int .u64 r) ∧ Drawn0 w w' := by
  have H : (if a0 > (IntKind.u64.wrap (18446744073709551615 - a1)) then (some 18446744073709551615) else (some (IntKind.u64.wrap (a0 + a1)))) = some r := h
  clear h
  by_cases c3 : a0 > (IntKind.u64.wrap (18446744073709551615 - a1))
  · rw [if_pos c3] at H
    have c3b0 : decide ((IntKind.u64.wrap (18446744073709551615 - a1)) < a0) = true := decide_eq_true c3
    clear c3
    obtain rfl := Option.some.inj H
    go_enter Try.func28, Try.ntmps28
    go_wp2
    go_ret
    exact ⟨by first | rfl | (simp; done) | (simp [*]; done), by repeat (first | exact Drawn0.refl _ | apply Drawn0.step)⟩
  · rw [if_neg c3] at H
    have c3b0 : decide ((IntKind.u64.wrap (18446744073709551615 - a1)) < a0) = false := decide_eq_false c3
    clear c3
    obtain rfl := Option.some.inj H
    go_enter Try.func28, Try.ntmps28
    go_wp2
    go_ret
    exact ⟨by first | rfl | (simp; done) | (simp [*]; done), by repeat (first | exact Drawn0.refl _ | apply Drawn0.step)⟩

/-! ### telemeterref07_Add: function 23 -/
def telemeterref07_Add.l0 : Nat → ByteArray → Int → Int → List (List Int) → Int → Int → Int → List (List Int) → Int → Int → Int → Option ((List (List Int)) × Int × Int × Int)
  | 0, _, _, _, _, _, _, _, _, _, _, _ => none
  | k + 1, x1, x7, x9, x160000, x160001, x160002, x160003, x165000, x165001, x165002, x165003 => if x9 < (x160000.length : Int) then (if 0 ≤ x9 then (if ([] : List Int).length + (rd_L2 x160000 x9).length < 17592186044416 then ((some (([] : List Int) ++ (rd_L2 x160000 x9) : List Int)).bind fun y166 => ((telemeterref07_place.f k x160000 x160001 x160002 x160003 x9 x1).bind fun t169 => (if 0 ≤ t169 then (if t169 < (y166.length : Int) then (if x165000.length < 5864062014805 then (telemeterref07_Add.l0 k x1 x7 (wrap64 (x9 + 1)) x160000 x160001 x160002 x160003 (x165000 ++ [(y166.set (t169 : Int).toNat (mx (rd y166 t169) x7))]) x165001 x165002 x165003) else (none)) else (none)) else (none)))) else (none)) else (none)) else (some (x165000, x165001, x165002, x165003))
def telemeterref07_Add.f (k : Nat) (l0_0 : List (List Int)) (a0_1 : Int) (a0_2 : Int) (a0_3 : Int) (a1 : ByteArray) (a2 : Int) : Option ((List (List Int)) × Int × Int × Int) := (telemeterref07_Count.f k l0_0 a0_1 a0_2 a0_3 a1).bind fun t161 => ((telemeterref07_plus.f t161 a2).bind fun t162 => ((telemeterref07_plus.f a0_3 a2).bind fun t163 => (telemeterref07_Add.l0 k a1 t162 0 l0_0 a0_1 a0_2 a0_3 ([] : List (List Int)) a0_1 a0_2 t163)))
theorem telemeterref07_Add.mono_l : ∀ k, (∀ y0 y1 y2 y3 y4 y5 y6 y7 y8 y9 y10, LeO (telemeterref07_Add.l0 k y0 y1 y2 y3 y4 y5 y6 y7 y8 y9 y10) (telemeterref07_Add.l0 (k + 1) y0 y1 y2 y3 y4 y5 y6 y7 y8 y9 y10))
  | 0 => fun _ _ _ _ _ _ _ _ _ _ _ r h => by simp [telemeterref07_Add.l0] at h
  | k + 1 => by
    have ih0 := telemeterref07_Add.mono_l k
    · intro y0 y1 y2 y3 y4 y5 y6 y7 y8 y9 y10
      unfold telemeterref07_Add.l0
      repeat' first
      | (with_reducible exact ih0 _ _ _ _ _ _ _ _ _ _ _)
      | (with_reducible exact telemeterref07_Count.mono _ _ _ _ _ _)
      | (with_reducible exact telemeterref07_place.mono _ _ _ _ _ _ _)
      | (with_reducible exact LeO.refl _)
      | (with_reducible exact LeO.none _)
      | (with_reducible refine LeO.ite ?_ ?_)
      | (with_reducible refine LeO.bind ?_ (fun _ => ?_))
      | exact ih0 _ _ _ _ _ _ _ _ _ _ _
      | exact telemeterref07_Count.mono _ _ _ _ _ _
      | exact telemeterref07_place.mono _ _ _ _ _ _ _
      | exact LeO.none _
      | refine LeO.ite ?_ ?_
      | refine LeO.bind ?_ (fun _ => ?_)
theorem telemeterref07_Add.mono : ∀ a0 a1 a2 a3 a4 a5 k, LeO (telemeterref07_Add.f k a0 a1 a2 a3 a4 a5) (telemeterref07_Add.f (k + 1) a0 a1 a2 a3 a4 a5) := by
  intro a0 a1 a2 a3 a4 a5 k
  have ih0 := telemeterref07_Add.mono_l k
  unfold telemeterref07_Add.f
  repeat' first
      | (with_reducible exact ih0 _ _ _ _ _ _ _ _ _ _ _)
      | (with_reducible exact telemeterref07_Count.mono _ _ _ _ _ _)
      | (with_reducible exact telemeterref07_place.mono _ _ _ _ _ _ _)
      | (with_reducible exact LeO.refl _)
      | (with_reducible exact LeO.none _)
      | (with_reducible refine LeO.ite ?_ ?_)
      | (with_reducible refine LeO.bind ?_ (fun _ => ?_))
      | exact ih0 _ _ _ _ _ _ _ _ _ _ _
      | exact telemeterref07_Count.mono _ _ _ _ _ _
      | exact telemeterref07_place.mono _ _ _ _ _ _ _
      | exact LeO.none _
      | refine LeO.ite ?_ ?_
      | refine LeO.bind ?_ (fun _ => ?_)
def telemeterref07_Add.T2 : Bool × List (List Nat × List Nat) := (true, [([], []), ([0], [0]), ([], []), ([2], [2]), ([], []), ([4], [4]), ([], []), ([5, 6], [5, 6]), ([1, 3, 7], [1, 3, 7]), ([], []), ([9, 8, 7, 0, 1, 2, 3, 4, 5, 6, 7, 8, 9], [8, 9])])
def telemeterref07_Add.B2 : List Nat := [0, 1, 0, 4, 0, 16, 0, 112, 255, 0, 1023]
theorem telemeterref07_Add.tab2 : rtab .any (opsOf Try.f23 2) = telemeterref07_Add.T2 := by kernel_rfl
theorem telemeterref07_Add.bits2 : waitsOk telemeterref07_Add.T2.2 telemeterref07_Add.B2 = true := by kernel_rfl
set_option maxHeartbeats 8000000 in
set_option maxRecDepth 100000 in
theorem telemeterref07_Add.calls (k : Nat) (A0_0 : Option Addr) (c0_0 : Nat) (l0_0 : List (List Int)) (a0_1 : Int) (a0_2 : Int) (a0_3 : Int) (a1 : ByteArray) (a2 : Int) (r1 : List (List Int)) (r2 : Int) (r3 : Int) (r4 : Int) (w : World) (hr0_0 : Kd.C (Kd.slice 22 (Kd.int .u64)) w A0_0 l0_0.length l0_0) (hc0_0 : l0_0.length ≤ c0_0) (h : telemeterref07_Add.f k l0_0 a0_1 a0_2 a0_3 a1 a2 = some (r1, r2, r3, r4)) :
    Calls Try.prog 23 #[.agg #[.slice A0_0 l0_0.length c0_0, .int .i64 a0_1, .int .u64 a0_2, .int .u64 a0_3], .string a1, .int .u64 a2] w fun e w' => ∃ v0_ : Value, e = .returned (.agg #[v0_, .int .i64 r2, .int .u64 r3, .int .u64 r4]) ∧ Kd.S (Kd.slice 22 (Kd.int .u64)) 60 w' w.heap.size (fun _ => True) v0_ r1 ∧ Below w.heap.size w w' := by
  have hu36 := Try.underlying36
  have HR0_0 := Aside0.mk hr0_0
  have HC0_0 := Aside0.mk hc0_0
  clear hr0_0 hc0_0
  have HB := Aside0.mk (Below.refl w.heap.size w)
  have H : ((telemeterref07_Count.f k l0_0 a0_1 a0_2 a0_3 a1).bind fun t161 => ((telemeterref07_plus.f t161 a2).bind fun t162 => ((telemeterref07_plus.f a0_3 a2).bind fun t163 => (telemeterref07_Add.l0 k a1 t162 0 l0_0 a0_1 a0_2 a0_3 ([] : List (List Int)) a0_1 a0_2 t163)))) = some (r1, r2, r3, r4) := h
  clear h
  replace H := Option.bind_eq_some_iff.mp H
  obtain ⟨t161, A40, H⟩ := H
  replace H : ((telemeterref07_plus.f t161 a2).bind fun t162 => ((telemeterref07_plus.f a0_3 a2).bind fun t163 => (telemeterref07_Add.l0 k a1 t162 0 l0_0 a0_1 a0_2 a0_3 ([] : List (List Int)) a0_1 a0_2 t163))) = some (r1, r2, r3, r4) := H
  have A4 := Aside0.mk A40
  clear A40
  replace H := Option.bind_eq_some_iff.mp H
  obtain ⟨t162, A50, H⟩ := H
  replace H : ((telemeterref07_plus.f a0_3 a2).bind fun t163 => (telemeterref07_Add.l0 k a1 t162 0 l0_0 a0_1 a0_2 a0_3 ([] : List (List Int)) a0_1 a0_2 t163)) = some (r1, r2, r3, r4) := H
  have A5 := Aside0.mk A50
  clear A50
  replace H := Option.bind_eq_some_iff.mp H
  obtain ⟨t163, A60, H⟩ := H
  replace H : (telemeterref07_Add.l0 k a1 t162 0 l0_0 a0_1 a0_2 a0_3 ([] : List (List Int)) a0_1 a0_2 t163) = some (r1, r2, r3, r4) := H
  have A6 := Aside0.mk A60
  clear A60
  have H' := Aside0.mk H
  clear H
  go_enter Try.func23, Try.ntmps23
  try go_wp2_with (first | ((with_reducible refine gate_dst (N := 3) rfl ?_); refine box_event ?hg (N := 3) ?hd (cs := #[.slice A0_0 l0_0.length c0_0, .int .i64 a0_1, .int .u64 a0_2, .int .u64 a0_3]) (t := 36) ?hr ?_; (case hd => rfl); (case hg => rfl); (case hr => first | (go_simp; done) | (go_simp; rfl)); intro gb159 hg w7 hbox hb; have n0_ := Aside0.mk (below_step (by repeat (first | (with_reducible first | exact HB.out | apply below_alloc | apply pw_below_drewN | apply below_drew1) | exact HB.out)) hb); have n1_ := Aside0.mk (hbox); have n2_ := Aside0.mk ((by rw [hg]; exact (below_size (by repeat (first | (with_reducible first | exact HB.out | apply below_alloc | apply pw_below_drewN | apply below_drew1) | exact HB.out))) : w.heap.size ≤ gb159)); have n3_ := Aside0.mk ((by rw [hg]; exact (below_size (by repeat (first | (with_reducible first | exact HB.out | apply below_alloc | apply pw_below_drewN | apply below_drew1) | exact HB.out))) : w.heap.size ≤ gb159)); clear HB; have HB := n0_; have BK159 := n1_; have GW159 := n2_; have GE159 := n3_; clear n0_ n1_ n2_ n3_; clear hb hbox hg) | ((with_reducible refine gate_dst (N := 6) rfl ?_); refine box_event ?hg (N := 6) ?hd (cs := #[.slice none 0 0, .int .i64 0, .int .u64 0, .int .u64 0]) (t := 36) ?hr ?_; (case hd => rfl); (case hg => rfl); (case hr => first | (go_simp; done) | (go_simp; rfl)); intro gb160 hg w8 hbox hb; have n0_ := Aside0.mk (blk_below (g := gb159) (o := .cells #[.slice A0_0 l0_0.length c0_0, .int .i64 a0_1, .int .u64 a0_2, .int .u64 a0_3] 36 (0, 0)) (by (with_reducible repeat (first | refine blk_drewN ?_ _ | refine blk_drew ?_ | refine blk_alloc ?_ _)); exact BK159.out) hb); have n1_ := Aside0.mk (below_step (by repeat (first | (with_reducible first | exact HB.out | apply below_alloc | apply pw_below_drewN | apply below_drew1 | refine below_set ?_ GE159.out) | exact HB.out)) hb); have n2_ := Aside0.mk (hbox); have n3_ := Aside0.mk ((by rw [hg]; exact (below_size (by repeat (first | (with_reducible first | exact HB.out | apply below_alloc | apply pw_below_drewN | apply below_drew1 | refine below_set ?_ GE159.out) | exact HB.out))) : w.heap.size ≤ gb160)); have n4_ := Aside0.mk ((by rw [hg]; exact (below_size (by repeat (first | (with_reducible first | exact HB.out | apply below_alloc | apply pw_below_drewN | apply below_drew1 | refine below_set ?_ GE159.out) | exact HB.out))) : w.heap.size ≤ gb160)); have n5_ := Aside0.mk ((by rw [hg]; exact Nat.ne_of_lt (blk_lt (g := gb159) (o := .cells #[.slice A0_0 l0_0.length c0_0, .int .i64 a0_1, .int .u64 a0_2, .int .u64 a0_3] 36 (0, 0)) (by (with_reducible repeat (first | refine blk_drewN ?_ _ | refine blk_drew ?_ | refine blk_alloc ?_ _)); exact BK159.out)) : gb159 ≠ gb160)); have n6_ := Aside0.mk ((by rw [hg]; exact Nat.ne_of_gt (blk_lt (g := gb159) (o := .cells #[.slice A0_0 l0_0.length c0_0, .int .i64 a0_1, .int .u64 a0_2, .int .u64 a0_3] 36 (0, 0)) (by (with_reducible repeat (first | refine blk_drewN ?_ _ | refine blk_drew ?_ | refine blk_alloc ?_ _)); exact BK159.out)) : gb160 ≠ gb159)); clear BK159; clear HB; have BK159 := n0_; have HB := n1_; have BK160 := n2_; have GW160 := n3_; have GE160 := n4_; have NB159_160 := n5_; have NB160_159 := n6_; clear n0_ n1_ n2_ n3_ n4_ n5_ n6_; clear hb hbox hg; have hnb9 := NB159_160.out; have hnc9 := NB160_159.out; have hcz10_0 : w8.cell? ⟨gb159, 0, none⟩ = some (.slice A0_0 l0_0.length c0_0) := (blk_cell BK159.out 0).trans rfl; have hcz10_1 : w8.cell? ⟨gb159, 1, none⟩ = some (.int .i64 a0_1) := (blk_cell BK159.out 1).trans rfl; have hcz10_2 : w8.cell? ⟨gb159, 2, none⟩ = some (.int .u64 a0_2) := (blk_cell BK159.out 2).trans rfl; have hcz10_3 : w8.cell? ⟨gb159, 3, none⟩ = some (.int .u64 a0_3) := (blk_cell BK159.out 3).trans rfl; have hfz10_0 := blk_frozen BK159.out 0; have hfz10_1 := blk_frozen BK159.out 1; have hfz10_2 := blk_frozen BK159.out 2; have hfz10_3 := blk_frozen BK159.out 3) | ((with_reducible refine gate_callee (f := 16) rfl ?_); refine goesL_ (some 14) rfl rfl Try.func16 (by kernel_rfl) rfl #[.agg #[.slice A0_0 l0_0.length c0_0, .int .i64 a0_1, .int .u64 a0_2, .int .u64 a0_3], .string a1] rfl (by (try simp only [List.map_toArray, List.map_cons, List.map_nil]); first | done | rfl | (simp only [List.length_drop, List.length_take]; rfl)) ?_; (with_reducible refine (telemeterref07_Count.calls k _ _ l0_0 a0_1 a0_2 a0_3 a1 t161 _ ?side1 ?side2 A4.out).mono ?_); (case side1 => repeat (first | exact (Kd.C_below HR0_0.out HB.out) | (with_reducible refine Kd.C_alloc ?_ _) | (with_reducible refine Kd.C_drewN ?_ _) | (with_reducible refine Kd.C_drew ?_))); (case side2 => exact HC0_0.out); rintro e w11 ⟨rfl, hb⟩; refine ⟨_, rfl, ?_⟩; have n0_ := Aside0.mk (blk_below (g := gb159) (o := .cells #[.slice A0_0 l0_0.length c0_0, .int .i64 a0_1, .int .u64 a0_2, .int .u64 a0_3] 36 (0, 0)) (by (with_reducible repeat (first | refine blk_drewN ?_ _ | refine blk_drew ?_ | refine blk_alloc ?_ _)); exact BK159.out) hb); have n1_ := Aside0.mk (blk_below (g := gb160) (o := .cells #[.slice none 0 0, .int .i64 0, .int .u64 0, .int .u64 0] 36 (0, 0)) (by (with_reducible repeat (first | refine blk_drewN ?_ _ | refine blk_drew ?_ | refine blk_alloc ?_ _)); exact BK160.out) hb); have n2_ := Aside0.mk (below_step (by repeat (first | (with_reducible first | exact HB.out | apply below_alloc | apply pw_below_drewN | apply below_drew1 | refine below_set ?_ GE159.out | refine below_set ?_ GE160.out) | exact HB.out)) hb); clear BK159; clear BK160; clear HB; have BK159 := n0_; have BK160 := n1_; have HB := n2_; clear n0_ n1_ n2_; (try clear hb); (try clear hb2); (try clear hk); (try clear hi)) | ((with_reducible refine gate_callee (f := 28) rfl ?_); refine goesL_ (some 16) rfl rfl Try.func28 (by kernel_rfl) rfl #[.int .u64 t161, .int .u64 a2] rfl (by (try simp only [List.map_toArray, List.map_cons, List.map_nil]); first | done | rfl | (simp only [List.length_drop, List.length_take]; rfl)) ?_; (with_reducible refine (telemeterref07_plus.calls t161 a2 t162 _ A5.out).mono ?_); rintro e w' ⟨rfl, ⟨nd, rfl⟩⟩; refine ⟨_, rfl, ?_⟩; (try (rw [drewN_self w11]; generalize hq_ : World.drewN w11 _ = w11; have n0_ : Aside0 (w11.heap[gb159]? = some (.cells #[.slice A0_0 l0_0.length c0_0, .int .i64 a0_1, .int .u64 a0_2, .int .u64 a0_3] 36 (0, 0))) := ⟨by rw [← hq_]; exact (by (with_reducible repeat (first | refine blk_drewN ?_ _ | refine blk_drew ?_ | refine blk_alloc ?_ _)); exact BK159.out)⟩; have n1_ : Aside0 (w11.heap[gb160]? = some (.cells #[.slice none 0 0, .int .i64 0, .int .u64 0, .int .u64 0] 36 (0, 0))) := ⟨by rw [← hq_]; exact (by (with_reducible repeat (first | refine blk_drewN ?_ _ | refine blk_drew ?_ | refine blk_alloc ?_ _)); exact BK160.out)⟩; have n2_ : Aside0 (Below w.heap.size w w11) := ⟨by rw [← hq_]; exact (by repeat (first | (with_reducible first | exact HB.out | apply below_alloc | apply pw_below_drewN | apply below_drew1 | refine below_set ?_ GE159.out | refine below_set ?_ GE160.out) | exact HB.out))⟩; clear BK159 BK160 HB hq_; have BK159 := n0_; have BK160 := n1_; have HB := n2_; clear n0_ n1_ n2_))))
  have n0_ := Aside0.mk (blk_drew BK159.out)
  have n1_ := Aside0.mk (blk_drew BK160.out)
  have n2_ := Aside0.mk (below_drew1 HB.out)
  clear BK159
  clear BK160
  clear HB
  have BK159 := n0_
  have BK160 := n1_
  have HB := n2_
  clear n0_ n1_ n2_
  refine start_ (n := 11) (S := fun w' => w'.cell? ⟨gb159, 0, none⟩ = some (.slice A0_0 l0_0.length c0_0) ∧ w'.cell? ⟨gb159, 1, none⟩ = some (.int .i64 a0_1) ∧ w'.cell? ⟨gb159, 2, none⟩ = some (.int .u64 a0_2) ∧ w'.cell? ⟨gb159, 3, none⟩ = some (.int .u64 a0_3)) (ds := []) #[false, false, false, false, false, false, false, false, false, false, false] (by kernel_rfl) rfl rfl ⟨(blk_cell BK159.out 0).trans rfl, (blk_cell BK159.out 1).trans rfl, (blk_cell BK159.out 2).trans rfl, (blk_cell BK159.out 3).trans rfl⟩ (fun hHeld => ?_); refine with_tabW telemeterref07_Add.tab2 telemeterref07_Add.bits2 (fun HT_ HW_ => ?_)
  generalize w11.drew = w12 at BK159 BK160 HB hHeld ⊢
  refine pure_ (i := 0) (N := some 17) (v := ?_) (a' := ?_) #[true, false, false, false, false, false, false, false, false, false, false] rfl rfl (any_of HT_.out (by kernel_rfl)) (fun _ _ _ h => h) (Or.inl ⟨by rfl, ?_⟩) ?_ ?_
  rotate_left
  · intro w'
    go_simp
    with_reducible rfl
  rotate_left
  · simp only [Act.put, List.setIfInBounds_toArray, List.set_cons_zero, List.set_cons_succ, i64_w, i32_w]
    rfl
  refine pure_ (i := 2) (N := some 19) (v := ?_) (a' := ?_) #[true, false, true, false, false, false, false, false, false, false, false] rfl rfl (any_of HT_.out (by kernel_rfl)) (fun _ _ _ h => h) (Or.inl ⟨by rfl, ?_⟩) ?_ ?_
  rotate_left
  · intro w'
    go_simp
    with_reducible rfl
  rotate_left
  · simp only [Act.put, List.setIfInBounds_toArray, List.set_cons_zero, List.set_cons_succ, i64_w, i32_w]
    rfl
  refine pure_ (i := 4) (N := some 21) (v := ?_) (a' := ?_) #[true, false, true, false, true, false, false, false, false, false, false] rfl rfl (any_of HT_.out (by kernel_rfl)) (fun _ _ _ h => h) (Or.inl ⟨by rfl, ?_⟩) ?_ ?_
  rotate_left
  · intro w'
    go_simp
    with_reducible rfl
  rotate_left
  · simp only [Act.put, List.setIfInBounds_toArray, List.set_cons_zero, List.set_cons_succ, i64_w, i32_w]
    rfl
  refine pure_ (i := 6) (N := some 23) (v := ?_) (a' := ?_) #[true, false, true, false, true, false, true, false, false, false, false] rfl rfl (any_of HT_.out (by kernel_rfl)) (fun _ _ _ h => h) (Or.inl ⟨by rfl, ?_⟩) ?_ ?_
  rotate_left
  · intro w'
    go_simp
    with_reducible rfl
  rotate_left
  · simp only [Act.put, List.setIfInBounds_toArray, List.set_cons_zero, List.set_cons_succ, i64_w, i32_w]
    rfl
  refine take_ (i := 1) (N := some 18) (v := ?_) (a' := ?_) #[true, true, true, false, true, false, true, false, false, false, false] rfl rfl (take_ofW HT_.out HW_.out (by kernel_rfl)) (fun _ _ _ h => h) (Or.inl ⟨by rfl, ?_⟩) hHeld ?_ ?_
  rotate_left
  · rintro w' ⟨s0, s1, s2, s3⟩
    go_simp
    with_reducible rfl
  rotate_left
  · simp only [Act.put, List.setIfInBounds_toArray, List.set_cons_zero, List.set_cons_succ, i64_w, i32_w]
    rfl
  refine take_ (i := 3) (N := some 20) (v := ?_) (a' := ?_) #[true, true, true, true, true, false, true, false, false, false, false] rfl rfl (take_ofW HT_.out HW_.out (by kernel_rfl)) (fun _ _ _ h => h) (Or.inl ⟨by rfl, ?_⟩) hHeld ?_ ?_
  rotate_left
  · rintro w' ⟨s0, s1, s2, s3⟩
    go_simp
    with_reducible rfl
  rotate_left
  · simp only [Act.put, List.setIfInBounds_toArray, List.set_cons_zero, List.set_cons_succ, i64_w, i32_w]
    rfl
  refine take_ (i := 5) (N := some 22) (v := ?_) (a' := ?_) #[true, true, true, true, true, true, true, false, false, false, false] rfl rfl (take_ofW HT_.out HW_.out (by kernel_rfl)) (fun _ _ _ h => h) (Or.inl ⟨by rfl, ?_⟩) hHeld ?_ ?_
  rotate_left
  · rintro w' ⟨s0, s1, s2, s3⟩
    go_simp
    with_reducible rfl
  rotate_left
  · simp only [Act.put, List.setIfInBounds_toArray, List.set_cons_zero, List.set_cons_succ, i64_w, i32_w]
    rfl
  refine join_ (σ := Nat) 1 #[true, true, true, true, true, true, true, true, true, true, false] (fun s_ => [(24, .int .u64 t163), (8, .pointer (some ⟨s_, 0, none⟩)), (25, .agg #[.slice none 0 0, .int .i64 a0_1, .int .u64 a0_2, .int .u64 t163])]) (fun s_ w' => (w'.cell? ⟨gb159, 0, none⟩ = some (.slice A0_0 l0_0.length c0_0) ∧ w'.cell? ⟨gb159, 1, none⟩ = some (.int .i64 a0_1) ∧ w'.cell? ⟨gb159, 2, none⟩ = some (.int .u64 a0_2) ∧ w'.cell? ⟨gb159, 3, none⟩ = some (.int .u64 a0_3)) ∧ (w'.heap[gb159]? = some (.cells #[.slice A0_0 l0_0.length c0_0, .int .i64 a0_1, .int .u64 a0_2, .int .u64 a0_3] 36 (0, 0))) ∧ (w'.heap[gb160]? = some (.cells #[.slice none 0 0, .int .i64 0, .int .u64 0, .int .u64 0] 36 (0, 0))) ∧ (w'.heap[s_]? = some (.cells #[.slice none 0 0, .int .i64 0, .int .u64 0, .int .u64 0] 36 (0, 0))) ∧ (w.heap.size ≤ s_) ∧ (w.heap.size ≤ s_) ∧ (gb159 ≠ s_) ∧ (s_ ≠ gb159) ∧ (gb160 ≠ s_) ∧ (s_ ≠ gb160) ∧ (Below w.heap.size w w')) ?_ ?_
  rotate_left
  · intro hCont
    refine two_ (i := 7) (j := 9) (Ni := some 24) (Nj := some 8) #[true, true, true, true, true, true, true, true, false, false, false] #[true, true, true, true, true, true, true, false, false, true, false] rfl rfl rfl rfl (two_of HT_.out (by kernel_rfl)) (by decide) (by decide) (fun K hK => ?_) (fun K hK => ?_)
    · skip
      refine goes_ Try.func28 (by kernel_rfl) rfl #[.int .u64 a0_3, .int .u64 a2] (by rfl) rfl rfl (by (try simp only [List.map_toArray, List.map_cons, List.map_nil]); first | done | rfl | (simp only [List.length_drop, List.length_take]; rfl)) ?_
      with_reducible refine (telemeterref07_plus.calls a0_3 a2 t163 _ A6.out).mono ?_
      rintro e w' ⟨rfl, ⟨nd, rfl⟩⟩
      refine ⟨_, rfl, ?_⟩
      refine hK.out _ _ ⟨(blk_cell BK159.out 0).trans rfl, (blk_cell BK159.out 1).trans rfl, (blk_cell BK159.out 2).trans rfl, (blk_cell BK159.out 3).trans rfl⟩ (fun hHeld => ?_)
      clear hK K
      refine norm_ (a' := ?_) ?_ ?_
      rotate_left
      · show Act.put _ (some 24) _ = _
        simp only [Act.put, List.setIfInBounds_toArray, List.set_cons_zero, List.set_cons_succ, i64_w, i32_w]
        rfl
      refine pure_ (i := 8) (N := some 25) (v := ?_) (a' := ?_) #[true, true, true, true, true, true, true, true, true, false, false] rfl rfl (any_of HT_.out (by kernel_rfl)) (fun _ _ _ h => h) (Or.inl ⟨by rfl, ?_⟩) ?_ ?_
      rotate_left
      · intro w'
        go_simp
        with_reducible rfl
      rotate_left
      · simp only [Act.put, List.setIfInBounds_toArray, List.set_cons_zero, List.set_cons_succ, i64_w, i32_w]
        rfl
      refine one_ (i := 9) (N := some 8) #[true, true, true, true, true, true, true, true, true, true, false] rfl rfl (one_of HT_.out (by kernel_rfl)) (by decide) (fun K hK => ?_)
      refine box_step ?hg (N := 8) ?hd (cs := #[.slice none 0 0, .int .i64 0, .int .u64 0, .int .u64 0]) (t := 36) ?hr ?_; (case hd => rfl); (case hg => rfl); (case hr => first | (go_simp; done) | (go_simp; rfl))
      intro gb164 hg w13 hbox hb
      have n0_ := Aside0.mk (blk_below (g := gb159) (o := .cells #[.slice A0_0 l0_0.length c0_0, .int .i64 a0_1, .int .u64 a0_2, .int .u64 a0_3] 36 (0, 0)) (by (with_reducible repeat (first | refine blk_drewN ?_ _ | refine blk_drew ?_ | refine blk_alloc ?_ _)); exact BK159.out) hb)
      have n1_ := Aside0.mk (blk_below (g := gb160) (o := .cells #[.slice none 0 0, .int .i64 0, .int .u64 0, .int .u64 0] 36 (0, 0)) (by (with_reducible repeat (first | refine blk_drewN ?_ _ | refine blk_drew ?_ | refine blk_alloc ?_ _)); exact BK160.out) hb)
      have n2_ := Aside0.mk (below_step (by repeat (first | (with_reducible first | exact HB.out | apply below_alloc | apply pw_below_drewN | apply below_drew1 | refine below_set ?_ GE159.out | refine below_set ?_ GE160.out) | exact HB.out)) hb)
      have n3_ := Aside0.mk (hbox)
      have n4_ := Aside0.mk ((by rw [hg]; exact (below_size (by repeat (first | (with_reducible first | exact HB.out | apply below_alloc | apply pw_below_drewN | apply below_drew1 | refine below_set ?_ GE159.out | refine below_set ?_ GE160.out) | exact HB.out))) : w.heap.size ≤ gb164))
      have n5_ := Aside0.mk ((by rw [hg]; exact (below_size (by repeat (first | (with_reducible first | exact HB.out | apply below_alloc | apply pw_below_drewN | apply below_drew1 | refine below_set ?_ GE159.out | refine below_set ?_ GE160.out) | exact HB.out))) : w.heap.size ≤ gb164))
      have n6_ := Aside0.mk ((by rw [hg]; exact Nat.ne_of_lt (blk_lt (g := gb159) (o := .cells #[.slice A0_0 l0_0.length c0_0, .int .i64 a0_1, .int .u64 a0_2, .int .u64 a0_3] 36 (0, 0)) (by (with_reducible repeat (first | refine blk_drewN ?_ _ | refine blk_drew ?_ | refine blk_alloc ?_ _)); exact BK159.out)) : gb159 ≠ gb164))
      have n7_ := Aside0.mk ((by rw [hg]; exact Nat.ne_of_gt (blk_lt (g := gb159) (o := .cells #[.slice A0_0 l0_0.length c0_0, .int .i64 a0_1, .int .u64 a0_2, .int .u64 a0_3] 36 (0, 0)) (by (with_reducible repeat (first | refine blk_drewN ?_ _ | refine blk_drew ?_ | refine blk_alloc ?_ _)); exact BK159.out)) : gb164 ≠ gb159))
      have n8_ := Aside0.mk ((by rw [hg]; exact Nat.ne_of_lt (blk_lt (g := gb160) (o := .cells #[.slice none 0 0, .int .i64 0, .int .u64 0, .int .u64 0] 36 (0, 0)) (by (with_reducible repeat (first | refine blk_drewN ?_ _ | refine blk_drew ?_ | refine blk_alloc ?_ _)); exact BK160.out)) : gb160 ≠ gb164))
      have n9_ := Aside0.mk ((by rw [hg]; exact Nat.ne_of_gt (blk_lt (g := gb160) (o := .cells #[.slice none 0 0, .int .i64 0, .int .u64 0, .int .u64 0] 36 (0, 0)) (by (with_reducible repeat (first | refine blk_drewN ?_ _ | refine blk_drew ?_ | refine blk_alloc ?_ _)); exact BK160.out)) : gb164 ≠ gb160))
      clear BK159
      clear BK160
      clear HB
      have BK159 := n0_
      have BK160 := n1_
      have HB := n2_
      have BK164 := n3_
      have GW164 := n4_
      have GE164 := n5_
      have NB159_164 := n6_
      have NB164_159 := n7_
      have NB160_164 := n8_
      have NB164_160 := n9_
      clear n0_ n1_ n2_ n3_ n4_ n5_ n6_ n7_ n8_ n9_
      clear hb hbox hg
      refine hK.out _ _ ⟨(blk_cell BK159.out 0).trans rfl, (blk_cell BK159.out 1).trans rfl, (blk_cell BK159.out 2).trans rfl, (blk_cell BK159.out 3).trans rfl⟩ (fun hHeld => ?_)
      clear hK K
      refine norm_ (a' := ?_) ?_ ?_
      rotate_left
      · show Act.put _ (some 8) _ = _
        simp only [Act.put, List.setIfInBounds_toArray, List.set_cons_zero, List.set_cons_succ, i64_w, i32_w]
        rfl
      exact norm_ (by simp only [putAll, Act.put, List.setIfInBounds_toArray, List.set_cons_zero, List.set_cons_succ]) (hCont (gb164) _ ⟨hHeld, (by (with_reducible repeat (first | refine blk_drewN ?_ _ | refine blk_drew ?_ | refine blk_alloc ?_ _)); exact BK159.out), (by (with_reducible repeat (first | refine blk_drewN ?_ _ | refine blk_drew ?_ | refine blk_alloc ?_ _)); exact BK160.out), (by (with_reducible repeat (first | refine blk_drewN ?_ _ | refine blk_drew ?_ | refine blk_alloc ?_ _)); exact BK164.out), GW164.out, GE164.out, NB159_164.out, NB164_159.out, NB160_164.out, NB164_160.out, (by repeat (first | (with_reducible first | exact HB.out | apply below_alloc | apply pw_below_drewN | apply below_drew1 | refine below_set ?_ GE159.out | refine below_set ?_ GE160.out | refine below_set ?_ GE164.out) | exact HB.out))⟩)
    · skip
      refine box_step ?hg (N := 8) ?hd (cs := #[.slice none 0 0, .int .i64 0, .int .u64 0, .int .u64 0]) (t := 36) ?hr ?_; (case hd => rfl); (case hg => rfl); (case hr => first | (go_simp; done) | (go_simp; rfl))
      intro gb164 hg w13 hbox hb
      have n0_ := Aside0.mk (blk_below (g := gb159) (o := .cells #[.slice A0_0 l0_0.length c0_0, .int .i64 a0_1, .int .u64 a0_2, .int .u64 a0_3] 36 (0, 0)) (by (with_reducible repeat (first | refine blk_drewN ?_ _ | refine blk_drew ?_ | refine blk_alloc ?_ _)); exact BK159.out) hb)
      have n1_ := Aside0.mk (blk_below (g := gb160) (o := .cells #[.slice none 0 0, .int .i64 0, .int .u64 0, .int .u64 0] 36 (0, 0)) (by (with_reducible repeat (first | refine blk_drewN ?_ _ | refine blk_drew ?_ | refine blk_alloc ?_ _)); exact BK160.out) hb)
      have n2_ := Aside0.mk (below_step (by repeat (first | (with_reducible first | exact HB.out | apply below_alloc | apply pw_below_drewN | apply below_drew1 | refine below_set ?_ GE159.out | refine below_set ?_ GE160.out) | exact HB.out)) hb)
      have n3_ := Aside0.mk (hbox)
      have n4_ := Aside0.mk ((by rw [hg]; exact (below_size (by repeat (first | (with_reducible first | exact HB.out | apply below_alloc | apply pw_below_drewN | apply below_drew1 | refine below_set ?_ GE159.out | refine below_set ?_ GE160.out) | exact HB.out))) : w.heap.size ≤ gb164))
      have n5_ := Aside0.mk ((by rw [hg]; exact (below_size (by repeat (first | (with_reducible first | exact HB.out | apply below_alloc | apply pw_below_drewN | apply below_drew1 | refine below_set ?_ GE159.out | refine below_set ?_ GE160.out) | exact HB.out))) : w.heap.size ≤ gb164))
      have n6_ := Aside0.mk ((by rw [hg]; exact Nat.ne_of_lt (blk_lt (g := gb159) (o := .cells #[.slice A0_0 l0_0.length c0_0, .int .i64 a0_1, .int .u64 a0_2, .int .u64 a0_3] 36 (0, 0)) (by (with_reducible repeat (first | refine blk_drewN ?_ _ | refine blk_drew ?_ | refine blk_alloc ?_ _)); exact BK159.out)) : gb159 ≠ gb164))
      have n7_ := Aside0.mk ((by rw [hg]; exact Nat.ne_of_gt (blk_lt (g := gb159) (o := .cells #[.slice A0_0 l0_0.length c0_0, .int .i64 a0_1, .int .u64 a0_2, .int .u64 a0_3] 36 (0, 0)) (by (with_reducible repeat (first | refine blk_drewN ?_ _ | refine blk_drew ?_ | refine blk_alloc ?_ _)); exact BK159.out)) : gb164 ≠ gb159))
      have n8_ := Aside0.mk ((by rw [hg]; exact Nat.ne_of_lt (blk_lt (g := gb160) (o := .cells #[.slice none 0 0, .int .i64 0, .int .u64 0, .int .u64 0] 36 (0, 0)) (by (with_reducible repeat (first | refine blk_drewN ?_ _ | refine blk_drew ?_ | refine blk_alloc ?_ _)); exact BK160.out)) : gb160 ≠ gb164))
      have n9_ := Aside0.mk ((by rw [hg]; exact Nat.ne_of_gt (blk_lt (g := gb160) (o := .cells #[.slice none 0 0, .int .i64 0, .int .u64 0, .int .u64 0] 36 (0, 0)) (by (with_reducible repeat (first | refine blk_drewN ?_ _ | refine blk_drew ?_ | refine blk_alloc ?_ _)); exact BK160.out)) : gb164 ≠ gb160))
      clear BK159
      clear BK160
      clear HB
      have BK159 := n0_
      have BK160 := n1_
      have HB := n2_
      have BK164 := n3_
      have GW164 := n4_
      have GE164 := n5_
      have NB159_164 := n6_
      have NB164_159 := n7_
      have NB160_164 := n8_
      have NB164_160 := n9_
      clear n0_ n1_ n2_ n3_ n4_ n5_ n6_ n7_ n8_ n9_
      clear hb hbox hg
      refine hK.out _ _ ⟨(blk_cell BK159.out 0).trans rfl, (blk_cell BK159.out 1).trans rfl, (blk_cell BK159.out 2).trans rfl, (blk_cell BK159.out 3).trans rfl⟩ (fun hHeld => ?_)
      clear hK K
      refine norm_ (a' := ?_) ?_ ?_
      rotate_left
      · show Act.put _ (some 8) _ = _
        simp only [Act.put, List.setIfInBounds_toArray, List.set_cons_zero, List.set_cons_succ, i64_w, i32_w]
        rfl
      refine one_ (i := 7) (N := some 24) #[true, true, true, true, true, true, true, true, false, true, false] rfl rfl (one_of HT_.out (by kernel_rfl)) (by decide) (fun K hK => ?_)
      refine goes_ Try.func28 (by kernel_rfl) rfl #[.int .u64 a0_3, .int .u64 a2] (by rfl) rfl rfl (by (try simp only [List.map_toArray, List.map_cons, List.map_nil]); first | done | rfl | (simp only [List.length_drop, List.length_take]; rfl)) ?_
      with_reducible refine (telemeterref07_plus.calls a0_3 a2 t163 _ A6.out).mono ?_
      rintro e w' ⟨rfl, ⟨nd, rfl⟩⟩
      refine ⟨_, rfl, ?_⟩
      refine hK.out _ _ ⟨(blk_cell BK159.out 0).trans rfl, (blk_cell BK159.out 1).trans rfl, (blk_cell BK159.out 2).trans rfl, (blk_cell BK159.out 3).trans rfl⟩ (fun hHeld => ?_)
      clear hK K
      refine norm_ (a' := ?_) ?_ ?_
      rotate_left
      · show Act.put _ (some 24) _ = _
        simp only [Act.put, List.setIfInBounds_toArray, List.set_cons_zero, List.set_cons_succ, i64_w, i32_w]
        rfl
      refine pure_ (i := 8) (N := some 25) (v := ?_) (a' := ?_) #[true, true, true, true, true, true, true, true, true, true, false] rfl rfl (any_of HT_.out (by kernel_rfl)) (fun _ _ _ h => h) (Or.inl ⟨by rfl, ?_⟩) ?_ ?_
      rotate_left
      · intro w'
        go_simp
        with_reducible rfl
      rotate_left
      · simp only [Act.put, List.setIfInBounds_toArray, List.set_cons_zero, List.set_cons_succ, i64_w, i32_w]
        rfl
      exact norm_ (by simp only [putAll, Act.put, List.setIfInBounds_toArray, List.set_cons_zero, List.set_cons_succ]) (hCont (gb164) _ ⟨hHeld, (by (with_reducible repeat (first | refine blk_drewN ?_ _ | refine blk_drew ?_ | refine blk_alloc ?_ _)); exact BK159.out), (by (with_reducible repeat (first | refine blk_drewN ?_ _ | refine blk_drew ?_ | refine blk_alloc ?_ _)); exact BK160.out), (by (with_reducible repeat (first | refine blk_drewN ?_ _ | refine blk_drew ?_ | refine blk_alloc ?_ _)); exact BK164.out), GW164.out, GE164.out, NB159_164.out, NB164_159.out, NB160_164.out, NB164_160.out, (by repeat (first | (with_reducible first | exact HB.out | apply below_alloc | apply pw_below_drewN | apply below_drew1 | refine below_set ?_ GE159.out | refine below_set ?_ GE160.out | refine below_set ?_ GE164.out) | exact HB.out))⟩)
  rintro gb164 w14 ⟨hS_, h0_, h1_, h2_, h3_, h4_, h5_, h6_, h7_, h8_, h9_⟩
  have n0_ : Aside0 (w14.heap[gb159]? = some (.cells #[.slice A0_0 l0_0.length c0_0, .int .i64 a0_1, .int .u64 a0_2, .int .u64 a0_3] 36 (0, 0))) := ⟨h0_⟩
  have n1_ : Aside0 (w14.heap[gb160]? = some (.cells #[.slice none 0 0, .int .i64 0, .int .u64 0, .int .u64 0] 36 (0, 0))) := ⟨h1_⟩
  have n2_ : Aside0 (w14.heap[gb164]? = some (.cells #[.slice none 0 0, .int .i64 0, .int .u64 0, .int .u64 0] 36 (0, 0))) := ⟨h2_⟩
  have n3_ : Aside0 (w.heap.size ≤ gb164) := ⟨h3_⟩
  have n4_ : Aside0 (w.heap.size ≤ gb164) := ⟨h4_⟩
  have n5_ : Aside0 (gb159 ≠ gb164) := ⟨h5_⟩
  have n6_ : Aside0 (gb164 ≠ gb159) := ⟨h6_⟩
  have n7_ : Aside0 (gb160 ≠ gb164) := ⟨h7_⟩
  have n8_ : Aside0 (gb164 ≠ gb160) := ⟨h8_⟩
  have n9_ : Aside0 (Below w.heap.size w w14) := ⟨h9_⟩
  clear BK159
  clear BK160
  clear HB
  clear h0_ h1_ h2_ h3_ h4_ h5_ h6_ h7_ h8_ h9_
  have BK159 := n0_
  have BK160 := n1_
  have BK164 := n2_
  have GW164 := n3_
  have GE164 := n4_
  have NB159_164 := n5_
  have NB164_159 := n6_
  have NB160_164 := n7_
  have NB164_160 := n8_
  have HB := n9_
  clear n0_ n1_ n2_ n3_ n4_ n5_ n6_ n7_ n8_ n9_
  have hHeld : w14.cell? ⟨gb159, 0, none⟩ = some (.slice A0_0 l0_0.length c0_0) ∧ w14.cell? ⟨gb159, 1, none⟩ = some (.int .i64 a0_1) ∧ w14.cell? ⟨gb159, 2, none⟩ = some (.int .u64 a0_2) ∧ w14.cell? ⟨gb159, 3, none⟩ = some (.int .u64 a0_3) := hS_
  refine norm_ (a' := ?_) ?_ ?_
  rotate_left
  · simp only [putAll, Act.put, List.setIfInBounds_toArray, List.set_cons_zero, List.set_cons_succ]
    rfl
  refine one_ (i := 10) (N := none) #[true, true, true, true, true, true, true, true, true, true, true] rfl rfl (one_of HT_.out (by kernel_rfl)) (by decide) (fun K hK => ?_)
  have hs15 : w14.cell? ⟨gb164, 0, none⟩ = some (.slice none 0 0) := (blk_cell BK164.out 0).trans rfl
  have hfs15 := blk_frozen BK164.out 0
  have hns15_0 := NB159_164.out
  have hns15_1 := NB160_164.out
  have hms15_0 := NB164_159.out
  have hms15_1 := NB164_160.out
  have hs16 : w14.cell? ⟨gb164, 1, none⟩ = some (.int .i64 0) := (blk_cell BK164.out 1).trans rfl
  have hfs16 := blk_frozen BK164.out 1
  have hns16_0 := NB159_164.out
  have hns16_1 := NB160_164.out
  have hms16_0 := NB164_159.out
  have hms16_1 := NB164_160.out
  have hs17 : w14.cell? ⟨gb164, 2, none⟩ = some (.int .u64 0) := (blk_cell BK164.out 2).trans rfl
  have hfs17 := blk_frozen BK164.out 2
  have hns17_0 := NB159_164.out
  have hns17_1 := NB160_164.out
  have hms17_0 := NB164_159.out
  have hms17_1 := NB164_160.out
  have hs18 : w14.cell? ⟨gb164, 3, none⟩ = some (.int .u64 0) := (blk_cell BK164.out 3).trans rfl
  have hfs18 := blk_frozen BK164.out 3
  have hns18_0 := NB159_164.out
  have hns18_1 := NB160_164.out
  have hms18_0 := NB164_159.out
  have hms18_1 := NB164_160.out
  refine skip_ (w1 := ?_) (by rfl) rfl ?_ ?_
  rotate_left
  · go_simp
    rfl
  refine hK.out _ _ ⟨((cell_far (p := ⟨gb164, _, none⟩) NB159_164.out _).trans (((cell_far (p := ⟨gb164, _, none⟩) NB159_164.out _).trans (((cell_far (p := ⟨gb164, _, none⟩) NB159_164.out _).trans (((cell_far (p := ⟨gb164, _, none⟩) NB159_164.out _).trans (hHeld.1)))))))), ((cell_far (p := ⟨gb164, _, none⟩) NB159_164.out _).trans (((cell_far (p := ⟨gb164, _, none⟩) NB159_164.out _).trans (((cell_far (p := ⟨gb164, _, none⟩) NB159_164.out _).trans (((cell_far (p := ⟨gb164, _, none⟩) NB159_164.out _).trans (hHeld.2.1)))))))), ((cell_far (p := ⟨gb164, _, none⟩) NB159_164.out _).trans (((cell_far (p := ⟨gb164, _, none⟩) NB159_164.out _).trans (((cell_far (p := ⟨gb164, _, none⟩) NB159_164.out _).trans (((cell_far (p := ⟨gb164, _, none⟩) NB159_164.out _).trans (hHeld.2.2.1)))))))), ((cell_far (p := ⟨gb164, _, none⟩) NB159_164.out _).trans (((cell_far (p := ⟨gb164, _, none⟩) NB159_164.out _).trans (((cell_far (p := ⟨gb164, _, none⟩) NB159_164.out _).trans (((cell_far (p := ⟨gb164, _, none⟩) NB159_164.out _).trans (hHeld.2.2.2))))))))⟩ (fun hHeld => ?_)
  clear hK K
  refine done_ (done_of HT_.out (by kernel_rfl)) ?_
  try go_wp2
  go_loopg [9] k (fun kq v9 w' => ∃ (x9_1 : Int) (x165000_1 : List (List Int)) (u165000 : Value), v9 = .int .i64 x9_1 ∧ Aside0 (telemeterref07_Add.l0 kq a1 t162 x9_1 l0_0 a0_1 a0_2 a0_3 x165000_1 a0_1 a0_2 t163 = some (r1, r2, r3, r4)) ∧ Aside0 (kq ≤ k) ∧ Aside0 (Kd.S (Kd.slice 22 (Kd.int .u64)) 60 w' w.heap.size (fun _ => True) u165000 x165000_1) ∧ Aside0 (w'.heap[gb159]? = some (.cells #[(.slice A0_0 l0_0.length c0_0), .int .i64 a0_1, .int .u64 a0_2, .int .u64 a0_3] 36 (0, 0))) ∧ Aside0 (w'.heap[gb160]? = some (.cells #[(.slice none 0 0), .int .i64 0, .int .u64 0, .int .u64 0] 36 (0, 0))) ∧ Aside0 (w'.heap[gb164]? = some (.cells #[u165000, .int .i64 a0_1, .int .u64 a0_2, .int .u64 t163] 36 (0, 0))) ∧ Aside0 (Below w.heap.size w w'))
  case atStart => exact ⟨(0), (([] : List (List Int))), (.slice none 0 0), (by first | rfl | (simp; done) | (simp [*]; done)), H', ⟨Nat.le_refl _⟩, ⟨by first | exact Kd.S_nil _ _ _ _ _ | exact Kd.N_nil _ _ _ _ _ | exact Kd.V_nil _ _ _ _ _ | exact Kd.Q_nil _ _ _ _ _ | exact Kd.R_nil _ _ _ _ _⟩, ⟨by (with_reducible repeat (first | refine blk_drewN ?_ _ | refine blk_drew ?_ | refine blk_alloc ?_ _)); refine blk_far ?_ NB159_164.out _; (with_reducible repeat (first | refine blk_drewN ?_ _ | refine blk_drew ?_ | refine blk_alloc ?_ _)); refine blk_far ?_ NB159_164.out _; (with_reducible repeat (first | refine blk_drewN ?_ _ | refine blk_drew ?_ | refine blk_alloc ?_ _)); refine blk_far ?_ NB159_164.out _; (with_reducible repeat (first | refine blk_drewN ?_ _ | refine blk_drew ?_ | refine blk_alloc ?_ _)); refine blk_far ?_ NB159_164.out _; (with_reducible repeat (first | refine blk_drewN ?_ _ | refine blk_drew ?_ | refine blk_alloc ?_ _)); exact BK159.out⟩, ⟨by (with_reducible repeat (first | refine blk_drewN ?_ _ | refine blk_drew ?_ | refine blk_alloc ?_ _)); refine blk_far ?_ NB160_164.out _; (with_reducible repeat (first | refine blk_drewN ?_ _ | refine blk_drew ?_ | refine blk_alloc ?_ _)); refine blk_far ?_ NB160_164.out _; (with_reducible repeat (first | refine blk_drewN ?_ _ | refine blk_drew ?_ | refine blk_alloc ?_ _)); refine blk_far ?_ NB160_164.out _; (with_reducible repeat (first | refine blk_drewN ?_ _ | refine blk_drew ?_ | refine blk_alloc ?_ _)); refine blk_far ?_ NB160_164.out _; (with_reducible repeat (first | refine blk_drewN ?_ _ | refine blk_drew ?_ | refine blk_alloc ?_ _)); exact BK160.out⟩, ⟨by (with_reducible repeat (first | refine blk_drewN ?_ _ | refine blk_drew ?_ | refine blk_alloc ?_ _)); refine blk_put (cs := #[.slice none 0 0, .int .i64 a0_1, .int .u64 a0_2, .int .u64 0]) ?_ 3 _ rfl; (with_reducible repeat (first | refine blk_drewN ?_ _ | refine blk_drew ?_ | refine blk_alloc ?_ _)); refine blk_put (cs := #[.slice none 0 0, .int .i64 a0_1, .int .u64 0, .int .u64 0]) ?_ 2 _ rfl; (with_reducible repeat (first | refine blk_drewN ?_ _ | refine blk_drew ?_ | refine blk_alloc ?_ _)); refine blk_put (cs := #[.slice none 0 0, .int .i64 0, .int .u64 0, .int .u64 0]) ?_ 1 _ rfl; (with_reducible repeat (first | refine blk_drewN ?_ _ | refine blk_drew ?_ | refine blk_alloc ?_ _)); refine blk_put (cs := #[.slice none 0 0, .int .i64 0, .int .u64 0, .int .u64 0]) ?_ 0 _ rfl; (with_reducible repeat (first | refine blk_drewN ?_ _ | refine blk_drew ?_ | refine blk_alloc ?_ _)); exact BK164.out⟩, ⟨by repeat (first | (with_reducible first | exact HB.out | apply below_alloc | apply pw_below_drewN | apply below_drew1 | refine below_set ?_ GE159.out | refine below_set ?_ GE160.out | refine below_set ?_ GE164.out) | exact HB.out)⟩⟩
  case round =>
    clear H'
    try clear c1
    try clear c2
    try clear p2
    try clear c9
    try clear c16
    try clear hcz10_0
    try clear hcz10_1
    try clear hcz10_2
    try clear hcz10_3
    try clear hfz10_0
    try clear hfz10_1
    try clear hfz10_2
    try clear hfz10_3
    obtain ⟨x9_1, x165000_1, u165000, rfl, HA, HK1, HO_165000, BK159, BK160, BK164, HB⟩ := hrel
    cases gk with
    | zero => exact absurd HA.out (by simp [telemeterref07_Add.l0])
    | succ k1 =>
      have H := HA.out
      clear HA
      simp only [telemeterref07_Add.l0] at H
      by_cases c19 : x9_1 < (l0_0.length : Int)
      · rw [if_pos c19] at H
        have c19b0 : decide (x9_1 < (l0_0.length : Int)) = true := decide_eq_true c19
        clear c19
        by_cases c20 : 0 ≤ x9_1
        · rw [if_pos c20] at H
          have c20b0 : decide (0 ≤ x9_1) = true := decide_eq_true c20
          clear c20
          by_cases c21 : ([] : List Int).length + (rd_L2 l0_0 x9_1).length < 17592186044416
          · rw [if_pos c21] at H
            have LMc21 := Aside0.mk c21
            clear c21
            obtain ⟨y166, hy166⟩ : ∃ y_ : List Int, y_ = (([] : List Int) ++ (rd_L2 l0_0 x9_1)) := ⟨_, rfl⟩
            replace H : ((telemeterref07_place.f k1 l0_0 a0_1 a0_2 a0_3 x9_1 a1).bind fun t169 => (if 0 ≤ t169 then (if t169 < (y166.length : Int) then (if x165000_1.length < 5864062014805 then (telemeterref07_Add.l0 k1 a1 t162 (wrap64 (x9_1 + 1)) l0_0 a0_1 a0_2 a0_3 (x165000_1 ++ [(y166.set (t169 : Int).toNat (mx (rd y166 t169) t162))]) a0_1 a0_2 t163) else (none)) else (none)) else (none))) = some (r1, r2, r3, r4) := by first | (rw [hy166]; with_reducible exact H) | (have H2_ := (Option.bind_some _ _).symm.trans H; rw [hy166]; with_reducible exact H2_) | (have H2_ := (Option.bind_some _ _).symm.trans H; with_reducible exact H2_) | with_reducible exact H | (rw [hy166]; exact H) | exact H
            have Ny166 := Aside0.mk hy166
            clear hy166
            replace H := Option.bind_eq_some_iff.mp H
            obtain ⟨t169, A220, H⟩ := H
            replace H : (if 0 ≤ t169 then (if t169 < (y166.length : Int) then (if x165000_1.length < 5864062014805 then (telemeterref07_Add.l0 k1 a1 t162 (wrap64 (x9_1 + 1)) l0_0 a0_1 a0_2 a0_3 (x165000_1 ++ [(y166.set (t169 : Int).toNat (mx (rd y166 t169) t162))]) a0_1 a0_2 t163) else (none)) else (none)) else (none)) = some (r1, r2, r3, r4) := H
            have A22 := Aside0.mk A220
            clear A220
            by_cases c23 : 0 ≤ t169
            · rw [if_pos c23] at H
              have c23b0 : decide (0 ≤ t169) = true := decide_eq_true c23
              clear c23
              by_cases c24 : t169 < (y166.length : Int)
              · rw [if_pos c24] at H
                have c24b0 : decide (t169 < (y166.length : Int)) = true := decide_eq_true c24
                clear c24
                obtain ⟨ji25, hji25⟩ : ∃ j_ : Int, (mx (rd y166 t169) t162) = j_ := ⟨_, rfl⟩
                replace H : (if x165000_1.length < 5864062014805 then (telemeterref07_Add.l0 k1 a1 t162 (wrap64 (x9_1 + 1)) l0_0 a0_1 a0_2 a0_3 (x165000_1 ++ [(y166.set (t169 : Int).toNat (ji25))]) a0_1 a0_2 t163) else (none)) = some (r1, r2, r3, r4) := by first | (rw [hji25] at H; exact H) | (simp only [hji25] at H ⊢; exact H)
                (try rw [hji25] at A22)
                have hji25_ : (if (rd y166 t169) < t162 then t162 else (rd y166 t169)) = ji25 := hji25
                obtain ⟨y171, hy171⟩ : ∃ y_ : List Int, y_ = (y166.set (t169 : Int).toNat (ji25)) := ⟨_, rfl⟩
                replace H : (if x165000_1.length < 5864062014805 then (telemeterref07_Add.l0 k1 a1 t162 (wrap64 (x9_1 + 1)) l0_0 a0_1 a0_2 a0_3 (x165000_1 ++ [y171]) a0_1 a0_2 t163) else (none)) = some (r1, r2, r3, r4) := by first | (rw [hy171]; with_reducible exact H) | (have H2_ := (Option.bind_some _ _).symm.trans H; rw [hy171]; with_reducible exact H2_) | (have H2_ := (Option.bind_some _ _).symm.trans H; with_reducible exact H2_) | with_reducible exact H | (rw [hy171]; exact H) | exact H
                have Ny171 := Aside0.mk hy171
                clear hy171
                by_cases c27 : x165000_1.length < 5864062014805
                · rw [if_pos c27] at H
                  have LMc27 := Aside0.mk c27
                  clear c27
                  obtain ⟨y172, hy172⟩ : ∃ y_ : List (List Int), y_ = (x165000_1 ++ [y171]) := ⟨_, rfl⟩
                  replace H : (telemeterref07_Add.l0 k1 a1 t162 (wrap64 (x9_1 + 1)) l0_0 a0_1 a0_2 a0_3 y172 a0_1 a0_2 t163) = some (r1, r2, r3, r4) := by first | (rw [hy172]; with_reducible exact H) | (have H2_ := (Option.bind_some _ _).symm.trans H; rw [hy172]; with_reducible exact H2_) | (have H2_ := (Option.bind_some _ _).symm.trans H; with_reducible exact H2_) | with_reducible exact H | (rw [hy172]; exact H) | exact H
                  have Ny172 := Aside0.mk hy172
                  clear hy172
                  have H' := Aside0.mk H
                  clear H
                  have hnb28 := NB159_160.out
                  have hnc28 := NB160_159.out
                  have hnb29 := NB159_164.out
                  have hnc29 := NB164_159.out
                  have hcz30_0 : wr.cell? ⟨gb159, 0, none⟩ = some (.slice A0_0 l0_0.length c0_0) := (blk_cell BK159.out 0).trans rfl
                  have hcz30_1 : wr.cell? ⟨gb159, 1, none⟩ = some (.int .i64 a0_1) := (blk_cell BK159.out 1).trans rfl
                  have hcz30_2 : wr.cell? ⟨gb159, 2, none⟩ = some (.int .u64 a0_2) := (blk_cell BK159.out 2).trans rfl
                  have hcz30_3 : wr.cell? ⟨gb159, 3, none⟩ = some (.int .u64 a0_3) := (blk_cell BK159.out 3).trans rfl
                  have hfz30_0 := blk_frozen BK159.out 0
                  have hfz30_1 := blk_frozen BK159.out 1
                  have hfz30_2 := blk_frozen BK159.out 2
                  have hfz30_3 := blk_frozen BK159.out 3
                  have p165 : 0 ≤ (x9_1 : Int) := of_decide_eq_true (by first | (with_reducible assumption) | assumption)
                  have q165 : x9_1 < (l0_0.length : Int) := of_decide_eq_true (by first | (with_reducible assumption) | assumption)
                  obtain ⟨ad165, A165_0, c165_0, e165, hx165_0, hl165_0, hi165_0⟩ := at_L2 HR0_0.out x9_1 p165 q165
                  cases e165
                  replace hx165_0 := (HB.out.cell (World.block_lt_of_cell? w _ hx165_0)).trans hx165_0
                  have HR165_0 := Aside0.mk hi165_0
                  have HC165_0 := Aside0.mk hl165_0
                  clear hi165_0 hl165_0
                  replace p165 := eq_true p165
                  replace q165 := eq_true q165
                  go_wp2_with (first | ((with_reducible refine gate_builtin (b := .append) (xs := #[.tmp 33, .tmp 38]) rfl ?_); at_builtin; refine Kd.R_append_rows (Kd.int .u64) (w0 := w) w.heap.size rfl (.tmp 33) (.tmp 38) 60 22 (.int .u64 0) 8 rfl Try.underlying60 info22 rfl (by decide) (by omega) (.slice none 0 0) ([] : List Int) (rd_L2 l0_0 x9_1) _ _ _ (fun _ => True) (fun _ => False) rfl rfl ?aO ?aR (fun _ _ h => h) (fun _ h => h.elim) ?aF ?aB ?aS ?aL ?_; (case aR => repeat (first | exact (Kd.C_below HR165_0.out HB.out) | (with_reducible refine Kd.C_alloc ?_ _) | (with_reducible refine Kd.C_drewN ?_ _) | (with_reducible refine Kd.C_drew ?_))); (case aB => exact (by repeat (first | (with_reducible first | exact HB.out | apply below_alloc | apply pw_below_drewN | apply below_drew1 | refine below_set ?_ GE159.out | refine below_set ?_ GE160.out | refine below_set ?_ GE164.out) | exact HB.out))); (case aF => exact (fun _ _ => trivial)); (case aO => exact ((Kd.R_nil _ _ _ _ (fun _ => True)))); (case aS => exact (below_size (by repeat (first | (with_reducible first | exact HB.out | apply below_alloc | apply pw_below_drewN | apply below_drew1 | refine below_set ?_ GE159.out | refine below_set ?_ GE160.out | refine below_set ?_ GE164.out) | exact HB.out)))); (case aL => have := LMc21.out; omega); intro v167 w31 ho hb hg hat; rw [← Ny166.out] at ho; have n0_ := Aside0.mk (Kd.S_after (Kd.S_apart_nil (by (with_reducible repeat (first | apply Kd.S_alloc | apply Kd.S_drewN | apply Kd.S_drew)); exact HO_165000.out)) hg hat); have n1_ := Aside0.mk (blk_grown (g := gb159) (o := .cells #[.slice (some ad165) l0_0.length c0_0, .int .i64 a0_1, .int .u64 a0_2, .int .u64 a0_3] 36 (0, 0)) (by (with_reducible repeat (first | refine blk_drewN ?_ _ | refine blk_drew ?_ | refine blk_alloc ?_ _)); exact BK159.out) hg (by simp [Value.ownBlock])); have n2_ := Aside0.mk (blk_grown (g := gb160) (o := .cells #[.slice none 0 0, .int .i64 0, .int .u64 0, .int .u64 0] 36 (0, 0)) (by (with_reducible repeat (first | refine blk_drewN ?_ _ | refine blk_drew ?_ | refine blk_alloc ?_ _)); exact BK160.out) hg (by simp [Value.ownBlock])); have n3_ := Aside0.mk (blk_grown (g := gb164) (o := .cells #[u165000, .int .i64 a0_1, .int .u64 a0_2, .int .u64 t163] 36 (0, 0)) (by (with_reducible repeat (first | refine blk_drewN ?_ _ | refine blk_drew ?_ | refine blk_alloc ?_ _)); exact BK164.out) hg (by simp [Value.ownBlock])); have n4_ := Aside0.mk (hb); have n5_ := Aside0.mk (ho); clear HO_165000; clear BK159; clear BK160; clear BK164; clear HB; have HO_165000 := n0_; have BK159 := n1_; have BK160 := n2_; have BK164 := n3_; have HB := n4_; have HO168 := n5_; clear n0_ n1_ n2_ n3_ n4_ n5_; clear ho hb hg hat; have hcz32_0 : w31.cell? ⟨gb159, 0, none⟩ = some (.slice (some ad165) l0_0.length c0_0) := (blk_cell BK159.out 0).trans rfl; have hcz32_1 : w31.cell? ⟨gb159, 1, none⟩ = some (.int .i64 a0_1) := (blk_cell BK159.out 1).trans rfl; have hcz32_2 : w31.cell? ⟨gb159, 2, none⟩ = some (.int .u64 a0_2) := (blk_cell BK159.out 2).trans rfl; have hcz32_3 : w31.cell? ⟨gb159, 3, none⟩ = some (.int .u64 a0_3) := (blk_cell BK159.out 3).trans rfl; have hfz32_0 := blk_frozen BK159.out 0; have hfz32_1 := blk_frozen BK159.out 1; have hfz32_2 := blk_frozen BK159.out 2; have hfz32_3 := blk_frozen BK159.out 3) | ((with_reducible refine gate_callee (f := 25) rfl ?_); refine goesL_ (some 43) rfl rfl Try.func25 (by kernel_rfl) rfl #[.agg #[.slice (some ad165) l0_0.length c0_0, .int .i64 a0_1, .int .u64 a0_2, .int .u64 a0_3], .int .i64 x9_1, .string a1] rfl (by (try simp only [List.map_toArray, List.map_cons, List.map_nil]); first | done | rfl | (simp only [List.length_drop, List.length_take]; rfl)) ?_; (with_reducible refine (telemeterref07_place.calls k1 _ _ l0_0 a0_1 a0_2 a0_3 x9_1 a1 t169 _ ?side1 ?side2 A22.out).mono ?_); (case side1 => repeat (first | exact (Kd.C_below HR0_0.out HB.out) | (with_reducible refine Kd.C_alloc ?_ _) | (with_reducible refine Kd.C_drewN ?_ _) | (with_reducible refine Kd.C_drew ?_))); (case side2 => exact HC0_0.out); rintro e w33 ⟨rfl, hb⟩; refine ⟨_, rfl, ?_⟩; have n0_ := Aside0.mk (Kd.S_below (by (with_reducible repeat (first | apply Kd.S_alloc | apply Kd.S_drewN | apply Kd.S_drew)); exact HO_165000.out) hb); have n1_ := Aside0.mk (Kd.R_below (by (with_reducible repeat (first | apply Kd.R_alloc | apply Kd.R_drewN | apply Kd.R_drew)); exact HO168.out) hb); have n2_ := Aside0.mk (blk_below (g := gb159) (o := .cells #[.slice (some ad165) l0_0.length c0_0, .int .i64 a0_1, .int .u64 a0_2, .int .u64 a0_3] 36 (0, 0)) (by (with_reducible repeat (first | refine blk_drewN ?_ _ | refine blk_drew ?_ | refine blk_alloc ?_ _)); exact BK159.out) hb); have n3_ := Aside0.mk (blk_below (g := gb160) (o := .cells #[.slice none 0 0, .int .i64 0, .int .u64 0, .int .u64 0] 36 (0, 0)) (by (with_reducible repeat (first | refine blk_drewN ?_ _ | refine blk_drew ?_ | refine blk_alloc ?_ _)); exact BK160.out) hb); have n4_ := Aside0.mk (blk_below (g := gb164) (o := .cells #[u165000, .int .i64 a0_1, .int .u64 a0_2, .int .u64 t163] 36 (0, 0)) (by (with_reducible repeat (first | refine blk_drewN ?_ _ | refine blk_drew ?_ | refine blk_alloc ?_ _)); exact BK164.out) hb); have n5_ := Aside0.mk (below_step (by repeat (first | (with_reducible first | exact HB.out | apply below_alloc | apply pw_below_drewN | apply below_drew1 | refine below_set ?_ GE159.out | refine below_set ?_ GE160.out | refine below_set ?_ GE164.out) | exact HB.out)) hb); clear HO_165000; clear HO168; clear BK159; clear BK160; clear BK164; clear HB; have HO_165000 := n0_; have HO168 := n1_; have BK159 := n2_; have BK160 := n3_; have BK164 := n4_; have HB := n5_; clear n0_ n1_ n2_ n3_ n4_ n5_; (try clear hb); (try clear hb2); (try clear hk); (try clear hi); obtain ⟨Ao34, co34, eo34⟩ := Kd.R_slice HO168.out; subst eo34; have p170 : 0 ≤ (t169 : Int) := of_decide_eq_true (by first | (with_reducible assumption) | assumption); have q170 : t169 < (y166.length : Int) := of_decide_eq_true (by first | (with_reducible assumption) | assumption); obtain ⟨ad170, e170, hx170_0⟩ := Kd.at_int (Kd.R_reads' HO168.out).2.2 t169 p170 q170; cases e170; replace p170 := eq_true p170; replace q170 := eq_true q170; have p26 : 0 ≤ (t169 : Int) := of_decide_eq_true (by first | (with_reducible assumption) | assumption); have q26 : (t169 : Int) < ((y166.length : Int) : Int) := of_decide_eq_true (by first | (with_reducible assumption) | assumption); obtain ⟨go26, co26, eo26, gb26, gl26, cl26, HG26⟩ := Kd.R_form HO168.out (by omega); (first | cases eo26 | (injection eo26 with ea_ en_ ec_; (first | subst ea_ | (injection ea_ with ea_; subst ea_)); subst ec_; clear en_)); have GB26 := Aside0.mk gb26; have GG26 := Aside0.mk HG26; clear gb26 gl26 HG26; (first | simp only [add_plain] at hx170_0 | skip); obtain ⟨hx26_0, hf26_0⟩ := Kd.R_celln 0 HO168.out (t169 : Int) p26 q26; replace p26 := eq_true p26; replace q26 := eq_true q26; obtain ⟨hy35_, hz35_⟩ := Kd.R_celln 0 HO168.out (t169 : Int) (of_decide_eq_true (by first | (with_reducible assumption) | assumption)) (of_decide_eq_true (by first | (with_reducible assumption) | assumption)); have HP35 := Kd.R_putg HO168.out (t169 : Int) ji25) | ((with_reducible refine gate_store (t := 22) (p := 52) rfl ?_); refine store_event (t := 22) (p := 52) (v := ?vo_w36) (w1 := (w33.setCell ⟨go26, (t169 : Int).toNat, none⟩ (.int .u64 ji25))) ?hg ?ho ?hn ?hr ?_; (case ho => rfl); (case hg => rfl); (case hn => rfl); (case hr => first | (go_simp; done) | (go_simp; rfl)); intro w36 hw; have hg : w33.grownBy w36 (some go26) := (by rw [hw]; exact HP35.2); have hp_ : Kd.R (Kd.int .u64) 22 w36 w.heap.size (fun _ => True) (.slice (some ⟨go26, 0, none⟩) y166.length co34) y171 := (by rw [hw, Ny171.out]; exact HP35.1); clear HP35; have n0_ := Aside0.mk (Kd.S_after (v := (.slice (some ⟨go26, 0, none⟩) y166.length co34)) (v1 := (.slice (some ⟨go26, 0, none⟩) y166.length co34)) (ok := (fun _ => True)) (by (with_reducible repeat (first | apply Kd.S_alloc | apply Kd.S_drewN | apply Kd.S_drew)); exact HO_165000.out) hg (.inl rfl)); have n1_ := Aside0.mk (blk_grown (g := gb159) (o := .cells #[.slice (some ad165) l0_0.length c0_0, .int .i64 a0_1, .int .u64 a0_2, .int .u64 a0_3] 36 (0, 0)) (by (with_reducible repeat (first | refine blk_drewN ?_ _ | refine blk_drew ?_ | refine blk_alloc ?_ _)); exact BK159.out) hg (Kd.R_ne HO168.out BK159.out (by decide))); have n2_ := Aside0.mk (blk_grown (g := gb160) (o := .cells #[.slice none 0 0, .int .i64 0, .int .u64 0, .int .u64 0] 36 (0, 0)) (by (with_reducible repeat (first | refine blk_drewN ?_ _ | refine blk_drew ?_ | refine blk_alloc ?_ _)); exact BK160.out) hg (Kd.R_ne HO168.out BK160.out (by decide))); have n3_ := Aside0.mk (blk_grown (g := gb164) (o := .cells #[u165000, .int .i64 a0_1, .int .u64 a0_2, .int .u64 t163] 36 (0, 0)) (by (with_reducible repeat (first | refine blk_drewN ?_ _ | refine blk_drew ?_ | refine blk_alloc ?_ _)); exact BK164.out) hg (Kd.R_ne HO168.out BK164.out (by decide))); have n4_ := Aside0.mk (hp_); have n5_ := Aside0.mk ((by rw [hw]; exact below_set (HB.out) GB26.out : Below w.heap.size w w36)); clear HO_165000; clear BK159; clear BK160; clear BK164; clear HO168; clear HB; have HO_165000 := n0_; have BK159 := n1_; have BK160 := n2_; have BK164 := n3_; have HO168 := n4_; have HB := n5_; clear n0_ n1_ n2_ n3_ n4_ n5_; clear hg hw hp_; have hnb37 := NB164_160.out; have hnc37 := NB160_164.out; have hcz38_0 : w36.cell? ⟨gb164, 0, none⟩ = some (u165000) := (blk_cell BK164.out 0).trans rfl; have hcz38_1 : w36.cell? ⟨gb164, 1, none⟩ = some (.int .i64 a0_1) := (blk_cell BK164.out 1).trans rfl; have hcz38_2 : w36.cell? ⟨gb164, 2, none⟩ = some (.int .u64 a0_2) := (blk_cell BK164.out 2).trans rfl; have hcz38_3 : w36.cell? ⟨gb164, 3, none⟩ = some (.int .u64 t163) := (blk_cell BK164.out 3).trans rfl; have hfz38_0 := blk_frozen BK164.out 0; have hfz38_1 := blk_frozen BK164.out 1; have hfz38_2 := blk_frozen BK164.out 2; have hfz38_3 := blk_frozen BK164.out 3) | ((with_reducible refine gate_builtin (b := .append) (xs := #[.tmp 54, .tmp 56]) rfl ?_); at_builtin; refine Kd.S_append (Kd.slice 22 (Kd.int .u64)) (w0 := w) w.heap.size rfl (.tmp 54) (.tmp 56) 34 60 (.slice none 0 0) 24 rfl Try.underlying34 info60 rfl (by decide) (by omega) u165000 x165000_1 y171 [.slice (some ⟨go26, 0, none⟩) y166.length co34] (fun _ => True) (fun k_ => some k_ = (.slice (some ⟨go26, 0, none⟩) y166.length co34 : Value).ownBlock) rfl rfl ?aP (fun k_ hk_ => ((Kd.R_mono (ok' := fun k_ => ((fun _ => True)) k_ ∧ some k_ ≠ (u165000 : Value).ownBlock) (Kd.R_apart' (HO168.out) (Kd.S_typed HO_165000.out) (by decide)) (fun k_ hk => ⟨trivial, hk.2⟩))).1 k_ hk_.symm) ?aF ?aO ?aB ?aS ?aL ?_; (case aP => exact Kd.M_row (Kd.R_mono (Kd.R_tight rfl (Kd.R_mono (ok' := fun k_ => ((fun _ => True)) k_ ∧ some k_ ≠ (u165000 : Value).ownBlock) (Kd.R_apart' (HO168.out) (Kd.S_typed HO_165000.out) (by decide)) (fun k_ hk => ⟨trivial, hk.2⟩))) (fun _ h_ => h_))); (case aB => exact (by repeat (first | (with_reducible first | exact HB.out | apply below_alloc | apply pw_below_drewN | apply below_drew1 | refine below_set ?_ GE159.out | refine below_set ?_ GE160.out | refine below_set ?_ GE164.out) | exact HB.out))); (case aF => exact (fun _ _ => trivial)); (case aO => exact (by (with_reducible repeat (first | apply Kd.S_alloc | apply Kd.S_drewN | apply Kd.S_drew)); exact Kd.S_mono HO_165000.out (fun k_ hk => ⟨trivial, fun e_ => hk.2 e_⟩))); (case aS => exact (below_size (by repeat (first | (with_reducible first | exact HB.out | apply below_alloc | apply pw_below_drewN | apply below_drew1 | refine below_set ?_ GE159.out | refine below_set ?_ GE160.out | refine below_set ?_ GE164.out) | exact HB.out)))); (case aL => have := LMc27.out; omega); intro v173 w39 ho hb hg hat; rw [← Ny172.out] at ho; have n0_ := Aside0.mk (blk_grown (g := gb159) (o := .cells #[.slice (some ad165) l0_0.length c0_0, .int .i64 a0_1, .int .u64 a0_2, .int .u64 a0_3] 36 (0, 0)) (by (with_reducible repeat (first | refine blk_drewN ?_ _ | refine blk_drew ?_ | refine blk_alloc ?_ _)); exact BK159.out) hg (Kd.S_ne HO_165000.out BK159.out (by decide))); have n1_ := Aside0.mk (blk_grown (g := gb160) (o := .cells #[.slice none 0 0, .int .i64 0, .int .u64 0, .int .u64 0] 36 (0, 0)) (by (with_reducible repeat (first | refine blk_drewN ?_ _ | refine blk_drew ?_ | refine blk_alloc ?_ _)); exact BK160.out) hg (Kd.S_ne HO_165000.out BK160.out (by decide))); have n2_ := Aside0.mk (blk_grown (g := gb164) (o := .cells #[u165000, .int .i64 a0_1, .int .u64 a0_2, .int .u64 t163] 36 (0, 0)) (by (with_reducible repeat (first | refine blk_drewN ?_ _ | refine blk_drew ?_ | refine blk_alloc ?_ _)); exact BK164.out) hg (Kd.S_ne HO_165000.out BK164.out (by decide))); have n3_ := Aside0.mk (hb); have n4_ := Aside0.mk (ho); clear BK159; clear BK160; clear BK164; clear HB; clear HO_165000; clear HO168; have BK159 := n0_; have BK160 := n1_; have BK164 := n2_; have HB := n3_; have HO174 := n4_; clear n0_ n1_ n2_ n3_ n4_; clear ho hb hg hat; obtain ⟨Ao40, co40, eo40⟩ := Kd.S_slice HO174.out; subst eo40; have hcz41_0 : w39.cell? ⟨gb164, 0, none⟩ = some (u165000) := (blk_cell BK164.out 0).trans rfl; have hcz41_1 : w39.cell? ⟨gb164, 1, none⟩ = some (.int .i64 a0_1) := (blk_cell BK164.out 1).trans rfl; have hcz41_2 : w39.cell? ⟨gb164, 2, none⟩ = some (.int .u64 a0_2) := (blk_cell BK164.out 2).trans rfl; have hcz41_3 : w39.cell? ⟨gb164, 3, none⟩ = some (.int .u64 t163) := (blk_cell BK164.out 3).trans rfl; have hfz41_0 := blk_frozen BK164.out 0; have hfz41_1 := blk_frozen BK164.out 1; have hfz41_2 := blk_frozen BK164.out 2; have hfz41_3 := blk_frozen BK164.out 3))
                  go_roundg k1
                  case measure => have := HK1.out; omega
                  case rel => exact ⟨(wrap64 (x9_1 + 1)), (y172), (.slice Ao40 y172.length co40), (by first | rfl | (simp; done) | (simp [*]; done)), H', ⟨by have := HK1.out; omega⟩, ⟨by (with_reducible repeat (first | apply Kd.S_alloc | apply Kd.S_drewN | apply Kd.S_drew)); exact Kd.S_mono (Kd.S_far (p := ⟨gb164, 0, none⟩) (Kd.S_types HO174.out BK164.out (by decide)) (fun _ hk => hk.2) (.slice Ao40 y172.length co40)) (fun _ hk => trivial)⟩, ⟨by (with_reducible repeat (first | refine blk_drewN ?_ _ | refine blk_drew ?_ | refine blk_alloc ?_ _)); refine blk_far ?_ NB159_164.out _; (with_reducible repeat (first | refine blk_drewN ?_ _ | refine blk_drew ?_ | refine blk_alloc ?_ _)); exact BK159.out⟩, ⟨by (with_reducible repeat (first | refine blk_drewN ?_ _ | refine blk_drew ?_ | refine blk_alloc ?_ _)); refine blk_far ?_ NB160_164.out _; (with_reducible repeat (first | refine blk_drewN ?_ _ | refine blk_drew ?_ | refine blk_alloc ?_ _)); exact BK160.out⟩, ⟨by (with_reducible repeat (first | refine blk_drewN ?_ _ | refine blk_drew ?_ | refine blk_alloc ?_ _)); refine blk_put (cs := #[u165000, .int .i64 a0_1, .int .u64 a0_2, .int .u64 t163]) ?_ 0 _ rfl; (with_reducible repeat (first | refine blk_drewN ?_ _ | refine blk_drew ?_ | refine blk_alloc ?_ _)); exact BK164.out⟩, ⟨by repeat (first | (with_reducible first | exact HB.out | apply below_alloc | apply pw_below_drewN | apply below_drew1 | refine below_set ?_ GE159.out | refine below_set ?_ GE160.out | refine below_set ?_ GE164.out) | exact HB.out)⟩⟩
                · rw [if_neg c27] at H
                  exact absurd H (by simp)
              · rw [if_neg c24] at H
                exact absurd H (by simp)
            · rw [if_neg c23] at H
              exact absurd H (by simp)
          · rw [if_neg c21] at H
            exact absurd H (by simp)
        · rw [if_neg c20] at H
          exact absurd H (by simp)
      · rw [if_neg c19] at H
        have c19b0 : decide (x9_1 < (l0_0.length : Int)) = false := decide_eq_false c19
        clear c19
        simp only [Option.some.injEq, Prod.mk.injEq] at H
        obtain ⟨rfl, rfl, rfl, rfl⟩ := H
        have hnb42 := NB159_160.out
        have hnc42 := NB160_159.out
        have hnb43 := NB159_164.out
        have hnc43 := NB164_159.out
        have hcz44_0 : wr.cell? ⟨gb159, 0, none⟩ = some (.slice A0_0 l0_0.length c0_0) := (blk_cell BK159.out 0).trans rfl
        have hcz44_1 : wr.cell? ⟨gb159, 1, none⟩ = some (.int .i64 a0_1) := (blk_cell BK159.out 1).trans rfl
        have hcz44_2 : wr.cell? ⟨gb159, 2, none⟩ = some (.int .u64 a0_2) := (blk_cell BK159.out 2).trans rfl
        have hcz44_3 : wr.cell? ⟨gb159, 3, none⟩ = some (.int .u64 a0_3) := (blk_cell BK159.out 3).trans rfl
        have hfz44_0 := blk_frozen BK159.out 0
        have hfz44_1 := blk_frozen BK159.out 1
        have hfz44_2 := blk_frozen BK159.out 2
        have hfz44_3 := blk_frozen BK159.out 3
        have hnb45 := NB164_160.out
        have hnc45 := NB160_164.out
        have hcz46_0 : wr.cell? ⟨gb164, 0, none⟩ = some (u165000) := (blk_cell BK164.out 0).trans rfl
        have hcz46_1 : wr.cell? ⟨gb164, 1, none⟩ = some (.int .i64 a0_1) := (blk_cell BK164.out 1).trans rfl
        have hcz46_2 : wr.cell? ⟨gb164, 2, none⟩ = some (.int .u64 a0_2) := (blk_cell BK164.out 2).trans rfl
        have hcz46_3 : wr.cell? ⟨gb164, 3, none⟩ = some (.int .u64 t163) := (blk_cell BK164.out 3).trans rfl
        have hfz46_0 := blk_frozen BK164.out 0
        have hfz46_1 := blk_frozen BK164.out 1
        have hfz46_2 := blk_frozen BK164.out 2
        have hfz46_3 := blk_frozen BK164.out 3
        obtain ⟨Ao47, co47, eo47⟩ := Kd.S_slice HO_165000.out
        subst eo47
        have hcz48_0 : wr.cell? ⟨gb160, 0, none⟩ = some (.slice none 0 0) := (blk_cell BK160.out 0).trans rfl
        have hcz48_1 : wr.cell? ⟨gb160, 1, none⟩ = some (.int .i64 0) := (blk_cell BK160.out 1).trans rfl
        have hcz48_2 : wr.cell? ⟨gb160, 2, none⟩ = some (.int .u64 0) := (blk_cell BK160.out 2).trans rfl
        have hcz48_3 : wr.cell? ⟨gb160, 3, none⟩ = some (.int .u64 0) := (blk_cell BK160.out 3).trans rfl
        have hfz48_0 := blk_frozen BK160.out 0
        have hfz48_1 := blk_frozen BK160.out 1
        have hfz48_2 := blk_frozen BK160.out 2
        have hfz48_3 := blk_frozen BK160.out 3
        go_wp2
        refine bodyPost_ret (results_cell_row rfl _ _ gb160 36 #[.slice Ao47 x165000_1.length co47, .int .i64 a0_1, .int .u64 a0_2, .int .u64 t163] (0, 0) _ rfl (by (with_reducible repeat (first | refine blk_drewN ?_ _ | refine blk_drew ?_ | refine blk_alloc ?_ _)); refine blk_put (cs := #[.slice Ao47 x165000_1.length co47, .int .i64 a0_1, .int .u64 a0_2, .int .u64 0]) ?_ 3 _ rfl; (with_reducible repeat (first | refine blk_drewN ?_ _ | refine blk_drew ?_ | refine blk_alloc ?_ _)); refine blk_put (cs := #[.slice Ao47 x165000_1.length co47, .int .i64 a0_1, .int .u64 0, .int .u64 0]) ?_ 2 _ rfl; (with_reducible repeat (first | refine blk_drewN ?_ _ | refine blk_drew ?_ | refine blk_alloc ?_ _)); refine blk_put (cs := #[.slice Ao47 x165000_1.length co47, .int .i64 0, .int .u64 0, .int .u64 0]) ?_ 1 _ rfl; (with_reducible repeat (first | refine blk_drewN ?_ _ | refine blk_drew ?_ | refine blk_alloc ?_ _)); refine blk_put (cs := #[.slice none 0 0, .int .i64 0, .int .u64 0, .int .u64 0]) ?_ 0 _ rfl; (with_reducible repeat (first | refine blk_drewN ?_ _ | refine blk_drew ?_ | refine blk_alloc ?_ _)); exact BK160.out) Try.underlying36 rfl (by kernel_rfl)) rfl ?_
        exact ⟨_, by first | rfl | (simp [errW_none, errW_some] <;> rfl) | (simp [*, errW_none, errW_some] <;> rfl), by (with_reducible repeat (first | apply Kd.S_alloc | apply Kd.S_drewN | apply Kd.S_drew)); exact Kd.S_mono (Kd.S_far (p := ⟨gb160, 3, none⟩) (Kd.S_far (p := ⟨gb160, 2, none⟩) (Kd.S_far (p := ⟨gb160, 1, none⟩) (Kd.S_far (p := ⟨gb160, 0, none⟩) (Kd.S_types HO_165000.out BK160.out (by decide)) (fun _ hk => hk.2) (.slice Ao47 x165000_1.length co47)) (fun _ hk => hk.2) (.int .i64 a0_1)) (fun _ hk => hk.2) (.int .u64 a0_2)) (fun _ hk => hk.2) (.int .u64 t163)) (fun _ hk => trivial), by repeat (first | (with_reducible first | exact HB.out | apply below_alloc | apply pw_below_drewN | apply below_drew1 | refine below_set ?_ GE159.out | refine below_set ?_ GE160.out | refine below_set ?_ GE164.out) | exact HB.out)⟩

-- NOT PRINTED: function 14 (telemeterref08_Add)

-- NOT PRINTED: function 4 (telemeterlaw08_WindowCounts)

end Go.Proofs.Ytiohjmpnkoohjaa.PWindowCounts
