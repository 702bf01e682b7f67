-- PRINTED BY print.sh 35421559b90ae4d0a3588c463048766b98c2df88dd9212a6774a882060cdf62d: not written by this session
import Derived.Test.YtiohjmpnkoohjaaPWindowCountsx0
namespace Go.Proofs.Ytiohjmpnkoohjaa.PWindowCounts
open Go.RowKit Go.Proofs.YtiohjmpnkoohjaaW.PrintWords Go.Proofs.YtiohjmpnkoohjaaW.PrintLast Go.Proofs.YtiohjmpnkoohjaaW.PrintMore
attribute [local go_sem] max2_int min2_int max_two min_two max_three min_three max_four min_four   -- for this text's walks alone
set_option linter.unusedVariables false
set_option linter.unusedSimpArgs false

-- NOT PRINTED: function 7 (window_New)

-- NOT PRINTED: function 19 (window_Window_turn)

-- NOT PRINTED: function 36 (hash_steps)

-- NOT PRINTED: function 34 (hash_Mix)

-- NOT PRINTED: function 32 (hash_Of)

-- NOT PRINTED: function 30 (hash_In)

-- NOT PRINTED: function 27 (sketch_Sketch_cell)

-- NOT PRINTED: function 21 (sketch_Sketch_Count)

/-! ### sketch_sum: function 26 -/
def sketch_sum.f (a0 : Int) (a1 : Int) : Option (Int) := if (IntKind.u64.wrap (a0 + a1)) ≥ a0 then (some (IntKind.u64.wrap (a0 + a1))) else (some 18446744073709551615)
set_option maxHeartbeats 8000000 in
set_option maxRecDepth 100000 in
theorem sketch_sum.calls (a0 : Int) (a1 : Int) (r : Int) (w : World) (h : sketch_sum.f a0 a1 = some r) :
    Calls Try.prog 26 #[.int .u64 a0, .int .u64 a1] w fun e w' => e = .returned (.int .u64 r) ∧ Drawn0 w w' := by
  have H : (if (IntKind.u64.wrap (a0 + a1)) ≥ a0 then (some (IntKind.u64.wrap (a0 + a1))) else (some 18446744073709551615)) = some r := h
  clear h
  by_cases c3 : (IntKind.u64.wrap (a0 + a1)) ≥ a0
  · rw [if_pos c3] at H
    have c3b0 : decide (a0 ≤ (IntKind.u64.wrap (a0 + a1))) = true := decide_eq_true c3
    clear c3
    obtain rfl := Option.some.inj H
    go_enter Try.func26, Try.ntmps26
    go_wp2
    go_ret
    exact ⟨by first | rfl | (simp; done) | (simp [*]; done), by repeat (first | exact Drawn0.refl _ | apply Drawn0.step)⟩
  · rw [if_neg c3] at H
    have c3b0 : decide (a0 ≤ (IntKind.u64.wrap (a0 + a1))) = false := decide_eq_false c3
    clear c3
    obtain rfl := Option.some.inj H
    go_enter Try.func26, Try.ntmps26
    go_wp2
    go_ret
    exact ⟨by first | rfl | (simp; done) | (simp [*]; done), by repeat (first | exact Drawn0.refl _ | apply Drawn0.step)⟩

-- NOT PRINTED: function 20 (sketch_Sketch_Add)

-- NOT PRINTED: function 9 (window_Window_Add)

-- NOT PRINTED: function 11 (window_Window_Open)

-- NOT PRINTED: function 12 (window_Window_Closed)

-- NOT PRINTED: function 8 (telemeterlaw08_known)

/-! ### telemeterlaw07_Key: function 10 -/
def telemeterlaw07_Key.f (a0 : Int) : Option (ByteArray) := (some (([(97 + (Int.tmod a0 12)) % 256] : List Int) : List Int)).bind fun y101 => (if 1 + (strOfNums y101).size ≤ 9223372036854775807 then (some ((⟨#[107]⟩ : ByteArray) ++ (strOfNums y101))) else (none))
set_option maxHeartbeats 8000000 in
set_option maxRecDepth 100000 in
theorem telemeterlaw07_Key.calls (a0 : Int) (r : ByteArray) (w : World) (h : telemeterlaw07_Key.f a0 = some r) :
    Calls Try.prog 10 #[.int .u8 a0] w fun e w' => e = .returned (.string r) ∧ Below w.heap.size w w' := by
  have HB := Aside0.mk (Below.refl w.heap.size w)
  have H : ((some (([(97 + (Int.tmod a0 12)) % 256] : List Int) : List Int)).bind fun y101 => (if 1 + (strOfNums y101).size ≤ 9223372036854775807 then (some ((⟨#[107]⟩ : ByteArray) ++ (strOfNums y101))) else (none))) = some r := h
  clear h
  obtain ⟨y101, hy101⟩ : ∃ y_ : List Int, y_ = (([(97 + (Int.tmod a0 12)) % 256] : List Int)) := ⟨_, rfl⟩
  replace H : (if 1 + (strOfNums y101).size ≤ 9223372036854775807 then (some ((⟨#[107]⟩ : ByteArray) ++ (strOfNums y101))) else (none)) = some r := by first | (rw [hy101]; with_reducible exact H) | (have H2_ := (Option.bind_some _ _).symm.trans H; rw [hy101]; with_reducible exact H2_) | (have H2_ := (Option.bind_some _ _).symm.trans H; with_reducible exact H2_) | with_reducible exact H | (rw [hy101]; exact H) | exact H
  have Ny101 := Aside0.mk hy101
  clear hy101
  by_cases c2 : 1 + (strOfNums y101).size ≤ 9223372036854775807
  · rw [if_pos c2] at H
    have c2b0 := eq_true c2
    have c2b1 : decide (1 + (strOfNums y101).size ≤ 9223372036854775807) = true := decide_eq_true c2
    try have c2b2 : (9223372036854775807 < 1 + (strOfNums y101).size) = False := eq_false (Nat.not_lt.2 c2)
    obtain rfl := Option.some.inj H
    go_enter Try.func10, Try.ntmps10
    go_wp2_with (first | ((with_reducible refine gate_dst (N := 6) rfl ?_); refine Kd.R_lit (Kd.int .u8) _ 5 ?hg (N := 6) ?hd (xs := ([(97 + (Int.tmod a0 12)) % 256] : List Int)) (inner := [.int .u8 ((97 + (Int.tmod a0 12)) % 256)]) (ok := fun _ => True) (okp := fun _ => True) ?hr ?hp (fun _ hk => hk) trivial (Below.refl _ _) (Nat.le_refl _) (by simp) ?_; (case hd => rfl); (case hg => rfl); (case hr => first | (go_simp; done) | (go_simp; rfl)); (case hp => exact (Reps.one (show Kd.M (Kd.int .u8) _ _ _ ((97 + (Int.tmod a0 12)) % 256) [.int .u8 ((97 + (Int.tmod a0 12)) % 256)] from rfl) (Reps.none _ _))); intro v102 w3 ho4 hb hg_ hnew_; clear hg_ hnew_; (first | rw [← Ny101.out] at ho4 | (simp only [Int.reduceToNat] at ho4; rw [← Ny101.out] at ho4)); have n0_ := Aside0.mk (Kd.R_lower ho4 (below_size (by repeat (first | (with_reducible first | exact HB.out | apply below_alloc | apply pw_below_drewN | apply below_drew1) | exact HB.out)))); have n1_ := Aside0.mk (below_step (by repeat (first | (with_reducible first | exact HB.out | apply below_alloc | apply pw_below_drewN | apply below_drew1) | exact HB.out)) hb); clear HB; have HO103 := n0_; have HB := n1_; clear n0_ n1_; clear hb ho4; have hcv5 := own_string (P := Try.prog) Try.underlying23 Try.underlying5 Try.underlying9 (Kd.own_of_R HO103.out)))
    go_ret
    exact ⟨by first | rfl | (simp [errW_none, errW_some] <;> rfl) | (simp [*, errW_none, errW_some] <;> rfl), by repeat (first | (with_reducible first | exact HB.out | apply below_alloc | apply pw_below_drewN | apply below_drew1) | exact HB.out)⟩
  · rw [if_neg c2] at H
    exact absurd H (by simp)

/-! ### telemeterref07_New: function 22 -/
mutual
def telemeterref07_New.j0 : Nat → Int → Int → Int → Bool → Option ((List (List Int)) × Int × Int × Int × Bool)
  | 0, _, _, _, _ => none
  | k + 1, x0, x1, x2, x23 => if x23 = true then (some (([] : List (List Int)), 0, 0, 0, false)) else (telemeterref07_New.l0 k x0 x1 0 ([] : List (List Int)) x1 x2 0)
def telemeterref07_New.l0 : Nat → Int → Int → Int → List (List Int) → Int → Int → Int → Option ((List (List Int)) × Int × Int × Int × Bool)
  | 0, _, _, _, _, _, _, _ => none
  | k + 1, x0, x1, x9, x106000, x106001, x106002, x106003 => if x9 < x0 then (if 0 ≤ x1 then (if (x1 : Int).toNat ≤ 35184372088832 then (if x106000.length < 5864062014805 then (telemeterref07_New.l0 k x0 x1 (wrap64 (x9 + 1)) (x106000 ++ [(List.replicate (x1 : Int).toNat 0)]) x106001 x106002 x106003) else (none)) else (none)) else (none)) else (some (x106000, x106001, x106002, x106003, true))
end
def telemeterref07_New.f (k : Nat) (a0 : Int) (a1 : Int) (a2 : Int) : Option ((List (List Int)) × Int × Int × Int × Bool) := if a0 < 1 then (telemeterref07_New.j0 k a0 a1 a2 true) else (if a0 > 8 then (telemeterref07_New.j0 k a0 a1 a2 true) else (if a1 < 1 then (telemeterref07_New.j0 k a0 a1 a2 true) else (telemeterref07_New.j0 k a0 a1 a2 (decide (a1 > 1024)))))
theorem telemeterref07_New.mono_l : ∀ k, (∀ y0 y1 y2 y3, LeO (telemeterref07_New.j0 k y0 y1 y2 y3) (telemeterref07_New.j0 (k + 1) y0 y1 y2 y3)) ∧ (∀ y0 y1 y2 y3 y4 y5 y6, LeO (telemeterref07_New.l0 k y0 y1 y2 y3 y4 y5 y6) (telemeterref07_New.l0 (k + 1) y0 y1 y2 y3 y4 y5 y6))
  | 0 => ⟨fun _ _ _ _ r h => by simp [telemeterref07_New.j0] at h, fun _ _ _ _ _ _ _ r h => by simp [telemeterref07_New.l0] at h⟩
  | k + 1 => by
    obtain ⟨ih0, ih1⟩ := telemeterref07_New.mono_l k
    refine ⟨?_, ?_⟩
    · intro y0 y1 y2 y3
      unfold telemeterref07_New.j0
      repeat' first
      | (with_reducible exact ih0 _ _ _ _)
      | (with_reducible exact ih1 _ _ _ _ _ _ _)
      | (with_reducible exact LeO.refl _)
      | (with_reducible exact LeO.none _)
      | (with_reducible refine LeO.ite ?_ ?_)
      | (with_reducible refine LeO.bind ?_ (fun _ => ?_))
      | exact ih0 _ _ _ _
      | exact ih1 _ _ _ _ _ _ _
      | exact LeO.none _
      | refine LeO.ite ?_ ?_
      | refine LeO.bind ?_ (fun _ => ?_)
    · intro y0 y1 y2 y3 y4 y5 y6
      unfold telemeterref07_New.l0
      repeat' first
      | (with_reducible exact ih0 _ _ _ _)
      | (with_reducible exact ih1 _ _ _ _ _ _ _)
      | (with_reducible exact LeO.refl _)
      | (with_reducible exact LeO.none _)
      | (with_reducible refine LeO.ite ?_ ?_)
      | (with_reducible refine LeO.bind ?_ (fun _ => ?_))
      | exact ih0 _ _ _ _
      | exact ih1 _ _ _ _ _ _ _
      | exact LeO.none _
      | refine LeO.ite ?_ ?_
      | refine LeO.bind ?_ (fun _ => ?_)
theorem telemeterref07_New.mono : ∀ a0 a1 a2 k, LeO (telemeterref07_New.f k a0 a1 a2) (telemeterref07_New.f (k + 1) a0 a1 a2) := by
  intro a0 a1 a2 k
  obtain ⟨ih0, ih1⟩ := telemeterref07_New.mono_l k
  unfold telemeterref07_New.f
  repeat' first
      | (with_reducible exact ih0 _ _ _ _)
      | (with_reducible exact ih1 _ _ _ _ _ _ _)
      | (with_reducible exact LeO.refl _)
      | (with_reducible exact LeO.none _)
      | (with_reducible refine LeO.ite ?_ ?_)
      | (with_reducible refine LeO.bind ?_ (fun _ => ?_))
      | exact ih0 _ _ _ _
      | exact ih1 _ _ _ _ _ _ _
      | exact LeO.none _
      | refine LeO.ite ?_ ?_
      | refine LeO.bind ?_ (fun _ => ?_)
def telemeterref07_New.T7 : Bool × List (List Nat × List Nat) := (true, [([], []), ([0], [0]), ([], []), ([2, 2], [2]), ([3], [3]), ([1, 4], [1, 4]), ([0, 1, 2, 3, 4, 5], []), ([6, 5, 5, 0, 1, 2, 3, 4, 5], [5, 6])])
def telemeterref07_New.B7 : List Nat := [0, 1, 0, 4, 12, 31, 63, 127]
theorem telemeterref07_New.tab7 : rtab .any (opsOf Try.f22 7) = telemeterref07_New.T7 := by kernel_rfl
theorem telemeterref07_New.bits7 : waitsOk telemeterref07_New.T7.2 telemeterref07_New.B7 = true := by kernel_rfl
set_option maxHeartbeats 8000000 in
set_option maxRecDepth 100000 in
theorem telemeterref07_New.calls (k : Nat) (a0 : Int) (a1 : Int) (a2 : Int) (r1 : List (List Int)) (r2 : Int) (r3 : Int) (r4 : Int) (r5 : Bool) (w : World) (h : telemeterref07_New.f k a0 a1 a2 = some (r1, r2, r3, r4, r5)) :
    Calls Try.prog 22 #[.int .i64 a0, .int .i64 a1, .int .u64 a2] w fun e w' => ∃ v0_ : Value, e = .returned (.tuple #[.agg #[v0_, .int .i64 r2, .int .u64 r3, .int .u64 r4], .bool r5]) ∧ Kd.S (Kd.slice 22 (Kd.int .u64)) 60 w' w.heap.size (fun _ => True) v0_ r1 ∧ Below w.heap.size w w' := by
  have hu36 := Try.underlying36
  have HB := Aside0.mk (Below.refl w.heap.size w)
  have H : (if a0 < 1 then (telemeterref07_New.j0 k a0 a1 a2 true) else (if a0 > 8 then (telemeterref07_New.j0 k a0 a1 a2 true) else (if a1 < 1 then (telemeterref07_New.j0 k a0 a1 a2 true) else (telemeterref07_New.j0 k a0 a1 a2 (decide (a1 > 1024)))))) = some (r1, r2, r3, r4, r5) := h
  clear h
  have HC4 := Aside0.mk H
  clear H
  go_enter Try.func22, Try.ntmps22
  go_upto_region 1 with (first | ((with_reducible refine gate_dst (N := 6) rfl ?_); refine box_event ?hg (N := 6) ?hd (cs := #[.slice none 0 0, .int .i64 0, .int .u64 0, .int .u64 0]) (t := 36) ?hr ?_; (case hd => rfl); (case hg => rfl); (case hr => first | (go_simp; done) | (go_simp; rfl)); intro gb104 hg w5 hbox hb; have n0_ := Aside0.mk (below_step (by repeat (first | (with_reducible first | exact HB.out | apply below_alloc | apply pw_below_drewN | apply below_drew1) | exact HB.out)) hb); have n1_ := Aside0.mk (hbox); have n2_ := Aside0.mk ((by rw [hg]; exact (below_size (by repeat (first | (with_reducible first | exact HB.out | apply below_alloc | apply pw_below_drewN | apply below_drew1) | exact HB.out))) : w.heap.size ≤ gb104)); have n3_ := Aside0.mk ((by rw [hg]; exact (below_size (by repeat (first | (with_reducible first | exact HB.out | apply below_alloc | apply pw_below_drewN | apply below_drew1) | exact HB.out))) : w.heap.size ≤ gb104)); clear HB; have HB := n0_; have BK104 := n1_; have GW104 := n2_; have GE104 := n3_; clear n0_ n1_ n2_ n3_; clear hb hbox hg))
  (try simp only [Act.put, List.setIfInBounds_toArray, List.set_cons_zero, List.set_cons_succ])
  go_cut [23] (fun v23 wc => ∃ (kq : Nat) (x23_3 : Bool), v23 = .bool x23_3 ∧ Aside0 (telemeterref07_New.j0 kq a0 a1 a2 x23_3 = some (r1, r2, r3, r4, r5)) ∧ Aside0 (kq ≤ k) ∧ Aside0 (wc.heap[gb104]? = some (.cells #[(.slice none 0 0), .int .i64 0, .int .u64 0, .int .u64 0] 36 (0, 0))) ∧ Aside0 (Below w.heap.size w wc))
  case first =>
    have H := HC4.out
    clear HC4
    by_cases c6 : a0 < 1
    · rw [if_pos c6] at H
      have c6b0 : decide (a0 < 1) = true := decide_eq_true c6
      clear c6
      (first | rw [c6b0] | (simp only [i64_w, i32_w]; rw [c6b0]) | skip)
      have H' := Aside0.mk H
      clear H
      go_wp2
      go_meet
      case rel => exact ⟨_, (true), (by first | rfl | (simp; done) | (simp [*]; done)), H', ⟨by first | omega | exact Nat.le_refl _⟩, ⟨by (with_reducible repeat (first | refine blk_drewN ?_ _ | refine blk_drew ?_ | refine blk_alloc ?_ _)); exact BK104.out⟩, ⟨by repeat (first | (with_reducible first | exact HB.out | apply below_alloc | apply pw_below_drewN | apply below_drew1 | refine below_set ?_ GE104.out) | exact HB.out)⟩⟩
    · rw [if_neg c6] at H
      have c6b0 : decide (a0 < 1) = false := decide_eq_false c6
      clear c6
      (first | rw [c6b0] | (simp only [i64_w, i32_w]; rw [c6b0]) | skip)
      by_cases c7 : a0 > 8
      · rw [if_pos c7] at H
        have c7b0 : decide (8 < a0) = true := decide_eq_true c7
        clear c7
        have H' := Aside0.mk H
        clear H
        go_wp2
        go_meet
        case rel => exact ⟨_, (true), (by first | rfl | (simp; done) | (simp [*]; done)), H', ⟨by first | omega | exact Nat.le_refl _⟩, ⟨by (with_reducible repeat (first | refine blk_drewN ?_ _ | refine blk_drew ?_ | refine blk_alloc ?_ _)); exact BK104.out⟩, ⟨by repeat (first | (with_reducible first | exact HB.out | apply below_alloc | apply pw_below_drewN | apply below_drew1 | refine below_set ?_ GE104.out) | exact HB.out)⟩⟩
      · rw [if_neg c7] at H
        have c7b0 : decide (8 < a0) = false := decide_eq_false c7
        clear c7
        by_cases c8 : a1 < 1
        · rw [if_pos c8] at H
          have c8b0 : decide (a1 < 1) = true := decide_eq_true c8
          clear c8
          have H' := Aside0.mk H
          clear H
          go_wp2
          go_meet
          case rel => exact ⟨_, (true), (by first | rfl | (simp; done) | (simp [*]; done)), H', ⟨by first | omega | exact Nat.le_refl _⟩, ⟨by (with_reducible repeat (first | refine blk_drewN ?_ _ | refine blk_drew ?_ | refine blk_alloc ?_ _)); exact BK104.out⟩, ⟨by repeat (first | (with_reducible first | exact HB.out | apply below_alloc | apply pw_below_drewN | apply below_drew1 | refine below_set ?_ GE104.out) | exact HB.out)⟩⟩
        · rw [if_neg c8] at H
          have c8b0 : decide (a1 < 1) = false := decide_eq_false c8
          clear c8
          have H' := Aside0.mk H
          clear H
          go_wp2
          go_meet
          case rel => exact ⟨_, (decide (a1 > 1024)), (by first | rfl | (simp; done) | (simp [*]; done)), H', ⟨by first | omega | exact Nat.le_refl _⟩, ⟨by (with_reducible repeat (first | refine blk_drewN ?_ _ | refine blk_drew ?_ | refine blk_alloc ?_ _)); exact BK104.out⟩, ⟨by repeat (first | (with_reducible first | exact HB.out | apply below_alloc | apply pw_below_drewN | apply below_drew1 | refine below_set ?_ GE104.out) | exact HB.out)⟩⟩
  case rest =>
    clear HC4
    try clear c2
    try clear p2
    try clear c6
    try clear c6b0
    try clear c7
    try clear c7b0
    try clear c8
    try clear c8b0
    obtain ⟨kq, x23_3, rfl, HA, HJ3, BK104, HB⟩ := hcut
    cases kq with
    | zero => exact absurd HA.out (by simp [telemeterref07_New.j0])
    | succ kj3 =>
      have H := HA.out
      clear HA
      simp only [telemeterref07_New.j0] at H
      by_cases c9 : x23_3 = true
      · subst c9
        have H1 : (some (([] : List (List Int)), 0, 0, 0, false)) = some (r1, r2, r3, r4, r5) := by rw [if_pos rfl] at H; exact H
        clear H
        have H := H1
        clear H1
        simp only [Option.some.injEq, Prod.mk.injEq] at H
        obtain ⟨rfl, rfl, rfl, rfl, rfl⟩ := H
        have hcz10_0 : wc.cell? ⟨gb104, 0, none⟩ = some (.slice none 0 0) := (blk_cell BK104.out 0).trans rfl
        have hcz10_1 : wc.cell? ⟨gb104, 1, none⟩ = some (.int .i64 0) := (blk_cell BK104.out 1).trans rfl
        have hcz10_2 : wc.cell? ⟨gb104, 2, none⟩ = some (.int .u64 0) := (blk_cell BK104.out 2).trans rfl
        have hcz10_3 : wc.cell? ⟨gb104, 3, none⟩ = some (.int .u64 0) := (blk_cell BK104.out 3).trans rfl
        have hfz10_0 := blk_frozen BK104.out 0
        have hfz10_1 := blk_frozen BK104.out 1
        have hfz10_2 := blk_frozen BK104.out 2
        have hfz10_3 := blk_frozen BK104.out 3
        go_wp2
        refine bodyPost_ret (results_ct rfl _ _ gb104 36 #[.slice none 0 0, .int .i64 0, .int .u64 0, .int .u64 0] (0, 0) _ rfl (by (with_reducible repeat (first | refine blk_drewN ?_ _ | refine blk_drew ?_ | refine blk_alloc ?_ _)); refine blk_put (cs := #[.slice none 0 0, .int .i64 0, .int .u64 0, .int .u64 0]) ?_ 3 _ rfl; (with_reducible repeat (first | refine blk_drewN ?_ _ | refine blk_drew ?_ | refine blk_alloc ?_ _)); refine blk_put (cs := #[.slice none 0 0, .int .i64 0, .int .u64 0, .int .u64 0]) ?_ 2 _ rfl; (with_reducible repeat (first | refine blk_drewN ?_ _ | refine blk_drew ?_ | refine blk_alloc ?_ _)); refine blk_put (cs := #[.slice none 0 0, .int .i64 0, .int .u64 0, .int .u64 0]) ?_ 1 _ rfl; (with_reducible repeat (first | refine blk_drewN ?_ _ | refine blk_drew ?_ | refine blk_alloc ?_ _)); refine blk_put (cs := #[.slice none 0 0, .int .i64 0, .int .u64 0, .int .u64 0]) ?_ 0 _ rfl; (with_reducible repeat (first | refine blk_drewN ?_ _ | refine blk_drew ?_ | refine blk_alloc ?_ _)); exact BK104.out) Try.underlying36 rfl (by kernel_rfl)) rfl ?_
        exact ⟨_, by first | rfl | (simp [errW_none, errW_some] <;> rfl) | (simp [*, errW_none, errW_some] <;> rfl), by first | exact Kd.S_nil _ _ _ _ _ | exact Kd.N_nil _ _ _ _ _ | exact Kd.V_nil _ _ _ _ _ | exact Kd.Q_nil _ _ _ _ _ | exact Kd.R_nil _ _ _ _ _, by repeat (first | (with_reducible first | exact HB.out | apply below_alloc | apply pw_below_drewN | apply below_drew1 | refine below_set ?_ GE104.out) | exact HB.out)⟩
      · replace c9 := Bool.eq_false_iff.mpr c9
        subst c9
        have H1 : (telemeterref07_New.l0 kj3 a0 a1 0 ([] : List (List Int)) a1 a2 0) = some (r1, r2, r3, r4, r5) := by rw [if_neg (show ¬ (false = true) by decide)] at H; exact H
        clear H
        have H := H1
        clear H1
        have H' := Aside0.mk H
        clear H
        go_wp2_with (first | ((with_reducible refine gate_dst (N := 8) rfl ?_); refine box_event ?hg (N := 8) ?hd (cs := #[.slice none 0 0, .int .i64 0, .int .u64 0, .int .u64 0]) (t := 36) ?hr ?_; (case hd => rfl); (case hg => rfl); (case hr => first | (go_simp; done) | (go_simp; rfl)); intro gb105 hg w11 hbox hb; have n0_ := Aside0.mk (blk_below (g := gb104) (o := .cells #[.slice none 0 0, .int .i64 0, .int .u64 0, .int .u64 0] 36 (0, 0)) (by (with_reducible repeat (first | refine blk_drewN ?_ _ | refine blk_drew ?_ | refine blk_alloc ?_ _)); exact BK104.out) hb); have n1_ := Aside0.mk (below_step (by repeat (first | (with_reducible first | exact HB.out | apply below_alloc | apply pw_below_drewN | apply below_drew1 | refine below_set ?_ GE104.out) | exact HB.out)) hb); have n2_ := Aside0.mk (hbox); have n3_ := Aside0.mk ((by rw [hg]; exact (below_size (by repeat (first | (with_reducible first | exact HB.out | apply below_alloc | apply pw_below_drewN | apply below_drew1 | refine below_set ?_ GE104.out) | exact HB.out))) : w.heap.size ≤ gb105)); have n4_ := Aside0.mk ((by rw [hg]; exact (below_size (by repeat (first | (with_reducible first | exact HB.out | apply below_alloc | apply pw_below_drewN | apply below_drew1 | refine below_set ?_ GE104.out) | exact HB.out))) : w.heap.size ≤ gb105)); have n5_ := Aside0.mk ((by rw [hg]; exact Nat.ne_of_lt (blk_lt (g := gb104) (o := .cells #[.slice none 0 0, .int .i64 0, .int .u64 0, .int .u64 0] 36 (0, 0)) (by (with_reducible repeat (first | refine blk_drewN ?_ _ | refine blk_drew ?_ | refine blk_alloc ?_ _)); exact BK104.out)) : gb104 ≠ gb105)); have n6_ := Aside0.mk ((by rw [hg]; exact Nat.ne_of_gt (blk_lt (g := gb104) (o := .cells #[.slice none 0 0, .int .i64 0, .int .u64 0, .int .u64 0] 36 (0, 0)) (by (with_reducible repeat (first | refine blk_drewN ?_ _ | refine blk_drew ?_ | refine blk_alloc ?_ _)); exact BK104.out)) : gb105 ≠ gb104)); clear BK104; clear HB; have BK104 := n0_; have HB := n1_; have BK105 := n2_; have GW105 := n3_; have GE105 := n4_; have NB104_105 := n5_; have NB105_104 := n6_; clear n0_ n1_ n2_ n3_ n4_ n5_ n6_; clear hb hbox hg; have hnb12 := NB105_104.out; have hnc12 := NB104_105.out; have hcz13_0 : w11.cell? ⟨gb105, 0, none⟩ = some (.slice none 0 0) := (blk_cell BK105.out 0).trans rfl; have hcz13_1 : w11.cell? ⟨gb105, 1, none⟩ = some (.int .i64 0) := (blk_cell BK105.out 1).trans rfl; have hcz13_2 : w11.cell? ⟨gb105, 2, none⟩ = some (.int .u64 0) := (blk_cell BK105.out 2).trans rfl; have hcz13_3 : w11.cell? ⟨gb105, 3, none⟩ = some (.int .u64 0) := (blk_cell BK105.out 3).trans rfl; have hfz13_0 := blk_frozen BK105.out 0; have hfz13_1 := blk_frozen BK105.out 1; have hfz13_2 := blk_frozen BK105.out 2; have hfz13_3 := blk_frozen BK105.out 3))
        go_loopg [9] kj3 (fun kq v9 w' => ∃ (x9_2 : Int) (x106000_2 : List (List Int)) (u106000 : Value), v9 = .int .i64 x9_2 ∧ Aside0 (telemeterref07_New.l0 kq a0 a1 x9_2 x106000_2 a1 a2 0 = some (r1, r2, r3, r4, r5)) ∧ Aside0 (kq ≤ kj3) ∧ Aside0 (Kd.S (Kd.slice 22 (Kd.int .u64)) 60 w' w.heap.size (fun _ => True) u106000 x106000_2) ∧ Aside0 (w'.heap[gb104]? = some (.cells #[(.slice none 0 0), .int .i64 0, .int .u64 0, .int .u64 0] 36 (0, 0))) ∧ Aside0 (w'.heap[gb105]? = some (.cells #[u106000, .int .i64 a1, .int .u64 a2, .int .u64 0] 36 (0, 0))) ∧ Aside0 (Below w.heap.size w w'))
        case atStart => exact ⟨(0), (([] : List (List Int))), (.slice none 0 0), (by first | rfl | (simp; done) | (simp [*]; done)), H', ⟨Nat.le_refl _⟩, ⟨by first | exact Kd.S_nil _ _ _ _ _ | exact Kd.N_nil _ _ _ _ _ | exact Kd.V_nil _ _ _ _ _ | exact Kd.Q_nil _ _ _ _ _ | exact Kd.R_nil _ _ _ _ _⟩, ⟨by (with_reducible repeat (first | refine blk_drewN ?_ _ | refine blk_drew ?_ | refine blk_alloc ?_ _)); refine blk_far ?_ NB104_105.out _; (with_reducible repeat (first | refine blk_drewN ?_ _ | refine blk_drew ?_ | refine blk_alloc ?_ _)); refine blk_far ?_ NB104_105.out _; (with_reducible repeat (first | refine blk_drewN ?_ _ | refine blk_drew ?_ | refine blk_alloc ?_ _)); refine blk_far ?_ NB104_105.out _; (with_reducible repeat (first | refine blk_drewN ?_ _ | refine blk_drew ?_ | refine blk_alloc ?_ _)); refine blk_far ?_ NB104_105.out _; (with_reducible repeat (first | refine blk_drewN ?_ _ | refine blk_drew ?_ | refine blk_alloc ?_ _)); exact BK104.out⟩, ⟨by (with_reducible repeat (first | refine blk_drewN ?_ _ | refine blk_drew ?_ | refine blk_alloc ?_ _)); refine blk_put (cs := #[.slice none 0 0, .int .i64 a1, .int .u64 a2, .int .u64 0]) ?_ 3 _ rfl; (with_reducible repeat (first | refine blk_drewN ?_ _ | refine blk_drew ?_ | refine blk_alloc ?_ _)); refine blk_put (cs := #[.slice none 0 0, .int .i64 a1, .int .u64 0, .int .u64 0]) ?_ 2 _ rfl; (with_reducible repeat (first | refine blk_drewN ?_ _ | refine blk_drew ?_ | refine blk_alloc ?_ _)); refine blk_put (cs := #[.slice none 0 0, .int .i64 0, .int .u64 0, .int .u64 0]) ?_ 1 _ rfl; (with_reducible repeat (first | refine blk_drewN ?_ _ | refine blk_drew ?_ | refine blk_alloc ?_ _)); refine blk_put (cs := #[.slice none 0 0, .int .i64 0, .int .u64 0, .int .u64 0]) ?_ 0 _ rfl; (with_reducible repeat (first | refine blk_drewN ?_ _ | refine blk_drew ?_ | refine blk_alloc ?_ _)); exact BK105.out⟩, ⟨by repeat (first | (with_reducible first | exact HB.out | apply below_alloc | apply pw_below_drewN | apply below_drew1 | refine below_set ?_ GE104.out | refine below_set ?_ GE105.out) | exact HB.out)⟩⟩
        case round =>
          clear H'
          try clear c1
          try clear c2
          try clear p2
          try clear c6
          try clear c6b0
          try clear c7
          try clear c7b0
          try clear c8
          try clear c8b0
          try clear c9
          try clear c12
          try clear hcz10_0
          try clear hcz10_1
          try clear hcz10_2
          try clear hcz10_3
          try clear hcz13_0
          try clear hcz13_1
          try clear hcz13_2
          try clear hcz13_3
          try clear hfz10_0
          try clear hfz10_1
          try clear hfz10_2
          try clear hfz10_3
          try clear hfz13_0
          try clear hfz13_1
          try clear hfz13_2
          try clear hfz13_3
          try clear p2
          obtain ⟨x9_2, x106000_2, u106000, rfl, HA, HK2, HO_106000, BK104, BK105, HB⟩ := hrel
          cases gk with
          | zero => exact absurd HA.out (by simp [telemeterref07_New.l0])
          | succ k2 =>
            have H := HA.out
            clear HA
            simp only [telemeterref07_New.l0] at H
            by_cases c14 : x9_2 < a0
            · rw [if_pos c14] at H
              have c14b0 : decide (x9_2 < a0) = true := decide_eq_true c14
              clear c14
              by_cases c15 : 0 ≤ a1
              · rw [if_pos c15] at H
                have c15b0 := eq_true c15
                have c15b1 : decide (0 ≤ a1) = true := decide_eq_true c15
                clear c15
                by_cases c16 : (a1 : Int).toNat ≤ 35184372088832
                · rw [if_pos c16] at H
                  have c16b0 := eq_true c16
                  have c16b1 : decide ((a1 : Int).toNat ≤ 35184372088832) = true := decide_eq_true c16
                  clear c16
                  obtain ⟨y106, hy106⟩ : ∃ y_ : List Int, y_ = (List.replicate (a1 : Int).toNat 0) := ⟨_, rfl⟩
                  replace H : (if x106000_2.length < 5864062014805 then (telemeterref07_New.l0 k2 a0 a1 (wrap64 (x9_2 + 1)) (x106000_2 ++ [y106]) a1 a2 0) else (none)) = some (r1, r2, r3, r4, r5) := by first | (rw [hy106]; with_reducible exact H) | (have H2_ := (Option.bind_some _ _).symm.trans H; rw [hy106]; with_reducible exact H2_) | (have H2_ := (Option.bind_some _ _).symm.trans H; with_reducible exact H2_) | with_reducible exact H | (rw [hy106]; exact H) | exact H
                  have Ny106 := Aside0.mk hy106
                  clear hy106
                  by_cases c17 : x106000_2.length < 5864062014805
                  · rw [if_pos c17] at H
                    have LMc17 := Aside0.mk c17
                    clear c17
                    obtain ⟨y109, hy109⟩ : ∃ y_ : List (List Int), y_ = (x106000_2 ++ [y106]) := ⟨_, rfl⟩
                    replace H : (telemeterref07_New.l0 k2 a0 a1 (wrap64 (x9_2 + 1)) y109 a1 a2 0) = some (r1, r2, r3, r4, r5) := by first | (rw [hy109]; with_reducible exact H) | (have H2_ := (Option.bind_some _ _).symm.trans H; rw [hy109]; with_reducible exact H2_) | (have H2_ := (Option.bind_some _ _).symm.trans H; with_reducible exact H2_) | with_reducible exact H | (rw [hy109]; exact H) | exact H
                    have Ny109 := Aside0.mk hy109
                    clear hy109
                    have H' := Aside0.mk H
                    clear H
                    try go_wp2
                    have n0_ := Aside0.mk (Kd.S_drew HO_106000.out)
                    have n1_ := Aside0.mk (blk_drew BK104.out)
                    have n2_ := Aside0.mk (blk_drew BK105.out)
                    have n3_ := Aside0.mk (below_drew1 HB.out)
                    clear HO_106000
                    clear BK104
                    clear BK105
                    clear HB
                    have HO_106000 := n0_
                    have BK104 := n1_
                    have BK105 := n2_
                    have HB := n3_
                    clear n0_ n1_ n2_ n3_
                    refine start_ (n := 8) (S := fun w' => w'.cell? ⟨gb105, 0, none⟩ = some (u106000) ∧ w'.cell? ⟨gb105, 1, none⟩ = some (.int .i64 a1) ∧ w'.cell? ⟨gb105, 2, none⟩ = some (.int .u64 a2) ∧ w'.cell? ⟨gb105, 3, none⟩ = some (.int .u64 0)) (ds := [7]) #[false, false, false, false, false, false, false, false] (by kernel_rfl) rfl rfl ⟨(blk_cell BK105.out 0).trans rfl, (blk_cell BK105.out 1).trans rfl, (blk_cell BK105.out 2).trans rfl, (blk_cell BK105.out 3).trans rfl⟩ (fun hHeld => ?_); refine with_tabW telemeterref07_New.tab7 telemeterref07_New.bits7 (fun HT_ HW_ => ?_)
                    generalize wr.drew = w18 at HO_106000 BK104 BK105 HB hHeld ⊢
                    refine pure_ (i := 0) (N := some 33) (v := ?_) (a' := ?_) #[true, false, false, false, false, false, false, false] rfl rfl (any_of HT_.out (by kernel_rfl)) (fun _ _ _ h => h) (Or.inl ⟨by rfl, ?_⟩) ?_ ?_
                    rotate_left
                    · intro w'
                      go_simp
                      with_reducible rfl
                    rotate_left
                    · simp only [Act.put, List.setIfInBounds_toArray, List.set_cons_zero, List.set_cons_succ, i64_w, i32_w]
                      rfl
                    refine pure_ (i := 2) (N := some 35) (v := ?_) (a' := ?_) #[true, false, true, false, false, false, false, false] rfl rfl (any_of HT_.out (by kernel_rfl)) (fun _ _ _ h => h) (Or.inl ⟨by rfl, ?_⟩) ?_ ?_
                    rotate_left
                    · intro w'
                      go_simp
                      with_reducible rfl
                    rotate_left
                    · simp only [Act.put, List.setIfInBounds_toArray, List.set_cons_zero, List.set_cons_succ, i64_w, i32_w]
                      rfl
                    refine take_ (i := 1) (N := some 34) (v := ?_) (a' := ?_) #[true, true, true, false, false, false, false, false] rfl rfl (take_ofW HT_.out HW_.out (by kernel_rfl)) (fun _ _ _ h => h) (Or.inl ⟨by rfl, ?_⟩) hHeld ?_ ?_
                    rotate_left
                    · rintro w' ⟨s0, s1, s2, s3⟩
                      go_simp
                      with_reducible rfl
                    rotate_left
                    · simp only [Act.put, List.setIfInBounds_toArray, List.set_cons_zero, List.set_cons_succ, i64_w, i32_w]
                      rfl
                    refine one_ (i := 3) (N := some 36) #[true, true, true, true, false, false, false, false] rfl rfl (one_of HT_.out (by kernel_rfl)) (by decide) (fun K hK => ?_)
                    refine Kd.R_make_step (Kd.int .u64) _ 22 (by rfl) (N := 36) rfl 60 _ _ rfl a1 rfl rfl Try.underlying60 (.int .u64 0) 8 info22 rfl (by decide) (by omega) 0 (ok := fun _ => True) (okp := fun _ => True) rfl (fun _ hk => hk) trivial (of_decide_eq_true (by first | (with_reducible assumption) | assumption)) (Nat.le_trans (Nat.mul_le_mul_right _ (of_decide_eq_true (by first | (with_reducible assumption) | assumption) : a1.toNat ≤ 35184372088832)) (by omega)) (Below.refl _ _) (Nat.le_refl _) ?_
                    intro v107 w19 ho20 hb hg_ hnew_
                    clear hg_ hnew_
                    (first | rw [← Ny106.out] at ho20 | (simp only [Int.reduceToNat] at ho20; rw [← Ny106.out] at ho20))
                    have n0_ := Aside0.mk (Kd.S_elder' (by (with_reducible repeat (first | apply Kd.S_alloc | apply Kd.S_drewN | apply Kd.S_drew)); exact HO_106000.out) (Kd.R_base ho20) hb)
                    have n1_ := Aside0.mk (Kd.R_lower ho20 (below_size (by repeat (first | (with_reducible first | exact HB.out | apply below_alloc | apply pw_below_drewN | apply below_drew1 | refine below_set ?_ GE104.out | refine below_set ?_ GE105.out) | exact HB.out))))
                    have n2_ := Aside0.mk (blk_below (g := gb104) (o := .cells #[.slice none 0 0, .int .i64 0, .int .u64 0, .int .u64 0] 36 (0, 0)) (by (with_reducible repeat (first | refine blk_drewN ?_ _ | refine blk_drew ?_ | refine blk_alloc ?_ _)); exact BK104.out) hb)
                    have n3_ := Aside0.mk (blk_below (g := gb105) (o := .cells #[u106000, .int .i64 a1, .int .u64 a2, .int .u64 0] 36 (0, 0)) (by (with_reducible repeat (first | refine blk_drewN ?_ _ | refine blk_drew ?_ | refine blk_alloc ?_ _)); exact BK105.out) hb)
                    have n4_ := Aside0.mk (below_step (by repeat (first | (with_reducible first | exact HB.out | apply below_alloc | apply pw_below_drewN | apply below_drew1 | refine below_set ?_ GE104.out | refine below_set ?_ GE105.out) | exact HB.out)) hb)
                    clear HO_106000
                    clear BK104
                    clear BK105
                    clear HB
                    have HO_106000 := n0_
                    have HO108 := n1_
                    have BK104 := n2_
                    have BK105 := n3_
                    have HB := n4_
                    clear n0_ n1_ n2_ n3_ n4_
                    clear hb ho20
                    obtain ⟨Ao22, co22, eo22⟩ := Kd.R_slice HO108.out
                    (first | subst eo22 | (injection eo22 with f1_ f2_ f3_; have f4_ := f1_.symm; have f5_ := f3_.symm; clear f1_ f2_ f3_; subst f4_; subst f5_))
                    refine hK.out _ _ ⟨(blk_cell BK105.out 0).trans rfl, (blk_cell BK105.out 1).trans rfl, (blk_cell BK105.out 2).trans rfl, (blk_cell BK105.out 3).trans rfl⟩ (fun hHeld => ?_)
                    clear hK K
                    refine norm_ (a' := ?_) ?_ ?_
                    rotate_left
                    · show Act.put _ (some 36) _ = _
                      simp only [Act.put, List.setIfInBounds_toArray, List.set_cons_zero, List.set_cons_succ, i64_w, i32_w]
                      rfl
                    refine one_ (i := 4) (N := some 37) #[true, true, true, true, true, false, false, false] rfl rfl (one_of HT_.out (by kernel_rfl)) (by decide) (fun K hK => ?_)
                    refine value_ (w1 := ?_) (v := ?_) (by rfl) rfl ?_ ?_
                    rotate_left 2
                    · go_simp
                      constructor
                      · rfl
                      · rfl
                    refine hK.out _ _ ⟨(blk_cell (blk_alloc BK105.out _) 0).trans rfl, (blk_cell (blk_alloc BK105.out _) 1).trans rfl, (blk_cell (blk_alloc BK105.out _) 2).trans rfl, (blk_cell (blk_alloc BK105.out _) 3).trans rfl⟩ (fun hHeld => ?_)
                    clear hK K
                    refine norm_ (a' := ?_) ?_ ?_
                    rotate_left
                    · show Act.put _ (some 37) _ = _
                      simp only [Act.put, List.setIfInBounds_toArray, List.set_cons_zero, List.set_cons_succ, i64_w, i32_w]
                      rfl
                    refine one_ (i := 5) (N := some 38) #[true, true, true, true, true, true, false, false] rfl rfl (one_of HT_.out (by kernel_rfl)) (by decide) (fun K hK => ?_)
                    refine Kd.S_append_step (Kd.slice 22 (Kd.int .u64)) (w0 := w) w.heap.size (by rfl) (.tmp 34) (.tmp 37) 34 60 (.slice none 0 0) 24 rfl Try.underlying34 info60 rfl (by decide) (by omega) u106000 x106000_2 y106 [.slice Ao22 y106.length co22] (fun _ => True) (fun k_ => some k_ = (.slice Ao22 y106.length co22 : Value).ownBlock) rfl rfl ?aP (fun k_ hk_ => ((Kd.R_mono (ok' := fun k_ => ((fun _ => True)) k_ ∧ some k_ ≠ (u106000 : Value).ownBlock) (Kd.R_apart' (HO108.out) (Kd.S_typed HO_106000.out) (by decide)) (fun k_ hk => ⟨trivial, hk.2⟩))).1 k_ hk_.symm) ?aF ?aO ?aB ?aS ?aL ?_
                    (case aP => exact Kd.M_row (Kd.R_mono (Kd.R_tight rfl (Kd.R_mono (ok' := fun k_ => ((fun _ => True)) k_ ∧ some k_ ≠ (u106000 : Value).ownBlock) (Kd.R_apart' (HO108.out) (Kd.S_typed HO_106000.out) (by decide)) (fun k_ hk => ⟨trivial, hk.2⟩))) (fun _ h_ => h_)))
                    (case aB => exact (by repeat (first | (with_reducible first | exact HB.out | apply below_alloc | apply pw_below_drewN | apply below_drew1 | refine below_set ?_ GE104.out | refine below_set ?_ GE105.out) | exact HB.out)))
                    (case aF => exact (fun _ _ => trivial))
                    (case aO => exact (by (with_reducible repeat (first | apply Kd.S_alloc | apply Kd.S_drewN | apply Kd.S_drew)); exact Kd.S_mono HO_106000.out (fun k_ hk => ⟨trivial, fun e_ => hk.2 e_⟩)))
                    (case aS => exact (below_size (by repeat (first | (with_reducible first | exact HB.out | apply below_alloc | apply pw_below_drewN | apply below_drew1 | refine below_set ?_ GE104.out | refine below_set ?_ GE105.out) | exact HB.out))))
                    (case aL => have := LMc17.out; omega)
                    intro v110 w21 ho hb hg hat
                    rw [← Ny109.out] at ho
                    have n0_ := Aside0.mk (blk_grown (g := gb104) (o := .cells #[.slice none 0 0, .int .i64 0, .int .u64 0, .int .u64 0] 36 (0, 0)) (by (with_reducible repeat (first | refine blk_drewN ?_ _ | refine blk_drew ?_ | refine blk_alloc ?_ _)); exact BK104.out) hg (Kd.S_ne HO_106000.out BK104.out (by decide)))
                    have n1_ := Aside0.mk (blk_grown (g := gb105) (o := .cells #[u106000, .int .i64 a1, .int .u64 a2, .int .u64 0] 36 (0, 0)) (by (with_reducible repeat (first | refine blk_drewN ?_ _ | refine blk_drew ?_ | refine blk_alloc ?_ _)); exact BK105.out) hg (Kd.S_ne HO_106000.out BK105.out (by decide)))
                    have n2_ := Aside0.mk (hb)
                    have n3_ := Aside0.mk (ho)
                    clear BK104
                    clear BK105
                    clear HB
                    clear HO_106000
                    clear HO108
                    have BK104 := n0_
                    have BK105 := n1_
                    have HB := n2_
                    have HO111 := n3_
                    clear n0_ n1_ n2_ n3_
                    clear ho hb hg hat
                    obtain ⟨Ao23, co23, eo23⟩ := Kd.S_slice HO111.out
                    (first | subst eo23 | (injection eo23 with f1_ f2_ f3_; have f4_ := f1_.symm; have f5_ := f3_.symm; clear f1_ f2_ f3_; subst f4_; subst f5_))
                    refine hK.out _ _ ⟨(blk_cell BK105.out 0).trans rfl, (blk_cell BK105.out 1).trans rfl, (blk_cell BK105.out 2).trans rfl, (blk_cell BK105.out 3).trans rfl⟩ (fun hHeld => ?_)
                    clear hK K
                    refine norm_ (a' := ?_) ?_ ?_
                    rotate_left
                    · show Act.put _ (some 38) _ = _
                      simp only [Act.put, List.setIfInBounds_toArray, List.set_cons_zero, List.set_cons_succ, i64_w, i32_w]
                      rfl
                    refine pure_ (i := 6) (N := some 39) (v := ?_) (a' := ?_) #[true, true, true, true, true, true, true, false] rfl rfl (any_of HT_.out (by kernel_rfl)) (fun _ _ _ h => h) (Or.inl ⟨by rfl, ?_⟩) ?_ ?_
                    rotate_left
                    · intro w'
                      go_simp
                      with_reducible rfl
                    rotate_left
                    · simp only [Act.put, List.setIfInBounds_toArray, List.set_cons_zero, List.set_cons_succ, i64_w, i32_w]
                      rfl
                    refine last_ (i := 7) (N := none) #[true, true, true, true, true, true, true, true] rfl rfl (one_of HT_.out (by kernel_rfl)) (by decide) (fun K hK => ?_)
                    have hs24 : w21.cell? ⟨gb105, 0, none⟩ = some (u106000) := (blk_cell BK105.out 0).trans rfl
                    have hfs24 := blk_frozen BK105.out 0
                    have hns24_0 := NB104_105.out
                    have hms24_0 := NB105_104.out
                    refine skip_ (w1 := ?_) (by rfl) rfl ?_ ?_
                    rotate_left
                    · go_simp
                      rfl
                    refine hK.out _ _ ?_
                    clear hK K
                    refine done_ (done_of HT_.out (by kernel_rfl)) ?_
                    try go_wp2
                    go_roundg k2
                    case measure => have := HJ3.out; have := HK2.out; omega
                    case rel => exact ⟨(wrap64 (x9_2 + 1)), (y109), (.slice Ao23 y109.length co23), (by first | rfl | (simp; done) | (simp [*]; done)), H', ⟨by have := HJ3.out; have := HK2.out; omega⟩, ⟨by (with_reducible repeat (first | apply Kd.S_alloc | apply Kd.S_drewN | apply Kd.S_drew)); exact Kd.S_mono (Kd.S_far (p := ⟨gb105, 0, none⟩) (Kd.S_types HO111.out BK105.out (by decide)) (fun _ hk => hk.2) (.slice Ao23 y109.length co23)) (fun _ hk => trivial)⟩, ⟨by (with_reducible repeat (first | refine blk_drewN ?_ _ | refine blk_drew ?_ | refine blk_alloc ?_ _)); refine blk_far ?_ NB104_105.out _; (with_reducible repeat (first | refine blk_drewN ?_ _ | refine blk_drew ?_ | refine blk_alloc ?_ _)); exact BK104.out⟩, ⟨by (with_reducible repeat (first | refine blk_drewN ?_ _ | refine blk_drew ?_ | refine blk_alloc ?_ _)); refine blk_put (cs := #[u106000, .int .i64 a1, .int .u64 a2, .int .u64 0]) ?_ 0 _ rfl; (with_reducible repeat (first | refine blk_drewN ?_ _ | refine blk_drew ?_ | refine blk_alloc ?_ _)); exact BK105.out⟩, ⟨by repeat (first | (with_reducible first | exact HB.out | apply below_alloc | apply pw_below_drewN | apply below_drew1 | refine below_set ?_ GE104.out | refine below_set ?_ GE105.out) | exact HB.out)⟩⟩
                  · rw [if_neg c17] at H
                    exact absurd H (by simp)
                · rw [if_neg c16] at H
                  exact absurd H (by simp)
              · rw [if_neg c15] at H
                exact absurd H (by simp)
            · rw [if_neg c14] at H
              have c14b0 : decide (x9_2 < a0) = false := decide_eq_false c14
              clear c14
              simp only [Option.some.injEq, Prod.mk.injEq] at H
              obtain ⟨rfl, rfl, rfl, rfl, rfl⟩ := H
              have hnb25 := NB105_104.out
              have hnc25 := NB104_105.out
              have hcz26_0 : wr.cell? ⟨gb105, 0, none⟩ = some (u106000) := (blk_cell BK105.out 0).trans rfl
              have hcz26_1 : wr.cell? ⟨gb105, 1, none⟩ = some (.int .i64 a1) := (blk_cell BK105.out 1).trans rfl
              have hcz26_2 : wr.cell? ⟨gb105, 2, none⟩ = some (.int .u64 a2) := (blk_cell BK105.out 2).trans rfl
              have hcz26_3 : wr.cell? ⟨gb105, 3, none⟩ = some (.int .u64 0) := (blk_cell BK105.out 3).trans rfl
              have hfz26_0 := blk_frozen BK105.out 0
              have hfz26_1 := blk_frozen BK105.out 1
              have hfz26_2 := blk_frozen BK105.out 2
              have hfz26_3 := blk_frozen BK105.out 3
              obtain ⟨Ao27, co27, eo27⟩ := Kd.S_slice HO_106000.out
              subst eo27
              have hcz28_0 : wr.cell? ⟨gb104, 0, none⟩ = some (.slice none 0 0) := (blk_cell BK104.out 0).trans rfl
              have hcz28_1 : wr.cell? ⟨gb104, 1, none⟩ = some (.int .i64 0) := (blk_cell BK104.out 1).trans rfl
              have hcz28_2 : wr.cell? ⟨gb104, 2, none⟩ = some (.int .u64 0) := (blk_cell BK104.out 2).trans rfl
              have hcz28_3 : wr.cell? ⟨gb104, 3, none⟩ = some (.int .u64 0) := (blk_cell BK104.out 3).trans rfl
              have hfz28_0 := blk_frozen BK104.out 0
              have hfz28_1 := blk_frozen BK104.out 1
              have hfz28_2 := blk_frozen BK104.out 2
              have hfz28_3 := blk_frozen BK104.out 3
              go_wp2
              refine bodyPost_ret (results_ct rfl _ _ gb104 36 #[.slice Ao27 x106000_2.length co27, .int .i64 a1, .int .u64 a2, .int .u64 0] (0, 0) _ rfl (by (with_reducible repeat (first | refine blk_drewN ?_ _ | refine blk_drew ?_ | refine blk_alloc ?_ _)); refine blk_put (cs := #[.slice Ao27 x106000_2.length co27, .int .i64 a1, .int .u64 a2, .int .u64 0]) ?_ 3 _ rfl; (with_reducible repeat (first | refine blk_drewN ?_ _ | refine blk_drew ?_ | refine blk_alloc ?_ _)); refine blk_put (cs := #[.slice Ao27 x106000_2.length co27, .int .i64 a1, .int .u64 0, .int .u64 0]) ?_ 2 _ rfl; (with_reducible repeat (first | refine blk_drewN ?_ _ | refine blk_drew ?_ | refine blk_alloc ?_ _)); refine blk_put (cs := #[.slice Ao27 x106000_2.length co27, .int .i64 0, .int .u64 0, .int .u64 0]) ?_ 1 _ rfl; (with_reducible repeat (first | refine blk_drewN ?_ _ | refine blk_drew ?_ | refine blk_alloc ?_ _)); refine blk_put (cs := #[.slice none 0 0, .int .i64 0, .int .u64 0, .int .u64 0]) ?_ 0 _ rfl; (with_reducible repeat (first | refine blk_drewN ?_ _ | refine blk_drew ?_ | refine blk_alloc ?_ _)); exact BK104.out) Try.underlying36 rfl (by kernel_rfl)) rfl ?_
              exact ⟨_, by first | rfl | (simp [errW_none, errW_some] <;> rfl) | (simp [*, errW_none, errW_some] <;> rfl), by (with_reducible repeat (first | apply Kd.S_alloc | apply Kd.S_drewN | apply Kd.S_drew)); exact Kd.S_mono (Kd.S_far (p := ⟨gb104, 3, none⟩) (Kd.S_far (p := ⟨gb104, 2, none⟩) (Kd.S_far (p := ⟨gb104, 1, none⟩) (Kd.S_far (p := ⟨gb104, 0, none⟩) (Kd.S_types HO_106000.out BK104.out (by decide)) (fun _ hk => hk.2) (.slice Ao27 x106000_2.length co27)) (fun _ hk => hk.2) (.int .i64 a1)) (fun _ hk => hk.2) (.int .u64 a2)) (fun _ hk => hk.2) (.int .u64 0)) (fun _ hk => trivial), by repeat (first | (with_reducible first | exact HB.out | apply below_alloc | apply pw_below_drewN | apply below_drew1 | refine below_set ?_ GE104.out | refine below_set ?_ GE105.out) | exact HB.out)⟩

/-! ### telemeterref08_New: function 13 -/
def telemeterref08_New.f (k : Nat) (a0 : Int) (a1 : Int) (a2 : Int) (a3 : Int) : Option (Int × Int × Int × Int × Int × (List (List Int)) × Int × Int × Int × (List (List Int)) × Int × Int × Int × Bool) := (telemeterref07_New.f k a0 a1 a2).bind fun bt113 => (if bt113.2.2.2.2 = true then (if a3 < 1 then (some (0, 0, 0, 0, 0, ([] : List (List Int)), 0, 0, 0, ([] : List (List Int)), 0, 0, 0, false)) else (if a3 > 1099511627776 then (some (0, 0, 0, 0, 0, ([] : List (List Int)), 0, 0, 0, ([] : List (List Int)), 0, 0, 0, false)) else ((telemeterref07_New.f k a0 a1 (IntKind.u64.wrap (a2 - 1))).bind fun bt121 => (some (a0, a1, a2, a3, 0, bt121.1, bt121.2.1, bt121.2.2.1, bt121.2.2.2.1, bt113.1, bt113.2.1, bt113.2.2.1, bt113.2.2.2.1, true))))) else (some (0, 0, 0, 0, 0, ([] : List (List Int)), 0, 0, 0, ([] : List (List Int)), 0, 0, 0, false)))
theorem telemeterref08_New.mono : ∀ a0 a1 a2 a3 k, LeO (telemeterref08_New.f k a0 a1 a2 a3) (telemeterref08_New.f (k + 1) a0 a1 a2 a3) := by
  intro a0 a1 a2 a3 k
  unfold telemeterref08_New.f
  repeat' first
      | (with_reducible exact telemeterref07_New.mono _ _ _ _)
      | (with_reducible exact LeO.refl _)
      | (with_reducible exact LeO.none _)
      | (with_reducible refine LeO.ite ?_ ?_)
      | (with_reducible refine LeO.bind ?_ (fun _ => ?_))
      | exact telemeterref07_New.mono _ _ _ _
      | exact LeO.none _
      | refine LeO.ite ?_ ?_
      | refine LeO.bind ?_ (fun _ => ?_)
set_option maxHeartbeats 8000000 in
set_option maxRecDepth 100000 in
theorem telemeterref08_New.calls (k : Nat) (a0 : Int) (a1 : Int) (a2 : Int) (a3 : Int) (r1 : Int) (r2 : Int) (r3 : Int) (r4 : Int) (r5 : Int) (r6 : List (List Int)) (r7 : Int) (r8 : Int) (r9 : Int) (r10 : List (List Int)) (r11 : Int) (r12 : Int) (r13 : Int) (r14 : Bool) (w : World) (h : telemeterref08_New.f k a0 a1 a2 a3 = some (r1, r2, r3, r4, r5, r6, r7, r8, r9, r10, r11, r12, r13, r14)) :
    Calls Try.prog 13 #[.int .i64 a0, .int .i64 a1, .int .u64 a2, .int .i64 a3] w fun e w' => ∃ v5_ v9_ : Value, e = .returned (.tuple #[.agg #[.int .i64 r1, .int .i64 r2, .int .u64 r3, .int .i64 r4, .int .i64 r5, v5_, .int .i64 r7, .int .u64 r8, .int .u64 r9, v9_, .int .i64 r11, .int .u64 r12, .int .u64 r13], .bool r14]) ∧ Kd.S (Kd.slice 22 (Kd.int .u64)) 60 w' w.heap.size (fun k_ => some k_ ≠ (v9_ : Value).ownBlock) v5_ r6 ∧ Kd.S (Kd.slice 22 (Kd.int .u64)) 60 w' w.heap.size (fun k_ => some k_ ≠ (v5_ : Value).ownBlock) v9_ r10 ∧ Below w.heap.size w w' := by
  have hu38 := Try.underlying38
  have hu36 := Try.underlying36
  have HB := Aside0.mk (Below.refl w.heap.size w)
  have H : ((telemeterref07_New.f k a0 a1 a2).bind fun bt113 => (if bt113.2.2.2.2 = true then (if a3 < 1 then (some (0, 0, 0, 0, 0, ([] : List (List Int)), 0, 0, 0, ([] : List (List Int)), 0, 0, 0, false)) else (if a3 > 1099511627776 then (some (0, 0, 0, 0, 0, ([] : List (List Int)), 0, 0, 0, ([] : List (List Int)), 0, 0, 0, false)) else ((telemeterref07_New.f k a0 a1 (IntKind.u64.wrap (a2 - 1))).bind fun bt121 => (some (a0, a1, a2, a3, 0, bt121.1, bt121.2.1, bt121.2.2.1, bt121.2.2.2.1, bt113.1, bt113.2.1, bt113.2.2.1, bt113.2.2.2.1, true))))) else (some (0, 0, 0, 0, 0, ([] : List (List Int)), 0, 0, 0, ([] : List (List Int)), 0, 0, 0, false)))) = some (r1, r2, r3, r4, r5, r6, r7, r8, r9, r10, r11, r12, r13, r14) := h
  clear h
  replace H := Option.bind_eq_some_iff.mp H
  obtain ⟨⟨t113, t116, t117, t118, t119⟩, A50, H⟩ := H
  replace H : (if t119 = true then (if a3 < 1 then (some (0, 0, 0, 0, 0, ([] : List (List Int)), 0, 0, 0, ([] : List (List Int)), 0, 0, 0, false)) else (if a3 > 1099511627776 then (some (0, 0, 0, 0, 0, ([] : List (List Int)), 0, 0, 0, ([] : List (List Int)), 0, 0, 0, false)) else ((telemeterref07_New.f k a0 a1 (IntKind.u64.wrap (a2 - 1))).bind fun bt121 => (some (a0, a1, a2, a3, 0, bt121.1, bt121.2.1, bt121.2.2.1, bt121.2.2.2.1, t113, t116, t117, t118, true))))) else (some (0, 0, 0, 0, 0, ([] : List (List Int)), 0, 0, 0, ([] : List (List Int)), 0, 0, 0, false))) = some (r1, r2, r3, r4, r5, r6, r7, r8, r9, r10, r11, r12, r13, r14) := H
  have A5 := Aside0.mk A50
  clear A50
  by_cases c6 : t119 = true
  · subst c6
    have H1 : (if a3 < 1 then (some (0, 0, 0, 0, 0, ([] : List (List Int)), 0, 0, 0, ([] : List (List Int)), 0, 0, 0, false)) else (if a3 > 1099511627776 then (some (0, 0, 0, 0, 0, ([] : List (List Int)), 0, 0, 0, ([] : List (List Int)), 0, 0, 0, false)) else ((telemeterref07_New.f k a0 a1 (IntKind.u64.wrap (a2 - 1))).bind fun bt121 => (some (a0, a1, a2, a3, 0, bt121.1, bt121.2.1, bt121.2.2.1, bt121.2.2.2.1, t113, t116, t117, t118, true))))) = some (r1, r2, r3, r4, r5, r6, r7, r8, r9, r10, r11, r12, r13, r14) := by rw [if_pos rfl] at H; exact H
    clear H
    have H := H1
    clear H1
    by_cases c7 : a3 < 1
    · rw [if_pos c7] at H
      have c7b0 : decide (a3 < 1) = true := decide_eq_true c7
      clear c7
      simp only [Option.some.injEq, Prod.mk.injEq] at H
      obtain ⟨rfl, rfl, rfl, rfl, rfl, rfl, rfl, rfl, rfl, rfl, rfl, rfl, rfl, rfl⟩ := H
      go_enter Try.func13, Try.ntmps13
      go_wp2_with (first | ((with_reducible refine gate_dst (N := 8) rfl ?_); refine box_event ?hg (N := 8) ?hd (cs := #[.int .i64 0, .int .i64 0, .int .u64 0, .int .i64 0, .int .i64 0, .slice none 0 0, .int .i64 0, .int .u64 0, .int .u64 0, .slice none 0 0, .int .i64 0, .int .u64 0, .int .u64 0]) (t := 38) ?hr ?_; (case hd => rfl); (case hg => rfl); (case hr => first | (go_simp; done) | (go_simp; rfl)); intro gb112 hg w8 hbox hb; have n0_ := Aside0.mk (below_step (by repeat (first | (with_reducible first | exact HB.out | apply below_alloc | apply pw_below_drewN | apply below_drew1) | exact HB.out)) hb); have n1_ := Aside0.mk (hbox); have n2_ := Aside0.mk ((by rw [hg]; exact (below_size (by repeat (first | (with_reducible first | exact HB.out | apply below_alloc | apply pw_below_drewN | apply below_drew1) | exact HB.out))) : w.heap.size ≤ gb112)); have n3_ := Aside0.mk ((by rw [hg]; exact (below_size (by repeat (first | (with_reducible first | exact HB.out | apply below_alloc | apply pw_below_drewN | apply below_drew1) | exact HB.out))) : w.heap.size ≤ gb112)); clear HB; have HB := n0_; have BK112 := n1_; have GW112 := n2_; have GE112 := n3_; clear n0_ n1_ n2_ n3_; clear hb hbox hg) | ((with_reducible refine gate_callee (f := 22) rfl ?_); refine goesL_ (some 18) rfl rfl Try.func22 (by kernel_rfl) rfl #[.int .i64 a0, .int .i64 a1, .int .u64 a2] rfl (by (try simp only [List.map_toArray, List.map_cons, List.map_nil]); first | done | rfl | (simp only [List.length_drop, List.length_take]; rfl)) ?_; (with_reducible refine (telemeterref07_New.calls k a0 a1 a2 t113 t116 t117 t118 true _ A5.out).mono ?_); rintro e w9 ⟨v114, rfl, ho0, hb⟩; refine ⟨_, rfl, ?_⟩; have n0_ := Aside0.mk (Kd.S_lower ho0 (below_size (by repeat (first | (with_reducible first | exact HB.out | apply below_alloc | apply pw_below_drewN | apply below_drew1 | refine below_set ?_ GE112.out) | exact HB.out)))); have n1_ := Aside0.mk (blk_below (g := gb112) (o := .cells #[.int .i64 0, .int .i64 0, .int .u64 0, .int .i64 0, .int .i64 0, .slice none 0 0, .int .i64 0, .int .u64 0, .int .u64 0, .slice none 0 0, .int .i64 0, .int .u64 0, .int .u64 0] 38 (0, 0)) (by (with_reducible repeat (first | refine blk_drewN ?_ _ | refine blk_drew ?_ | refine blk_alloc ?_ _)); exact BK112.out) hb); have n2_ := Aside0.mk (below_step (by repeat (first | (with_reducible first | exact HB.out | apply below_alloc | apply pw_below_drewN | apply below_drew1 | refine below_set ?_ GE112.out) | exact HB.out)) hb); clear BK112; clear HB; have HO115 := n0_; have BK112 := n1_; have HB := n2_; clear n0_ n1_ n2_; (try clear hb); (try clear hb2); (try clear hk); (try clear hi); (try clear ho0)) | ((with_reducible refine gate_dst (N := 10) rfl ?_); refine box_event ?hg (N := 10) ?hd (cs := #[.slice none 0 0, .int .i64 0, .int .u64 0, .int .u64 0]) (t := 36) ?hr ?_; (case hd => rfl); (case hg => rfl); (case hr => first | (go_simp; done) | (go_simp; rfl)); intro gb120 hg w10 hbox hb; have n0_ := Aside0.mk (Kd.S_below (by (with_reducible repeat (first | apply Kd.S_alloc | apply Kd.S_drewN | apply Kd.S_drew)); exact HO115.out) hb); have n1_ := Aside0.mk (blk_below (g := gb112) (o := .cells #[.int .i64 0, .int .i64 0, .int .u64 0, .int .i64 0, .int .i64 0, .slice none 0 0, .int .i64 0, .int .u64 0, .int .u64 0, .slice none 0 0, .int .i64 0, .int .u64 0, .int .u64 0] 38 (0, 0)) (by (with_reducible repeat (first | refine blk_drewN ?_ _ | refine blk_drew ?_ | refine blk_alloc ?_ _)); exact BK112.out) hb); have n2_ := Aside0.mk (below_step (by repeat (first | (with_reducible first | exact HB.out | apply below_alloc | apply pw_below_drewN | apply below_drew1 | refine below_set ?_ GE112.out) | exact HB.out)) hb); have n3_ := Aside0.mk (hbox); have n4_ := Aside0.mk ((by rw [hg]; exact (below_size (by repeat (first | (with_reducible first | exact HB.out | apply below_alloc | apply pw_below_drewN | apply below_drew1 | refine below_set ?_ GE112.out) | exact HB.out))) : w.heap.size ≤ gb120)); have n5_ := Aside0.mk ((by rw [hg]; exact (below_size (by repeat (first | (with_reducible first | exact HB.out | apply below_alloc | apply pw_below_drewN | apply below_drew1 | refine below_set ?_ GE112.out) | exact HB.out))) : w.heap.size ≤ gb120)); have n6_ := Aside0.mk ((by rw [hg]; exact Nat.ne_of_lt (blk_lt (g := gb112) (o := .cells #[.int .i64 0, .int .i64 0, .int .u64 0, .int .i64 0, .int .i64 0, .slice none 0 0, .int .i64 0, .int .u64 0, .int .u64 0, .slice none 0 0, .int .i64 0, .int .u64 0, .int .u64 0] 38 (0, 0)) (by (with_reducible repeat (first | refine blk_drewN ?_ _ | refine blk_drew ?_ | refine blk_alloc ?_ _)); exact BK112.out)) : gb112 ≠ gb120)); have n7_ := Aside0.mk ((by rw [hg]; exact Nat.ne_of_gt (blk_lt (g := gb112) (o := .cells #[.int .i64 0, .int .i64 0, .int .u64 0, .int .i64 0, .int .i64 0, .slice none 0 0, .int .i64 0, .int .u64 0, .int .u64 0, .slice none 0 0, .int .i64 0, .int .u64 0, .int .u64 0] 38 (0, 0)) (by (with_reducible repeat (first | refine blk_drewN ?_ _ | refine blk_drew ?_ | refine blk_alloc ?_ _)); exact BK112.out)) : gb120 ≠ gb112)); clear HO115; clear BK112; clear HB; have HO115 := n0_; have BK112 := n1_; have HB := n2_; have BK120 := n3_; have GW120 := n4_; have GE120 := n5_; have NB112_120 := n6_; have NB120_112 := n7_; clear n0_ n1_ n2_ n3_ n4_ n5_ n6_ n7_; clear hb hbox hg; obtain ⟨Ao11, co11, eo11⟩ := Kd.S_slice HO115.out; subst eo11; have hnb12 := NB120_112.out; have hnc12 := NB112_120.out; have hcz13_0 : w10.cell? ⟨gb120, 0, none⟩ = some (.slice none 0 0) := (blk_cell BK120.out 0).trans rfl; have hcz13_1 : w10.cell? ⟨gb120, 1, none⟩ = some (.int .i64 0) := (blk_cell BK120.out 1).trans rfl; have hcz13_2 : w10.cell? ⟨gb120, 2, none⟩ = some (.int .u64 0) := (blk_cell BK120.out 2).trans rfl; have hcz13_3 : w10.cell? ⟨gb120, 3, none⟩ = some (.int .u64 0) := (blk_cell BK120.out 3).trans rfl; have hfz13_0 := blk_frozen BK120.out 0; have hfz13_1 := blk_frozen BK120.out 1; have hfz13_2 := blk_frozen BK120.out 2; have hfz13_3 := blk_frozen BK120.out 3; have hcz14_0 : w10.cell? ⟨gb112, 0, none⟩ = some (.int .i64 0) := (blk_cell BK112.out 0).trans rfl; have hcz14_1 : w10.cell? ⟨gb112, 1, none⟩ = some (.int .i64 0) := (blk_cell BK112.out 1).trans rfl; have hcz14_2 : w10.cell? ⟨gb112, 2, none⟩ = some (.int .u64 0) := (blk_cell BK112.out 2).trans rfl; have hcz14_3 : w10.cell? ⟨gb112, 3, none⟩ = some (.int .i64 0) := (blk_cell BK112.out 3).trans rfl; have hcz14_4 : w10.cell? ⟨gb112, 4, none⟩ = some (.int .i64 0) := (blk_cell BK112.out 4).trans rfl; have hcz14_5 : w10.cell? ⟨gb112, 5, none⟩ = some (.slice none 0 0) := (blk_cell BK112.out 5).trans rfl; have hcz14_6 : w10.cell? ⟨gb112, 6, none⟩ = some (.int .i64 0) := (blk_cell BK112.out 6).trans rfl; have hcz14_7 : w10.cell? ⟨gb112, 7, none⟩ = some (.int .u64 0) := (blk_cell BK112.out 7).trans rfl; have hcz14_8 : w10.cell? ⟨gb112, 8, none⟩ = some (.int .u64 0) := (blk_cell BK112.out 8).trans rfl; have hcz14_9 : w10.cell? ⟨gb112, 9, none⟩ = some (.slice none 0 0) := (blk_cell BK112.out 9).trans rfl; have hcz14_10 : w10.cell? ⟨gb112, 10, none⟩ = some (.int .i64 0) := (blk_cell BK112.out 10).trans rfl; have hcz14_11 : w10.cell? ⟨gb112, 11, none⟩ = some (.int .u64 0) := (blk_cell BK112.out 11).trans rfl; have hcz14_12 : w10.cell? ⟨gb112, 12, none⟩ = some (.int .u64 0) := (blk_cell BK112.out 12).trans rfl; have hfz14_0 := blk_frozen BK112.out 0; have hfz14_1 := blk_frozen BK112.out 1; have hfz14_2 := blk_frozen BK112.out 2; have hfz14_3 := blk_frozen BK112.out 3; have hfz14_4 := blk_frozen BK112.out 4; have hfz14_5 := blk_frozen BK112.out 5; have hfz14_6 := blk_frozen BK112.out 6; have hfz14_7 := blk_frozen BK112.out 7; have hfz14_8 := blk_frozen BK112.out 8; have hfz14_9 := blk_frozen BK112.out 9; have hfz14_10 := blk_frozen BK112.out 10; have hfz14_11 := blk_frozen BK112.out 11; have hfz14_12 := blk_frozen BK112.out 12))
      refine bodyPost_ret (results_ct rfl _ _ gb112 38 #[.int .i64 0, .int .i64 0, .int .u64 0, .int .i64 0, .int .i64 0, .slice none 0 0, .int .i64 0, .int .u64 0, .int .u64 0, .slice none 0 0, .int .i64 0, .int .u64 0, .int .u64 0] (0, 0) _ rfl (by (with_reducible repeat (first | refine blk_drewN ?_ _ | refine blk_drew ?_ | refine blk_alloc ?_ _)); refine blk_put (cs := #[.int .i64 0, .int .i64 0, .int .u64 0, .int .i64 0, .int .i64 0, .slice none 0 0, .int .i64 0, .int .u64 0, .int .u64 0, .slice none 0 0, .int .i64 0, .int .u64 0, .int .u64 0]) ?_ 12 _ rfl; (with_reducible repeat (first | refine blk_drewN ?_ _ | refine blk_drew ?_ | refine blk_alloc ?_ _)); refine blk_put (cs := #[.int .i64 0, .int .i64 0, .int .u64 0, .int .i64 0, .int .i64 0, .slice none 0 0, .int .i64 0, .int .u64 0, .int .u64 0, .slice none 0 0, .int .i64 0, .int .u64 0, .int .u64 0]) ?_ 11 _ rfl; (with_reducible repeat (first | refine blk_drewN ?_ _ | refine blk_drew ?_ | refine blk_alloc ?_ _)); refine blk_put (cs := #[.int .i64 0, .int .i64 0, .int .u64 0, .int .i64 0, .int .i64 0, .slice none 0 0, .int .i64 0, .int .u64 0, .int .u64 0, .slice none 0 0, .int .i64 0, .int .u64 0, .int .u64 0]) ?_ 10 _ rfl; (with_reducible repeat (first | refine blk_drewN ?_ _ | refine blk_drew ?_ | refine blk_alloc ?_ _)); refine blk_put (cs := #[.int .i64 0, .int .i64 0, .int .u64 0, .int .i64 0, .int .i64 0, .slice none 0 0, .int .i64 0, .int .u64 0, .int .u64 0, .slice none 0 0, .int .i64 0, .int .u64 0, .int .u64 0]) ?_ 9 _ rfl; (with_reducible repeat (first | refine blk_drewN ?_ _ | refine blk_drew ?_ | refine blk_alloc ?_ _)); refine blk_put (cs := #[.int .i64 0, .int .i64 0, .int .u64 0, .int .i64 0, .int .i64 0, .slice none 0 0, .int .i64 0, .int .u64 0, .int .u64 0, .slice none 0 0, .int .i64 0, .int .u64 0, .int .u64 0]) ?_ 8 _ rfl; (with_reducible repeat (first | refine blk_drewN ?_ _ | refine blk_drew ?_ | refine blk_alloc ?_ _)); refine blk_put (cs := #[.int .i64 0, .int .i64 0, .int .u64 0, .int .i64 0, .int .i64 0, .slice none 0 0, .int .i64 0, .int .u64 0, .int .u64 0, .slice none 0 0, .int .i64 0, .int .u64 0, .int .u64 0]) ?_ 7 _ rfl; (with_reducible repeat (first | refine blk_drewN ?_ _ | refine blk_drew ?_ | refine blk_alloc ?_ _)); refine blk_put (cs := #[.int .i64 0, .int .i64 0, .int .u64 0, .int .i64 0, .int .i64 0, .slice none 0 0, .int .i64 0, .int .u64 0, .int .u64 0, .slice none 0 0, .int .i64 0, .int .u64 0, .int .u64 0]) ?_ 6 _ rfl; (with_reducible repeat (first | refine blk_drewN ?_ _ | refine blk_drew ?_ | refine blk_alloc ?_ _)); refine blk_put (cs := #[.int .i64 0, .int .i64 0, .int .u64 0, .int .i64 0, .int .i64 0, .slice none 0 0, .int .i64 0, .int .u64 0, .int .u64 0, .slice none 0 0, .int .i64 0, .int .u64 0, .int .u64 0]) ?_ 5 _ rfl; (with_reducible repeat (first | refine blk_drewN ?_ _ | refine blk_drew ?_ | refine blk_alloc ?_ _)); refine blk_put (cs := #[.int .i64 0, .int .i64 0, .int .u64 0, .int .i64 0, .int .i64 0, .slice none 0 0, .int .i64 0, .int .u64 0, .int .u64 0, .slice none 0 0, .int .i64 0, .int .u64 0, .int .u64 0]) ?_ 4 _ rfl; (with_reducible repeat (first | refine blk_drewN ?_ _ | refine blk_drew ?_ | refine blk_alloc ?_ _)); refine blk_put (cs := #[.int .i64 0, .int .i64 0, .int .u64 0, .int .i64 0, .int .i64 0, .slice none 0 0, .int .i64 0, .int .u64 0, .int .u64 0, .slice none 0 0, .int .i64 0, .int .u64 0, .int .u64 0]) ?_ 3 _ rfl; (with_reducible repeat (first | refine blk_drewN ?_ _ | refine blk_drew ?_ | refine blk_alloc ?_ _)); refine blk_put (cs := #[.int .i64 0, .int .i64 0, .int .u64 0, .int .i64 0, .int .i64 0, .slice none 0 0, .int .i64 0, .int .u64 0, .int .u64 0, .slice none 0 0, .int .i64 0, .int .u64 0, .int .u64 0]) ?_ 2 _ rfl; (with_reducible repeat (first | refine blk_drewN ?_ _ | refine blk_drew ?_ | refine blk_alloc ?_ _)); refine blk_put (cs := #[.int .i64 0, .int .i64 0, .int .u64 0, .int .i64 0, .int .i64 0, .slice none 0 0, .int .i64 0, .int .u64 0, .int .u64 0, .slice none 0 0, .int .i64 0, .int .u64 0, .int .u64 0]) ?_ 1 _ rfl; (with_reducible repeat (first | refine blk_drewN ?_ _ | refine blk_drew ?_ | refine blk_alloc ?_ _)); refine blk_put (cs := #[.int .i64 0, .int .i64 0, .int .u64 0, .int .i64 0, .int .i64 0, .slice none 0 0, .int .i64 0, .int .u64 0, .int .u64 0, .slice none 0 0, .int .i64 0, .int .u64 0, .int .u64 0]) ?_ 0 _ rfl; (with_reducible repeat (first | refine blk_drewN ?_ _ | refine blk_drew ?_ | refine blk_alloc ?_ _)); refine blk_far ?_ NB112_120.out _; (with_reducible repeat (first | refine blk_drewN ?_ _ | refine blk_drew ?_ | refine blk_alloc ?_ _)); refine blk_far ?_ NB112_120.out _; (with_reducible repeat (first | refine blk_drewN ?_ _ | refine blk_drew ?_ | refine blk_alloc ?_ _)); refine blk_far ?_ NB112_120.out _; (with_reducible repeat (first | refine blk_drewN ?_ _ | refine blk_drew ?_ | refine blk_alloc ?_ _)); refine blk_far ?_ NB112_120.out _; (with_reducible repeat (first | refine blk_drewN ?_ _ | refine blk_drew ?_ | refine blk_alloc ?_ _)); exact BK112.out) Try.underlying38 rfl (by kernel_rfl)) rfl ?_
      exact ⟨_, _, by first | rfl | (simp [errW_none, errW_some] <;> rfl) | (simp [*, errW_none, errW_some] <;> rfl), by first | exact Kd.S_nil _ _ _ _ _ | exact Kd.N_nil _ _ _ _ _ | exact Kd.V_nil _ _ _ _ _ | exact Kd.Q_nil _ _ _ _ _ | exact Kd.R_nil _ _ _ _ _, by first | exact Kd.S_nil _ _ _ _ _ | exact Kd.N_nil _ _ _ _ _ | exact Kd.V_nil _ _ _ _ _ | exact Kd.Q_nil _ _ _ _ _ | exact Kd.R_nil _ _ _ _ _, by repeat (first | (with_reducible first | exact HB.out | apply below_alloc | apply pw_below_drewN | apply below_drew1 | refine below_set ?_ GE112.out | refine below_set ?_ GE120.out) | exact HB.out)⟩
    · rw [if_neg c7] at H
      have c7b0 : decide (a3 < 1) = false := decide_eq_false c7
      clear c7
      by_cases c15 : a3 > 1099511627776
      · rw [if_pos c15] at H
        have c15b0 : decide (1099511627776 < a3) = true := decide_eq_true c15
        clear c15
        simp only [Option.some.injEq, Prod.mk.injEq] at H
        obtain ⟨rfl, rfl, rfl, rfl, rfl, rfl, rfl, rfl, rfl, rfl, rfl, rfl, rfl, rfl⟩ := H
        go_enter Try.func13, Try.ntmps13
        go_wp2_with (first | ((with_reducible refine gate_dst (N := 8) rfl ?_); refine box_event ?hg (N := 8) ?hd (cs := #[.int .i64 0, .int .i64 0, .int .u64 0, .int .i64 0, .int .i64 0, .slice none 0 0, .int .i64 0, .int .u64 0, .int .u64 0, .slice none 0 0, .int .i64 0, .int .u64 0, .int .u64 0]) (t := 38) ?hr ?_; (case hd => rfl); (case hg => rfl); (case hr => first | (go_simp; done) | (go_simp; rfl)); intro gb112 hg w16 hbox hb; have n0_ := Aside0.mk (below_step (by repeat (first | (with_reducible first | exact HB.out | apply below_alloc | apply pw_below_drewN | apply below_drew1) | exact HB.out)) hb); have n1_ := Aside0.mk (hbox); have n2_ := Aside0.mk ((by rw [hg]; exact (below_size (by repeat (first | (with_reducible first | exact HB.out | apply below_alloc | apply pw_below_drewN | apply below_drew1) | exact HB.out))) : w.heap.size ≤ gb112)); have n3_ := Aside0.mk ((by rw [hg]; exact (below_size (by repeat (first | (with_reducible first | exact HB.out | apply below_alloc | apply pw_below_drewN | apply below_drew1) | exact HB.out))) : w.heap.size ≤ gb112)); clear HB; have HB := n0_; have BK112 := n1_; have GW112 := n2_; have GE112 := n3_; clear n0_ n1_ n2_ n3_; clear hb hbox hg) | ((with_reducible refine gate_callee (f := 22) rfl ?_); refine goesL_ (some 18) rfl rfl Try.func22 (by kernel_rfl) rfl #[.int .i64 a0, .int .i64 a1, .int .u64 a2] rfl (by (try simp only [List.map_toArray, List.map_cons, List.map_nil]); first | done | rfl | (simp only [List.length_drop, List.length_take]; rfl)) ?_; (with_reducible refine (telemeterref07_New.calls k a0 a1 a2 t113 t116 t117 t118 true _ A5.out).mono ?_); rintro e w17 ⟨v114, rfl, ho0, hb⟩; refine ⟨_, rfl, ?_⟩; have n0_ := Aside0.mk (Kd.S_lower ho0 (below_size (by repeat (first | (with_reducible first | exact HB.out | apply below_alloc | apply pw_below_drewN | apply below_drew1 | refine below_set ?_ GE112.out) | exact HB.out)))); have n1_ := Aside0.mk (blk_below (g := gb112) (o := .cells #[.int .i64 0, .int .i64 0, .int .u64 0, .int .i64 0, .int .i64 0, .slice none 0 0, .int .i64 0, .int .u64 0, .int .u64 0, .slice none 0 0, .int .i64 0, .int .u64 0, .int .u64 0] 38 (0, 0)) (by (with_reducible repeat (first | refine blk_drewN ?_ _ | refine blk_drew ?_ | refine blk_alloc ?_ _)); exact BK112.out) hb); have n2_ := Aside0.mk (below_step (by repeat (first | (with_reducible first | exact HB.out | apply below_alloc | apply pw_below_drewN | apply below_drew1 | refine below_set ?_ GE112.out) | exact HB.out)) hb); clear BK112; clear HB; have HO115 := n0_; have BK112 := n1_; have HB := n2_; clear n0_ n1_ n2_; (try clear hb); (try clear hb2); (try clear hk); (try clear hi); (try clear ho0)) | ((with_reducible refine gate_dst (N := 10) rfl ?_); refine box_event ?hg (N := 10) ?hd (cs := #[.slice none 0 0, .int .i64 0, .int .u64 0, .int .u64 0]) (t := 36) ?hr ?_; (case hd => rfl); (case hg => rfl); (case hr => first | (go_simp; done) | (go_simp; rfl)); intro gb120 hg w18 hbox hb; have n0_ := Aside0.mk (Kd.S_below (by (with_reducible repeat (first | apply Kd.S_alloc | apply Kd.S_drewN | apply Kd.S_drew)); exact HO115.out) hb); have n1_ := Aside0.mk (blk_below (g := gb112) (o := .cells #[.int .i64 0, .int .i64 0, .int .u64 0, .int .i64 0, .int .i64 0, .slice none 0 0, .int .i64 0, .int .u64 0, .int .u64 0, .slice none 0 0, .int .i64 0, .int .u64 0, .int .u64 0] 38 (0, 0)) (by (with_reducible repeat (first | refine blk_drewN ?_ _ | refine blk_drew ?_ | refine blk_alloc ?_ _)); exact BK112.out) hb); have n2_ := Aside0.mk (below_step (by repeat (first | (with_reducible first | exact HB.out | apply below_alloc | apply pw_below_drewN | apply below_drew1 | refine below_set ?_ GE112.out) | exact HB.out)) hb); have n3_ := Aside0.mk (hbox); have n4_ := Aside0.mk ((by rw [hg]; exact (below_size (by repeat (first | (with_reducible first | exact HB.out | apply below_alloc | apply pw_below_drewN | apply below_drew1 | refine below_set ?_ GE112.out) | exact HB.out))) : w.heap.size ≤ gb120)); have n5_ := Aside0.mk ((by rw [hg]; exact (below_size (by repeat (first | (with_reducible first | exact HB.out | apply below_alloc | apply pw_below_drewN | apply below_drew1 | refine below_set ?_ GE112.out) | exact HB.out))) : w.heap.size ≤ gb120)); have n6_ := Aside0.mk ((by rw [hg]; exact Nat.ne_of_lt (blk_lt (g := gb112) (o := .cells #[.int .i64 0, .int .i64 0, .int .u64 0, .int .i64 0, .int .i64 0, .slice none 0 0, .int .i64 0, .int .u64 0, .int .u64 0, .slice none 0 0, .int .i64 0, .int .u64 0, .int .u64 0] 38 (0, 0)) (by (with_reducible repeat (first | refine blk_drewN ?_ _ | refine blk_drew ?_ | refine blk_alloc ?_ _)); exact BK112.out)) : gb112 ≠ gb120)); have n7_ := Aside0.mk ((by rw [hg]; exact Nat.ne_of_gt (blk_lt (g := gb112) (o := .cells #[.int .i64 0, .int .i64 0, .int .u64 0, .int .i64 0, .int .i64 0, .slice none 0 0, .int .i64 0, .int .u64 0, .int .u64 0, .slice none 0 0, .int .i64 0, .int .u64 0, .int .u64 0] 38 (0, 0)) (by (with_reducible repeat (first | refine blk_drewN ?_ _ | refine blk_drew ?_ | refine blk_alloc ?_ _)); exact BK112.out)) : gb120 ≠ gb112)); clear HO115; clear BK112; clear HB; have HO115 := n0_; have BK112 := n1_; have HB := n2_; have BK120 := n3_; have GW120 := n4_; have GE120 := n5_; have NB112_120 := n6_; have NB120_112 := n7_; clear n0_ n1_ n2_ n3_ n4_ n5_ n6_ n7_; clear hb hbox hg; obtain ⟨Ao19, co19, eo19⟩ := Kd.S_slice HO115.out; subst eo19; have hnb20 := NB120_112.out; have hnc20 := NB112_120.out; have hcz21_0 : w18.cell? ⟨gb120, 0, none⟩ = some (.slice none 0 0) := (blk_cell BK120.out 0).trans rfl; have hcz21_1 : w18.cell? ⟨gb120, 1, none⟩ = some (.int .i64 0) := (blk_cell BK120.out 1).trans rfl; have hcz21_2 : w18.cell? ⟨gb120, 2, none⟩ = some (.int .u64 0) := (blk_cell BK120.out 2).trans rfl; have hcz21_3 : w18.cell? ⟨gb120, 3, none⟩ = some (.int .u64 0) := (blk_cell BK120.out 3).trans rfl; have hfz21_0 := blk_frozen BK120.out 0; have hfz21_1 := blk_frozen BK120.out 1; have hfz21_2 := blk_frozen BK120.out 2; have hfz21_3 := blk_frozen BK120.out 3; have hcz22_0 : w18.cell? ⟨gb112, 0, none⟩ = some (.int .i64 0) := (blk_cell BK112.out 0).trans rfl; have hcz22_1 : w18.cell? ⟨gb112, 1, none⟩ = some (.int .i64 0) := (blk_cell BK112.out 1).trans rfl; have hcz22_2 : w18.cell? ⟨gb112, 2, none⟩ = some (.int .u64 0) := (blk_cell BK112.out 2).trans rfl; have hcz22_3 : w18.cell? ⟨gb112, 3, none⟩ = some (.int .i64 0) := (blk_cell BK112.out 3).trans rfl; have hcz22_4 : w18.cell? ⟨gb112, 4, none⟩ = some (.int .i64 0) := (blk_cell BK112.out 4).trans rfl; have hcz22_5 : w18.cell? ⟨gb112, 5, none⟩ = some (.slice none 0 0) := (blk_cell BK112.out 5).trans rfl; have hcz22_6 : w18.cell? ⟨gb112, 6, none⟩ = some (.int .i64 0) := (blk_cell BK112.out 6).trans rfl; have hcz22_7 : w18.cell? ⟨gb112, 7, none⟩ = some (.int .u64 0) := (blk_cell BK112.out 7).trans rfl; have hcz22_8 : w18.cell? ⟨gb112, 8, none⟩ = some (.int .u64 0) := (blk_cell BK112.out 8).trans rfl; have hcz22_9 : w18.cell? ⟨gb112, 9, none⟩ = some (.slice none 0 0) := (blk_cell BK112.out 9).trans rfl; have hcz22_10 : w18.cell? ⟨gb112, 10, none⟩ = some (.int .i64 0) := (blk_cell BK112.out 10).trans rfl; have hcz22_11 : w18.cell? ⟨gb112, 11, none⟩ = some (.int .u64 0) := (blk_cell BK112.out 11).trans rfl; have hcz22_12 : w18.cell? ⟨gb112, 12, none⟩ = some (.int .u64 0) := (blk_cell BK112.out 12).trans rfl; have hfz22_0 := blk_frozen BK112.out 0; have hfz22_1 := blk_frozen BK112.out 1; have hfz22_2 := blk_frozen BK112.out 2; have hfz22_3 := blk_frozen BK112.out 3; have hfz22_4 := blk_frozen BK112.out 4; have hfz22_5 := blk_frozen BK112.out 5; have hfz22_6 := blk_frozen BK112.out 6; have hfz22_7 := blk_frozen BK112.out 7; have hfz22_8 := blk_frozen BK112.out 8; have hfz22_9 := blk_frozen BK112.out 9; have hfz22_10 := blk_frozen BK112.out 10; have hfz22_11 := blk_frozen BK112.out 11; have hfz22_12 := blk_frozen BK112.out 12))
        refine bodyPost_ret (results_ct rfl _ _ gb112 38 #[.int .i64 0, .int .i64 0, .int .u64 0, .int .i64 0, .int .i64 0, .slice none 0 0, .int .i64 0, .int .u64 0, .int .u64 0, .slice none 0 0, .int .i64 0, .int .u64 0, .int .u64 0] (0, 0) _ rfl (by (with_reducible repeat (first | refine blk_drewN ?_ _ | refine blk_drew ?_ | refine blk_alloc ?_ _)); refine blk_put (cs := #[.int .i64 0, .int .i64 0, .int .u64 0, .int .i64 0, .int .i64 0, .slice none 0 0, .int .i64 0, .int .u64 0, .int .u64 0, .slice none 0 0, .int .i64 0, .int .u64 0, .int .u64 0]) ?_ 12 _ rfl; (with_reducible repeat (first | refine blk_drewN ?_ _ | refine blk_drew ?_ | refine blk_alloc ?_ _)); refine blk_put (cs := #[.int .i64 0, .int .i64 0, .int .u64 0, .int .i64 0, .int .i64 0, .slice none 0 0, .int .i64 0, .int .u64 0, .int .u64 0, .slice none 0 0, .int .i64 0, .int .u64 0, .int .u64 0]) ?_ 11 _ rfl; (with_reducible repeat (first | refine blk_drewN ?_ _ | refine blk_drew ?_ | refine blk_alloc ?_ _)); refine blk_put (cs := #[.int .i64 0, .int .i64 0, .int .u64 0, .int .i64 0, .int .i64 0, .slice none 0 0, .int .i64 0, .int .u64 0, .int .u64 0, .slice none 0 0, .int .i64 0, .int .u64 0, .int .u64 0]) ?_ 10 _ rfl; (with_reducible repeat (first | refine blk_drewN ?_ _ | refine blk_drew ?_ | refine blk_alloc ?_ _)); refine blk_put (cs := #[.int .i64 0, .int .i64 0, .int .u64 0, .int .i64 0, .int .i64 0, .slice none 0 0, .int .i64 0, .int .u64 0, .int .u64 0, .slice none 0 0, .int .i64 0, .int .u64 0, .int .u64 0]) ?_ 9 _ rfl; (with_reducible repeat (first | refine blk_drewN ?_ _ | refine blk_drew ?_ | refine blk_alloc ?_ _)); refine blk_put (cs := #[.int .i64 0, .int .i64 0, .int .u64 0, .int .i64 0, .int .i64 0, .slice none 0 0, .int .i64 0, .int .u64 0, .int .u64 0, .slice none 0 0, .int .i64 0, .int .u64 0, .int .u64 0]) ?_ 8 _ rfl; (with_reducible repeat (first | refine blk_drewN ?_ _ | refine blk_drew ?_ | refine blk_alloc ?_ _)); refine blk_put (cs := #[.int .i64 0, .int .i64 0, .int .u64 0, .int .i64 0, .int .i64 0, .slice none 0 0, .int .i64 0, .int .u64 0, .int .u64 0, .slice none 0 0, .int .i64 0, .int .u64 0, .int .u64 0]) ?_ 7 _ rfl; (with_reducible repeat (first | refine blk_drewN ?_ _ | refine blk_drew ?_ | refine blk_alloc ?_ _)); refine blk_put (cs := #[.int .i64 0, .int .i64 0, .int .u64 0, .int .i64 0, .int .i64 0, .slice none 0 0, .int .i64 0, .int .u64 0, .int .u64 0, .slice none 0 0, .int .i64 0, .int .u64 0, .int .u64 0]) ?_ 6 _ rfl; (with_reducible repeat (first | refine blk_drewN ?_ _ | refine blk_drew ?_ | refine blk_alloc ?_ _)); refine blk_put (cs := #[.int .i64 0, .int .i64 0, .int .u64 0, .int .i64 0, .int .i64 0, .slice none 0 0, .int .i64 0, .int .u64 0, .int .u64 0, .slice none 0 0, .int .i64 0, .int .u64 0, .int .u64 0]) ?_ 5 _ rfl; (with_reducible repeat (first | refine blk_drewN ?_ _ | refine blk_drew ?_ | refine blk_alloc ?_ _)); refine blk_put (cs := #[.int .i64 0, .int .i64 0, .int .u64 0, .int .i64 0, .int .i64 0, .slice none 0 0, .int .i64 0, .int .u64 0, .int .u64 0, .slice none 0 0, .int .i64 0, .int .u64 0, .int .u64 0]) ?_ 4 _ rfl; (with_reducible repeat (first | refine blk_drewN ?_ _ | refine blk_drew ?_ | refine blk_alloc ?_ _)); refine blk_put (cs := #[.int .i64 0, .int .i64 0, .int .u64 0, .int .i64 0, .int .i64 0, .slice none 0 0, .int .i64 0, .int .u64 0, .int .u64 0, .slice none 0 0, .int .i64 0, .int .u64 0, .int .u64 0]) ?_ 3 _ rfl; (with_reducible repeat (first | refine blk_drewN ?_ _ | refine blk_drew ?_ | refine blk_alloc ?_ _)); refine blk_put (cs := #[.int .i64 0, .int .i64 0, .int .u64 0, .int .i64 0, .int .i64 0, .slice none 0 0, .int .i64 0, .int .u64 0, .int .u64 0, .slice none 0 0, .int .i64 0, .int .u64 0, .int .u64 0]) ?_ 2 _ rfl; (with_reducible repeat (first | refine blk_drewN ?_ _ | refine blk_drew ?_ | refine blk_alloc ?_ _)); refine blk_put (cs := #[.int .i64 0, .int .i64 0, .int .u64 0, .int .i64 0, .int .i64 0, .slice none 0 0, .int .i64 0, .int .u64 0, .int .u64 0, .slice none 0 0, .int .i64 0, .int .u64 0, .int .u64 0]) ?_ 1 _ rfl; (with_reducible repeat (first | refine blk_drewN ?_ _ | refine blk_drew ?_ | refine blk_alloc ?_ _)); refine blk_put (cs := #[.int .i64 0, .int .i64 0, .int .u64 0, .int .i64 0, .int .i64 0, .slice none 0 0, .int .i64 0, .int .u64 0, .int .u64 0, .slice none 0 0, .int .i64 0, .int .u64 0, .int .u64 0]) ?_ 0 _ rfl; (with_reducible repeat (first | refine blk_drewN ?_ _ | refine blk_drew ?_ | refine blk_alloc ?_ _)); refine blk_far ?_ NB112_120.out _; (with_reducible repeat (first | refine blk_drewN ?_ _ | refine blk_drew ?_ | refine blk_alloc ?_ _)); refine blk_far ?_ NB112_120.out _; (with_reducible repeat (first | refine blk_drewN ?_ _ | refine blk_drew ?_ | refine blk_alloc ?_ _)); refine blk_far ?_ NB112_120.out _; (with_reducible repeat (first | refine blk_drewN ?_ _ | refine blk_drew ?_ | refine blk_alloc ?_ _)); refine blk_far ?_ NB112_120.out _; (with_reducible repeat (first | refine blk_drewN ?_ _ | refine blk_drew ?_ | refine blk_alloc ?_ _)); exact BK112.out) Try.underlying38 rfl (by kernel_rfl)) rfl ?_
        exact ⟨_, _, by first | rfl | (simp [errW_none, errW_some] <;> rfl) | (simp [*, errW_none, errW_some] <;> rfl), by first | exact Kd.S_nil _ _ _ _ _ | exact Kd.N_nil _ _ _ _ _ | exact Kd.V_nil _ _ _ _ _ | exact Kd.Q_nil _ _ _ _ _ | exact Kd.R_nil _ _ _ _ _, by first | exact Kd.S_nil _ _ _ _ _ | exact Kd.N_nil _ _ _ _ _ | exact Kd.V_nil _ _ _ _ _ | exact Kd.Q_nil _ _ _ _ _ | exact Kd.R_nil _ _ _ _ _, by repeat (first | (with_reducible first | exact HB.out | apply below_alloc | apply pw_below_drewN | apply below_drew1 | refine below_set ?_ GE112.out | refine below_set ?_ GE120.out) | exact HB.out)⟩
      · rw [if_neg c15] at H
        have c15b0 : decide (1099511627776 < a3) = false := decide_eq_false c15
        clear c15
        replace H := Option.bind_eq_some_iff.mp H
        obtain ⟨⟨t121, t124, t125, t126, t127⟩, A230, H⟩ := H
        replace H : (some (a0, a1, a2, a3, 0, t121, t124, t125, t126, t113, t116, t117, t118, true)) = some (r1, r2, r3, r4, r5, r6, r7, r8, r9, r10, r11, r12, r13, r14) := H
        have A23 := Aside0.mk A230
        clear A230
        simp only [Option.some.injEq, Prod.mk.injEq] at H
        obtain ⟨rfl, rfl, rfl, rfl, rfl, rfl, rfl, rfl, rfl, rfl, rfl, rfl, rfl, rfl⟩ := H
        go_enter Try.func13, Try.ntmps13
        go_wp2_with (first | ((with_reducible refine gate_dst (N := 8) rfl ?_); refine box_event ?hg (N := 8) ?hd (cs := #[.int .i64 0, .int .i64 0, .int .u64 0, .int .i64 0, .int .i64 0, .slice none 0 0, .int .i64 0, .int .u64 0, .int .u64 0, .slice none 0 0, .int .i64 0, .int .u64 0, .int .u64 0]) (t := 38) ?hr ?_; (case hd => rfl); (case hg => rfl); (case hr => first | (go_simp; done) | (go_simp; rfl)); intro gb112 hg w24 hbox hb; have n0_ := Aside0.mk (below_step (by repeat (first | (with_reducible first | exact HB.out | apply below_alloc | apply pw_below_drewN | apply below_drew1) | exact HB.out)) hb); have n1_ := Aside0.mk (hbox); have n2_ := Aside0.mk ((by rw [hg]; exact (below_size (by repeat (first | (with_reducible first | exact HB.out | apply below_alloc | apply pw_below_drewN | apply below_drew1) | exact HB.out))) : w.heap.size ≤ gb112)); have n3_ := Aside0.mk ((by rw [hg]; exact (below_size (by repeat (first | (with_reducible first | exact HB.out | apply below_alloc | apply pw_below_drewN | apply below_drew1) | exact HB.out))) : w.heap.size ≤ gb112)); clear HB; have HB := n0_; have BK112 := n1_; have GW112 := n2_; have GE112 := n3_; clear n0_ n1_ n2_ n3_; clear hb hbox hg) | ((with_reducible refine gate_callee (f := 22) rfl ?_); refine goesL_ (some 18) rfl rfl Try.func22 (by kernel_rfl) rfl #[.int .i64 a0, .int .i64 a1, .int .u64 a2] rfl (by (try simp only [List.map_toArray, List.map_cons, List.map_nil]); first | done | rfl | (simp only [List.length_drop, List.length_take]; rfl)) ?_; (with_reducible refine (telemeterref07_New.calls k a0 a1 a2 t113 t116 t117 t118 true _ A5.out).mono ?_); rintro e w25 ⟨v114, rfl, ho0, hb⟩; refine ⟨_, rfl, ?_⟩; have n0_ := Aside0.mk (Kd.S_lower ho0 (below_size (by repeat (first | (with_reducible first | exact HB.out | apply below_alloc | apply pw_below_drewN | apply below_drew1 | refine below_set ?_ GE112.out) | exact HB.out)))); have n1_ := Aside0.mk (blk_below (g := gb112) (o := .cells #[.int .i64 0, .int .i64 0, .int .u64 0, .int .i64 0, .int .i64 0, .slice none 0 0, .int .i64 0, .int .u64 0, .int .u64 0, .slice none 0 0, .int .i64 0, .int .u64 0, .int .u64 0] 38 (0, 0)) (by (with_reducible repeat (first | refine blk_drewN ?_ _ | refine blk_drew ?_ | refine blk_alloc ?_ _)); exact BK112.out) hb); have n2_ := Aside0.mk (below_step (by repeat (first | (with_reducible first | exact HB.out | apply below_alloc | apply pw_below_drewN | apply below_drew1 | refine below_set ?_ GE112.out) | exact HB.out)) hb); clear BK112; clear HB; have HO115 := n0_; have BK112 := n1_; have HB := n2_; clear n0_ n1_ n2_; (try clear hb); (try clear hb2); (try clear hk); (try clear hi); (try clear ho0)) | ((with_reducible refine gate_dst (N := 10) rfl ?_); refine box_event ?hg (N := 10) ?hd (cs := #[.slice none 0 0, .int .i64 0, .int .u64 0, .int .u64 0]) (t := 36) ?hr ?_; (case hd => rfl); (case hg => rfl); (case hr => first | (go_simp; done) | (go_simp; rfl)); intro gb120 hg w26 hbox hb; have n0_ := Aside0.mk (Kd.S_below (by (with_reducible repeat (first | apply Kd.S_alloc | apply Kd.S_drewN | apply Kd.S_drew)); exact HO115.out) hb); have n1_ := Aside0.mk (blk_below (g := gb112) (o := .cells #[.int .i64 0, .int .i64 0, .int .u64 0, .int .i64 0, .int .i64 0, .slice none 0 0, .int .i64 0, .int .u64 0, .int .u64 0, .slice none 0 0, .int .i64 0, .int .u64 0, .int .u64 0] 38 (0, 0)) (by (with_reducible repeat (first | refine blk_drewN ?_ _ | refine blk_drew ?_ | refine blk_alloc ?_ _)); exact BK112.out) hb); have n2_ := Aside0.mk (below_step (by repeat (first | (with_reducible first | exact HB.out | apply below_alloc | apply pw_below_drewN | apply below_drew1 | refine below_set ?_ GE112.out) | exact HB.out)) hb); have n3_ := Aside0.mk (hbox); have n4_ := Aside0.mk ((by rw [hg]; exact (below_size (by repeat (first | (with_reducible first | exact HB.out | apply below_alloc | apply pw_below_drewN | apply below_drew1 | refine below_set ?_ GE112.out) | exact HB.out))) : w.heap.size ≤ gb120)); have n5_ := Aside0.mk ((by rw [hg]; exact (below_size (by repeat (first | (with_reducible first | exact HB.out | apply below_alloc | apply pw_below_drewN | apply below_drew1 | refine below_set ?_ GE112.out) | exact HB.out))) : w.heap.size ≤ gb120)); have n6_ := Aside0.mk ((by rw [hg]; exact Nat.ne_of_lt (blk_lt (g := gb112) (o := .cells #[.int .i64 0, .int .i64 0, .int .u64 0, .int .i64 0, .int .i64 0, .slice none 0 0, .int .i64 0, .int .u64 0, .int .u64 0, .slice none 0 0, .int .i64 0, .int .u64 0, .int .u64 0] 38 (0, 0)) (by (with_reducible repeat (first | refine blk_drewN ?_ _ | refine blk_drew ?_ | refine blk_alloc ?_ _)); exact BK112.out)) : gb112 ≠ gb120)); have n7_ := Aside0.mk ((by rw [hg]; exact Nat.ne_of_gt (blk_lt (g := gb112) (o := .cells #[.int .i64 0, .int .i64 0, .int .u64 0, .int .i64 0, .int .i64 0, .slice none 0 0, .int .i64 0, .int .u64 0, .int .u64 0, .slice none 0 0, .int .i64 0, .int .u64 0, .int .u64 0] 38 (0, 0)) (by (with_reducible repeat (first | refine blk_drewN ?_ _ | refine blk_drew ?_ | refine blk_alloc ?_ _)); exact BK112.out)) : gb120 ≠ gb112)); clear HO115; clear BK112; clear HB; have HO115 := n0_; have BK112 := n1_; have HB := n2_; have BK120 := n3_; have GW120 := n4_; have GE120 := n5_; have NB112_120 := n6_; have NB120_112 := n7_; clear n0_ n1_ n2_ n3_ n4_ n5_ n6_ n7_; clear hb hbox hg; obtain ⟨Ao27, co27, eo27⟩ := Kd.S_slice HO115.out; subst eo27; have hnb28 := NB120_112.out; have hnc28 := NB112_120.out; have hcz29_0 : w26.cell? ⟨gb120, 0, none⟩ = some (.slice none 0 0) := (blk_cell BK120.out 0).trans rfl; have hcz29_1 : w26.cell? ⟨gb120, 1, none⟩ = some (.int .i64 0) := (blk_cell BK120.out 1).trans rfl; have hcz29_2 : w26.cell? ⟨gb120, 2, none⟩ = some (.int .u64 0) := (blk_cell BK120.out 2).trans rfl; have hcz29_3 : w26.cell? ⟨gb120, 3, none⟩ = some (.int .u64 0) := (blk_cell BK120.out 3).trans rfl; have hfz29_0 := blk_frozen BK120.out 0; have hfz29_1 := blk_frozen BK120.out 1; have hfz29_2 := blk_frozen BK120.out 2; have hfz29_3 := blk_frozen BK120.out 3) | ((with_reducible refine gate_callee (f := 22) rfl ?_); refine goesL_ (some 37) rfl rfl Try.func22 (by kernel_rfl) rfl #[.int .i64 a0, .int .i64 a1, .int .u64 (IntKind.u64.wrap (a2 - 1))] rfl (by (try simp only [List.map_toArray, List.map_cons, List.map_nil]); first | done | rfl | (simp only [List.length_drop, List.length_take]; rfl)) ?_; (with_reducible refine (telemeterref07_New.calls k a0 a1 (IntKind.u64.wrap (a2 - 1)) t121 t124 t125 t126 t127 _ A23.out).mono ?_); rintro e w30 ⟨v122, rfl, ho0, hb⟩; refine ⟨_, rfl, ?_⟩; have n0_ := Aside0.mk (Kd.S_elder' (by (with_reducible repeat (first | apply Kd.S_alloc | apply Kd.S_drewN | apply Kd.S_drew)); exact (Kd.S_mono (Kd.S_far (p := ⟨gb120, 3, none⟩) (Kd.S_far (p := ⟨gb120, 2, none⟩) (Kd.S_far (p := ⟨gb120, 1, none⟩) (Kd.S_far (p := ⟨gb120, 0, none⟩) (Kd.S_types HO115.out BK120.out (by decide)) (fun _ hk => hk.2) (.slice Ao27 t113.length co27)) (fun _ hk => hk.2) (.int .i64 t116)) (fun _ hk => hk.2) (.int .u64 t117)) (fun _ hk => hk.2) (.int .u64 t118)) (fun _ h_ => h_.1))) (Kd.S_base ho0) hb); have n1_ := Aside0.mk (Kd.S_lower (Kd.S_new' ho0 (Kd.S_lt (by (with_reducible repeat (first | apply Kd.S_alloc | apply Kd.S_drewN | apply Kd.S_drew)); exact (Kd.S_mono (Kd.S_far (p := ⟨gb120, 3, none⟩) (Kd.S_far (p := ⟨gb120, 2, none⟩) (Kd.S_far (p := ⟨gb120, 1, none⟩) (Kd.S_far (p := ⟨gb120, 0, none⟩) (Kd.S_types HO115.out BK120.out (by decide)) (fun _ hk => hk.2) (.slice Ao27 t113.length co27)) (fun _ hk => hk.2) (.int .i64 t116)) (fun _ hk => hk.2) (.int .u64 t117)) (fun _ hk => hk.2) (.int .u64 t118)) (fun _ h_ => h_.1))))) (below_size (by repeat (first | (with_reducible first | exact HB.out | apply below_alloc | apply pw_below_drewN | apply below_drew1 | refine below_set ?_ GE112.out | refine below_set ?_ GE120.out) | exact HB.out)))); have n2_ := Aside0.mk (blk_below (g := gb112) (o := .cells #[.int .i64 0, .int .i64 0, .int .u64 0, .int .i64 0, .int .i64 0, .slice none 0 0, .int .i64 0, .int .u64 0, .int .u64 0, .slice none 0 0, .int .i64 0, .int .u64 0, .int .u64 0] 38 (0, 0)) (by (with_reducible repeat (first | refine blk_drewN ?_ _ | refine blk_drew ?_ | refine blk_alloc ?_ _)); refine blk_far ?_ NB112_120.out _; (with_reducible repeat (first | refine blk_drewN ?_ _ | refine blk_drew ?_ | refine blk_alloc ?_ _)); refine blk_far ?_ NB112_120.out _; (with_reducible repeat (first | refine blk_drewN ?_ _ | refine blk_drew ?_ | refine blk_alloc ?_ _)); refine blk_far ?_ NB112_120.out _; (with_reducible repeat (first | refine blk_drewN ?_ _ | refine blk_drew ?_ | refine blk_alloc ?_ _)); refine blk_far ?_ NB112_120.out _; (with_reducible repeat (first | refine blk_drewN ?_ _ | refine blk_drew ?_ | refine blk_alloc ?_ _)); exact BK112.out) hb); have n3_ := Aside0.mk (blk_below (g := gb120) (o := .cells #[.slice Ao27 t113.length co27, .int .i64 t116, .int .u64 t117, .int .u64 t118] 36 (0, 0)) (by (with_reducible repeat (first | refine blk_drewN ?_ _ | refine blk_drew ?_ | refine blk_alloc ?_ _)); refine blk_put (cs := #[.slice Ao27 t113.length co27, .int .i64 t116, .int .u64 t117, .int .u64 0]) ?_ 3 _ rfl; (with_reducible repeat (first | refine blk_drewN ?_ _ | refine blk_drew ?_ | refine blk_alloc ?_ _)); refine blk_put (cs := #[.slice Ao27 t113.length co27, .int .i64 t116, .int .u64 0, .int .u64 0]) ?_ 2 _ rfl; (with_reducible repeat (first | refine blk_drewN ?_ _ | refine blk_drew ?_ | refine blk_alloc ?_ _)); refine blk_put (cs := #[.slice Ao27 t113.length co27, .int .i64 0, .int .u64 0, .int .u64 0]) ?_ 1 _ rfl; (with_reducible repeat (first | refine blk_drewN ?_ _ | refine blk_drew ?_ | refine blk_alloc ?_ _)); refine blk_put (cs := #[.slice none 0 0, .int .i64 0, .int .u64 0, .int .u64 0]) ?_ 0 _ rfl; (with_reducible repeat (first | refine blk_drewN ?_ _ | refine blk_drew ?_ | refine blk_alloc ?_ _)); exact BK120.out) hb); have n4_ := Aside0.mk (below_step (by repeat (first | (with_reducible first | exact HB.out | apply below_alloc | apply pw_below_drewN | apply below_drew1 | refine below_set ?_ GE112.out | refine below_set ?_ GE120.out) | exact HB.out)) hb); clear HO115; clear BK112; clear BK120; clear HB; have HO115 := n0_; have HO123 := n1_; have BK112 := n2_; have BK120 := n3_; have HB := n4_; clear n0_ n1_ n2_ n3_ n4_; (try clear hb); (try clear hb2); (try clear hk); (try clear hi); (try clear ho0)) | ((with_reducible refine gate_dst (N := 12) rfl ?_); refine box_event ?hg (N := 12) ?hd (cs := #[.slice none 0 0, .int .i64 0, .int .u64 0, .int .u64 0]) (t := 36) ?hr ?_; (case hd => rfl); (case hg => rfl); (case hr => first | (go_simp; done) | (go_simp; rfl)); intro gb128 hg w31 hbox hb; have n0_ := Aside0.mk (Kd.S_below (by (with_reducible repeat (first | apply Kd.S_alloc | apply Kd.S_drewN | apply Kd.S_drew)); exact HO115.out) hb); have n1_ := Aside0.mk (Kd.S_below (by (with_reducible repeat (first | apply Kd.S_alloc | apply Kd.S_drewN | apply Kd.S_drew)); exact HO123.out) hb); have n2_ := Aside0.mk (blk_below (g := gb112) (o := .cells #[.int .i64 0, .int .i64 0, .int .u64 0, .int .i64 0, .int .i64 0, .slice none 0 0, .int .i64 0, .int .u64 0, .int .u64 0, .slice none 0 0, .int .i64 0, .int .u64 0, .int .u64 0] 38 (0, 0)) (by (with_reducible repeat (first | refine blk_drewN ?_ _ | refine blk_drew ?_ | refine blk_alloc ?_ _)); exact BK112.out) hb); have n3_ := Aside0.mk (blk_below (g := gb120) (o := .cells #[.slice Ao27 t113.length co27, .int .i64 t116, .int .u64 t117, .int .u64 t118] 36 (0, 0)) (by (with_reducible repeat (first | refine blk_drewN ?_ _ | refine blk_drew ?_ | refine blk_alloc ?_ _)); exact BK120.out) hb); have n4_ := Aside0.mk (below_step (by repeat (first | (with_reducible first | exact HB.out | apply below_alloc | apply pw_below_drewN | apply below_drew1 | refine below_set ?_ GE112.out | refine below_set ?_ GE120.out) | exact HB.out)) hb); have n5_ := Aside0.mk (hbox); have n6_ := Aside0.mk ((by rw [hg]; exact (below_size (by repeat (first | (with_reducible first | exact HB.out | apply below_alloc | apply pw_below_drewN | apply below_drew1 | refine below_set ?_ GE112.out | refine below_set ?_ GE120.out) | exact HB.out))) : w.heap.size ≤ gb128)); have n7_ := Aside0.mk ((by rw [hg]; exact (below_size (by repeat (first | (with_reducible first | exact HB.out | apply below_alloc | apply pw_below_drewN | apply below_drew1 | refine below_set ?_ GE112.out | refine below_set ?_ GE120.out) | exact HB.out))) : w.heap.size ≤ gb128)); have n8_ := Aside0.mk ((by rw [hg]; exact Nat.ne_of_lt (blk_lt (g := gb112) (o := .cells #[.int .i64 0, .int .i64 0, .int .u64 0, .int .i64 0, .int .i64 0, .slice none 0 0, .int .i64 0, .int .u64 0, .int .u64 0, .slice none 0 0, .int .i64 0, .int .u64 0, .int .u64 0] 38 (0, 0)) (by (with_reducible repeat (first | refine blk_drewN ?_ _ | refine blk_drew ?_ | refine blk_alloc ?_ _)); exact BK112.out)) : gb112 ≠ gb128)); have n9_ := Aside0.mk ((by rw [hg]; exact Nat.ne_of_gt (blk_lt (g := gb112) (o := .cells #[.int .i64 0, .int .i64 0, .int .u64 0, .int .i64 0, .int .i64 0, .slice none 0 0, .int .i64 0, .int .u64 0, .int .u64 0, .slice none 0 0, .int .i64 0, .int .u64 0, .int .u64 0] 38 (0, 0)) (by (with_reducible repeat (first | refine blk_drewN ?_ _ | refine blk_drew ?_ | refine blk_alloc ?_ _)); exact BK112.out)) : gb128 ≠ gb112)); have n10_ := Aside0.mk ((by rw [hg]; exact Nat.ne_of_lt (blk_lt (g := gb120) (o := .cells #[.slice Ao27 t113.length co27, .int .i64 t116, .int .u64 t117, .int .u64 t118] 36 (0, 0)) (by (with_reducible repeat (first | refine blk_drewN ?_ _ | refine blk_drew ?_ | refine blk_alloc ?_ _)); exact BK120.out)) : gb120 ≠ gb128)); have n11_ := Aside0.mk ((by rw [hg]; exact Nat.ne_of_gt (blk_lt (g := gb120) (o := .cells #[.slice Ao27 t113.length co27, .int .i64 t116, .int .u64 t117, .int .u64 t118] 36 (0, 0)) (by (with_reducible repeat (first | refine blk_drewN ?_ _ | refine blk_drew ?_ | refine blk_alloc ?_ _)); exact BK120.out)) : gb128 ≠ gb120)); clear HO115; clear HO123; clear BK112; clear BK120; clear HB; have HO115 := n0_; have HO123 := n1_; have BK112 := n2_; have BK120 := n3_; have HB := n4_; have BK128 := n5_; have GW128 := n6_; have GE128 := n7_; have NB112_128 := n8_; have NB128_112 := n9_; have NB120_128 := n10_; have NB128_120 := n11_; clear n0_ n1_ n2_ n3_ n4_ n5_ n6_ n7_ n8_ n9_ n10_ n11_; clear hb hbox hg; obtain ⟨Ao32, co32, eo32⟩ := Kd.S_slice HO123.out; subst eo32; have hnb33 := NB128_112.out; have hnc33 := NB112_128.out; have hnb34 := NB128_120.out; have hnc34 := NB120_128.out; have hcz35_0 : w31.cell? ⟨gb128, 0, none⟩ = some (.slice none 0 0) := (blk_cell BK128.out 0).trans rfl; have hcz35_1 : w31.cell? ⟨gb128, 1, none⟩ = some (.int .i64 0) := (blk_cell BK128.out 1).trans rfl; have hcz35_2 : w31.cell? ⟨gb128, 2, none⟩ = some (.int .u64 0) := (blk_cell BK128.out 2).trans rfl; have hcz35_3 : w31.cell? ⟨gb128, 3, none⟩ = some (.int .u64 0) := (blk_cell BK128.out 3).trans rfl; have hfz35_0 := blk_frozen BK128.out 0; have hfz35_1 := blk_frozen BK128.out 1; have hfz35_2 := blk_frozen BK128.out 2; have hfz35_3 := blk_frozen BK128.out 3; have hcz36_0 : w31.cell? ⟨gb120, 0, none⟩ = some (.slice Ao27 t113.length co27) := (blk_cell BK120.out 0).trans rfl; have hcz36_1 : w31.cell? ⟨gb120, 1, none⟩ = some (.int .i64 t116) := (blk_cell BK120.out 1).trans rfl; have hcz36_2 : w31.cell? ⟨gb120, 2, none⟩ = some (.int .u64 t117) := (blk_cell BK120.out 2).trans rfl; have hcz36_3 : w31.cell? ⟨gb120, 3, none⟩ = some (.int .u64 t118) := (blk_cell BK120.out 3).trans rfl; have hfz36_0 := blk_frozen BK120.out 0; have hfz36_1 := blk_frozen BK120.out 1; have hfz36_2 := blk_frozen BK120.out 2; have hfz36_3 := blk_frozen BK120.out 3; have hcz37_0 : w31.cell? ⟨gb112, 0, none⟩ = some (.int .i64 0) := (blk_cell BK112.out 0).trans rfl; have hcz37_1 : w31.cell? ⟨gb112, 1, none⟩ = some (.int .i64 0) := (blk_cell BK112.out 1).trans rfl; have hcz37_2 : w31.cell? ⟨gb112, 2, none⟩ = some (.int .u64 0) := (blk_cell BK112.out 2).trans rfl; have hcz37_3 : w31.cell? ⟨gb112, 3, none⟩ = some (.int .i64 0) := (blk_cell BK112.out 3).trans rfl; have hcz37_4 : w31.cell? ⟨gb112, 4, none⟩ = some (.int .i64 0) := (blk_cell BK112.out 4).trans rfl; have hcz37_5 : w31.cell? ⟨gb112, 5, none⟩ = some (.slice none 0 0) := (blk_cell BK112.out 5).trans rfl; have hcz37_6 : w31.cell? ⟨gb112, 6, none⟩ = some (.int .i64 0) := (blk_cell BK112.out 6).trans rfl; have hcz37_7 : w31.cell? ⟨gb112, 7, none⟩ = some (.int .u64 0) := (blk_cell BK112.out 7).trans rfl; have hcz37_8 : w31.cell? ⟨gb112, 8, none⟩ = some (.int .u64 0) := (blk_cell BK112.out 8).trans rfl; have hcz37_9 : w31.cell? ⟨gb112, 9, none⟩ = some (.slice none 0 0) := (blk_cell BK112.out 9).trans rfl; have hcz37_10 : w31.cell? ⟨gb112, 10, none⟩ = some (.int .i64 0) := (blk_cell BK112.out 10).trans rfl; have hcz37_11 : w31.cell? ⟨gb112, 11, none⟩ = some (.int .u64 0) := (blk_cell BK112.out 11).trans rfl; have hcz37_12 : w31.cell? ⟨gb112, 12, none⟩ = some (.int .u64 0) := (blk_cell BK112.out 12).trans rfl; have hfz37_0 := blk_frozen BK112.out 0; have hfz37_1 := blk_frozen BK112.out 1; have hfz37_2 := blk_frozen BK112.out 2; have hfz37_3 := blk_frozen BK112.out 3; have hfz37_4 := blk_frozen BK112.out 4; have hfz37_5 := blk_frozen BK112.out 5; have hfz37_6 := blk_frozen BK112.out 6; have hfz37_7 := blk_frozen BK112.out 7; have hfz37_8 := blk_frozen BK112.out 8; have hfz37_9 := blk_frozen BK112.out 9; have hfz37_10 := blk_frozen BK112.out 10; have hfz37_11 := blk_frozen BK112.out 11; have hfz37_12 := blk_frozen BK112.out 12))
        refine bodyPost_ret (results_ct rfl _ _ gb112 38 #[.int .i64 a0, .int .i64 a1, .int .u64 a2, .int .i64 a3, .int .i64 0, .slice Ao32 t121.length co32, .int .i64 t124, .int .u64 t125, .int .u64 t126, .slice Ao27 t113.length co27, .int .i64 t116, .int .u64 t117, .int .u64 t118] (0, 0) _ rfl (by (with_reducible repeat (first | refine blk_drewN ?_ _ | refine blk_drew ?_ | refine blk_alloc ?_ _)); refine blk_put (cs := #[.int .i64 a0, .int .i64 a1, .int .u64 a2, .int .i64 a3, .int .i64 0, .slice Ao32 t121.length co32, .int .i64 t124, .int .u64 t125, .int .u64 t126, .slice Ao27 t113.length co27, .int .i64 t116, .int .u64 t117, .int .u64 0]) ?_ 12 _ rfl; (with_reducible repeat (first | refine blk_drewN ?_ _ | refine blk_drew ?_ | refine blk_alloc ?_ _)); refine blk_put (cs := #[.int .i64 a0, .int .i64 a1, .int .u64 a2, .int .i64 a3, .int .i64 0, .slice Ao32 t121.length co32, .int .i64 t124, .int .u64 t125, .int .u64 t126, .slice Ao27 t113.length co27, .int .i64 t116, .int .u64 0, .int .u64 0]) ?_ 11 _ rfl; (with_reducible repeat (first | refine blk_drewN ?_ _ | refine blk_drew ?_ | refine blk_alloc ?_ _)); refine blk_put (cs := #[.int .i64 a0, .int .i64 a1, .int .u64 a2, .int .i64 a3, .int .i64 0, .slice Ao32 t121.length co32, .int .i64 t124, .int .u64 t125, .int .u64 t126, .slice Ao27 t113.length co27, .int .i64 0, .int .u64 0, .int .u64 0]) ?_ 10 _ rfl; (with_reducible repeat (first | refine blk_drewN ?_ _ | refine blk_drew ?_ | refine blk_alloc ?_ _)); refine blk_put (cs := #[.int .i64 a0, .int .i64 a1, .int .u64 a2, .int .i64 a3, .int .i64 0, .slice Ao32 t121.length co32, .int .i64 t124, .int .u64 t125, .int .u64 t126, .slice none 0 0, .int .i64 0, .int .u64 0, .int .u64 0]) ?_ 9 _ rfl; (with_reducible repeat (first | refine blk_drewN ?_ _ | refine blk_drew ?_ | refine blk_alloc ?_ _)); refine blk_put (cs := #[.int .i64 a0, .int .i64 a1, .int .u64 a2, .int .i64 a3, .int .i64 0, .slice Ao32 t121.length co32, .int .i64 t124, .int .u64 t125, .int .u64 0, .slice none 0 0, .int .i64 0, .int .u64 0, .int .u64 0]) ?_ 8 _ rfl; (with_reducible repeat (first | refine blk_drewN ?_ _ | refine blk_drew ?_ | refine blk_alloc ?_ _)); refine blk_put (cs := #[.int .i64 a0, .int .i64 a1, .int .u64 a2, .int .i64 a3, .int .i64 0, .slice Ao32 t121.length co32, .int .i64 t124, .int .u64 0, .int .u64 0, .slice none 0 0, .int .i64 0, .int .u64 0, .int .u64 0]) ?_ 7 _ rfl; (with_reducible repeat (first | refine blk_drewN ?_ _ | refine blk_drew ?_ | refine blk_alloc ?_ _)); refine blk_put (cs := #[.int .i64 a0, .int .i64 a1, .int .u64 a2, .int .i64 a3, .int .i64 0, .slice Ao32 t121.length co32, .int .i64 0, .int .u64 0, .int .u64 0, .slice none 0 0, .int .i64 0, .int .u64 0, .int .u64 0]) ?_ 6 _ rfl; (with_reducible repeat (first | refine blk_drewN ?_ _ | refine blk_drew ?_ | refine blk_alloc ?_ _)); refine blk_put (cs := #[.int .i64 a0, .int .i64 a1, .int .u64 a2, .int .i64 a3, .int .i64 0, .slice none 0 0, .int .i64 0, .int .u64 0, .int .u64 0, .slice none 0 0, .int .i64 0, .int .u64 0, .int .u64 0]) ?_ 5 _ rfl; (with_reducible repeat (first | refine blk_drewN ?_ _ | refine blk_drew ?_ | refine blk_alloc ?_ _)); refine blk_put (cs := #[.int .i64 a0, .int .i64 a1, .int .u64 a2, .int .i64 a3, .int .i64 0, .slice none 0 0, .int .i64 0, .int .u64 0, .int .u64 0, .slice none 0 0, .int .i64 0, .int .u64 0, .int .u64 0]) ?_ 4 _ rfl; (with_reducible repeat (first | refine blk_drewN ?_ _ | refine blk_drew ?_ | refine blk_alloc ?_ _)); refine blk_put (cs := #[.int .i64 a0, .int .i64 a1, .int .u64 a2, .int .i64 0, .int .i64 0, .slice none 0 0, .int .i64 0, .int .u64 0, .int .u64 0, .slice none 0 0, .int .i64 0, .int .u64 0, .int .u64 0]) ?_ 3 _ rfl; (with_reducible repeat (first | refine blk_drewN ?_ _ | refine blk_drew ?_ | refine blk_alloc ?_ _)); refine blk_put (cs := #[.int .i64 a0, .int .i64 a1, .int .u64 0, .int .i64 0, .int .i64 0, .slice none 0 0, .int .i64 0, .int .u64 0, .int .u64 0, .slice none 0 0, .int .i64 0, .int .u64 0, .int .u64 0]) ?_ 2 _ rfl; (with_reducible repeat (first | refine blk_drewN ?_ _ | refine blk_drew ?_ | refine blk_alloc ?_ _)); refine blk_put (cs := #[.int .i64 a0, .int .i64 0, .int .u64 0, .int .i64 0, .int .i64 0, .slice none 0 0, .int .i64 0, .int .u64 0, .int .u64 0, .slice none 0 0, .int .i64 0, .int .u64 0, .int .u64 0]) ?_ 1 _ rfl; (with_reducible repeat (first | refine blk_drewN ?_ _ | refine blk_drew ?_ | refine blk_alloc ?_ _)); refine blk_put (cs := #[.int .i64 0, .int .i64 0, .int .u64 0, .int .i64 0, .int .i64 0, .slice none 0 0, .int .i64 0, .int .u64 0, .int .u64 0, .slice none 0 0, .int .i64 0, .int .u64 0, .int .u64 0]) ?_ 0 _ rfl; (with_reducible repeat (first | refine blk_drewN ?_ _ | refine blk_drew ?_ | refine blk_alloc ?_ _)); refine blk_far ?_ NB112_128.out _; (with_reducible repeat (first | refine blk_drewN ?_ _ | refine blk_drew ?_ | refine blk_alloc ?_ _)); refine blk_far ?_ NB112_128.out _; (with_reducible repeat (first | refine blk_drewN ?_ _ | refine blk_drew ?_ | refine blk_alloc ?_ _)); refine blk_far ?_ NB112_128.out _; (with_reducible repeat (first | refine blk_drewN ?_ _ | refine blk_drew ?_ | refine blk_alloc ?_ _)); refine blk_far ?_ NB112_128.out _; (with_reducible repeat (first | refine blk_drewN ?_ _ | refine blk_drew ?_ | refine blk_alloc ?_ _)); exact BK112.out) Try.underlying38 rfl (by kernel_rfl)) rfl ?_
        exact ⟨_, _, by first | rfl | (simp [errW_none, errW_some] <;> rfl) | (simp [*, errW_none, errW_some] <;> rfl), by (with_reducible repeat (first | apply Kd.S_alloc | apply Kd.S_drewN | apply Kd.S_drew)); exact Kd.S_mono (Kd.S_far (p := ⟨gb112, 12, none⟩) (Kd.S_far (p := ⟨gb112, 11, none⟩) (Kd.S_far (p := ⟨gb112, 10, none⟩) (Kd.S_far (p := ⟨gb112, 9, none⟩) (Kd.S_far (p := ⟨gb112, 8, none⟩) (Kd.S_far (p := ⟨gb112, 7, none⟩) (Kd.S_far (p := ⟨gb112, 6, none⟩) (Kd.S_far (p := ⟨gb112, 5, none⟩) (Kd.S_far (p := ⟨gb112, 4, none⟩) (Kd.S_far (p := ⟨gb112, 3, none⟩) (Kd.S_far (p := ⟨gb112, 2, none⟩) (Kd.S_far (p := ⟨gb112, 1, none⟩) (Kd.S_far (p := ⟨gb112, 0, none⟩) (Kd.S_far (p := ⟨gb128, 3, none⟩) (Kd.S_far (p := ⟨gb128, 2, none⟩) (Kd.S_far (p := ⟨gb128, 1, none⟩) (Kd.S_far (p := ⟨gb128, 0, none⟩) (Kd.S_types (Kd.S_types HO123.out BK128.out (by decide)) BK112.out (by decide)) (fun _ hk => hk.1.2) (.slice Ao32 t121.length co32)) (fun _ hk => hk.1.2) (.int .i64 t124)) (fun _ hk => hk.1.2) (.int .u64 t125)) (fun _ hk => hk.1.2) (.int .u64 t126)) (fun _ hk => hk.2) (.int .i64 a0)) (fun _ hk => hk.2) (.int .i64 a1)) (fun _ hk => hk.2) (.int .u64 a2)) (fun _ hk => hk.2) (.int .i64 a3)) (fun _ hk => hk.2) (.int .i64 0)) (fun _ hk => hk.2) (.slice Ao32 t121.length co32)) (fun _ hk => hk.2) (.int .i64 t124)) (fun _ hk => hk.2) (.int .u64 t125)) (fun _ hk => hk.2) (.int .u64 t126)) (fun _ hk => hk.2) (.slice Ao27 t113.length co27)) (fun _ hk => hk.2) (.int .i64 t116)) (fun _ hk => hk.2) (.int .u64 t117)) (fun _ hk => hk.2) (.int .u64 t118)) (fun _ hk => hk.1.1.2), by (with_reducible repeat (first | apply Kd.S_alloc | apply Kd.S_drewN | apply Kd.S_drew)); exact Kd.S_mono (Kd.S_far (p := ⟨gb112, 12, none⟩) (Kd.S_far (p := ⟨gb112, 11, none⟩) (Kd.S_far (p := ⟨gb112, 10, none⟩) (Kd.S_far (p := ⟨gb112, 9, none⟩) (Kd.S_far (p := ⟨gb112, 8, none⟩) (Kd.S_far (p := ⟨gb112, 7, none⟩) (Kd.S_far (p := ⟨gb112, 6, none⟩) (Kd.S_far (p := ⟨gb112, 5, none⟩) (Kd.S_far (p := ⟨gb112, 4, none⟩) (Kd.S_far (p := ⟨gb112, 3, none⟩) (Kd.S_far (p := ⟨gb112, 2, none⟩) (Kd.S_far (p := ⟨gb112, 1, none⟩) (Kd.S_far (p := ⟨gb112, 0, none⟩) (Kd.S_far (p := ⟨gb128, 3, none⟩) (Kd.S_far (p := ⟨gb128, 2, none⟩) (Kd.S_far (p := ⟨gb128, 1, none⟩) (Kd.S_far (p := ⟨gb128, 0, none⟩) (Kd.S_types (Kd.S_types HO115.out BK128.out (by decide)) BK112.out (by decide)) (fun _ hk => hk.1.2) (.slice Ao32 t121.length co32)) (fun _ hk => hk.1.2) (.int .i64 t124)) (fun _ hk => hk.1.2) (.int .u64 t125)) (fun _ hk => hk.1.2) (.int .u64 t126)) (fun _ hk => hk.2) (.int .i64 a0)) (fun _ hk => hk.2) (.int .i64 a1)) (fun _ hk => hk.2) (.int .u64 a2)) (fun _ hk => hk.2) (.int .i64 a3)) (fun _ hk => hk.2) (.int .i64 0)) (fun _ hk => hk.2) (.slice Ao32 t121.length co32)) (fun _ hk => hk.2) (.int .i64 t124)) (fun _ hk => hk.2) (.int .u64 t125)) (fun _ hk => hk.2) (.int .u64 t126)) (fun _ hk => hk.2) (.slice Ao27 t113.length co27)) (fun _ hk => hk.2) (.int .i64 t116)) (fun _ hk => hk.2) (.int .u64 t117)) (fun _ hk => hk.2) (.int .u64 t118)) (fun _ hk => hk.1.1.2), by repeat (first | (with_reducible first | exact HB.out | apply below_alloc | apply pw_below_drewN | apply below_drew1 | refine below_set ?_ GE112.out | refine below_set ?_ GE120.out | refine below_set ?_ GE128.out) | exact HB.out)⟩
  · replace c6 := Bool.eq_false_iff.mpr c6
    subst c6
    have H1 : (some (0, 0, 0, 0, 0, ([] : List (List Int)), 0, 0, 0, ([] : List (List Int)), 0, 0, 0, false)) = some (r1, r2, r3, r4, r5, r6, r7, r8, r9, r10, r11, r12, r13, r14) := by rw [if_neg (show ¬ (false = true) by decide)] at H; exact H
    clear H
    have H := H1
    clear H1
    simp only [Option.some.injEq, Prod.mk.injEq] at H
    obtain ⟨rfl, rfl, rfl, rfl, rfl, rfl, rfl, rfl, rfl, rfl, rfl, rfl, rfl, rfl⟩ := H
    go_enter Try.func13, Try.ntmps13
    go_wp2_with (first | ((with_reducible refine gate_dst (N := 8) rfl ?_); refine box_event ?hg (N := 8) ?hd (cs := #[.int .i64 0, .int .i64 0, .int .u64 0, .int .i64 0, .int .i64 0, .slice none 0 0, .int .i64 0, .int .u64 0, .int .u64 0, .slice none 0 0, .int .i64 0, .int .u64 0, .int .u64 0]) (t := 38) ?hr ?_; (case hd => rfl); (case hg => rfl); (case hr => first | (go_simp; done) | (go_simp; rfl)); intro gb112 hg w38 hbox hb; have n0_ := Aside0.mk (below_step (by repeat (first | (with_reducible first | exact HB.out | apply below_alloc | apply pw_below_drewN | apply below_drew1) | exact HB.out)) hb); have n1_ := Aside0.mk (hbox); have n2_ := Aside0.mk ((by rw [hg]; exact (below_size (by repeat (first | (with_reducible first | exact HB.out | apply below_alloc | apply pw_below_drewN | apply below_drew1) | exact HB.out))) : w.heap.size ≤ gb112)); have n3_ := Aside0.mk ((by rw [hg]; exact (below_size (by repeat (first | (with_reducible first | exact HB.out | apply below_alloc | apply pw_below_drewN | apply below_drew1) | exact HB.out))) : w.heap.size ≤ gb112)); clear HB; have HB := n0_; have BK112 := n1_; have GW112 := n2_; have GE112 := n3_; clear n0_ n1_ n2_ n3_; clear hb hbox hg) | ((with_reducible refine gate_callee (f := 22) rfl ?_); refine goesL_ (some 18) rfl rfl Try.func22 (by kernel_rfl) rfl #[.int .i64 a0, .int .i64 a1, .int .u64 a2] rfl (by (try simp only [List.map_toArray, List.map_cons, List.map_nil]); first | done | rfl | (simp only [List.length_drop, List.length_take]; rfl)) ?_; (with_reducible refine (telemeterref07_New.calls k a0 a1 a2 t113 t116 t117 t118 false _ A5.out).mono ?_); rintro e w39 ⟨v114, rfl, ho0, hb⟩; refine ⟨_, rfl, ?_⟩; have n0_ := Aside0.mk (Kd.S_lower ho0 (below_size (by repeat (first | (with_reducible first | exact HB.out | apply below_alloc | apply pw_below_drewN | apply below_drew1 | refine below_set ?_ GE112.out) | exact HB.out)))); have n1_ := Aside0.mk (blk_below (g := gb112) (o := .cells #[.int .i64 0, .int .i64 0, .int .u64 0, .int .i64 0, .int .i64 0, .slice none 0 0, .int .i64 0, .int .u64 0, .int .u64 0, .slice none 0 0, .int .i64 0, .int .u64 0, .int .u64 0] 38 (0, 0)) (by (with_reducible repeat (first | refine blk_drewN ?_ _ | refine blk_drew ?_ | refine blk_alloc ?_ _)); exact BK112.out) hb); have n2_ := Aside0.mk (below_step (by repeat (first | (with_reducible first | exact HB.out | apply below_alloc | apply pw_below_drewN | apply below_drew1 | refine below_set ?_ GE112.out) | exact HB.out)) hb); clear BK112; clear HB; have HO115 := n0_; have BK112 := n1_; have HB := n2_; clear n0_ n1_ n2_; (try clear hb); (try clear hb2); (try clear hk); (try clear hi); (try clear ho0)) | ((with_reducible refine gate_dst (N := 10) rfl ?_); refine box_event ?hg (N := 10) ?hd (cs := #[.slice none 0 0, .int .i64 0, .int .u64 0, .int .u64 0]) (t := 36) ?hr ?_; (case hd => rfl); (case hg => rfl); (case hr => first | (go_simp; done) | (go_simp; rfl)); intro gb120 hg w40 hbox hb; have n0_ := Aside0.mk (Kd.S_below (by (with_reducible repeat (first | apply Kd.S_alloc | apply Kd.S_drewN | apply Kd.S_drew)); exact HO115.out) hb); have n1_ := Aside0.mk (blk_below (g := gb112) (o := .cells #[.int .i64 0, .int .i64 0, .int .u64 0, .int .i64 0, .int .i64 0, .slice none 0 0, .int .i64 0, .int .u64 0, .int .u64 0, .slice none 0 0, .int .i64 0, .int .u64 0, .int .u64 0] 38 (0, 0)) (by (with_reducible repeat (first | refine blk_drewN ?_ _ | refine blk_drew ?_ | refine blk_alloc ?_ _)); exact BK112.out) hb); have n2_ := Aside0.mk (below_step (by repeat (first | (with_reducible first | exact HB.out | apply below_alloc | apply pw_below_drewN | apply below_drew1 | refine below_set ?_ GE112.out) | exact HB.out)) hb); have n3_ := Aside0.mk (hbox); have n4_ := Aside0.mk ((by rw [hg]; exact (below_size (by repeat (first | (with_reducible first | exact HB.out | apply below_alloc | apply pw_below_drewN | apply below_drew1 | refine below_set ?_ GE112.out) | exact HB.out))) : w.heap.size ≤ gb120)); have n5_ := Aside0.mk ((by rw [hg]; exact (below_size (by repeat (first | (with_reducible first | exact HB.out | apply below_alloc | apply pw_below_drewN | apply below_drew1 | refine below_set ?_ GE112.out) | exact HB.out))) : w.heap.size ≤ gb120)); have n6_ := Aside0.mk ((by rw [hg]; exact Nat.ne_of_lt (blk_lt (g := gb112) (o := .cells #[.int .i64 0, .int .i64 0, .int .u64 0, .int .i64 0, .int .i64 0, .slice none 0 0, .int .i64 0, .int .u64 0, .int .u64 0, .slice none 0 0, .int .i64 0, .int .u64 0, .int .u64 0] 38 (0, 0)) (by (with_reducible repeat (first | refine blk_drewN ?_ _ | refine blk_drew ?_ | refine blk_alloc ?_ _)); exact BK112.out)) : gb112 ≠ gb120)); have n7_ := Aside0.mk ((by rw [hg]; exact Nat.ne_of_gt (blk_lt (g := gb112) (o := .cells #[.int .i64 0, .int .i64 0, .int .u64 0, .int .i64 0, .int .i64 0, .slice none 0 0, .int .i64 0, .int .u64 0, .int .u64 0, .slice none 0 0, .int .i64 0, .int .u64 0, .int .u64 0] 38 (0, 0)) (by (with_reducible repeat (first | refine blk_drewN ?_ _ | refine blk_drew ?_ | refine blk_alloc ?_ _)); exact BK112.out)) : gb120 ≠ gb112)); clear HO115; clear BK112; clear HB; have HO115 := n0_; have BK112 := n1_; have HB := n2_; have BK120 := n3_; have GW120 := n4_; have GE120 := n5_; have NB112_120 := n6_; have NB120_112 := n7_; clear n0_ n1_ n2_ n3_ n4_ n5_ n6_ n7_; clear hb hbox hg; obtain ⟨Ao41, co41, eo41⟩ := Kd.S_slice HO115.out; subst eo41; have hnb42 := NB120_112.out; have hnc42 := NB112_120.out; have hcz43_0 : w40.cell? ⟨gb120, 0, none⟩ = some (.slice none 0 0) := (blk_cell BK120.out 0).trans rfl; have hcz43_1 : w40.cell? ⟨gb120, 1, none⟩ = some (.int .i64 0) := (blk_cell BK120.out 1).trans rfl; have hcz43_2 : w40.cell? ⟨gb120, 2, none⟩ = some (.int .u64 0) := (blk_cell BK120.out 2).trans rfl; have hcz43_3 : w40.cell? ⟨gb120, 3, none⟩ = some (.int .u64 0) := (blk_cell BK120.out 3).trans rfl; have hfz43_0 := blk_frozen BK120.out 0; have hfz43_1 := blk_frozen BK120.out 1; have hfz43_2 := blk_frozen BK120.out 2; have hfz43_3 := blk_frozen BK120.out 3; have hcz44_0 : w40.cell? ⟨gb112, 0, none⟩ = some (.int .i64 0) := (blk_cell BK112.out 0).trans rfl; have hcz44_1 : w40.cell? ⟨gb112, 1, none⟩ = some (.int .i64 0) := (blk_cell BK112.out 1).trans rfl; have hcz44_2 : w40.cell? ⟨gb112, 2, none⟩ = some (.int .u64 0) := (blk_cell BK112.out 2).trans rfl; have hcz44_3 : w40.cell? ⟨gb112, 3, none⟩ = some (.int .i64 0) := (blk_cell BK112.out 3).trans rfl; have hcz44_4 : w40.cell? ⟨gb112, 4, none⟩ = some (.int .i64 0) := (blk_cell BK112.out 4).trans rfl; have hcz44_5 : w40.cell? ⟨gb112, 5, none⟩ = some (.slice none 0 0) := (blk_cell BK112.out 5).trans rfl; have hcz44_6 : w40.cell? ⟨gb112, 6, none⟩ = some (.int .i64 0) := (blk_cell BK112.out 6).trans rfl; have hcz44_7 : w40.cell? ⟨gb112, 7, none⟩ = some (.int .u64 0) := (blk_cell BK112.out 7).trans rfl; have hcz44_8 : w40.cell? ⟨gb112, 8, none⟩ = some (.int .u64 0) := (blk_cell BK112.out 8).trans rfl; have hcz44_9 : w40.cell? ⟨gb112, 9, none⟩ = some (.slice none 0 0) := (blk_cell BK112.out 9).trans rfl; have hcz44_10 : w40.cell? ⟨gb112, 10, none⟩ = some (.int .i64 0) := (blk_cell BK112.out 10).trans rfl; have hcz44_11 : w40.cell? ⟨gb112, 11, none⟩ = some (.int .u64 0) := (blk_cell BK112.out 11).trans rfl; have hcz44_12 : w40.cell? ⟨gb112, 12, none⟩ = some (.int .u64 0) := (blk_cell BK112.out 12).trans rfl; have hfz44_0 := blk_frozen BK112.out 0; have hfz44_1 := blk_frozen BK112.out 1; have hfz44_2 := blk_frozen BK112.out 2; have hfz44_3 := blk_frozen BK112.out 3; have hfz44_4 := blk_frozen BK112.out 4; have hfz44_5 := blk_frozen BK112.out 5; have hfz44_6 := blk_frozen BK112.out 6; have hfz44_7 := blk_frozen BK112.out 7; have hfz44_8 := blk_frozen BK112.out 8; have hfz44_9 := blk_frozen BK112.out 9; have hfz44_10 := blk_frozen BK112.out 10; have hfz44_11 := blk_frozen BK112.out 11; have hfz44_12 := blk_frozen BK112.out 12))
    refine bodyPost_ret (results_ct rfl _ _ gb112 38 #[.int .i64 0, .int .i64 0, .int .u64 0, .int .i64 0, .int .i64 0, .slice none 0 0, .int .i64 0, .int .u64 0, .int .u64 0, .slice none 0 0, .int .i64 0, .int .u64 0, .int .u64 0] (0, 0) _ rfl (by (with_reducible repeat (first | refine blk_drewN ?_ _ | refine blk_drew ?_ | refine blk_alloc ?_ _)); refine blk_put (cs := #[.int .i64 0, .int .i64 0, .int .u64 0, .int .i64 0, .int .i64 0, .slice none 0 0, .int .i64 0, .int .u64 0, .int .u64 0, .slice none 0 0, .int .i64 0, .int .u64 0, .int .u64 0]) ?_ 12 _ rfl; (with_reducible repeat (first | refine blk_drewN ?_ _ | refine blk_drew ?_ | refine blk_alloc ?_ _)); refine blk_put (cs := #[.int .i64 0, .int .i64 0, .int .u64 0, .int .i64 0, .int .i64 0, .slice none 0 0, .int .i64 0, .int .u64 0, .int .u64 0, .slice none 0 0, .int .i64 0, .int .u64 0, .int .u64 0]) ?_ 11 _ rfl; (with_reducible repeat (first | refine blk_drewN ?_ _ | refine blk_drew ?_ | refine blk_alloc ?_ _)); refine blk_put (cs := #[.int .i64 0, .int .i64 0, .int .u64 0, .int .i64 0, .int .i64 0, .slice none 0 0, .int .i64 0, .int .u64 0, .int .u64 0, .slice none 0 0, .int .i64 0, .int .u64 0, .int .u64 0]) ?_ 10 _ rfl; (with_reducible repeat (first | refine blk_drewN ?_ _ | refine blk_drew ?_ | refine blk_alloc ?_ _)); refine blk_put (cs := #[.int .i64 0, .int .i64 0, .int .u64 0, .int .i64 0, .int .i64 0, .slice none 0 0, .int .i64 0, .int .u64 0, .int .u64 0, .slice none 0 0, .int .i64 0, .int .u64 0, .int .u64 0]) ?_ 9 _ rfl; (with_reducible repeat (first | refine blk_drewN ?_ _ | refine blk_drew ?_ | refine blk_alloc ?_ _)); refine blk_put (cs := #[.int .i64 0, .int .i64 0, .int .u64 0, .int .i64 0, .int .i64 0, .slice none 0 0, .int .i64 0, .int .u64 0, .int .u64 0, .slice none 0 0, .int .i64 0, .int .u64 0, .int .u64 0]) ?_ 8 _ rfl; (with_reducible repeat (first | refine blk_drewN ?_ _ | refine blk_drew ?_ | refine blk_alloc ?_ _)); refine blk_put (cs := #[.int .i64 0, .int .i64 0, .int .u64 0, .int .i64 0, .int .i64 0, .slice none 0 0, .int .i64 0, .int .u64 0, .int .u64 0, .slice none 0 0, .int .i64 0, .int .u64 0, .int .u64 0]) ?_ 7 _ rfl; (with_reducible repeat (first | refine blk_drewN ?_ _ | refine blk_drew ?_ | refine blk_alloc ?_ _)); refine blk_put (cs := #[.int .i64 0, .int .i64 0, .int .u64 0, .int .i64 0, .int .i64 0, .slice none 0 0, .int .i64 0, .int .u64 0, .int .u64 0, .slice none 0 0, .int .i64 0, .int .u64 0, .int .u64 0]) ?_ 6 _ rfl; (with_reducible repeat (first | refine blk_drewN ?_ _ | refine blk_drew ?_ | refine blk_alloc ?_ _)); refine blk_put (cs := #[.int .i64 0, .int .i64 0, .int .u64 0, .int .i64 0, .int .i64 0, .slice none 0 0, .int .i64 0, .int .u64 0, .int .u64 0, .slice none 0 0, .int .i64 0, .int .u64 0, .int .u64 0]) ?_ 5 _ rfl; (with_reducible repeat (first | refine blk_drewN ?_ _ | refine blk_drew ?_ | refine blk_alloc ?_ _)); refine blk_put (cs := #[.int .i64 0, .int .i64 0, .int .u64 0, .int .i64 0, .int .i64 0, .slice none 0 0, .int .i64 0, .int .u64 0, .int .u64 0, .slice none 0 0, .int .i64 0, .int .u64 0, .int .u64 0]) ?_ 4 _ rfl; (with_reducible repeat (first | refine blk_drewN ?_ _ | refine blk_drew ?_ | refine blk_alloc ?_ _)); refine blk_put (cs := #[.int .i64 0, .int .i64 0, .int .u64 0, .int .i64 0, .int .i64 0, .slice none 0 0, .int .i64 0, .int .u64 0, .int .u64 0, .slice none 0 0, .int .i64 0, .int .u64 0, .int .u64 0]) ?_ 3 _ rfl; (with_reducible repeat (first | refine blk_drewN ?_ _ | refine blk_drew ?_ | refine blk_alloc ?_ _)); refine blk_put (cs := #[.int .i64 0, .int .i64 0, .int .u64 0, .int .i64 0, .int .i64 0, .slice none 0 0, .int .i64 0, .int .u64 0, .int .u64 0, .slice none 0 0, .int .i64 0, .int .u64 0, .int .u64 0]) ?_ 2 _ rfl; (with_reducible repeat (first | refine blk_drewN ?_ _ | refine blk_drew ?_ | refine blk_alloc ?_ _)); refine blk_put (cs := #[.int .i64 0, .int .i64 0, .int .u64 0, .int .i64 0, .int .i64 0, .slice none 0 0, .int .i64 0, .int .u64 0, .int .u64 0, .slice none 0 0, .int .i64 0, .int .u64 0, .int .u64 0]) ?_ 1 _ rfl; (with_reducible repeat (first | refine blk_drewN ?_ _ | refine blk_drew ?_ | refine blk_alloc ?_ _)); refine blk_put (cs := #[.int .i64 0, .int .i64 0, .int .u64 0, .int .i64 0, .int .i64 0, .slice none 0 0, .int .i64 0, .int .u64 0, .int .u64 0, .slice none 0 0, .int .i64 0, .int .u64 0, .int .u64 0]) ?_ 0 _ rfl; (with_reducible repeat (first | refine blk_drewN ?_ _ | refine blk_drew ?_ | refine blk_alloc ?_ _)); refine blk_far ?_ NB112_120.out _; (with_reducible repeat (first | refine blk_drewN ?_ _ | refine blk_drew ?_ | refine blk_alloc ?_ _)); refine blk_far ?_ NB112_120.out _; (with_reducible repeat (first | refine blk_drewN ?_ _ | refine blk_drew ?_ | refine blk_alloc ?_ _)); refine blk_far ?_ NB112_120.out _; (with_reducible repeat (first | refine blk_drewN ?_ _ | refine blk_drew ?_ | refine blk_alloc ?_ _)); refine blk_far ?_ NB112_120.out _; (with_reducible repeat (first | refine blk_drewN ?_ _ | refine blk_drew ?_ | refine blk_alloc ?_ _)); exact BK112.out) Try.underlying38 rfl (by kernel_rfl)) rfl ?_
    exact ⟨_, _, by first | rfl | (simp [errW_none, errW_some] <;> rfl) | (simp [*, errW_none, errW_some] <;> rfl), by first | exact Kd.S_nil _ _ _ _ _ | exact Kd.N_nil _ _ _ _ _ | exact Kd.V_nil _ _ _ _ _ | exact Kd.Q_nil _ _ _ _ _ | exact Kd.R_nil _ _ _ _ _, by first | exact Kd.S_nil _ _ _ _ _ | exact Kd.N_nil _ _ _ _ _ | exact Kd.V_nil _ _ _ _ _ | exact Kd.Q_nil _ _ _ _ _ | exact Kd.R_nil _ _ _ _ _, by repeat (first | (with_reducible first | exact HB.out | apply below_alloc | apply pw_below_drewN | apply below_drew1 | refine below_set ?_ GE112.out | refine below_set ?_ GE120.out) | exact HB.out)⟩

/-! ### telemeterref08_fresh: function 24 -/
def telemeterref08_fresh.f (k : Nat) (a0_0 : Int) (a0_1 : Int) (a0_2 : Int) (a0_3 : Int) (a0_4 : Int) (l0_5 : List (List Int)) (a0_6 : Int) (a0_7 : Int) (a0_8 : Int) (l0_9 : List (List Int)) (a0_10 : Int) (a0_11 : Int) (a0_12 : Int) (a1 : Int) : Option ((List (List Int)) × Int × Int × Int) := (telemeterref07_New.f k a0_0 a0_1 (IntKind.u64.wrap (a0_2 + (IntKind.u64.wrap (a1))))).bind fun bt131 => (some (bt131.1, bt131.2.1, bt131.2.2.1, bt131.2.2.2.1))
theorem telemeterref08_fresh.mono : ∀ a0 a1 a2 a3 a4 a5 a6 a7 a8 a9 a10 a11 a12 a13 k, LeO (telemeterref08_fresh.f k a0 a1 a2 a3 a4 a5 a6 a7 a8 a9 a10 a11 a12 a13) (telemeterref08_fresh.f (k + 1) a0 a1 a2 a3 a4 a5 a6 a7 a8 a9 a10 a11 a12 a13) := by
  intro a0 a1 a2 a3 a4 a5 a6 a7 a8 a9 a10 a11 a12 a13 k
  unfold telemeterref08_fresh.f
  repeat' first
      | (with_reducible exact telemeterref07_New.mono _ _ _ _)
      | (with_reducible exact LeO.refl _)
      | (with_reducible exact LeO.none _)
      | (with_reducible refine LeO.ite ?_ ?_)
      | (with_reducible refine LeO.bind ?_ (fun _ => ?_))
      | exact telemeterref07_New.mono _ _ _ _
      | exact LeO.none _
      | refine LeO.ite ?_ ?_
      | refine LeO.bind ?_ (fun _ => ?_)
set_option maxHeartbeats 8000000 in
set_option maxRecDepth 100000 in
theorem telemeterref08_fresh.calls (k : Nat) (a0_0 : Int) (a0_1 : Int) (a0_2 : Int) (a0_3 : Int) (a0_4 : Int) (A0_5 : Option Addr) (c0_5 : Nat) (l0_5 : List (List Int)) (a0_6 : Int) (a0_7 : Int) (a0_8 : Int) (A0_9 : Option Addr) (c0_9 : Nat) (l0_9 : List (List Int)) (a0_10 : Int) (a0_11 : Int) (a0_12 : Int) (a1 : Int) (r1 : List (List Int)) (r2 : Int) (r3 : Int) (r4 : Int) (w : World) (hr0_5 : Kd.C (Kd.slice 22 (Kd.int .u64)) w A0_5 l0_5.length l0_5) (hc0_5 : l0_5.length ≤ c0_5) (hr0_9 : Kd.C (Kd.slice 22 (Kd.int .u64)) w A0_9 l0_9.length l0_9) (hc0_9 : l0_9.length ≤ c0_9) (h : telemeterref08_fresh.f k a0_0 a0_1 a0_2 a0_3 a0_4 l0_5 a0_6 a0_7 a0_8 l0_9 a0_10 a0_11 a0_12 a1 = some (r1, r2, r3, r4)) :
    Calls Try.prog 24 #[.agg #[.int .i64 a0_0, .int .i64 a0_1, .int .u64 a0_2, .int .i64 a0_3, .int .i64 a0_4, .slice A0_5 l0_5.length c0_5, .int .i64 a0_6, .int .u64 a0_7, .int .u64 a0_8, .slice A0_9 l0_9.length c0_9, .int .i64 a0_10, .int .u64 a0_11, .int .u64 a0_12], .int .i64 a1] w fun e w' => ∃ v0_ : Value, e = .returned (.agg #[v0_, .int .i64 r2, .int .u64 r3, .int .u64 r4]) ∧ Kd.S (Kd.slice 22 (Kd.int .u64)) 60 w' w.heap.size (fun _ => True) v0_ r1 ∧ Below w.heap.size w w' := by
  have hu38 := Try.underlying38
  have hu36 := Try.underlying36
  have HR0_5 := Aside0.mk hr0_5
  have HC0_5 := Aside0.mk hc0_5
  clear hr0_5 hc0_5
  have HR0_9 := Aside0.mk hr0_9
  have HC0_9 := Aside0.mk hc0_9
  clear hr0_9 hc0_9
  have HB := Aside0.mk (Below.refl w.heap.size w)
  have H : ((telemeterref07_New.f k a0_0 a0_1 (IntKind.u64.wrap (a0_2 + (IntKind.u64.wrap (a1))))).bind fun bt131 => (some (bt131.1, bt131.2.1, bt131.2.2.1, bt131.2.2.2.1))) = some (r1, r2, r3, r4) := h
  clear h
  replace H := Option.bind_eq_some_iff.mp H
  obtain ⟨⟨t131, t134, t135, t136, t137⟩, A30, H⟩ := H
  replace H : (some (t131, t134, t135, t136)) = some (r1, r2, r3, r4) := H
  have A3 := Aside0.mk A30
  clear A30
  simp only [Option.some.injEq, Prod.mk.injEq] at H
  obtain ⟨rfl, rfl, rfl, rfl⟩ := H
  go_enter Try.func24, Try.ntmps24
  go_wp2_with (first | ((with_reducible refine gate_dst (N := 2) rfl ?_); refine box_event ?hg (N := 2) ?hd (cs := #[.int .i64 a0_0, .int .i64 a0_1, .int .u64 a0_2, .int .i64 a0_3, .int .i64 a0_4, .slice A0_5 l0_5.length c0_5, .int .i64 a0_6, .int .u64 a0_7, .int .u64 a0_8, .slice A0_9 l0_9.length c0_9, .int .i64 a0_10, .int .u64 a0_11, .int .u64 a0_12]) (t := 38) ?hr ?_; (case hd => rfl); (case hg => rfl); (case hr => first | (go_simp; done) | (go_simp; rfl)); intro gb129 hg w4 hbox hb; have n0_ := Aside0.mk (below_step (by repeat (first | (with_reducible first | exact HB.out | apply below_alloc | apply pw_below_drewN | apply below_drew1) | exact HB.out)) hb); have n1_ := Aside0.mk (hbox); have n2_ := Aside0.mk ((by rw [hg]; exact (below_size (by repeat (first | (with_reducible first | exact HB.out | apply below_alloc | apply pw_below_drewN | apply below_drew1) | exact HB.out))) : w.heap.size ≤ gb129)); have n3_ := Aside0.mk ((by rw [hg]; exact (below_size (by repeat (first | (with_reducible first | exact HB.out | apply below_alloc | apply pw_below_drewN | apply below_drew1) | exact HB.out))) : w.heap.size ≤ gb129)); clear HB; have HB := n0_; have BK129 := n1_; have GW129 := n2_; have GE129 := n3_; clear n0_ n1_ n2_ n3_; clear hb hbox hg) | ((with_reducible refine gate_dst (N := 4) rfl ?_); refine box_event ?hg (N := 4) ?hd (cs := #[.slice none 0 0, .int .i64 0, .int .u64 0, .int .u64 0]) (t := 36) ?hr ?_; (case hd => rfl); (case hg => rfl); (case hr => first | (go_simp; done) | (go_simp; rfl)); intro gb130 hg w5 hbox hb; have n0_ := Aside0.mk (blk_below (g := gb129) (o := .cells #[.int .i64 a0_0, .int .i64 a0_1, .int .u64 a0_2, .int .i64 a0_3, .int .i64 a0_4, .slice A0_5 l0_5.length c0_5, .int .i64 a0_6, .int .u64 a0_7, .int .u64 a0_8, .slice A0_9 l0_9.length c0_9, .int .i64 a0_10, .int .u64 a0_11, .int .u64 a0_12] 38 (0, 0)) (by (with_reducible repeat (first | refine blk_drewN ?_ _ | refine blk_drew ?_ | refine blk_alloc ?_ _)); exact BK129.out) hb); have n1_ := Aside0.mk (below_step (by repeat (first | (with_reducible first | exact HB.out | apply below_alloc | apply pw_below_drewN | apply below_drew1 | refine below_set ?_ GE129.out) | exact HB.out)) hb); have n2_ := Aside0.mk (hbox); have n3_ := Aside0.mk ((by rw [hg]; exact (below_size (by repeat (first | (with_reducible first | exact HB.out | apply below_alloc | apply pw_below_drewN | apply below_drew1 | refine below_set ?_ GE129.out) | exact HB.out))) : w.heap.size ≤ gb130)); have n4_ := Aside0.mk ((by rw [hg]; exact (below_size (by repeat (first | (with_reducible first | exact HB.out | apply below_alloc | apply pw_below_drewN | apply below_drew1 | refine below_set ?_ GE129.out) | exact HB.out))) : w.heap.size ≤ gb130)); have n5_ := Aside0.mk ((by rw [hg]; exact Nat.ne_of_lt (blk_lt (g := gb129) (o := .cells #[.int .i64 a0_0, .int .i64 a0_1, .int .u64 a0_2, .int .i64 a0_3, .int .i64 a0_4, .slice A0_5 l0_5.length c0_5, .int .i64 a0_6, .int .u64 a0_7, .int .u64 a0_8, .slice A0_9 l0_9.length c0_9, .int .i64 a0_10, .int .u64 a0_11, .int .u64 a0_12] 38 (0, 0)) (by (with_reducible repeat (first | refine blk_drewN ?_ _ | refine blk_drew ?_ | refine blk_alloc ?_ _)); exact BK129.out)) : gb129 ≠ gb130)); have n6_ := Aside0.mk ((by rw [hg]; exact Nat.ne_of_gt (blk_lt (g := gb129) (o := .cells #[.int .i64 a0_0, .int .i64 a0_1, .int .u64 a0_2, .int .i64 a0_3, .int .i64 a0_4, .slice A0_5 l0_5.length c0_5, .int .i64 a0_6, .int .u64 a0_7, .int .u64 a0_8, .slice A0_9 l0_9.length c0_9, .int .i64 a0_10, .int .u64 a0_11, .int .u64 a0_12] 38 (0, 0)) (by (with_reducible repeat (first | refine blk_drewN ?_ _ | refine blk_drew ?_ | refine blk_alloc ?_ _)); exact BK129.out)) : gb130 ≠ gb129)); clear BK129; clear HB; have BK129 := n0_; have HB := n1_; have BK130 := n2_; have GW130 := n3_; have GE130 := n4_; have NB129_130 := n5_; have NB130_129 := n6_; clear n0_ n1_ n2_ n3_ n4_ n5_ n6_; clear hb hbox hg; have hnb6 := NB129_130.out; have hnc6 := NB130_129.out; have hcz7_0 : w5.cell? ⟨gb129, 0, none⟩ = some (.int .i64 a0_0) := (blk_cell BK129.out 0).trans rfl; have hcz7_1 : w5.cell? ⟨gb129, 1, none⟩ = some (.int .i64 a0_1) := (blk_cell BK129.out 1).trans rfl; have hcz7_2 : w5.cell? ⟨gb129, 2, none⟩ = some (.int .u64 a0_2) := (blk_cell BK129.out 2).trans rfl; have hcz7_3 : w5.cell? ⟨gb129, 3, none⟩ = some (.int .i64 a0_3) := (blk_cell BK129.out 3).trans rfl; have hcz7_4 : w5.cell? ⟨gb129, 4, none⟩ = some (.int .i64 a0_4) := (blk_cell BK129.out 4).trans rfl; have hcz7_5 : w5.cell? ⟨gb129, 5, none⟩ = some (.slice A0_5 l0_5.length c0_5) := (blk_cell BK129.out 5).trans rfl; have hcz7_6 : w5.cell? ⟨gb129, 6, none⟩ = some (.int .i64 a0_6) := (blk_cell BK129.out 6).trans rfl; have hcz7_7 : w5.cell? ⟨gb129, 7, none⟩ = some (.int .u64 a0_7) := (blk_cell BK129.out 7).trans rfl; have hcz7_8 : w5.cell? ⟨gb129, 8, none⟩ = some (.int .u64 a0_8) := (blk_cell BK129.out 8).trans rfl; have hcz7_9 : w5.cell? ⟨gb129, 9, none⟩ = some (.slice A0_9 l0_9.length c0_9) := (blk_cell BK129.out 9).trans rfl; have hcz7_10 : w5.cell? ⟨gb129, 10, none⟩ = some (.int .i64 a0_10) := (blk_cell BK129.out 10).trans rfl; have hcz7_11 : w5.cell? ⟨gb129, 11, none⟩ = some (.int .u64 a0_11) := (blk_cell BK129.out 11).trans rfl; have hcz7_12 : w5.cell? ⟨gb129, 12, none⟩ = some (.int .u64 a0_12) := (blk_cell BK129.out 12).trans rfl; have hfz7_0 := blk_frozen BK129.out 0; have hfz7_1 := blk_frozen BK129.out 1; have hfz7_2 := blk_frozen BK129.out 2; have hfz7_3 := blk_frozen BK129.out 3; have hfz7_4 := blk_frozen BK129.out 4; have hfz7_5 := blk_frozen BK129.out 5; have hfz7_6 := blk_frozen BK129.out 6; have hfz7_7 := blk_frozen BK129.out 7; have hfz7_8 := blk_frozen BK129.out 8; have hfz7_9 := blk_frozen BK129.out 9; have hfz7_10 := blk_frozen BK129.out 10; have hfz7_11 := blk_frozen BK129.out 11; have hfz7_12 := blk_frozen BK129.out 12) | ((with_reducible refine gate_callee (f := 22) rfl ?_); refine goesL_ (some 17) rfl rfl Try.func22 (by kernel_rfl) rfl #[.int .i64 a0_0, .int .i64 a0_1, .int .u64 (IntKind.u64.wrap (a0_2 + (IntKind.u64.wrap (a1))))] rfl (by (try simp only [List.map_toArray, List.map_cons, List.map_nil]); first | done | rfl | (simp only [List.length_drop, List.length_take]; rfl)) ?_; (with_reducible refine (telemeterref07_New.calls k a0_0 a0_1 (IntKind.u64.wrap (a0_2 + (IntKind.u64.wrap (a1)))) t131 t134 t135 t136 t137 _ A3.out).mono ?_); rintro e w8 ⟨v132, rfl, ho0, hb⟩; refine ⟨_, rfl, ?_⟩; have n0_ := Aside0.mk (Kd.S_lower ho0 (below_size (by repeat (first | (with_reducible first | exact HB.out | apply below_alloc | apply pw_below_drewN | apply below_drew1 | refine below_set ?_ GE129.out | refine below_set ?_ GE130.out) | exact HB.out)))); have n1_ := Aside0.mk (blk_below (g := gb129) (o := .cells #[.int .i64 a0_0, .int .i64 a0_1, .int .u64 a0_2, .int .i64 a0_3, .int .i64 a0_4, .slice A0_5 l0_5.length c0_5, .int .i64 a0_6, .int .u64 a0_7, .int .u64 a0_8, .slice A0_9 l0_9.length c0_9, .int .i64 a0_10, .int .u64 a0_11, .int .u64 a0_12] 38 (0, 0)) (by (with_reducible repeat (first | refine blk_drewN ?_ _ | refine blk_drew ?_ | refine blk_alloc ?_ _)); exact BK129.out) hb); have n2_ := Aside0.mk (blk_below (g := gb130) (o := .cells #[.slice none 0 0, .int .i64 0, .int .u64 0, .int .u64 0] 36 (0, 0)) (by (with_reducible repeat (first | refine blk_drewN ?_ _ | refine blk_drew ?_ | refine blk_alloc ?_ _)); exact BK130.out) hb); have n3_ := Aside0.mk (below_step (by repeat (first | (with_reducible first | exact HB.out | apply below_alloc | apply pw_below_drewN | apply below_drew1 | refine below_set ?_ GE129.out | refine below_set ?_ GE130.out) | exact HB.out)) hb); clear BK129; clear BK130; clear HB; have HO133 := n0_; have BK129 := n1_; have BK130 := n2_; have HB := n3_; clear n0_ n1_ n2_ n3_; (try clear hb); (try clear hb2); (try clear hk); (try clear hi); (try clear ho0)) | ((with_reducible refine gate_dst (N := 5) rfl ?_); refine box_event ?hg (N := 5) ?hd (cs := #[.slice none 0 0, .int .i64 0, .int .u64 0, .int .u64 0]) (t := 36) ?hr ?_; (case hd => rfl); (case hg => rfl); (case hr => first | (go_simp; done) | (go_simp; rfl)); intro gb138 hg w9 hbox hb; have n0_ := Aside0.mk (Kd.S_below (by (with_reducible repeat (first | apply Kd.S_alloc | apply Kd.S_drewN | apply Kd.S_drew)); exact HO133.out) hb); have n1_ := Aside0.mk (blk_below (g := gb129) (o := .cells #[.int .i64 a0_0, .int .i64 a0_1, .int .u64 a0_2, .int .i64 a0_3, .int .i64 a0_4, .slice A0_5 l0_5.length c0_5, .int .i64 a0_6, .int .u64 a0_7, .int .u64 a0_8, .slice A0_9 l0_9.length c0_9, .int .i64 a0_10, .int .u64 a0_11, .int .u64 a0_12] 38 (0, 0)) (by (with_reducible repeat (first | refine blk_drewN ?_ _ | refine blk_drew ?_ | refine blk_alloc ?_ _)); exact BK129.out) hb); have n2_ := Aside0.mk (blk_below (g := gb130) (o := .cells #[.slice none 0 0, .int .i64 0, .int .u64 0, .int .u64 0] 36 (0, 0)) (by (with_reducible repeat (first | refine blk_drewN ?_ _ | refine blk_drew ?_ | refine blk_alloc ?_ _)); exact BK130.out) hb); have n3_ := Aside0.mk (below_step (by repeat (first | (with_reducible first | exact HB.out | apply below_alloc | apply pw_below_drewN | apply below_drew1 | refine below_set ?_ GE129.out | refine below_set ?_ GE130.out) | exact HB.out)) hb); have n4_ := Aside0.mk (hbox); have n5_ := Aside0.mk ((by rw [hg]; exact (below_size (by repeat (first | (with_reducible first | exact HB.out | apply below_alloc | apply pw_below_drewN | apply below_drew1 | refine below_set ?_ GE129.out | refine below_set ?_ GE130.out) | exact HB.out))) : w.heap.size ≤ gb138)); have n6_ := Aside0.mk ((by rw [hg]; exact (below_size (by repeat (first | (with_reducible first | exact HB.out | apply below_alloc | apply pw_below_drewN | apply below_drew1 | refine below_set ?_ GE129.out | refine below_set ?_ GE130.out) | exact HB.out))) : w.heap.size ≤ gb138)); have n7_ := Aside0.mk ((by rw [hg]; exact Nat.ne_of_lt (blk_lt (g := gb129) (o := .cells #[.int .i64 a0_0, .int .i64 a0_1, .int .u64 a0_2, .int .i64 a0_3, .int .i64 a0_4, .slice A0_5 l0_5.length c0_5, .int .i64 a0_6, .int .u64 a0_7, .int .u64 a0_8, .slice A0_9 l0_9.length c0_9, .int .i64 a0_10, .int .u64 a0_11, .int .u64 a0_12] 38 (0, 0)) (by (with_reducible repeat (first | refine blk_drewN ?_ _ | refine blk_drew ?_ | refine blk_alloc ?_ _)); exact BK129.out)) : gb129 ≠ gb138)); have n8_ := Aside0.mk ((by rw [hg]; exact Nat.ne_of_gt (blk_lt (g := gb129) (o := .cells #[.int .i64 a0_0, .int .i64 a0_1, .int .u64 a0_2, .int .i64 a0_3, .int .i64 a0_4, .slice A0_5 l0_5.length c0_5, .int .i64 a0_6, .int .u64 a0_7, .int .u64 a0_8, .slice A0_9 l0_9.length c0_9, .int .i64 a0_10, .int .u64 a0_11, .int .u64 a0_12] 38 (0, 0)) (by (with_reducible repeat (first | refine blk_drewN ?_ _ | refine blk_drew ?_ | refine blk_alloc ?_ _)); exact BK129.out)) : gb138 ≠ gb129)); have n9_ := Aside0.mk ((by rw [hg]; exact Nat.ne_of_lt (blk_lt (g := gb130) (o := .cells #[.slice none 0 0, .int .i64 0, .int .u64 0, .int .u64 0] 36 (0, 0)) (by (with_reducible repeat (first | refine blk_drewN ?_ _ | refine blk_drew ?_ | refine blk_alloc ?_ _)); exact BK130.out)) : gb130 ≠ gb138)); have n10_ := Aside0.mk ((by rw [hg]; exact Nat.ne_of_gt (blk_lt (g := gb130) (o := .cells #[.slice none 0 0, .int .i64 0, .int .u64 0, .int .u64 0] 36 (0, 0)) (by (with_reducible repeat (first | refine blk_drewN ?_ _ | refine blk_drew ?_ | refine blk_alloc ?_ _)); exact BK130.out)) : gb138 ≠ gb130)); clear HO133; clear BK129; clear BK130; clear HB; have HO133 := n0_; have BK129 := n1_; have BK130 := n2_; have HB := n3_; have BK138 := n4_; have GW138 := n5_; have GE138 := n6_; have NB129_138 := n7_; have NB138_129 := n8_; have NB130_138 := n9_; have NB138_130 := n10_; clear n0_ n1_ n2_ n3_ n4_ n5_ n6_ n7_ n8_ n9_ n10_; clear hb hbox hg; obtain ⟨Ao10, co10, eo10⟩ := Kd.S_slice HO133.out; subst eo10; have hnb11 := NB138_129.out; have hnc11 := NB129_138.out; have hnb12 := NB138_130.out; have hnc12 := NB130_138.out; have hcz13_0 : w9.cell? ⟨gb138, 0, none⟩ = some (.slice none 0 0) := (blk_cell BK138.out 0).trans rfl; have hcz13_1 : w9.cell? ⟨gb138, 1, none⟩ = some (.int .i64 0) := (blk_cell BK138.out 1).trans rfl; have hcz13_2 : w9.cell? ⟨gb138, 2, none⟩ = some (.int .u64 0) := (blk_cell BK138.out 2).trans rfl; have hcz13_3 : w9.cell? ⟨gb138, 3, none⟩ = some (.int .u64 0) := (blk_cell BK138.out 3).trans rfl; have hfz13_0 := blk_frozen BK138.out 0; have hfz13_1 := blk_frozen BK138.out 1; have hfz13_2 := blk_frozen BK138.out 2; have hfz13_3 := blk_frozen BK138.out 3; have hcz14_0 : w9.cell? ⟨gb130, 0, none⟩ = some (.slice none 0 0) := (blk_cell BK130.out 0).trans rfl; have hcz14_1 : w9.cell? ⟨gb130, 1, none⟩ = some (.int .i64 0) := (blk_cell BK130.out 1).trans rfl; have hcz14_2 : w9.cell? ⟨gb130, 2, none⟩ = some (.int .u64 0) := (blk_cell BK130.out 2).trans rfl; have hcz14_3 : w9.cell? ⟨gb130, 3, none⟩ = some (.int .u64 0) := (blk_cell BK130.out 3).trans rfl; have hfz14_0 := blk_frozen BK130.out 0; have hfz14_1 := blk_frozen BK130.out 1; have hfz14_2 := blk_frozen BK130.out 2; have hfz14_3 := blk_frozen BK130.out 3))
  refine bodyPost_ret (results_cell_row rfl _ _ gb130 36 #[.slice Ao10 t131.length co10, .int .i64 t134, .int .u64 t135, .int .u64 t136] (0, 0) _ rfl (by (with_reducible repeat (first | refine blk_drewN ?_ _ | refine blk_drew ?_ | refine blk_alloc ?_ _)); refine blk_put (cs := #[.slice Ao10 t131.length co10, .int .i64 t134, .int .u64 t135, .int .u64 0]) ?_ 3 _ rfl; (with_reducible repeat (first | refine blk_drewN ?_ _ | refine blk_drew ?_ | refine blk_alloc ?_ _)); refine blk_put (cs := #[.slice Ao10 t131.length co10, .int .i64 t134, .int .u64 0, .int .u64 0]) ?_ 2 _ rfl; (with_reducible repeat (first | refine blk_drewN ?_ _ | refine blk_drew ?_ | refine blk_alloc ?_ _)); refine blk_put (cs := #[.slice Ao10 t131.length co10, .int .i64 0, .int .u64 0, .int .u64 0]) ?_ 1 _ rfl; (with_reducible repeat (first | refine blk_drewN ?_ _ | refine blk_drew ?_ | refine blk_alloc ?_ _)); refine blk_put (cs := #[.slice none 0 0, .int .i64 0, .int .u64 0, .int .u64 0]) ?_ 0 _ rfl; (with_reducible repeat (first | refine blk_drewN ?_ _ | refine blk_drew ?_ | refine blk_alloc ?_ _)); refine blk_far ?_ NB130_138.out _; (with_reducible repeat (first | refine blk_drewN ?_ _ | refine blk_drew ?_ | refine blk_alloc ?_ _)); refine blk_far ?_ NB130_138.out _; (with_reducible repeat (first | refine blk_drewN ?_ _ | refine blk_drew ?_ | refine blk_alloc ?_ _)); refine blk_far ?_ NB130_138.out _; (with_reducible repeat (first | refine blk_drewN ?_ _ | refine blk_drew ?_ | refine blk_alloc ?_ _)); refine blk_far ?_ NB130_138.out _; (with_reducible repeat (first | refine blk_drewN ?_ _ | refine blk_drew ?_ | refine blk_alloc ?_ _)); exact BK130.out) Try.underlying36 rfl (by kernel_rfl)) rfl ?_
  exact ⟨_, by first | rfl | (simp [errW_none, errW_some] <;> rfl) | (simp [*, errW_none, errW_some] <;> rfl), by (with_reducible repeat (first | apply Kd.S_alloc | apply Kd.S_drewN | apply Kd.S_drew)); exact Kd.S_mono (Kd.S_far (p := ⟨gb130, 3, none⟩) (Kd.S_far (p := ⟨gb130, 2, none⟩) (Kd.S_far (p := ⟨gb130, 1, none⟩) (Kd.S_far (p := ⟨gb130, 0, none⟩) (Kd.S_far (p := ⟨gb138, 3, none⟩) (Kd.S_far (p := ⟨gb138, 2, none⟩) (Kd.S_far (p := ⟨gb138, 1, none⟩) (Kd.S_far (p := ⟨gb138, 0, none⟩) (Kd.S_types (Kd.S_types HO133.out BK138.out (by decide)) BK130.out (by decide)) (fun _ hk => hk.1.2) (.slice Ao10 t131.length co10)) (fun _ hk => hk.1.2) (.int .i64 t134)) (fun _ hk => hk.1.2) (.int .u64 t135)) (fun _ hk => hk.1.2) (.int .u64 t136)) (fun _ hk => hk.2) (.slice Ao10 t131.length co10)) (fun _ hk => hk.2) (.int .i64 t134)) (fun _ hk => hk.2) (.int .u64 t135)) (fun _ hk => hk.2) (.int .u64 t136)) (fun _ hk => trivial), by repeat (first | (with_reducible first | exact HB.out | apply below_alloc | apply pw_below_drewN | apply below_drew1 | refine below_set ?_ GE129.out | refine below_set ?_ GE130.out | refine below_set ?_ GE138.out) | exact HB.out)⟩

-- NOT PRINTED: function 15 (telemeterref08_At)

/-! ### telemeterref06_part: function 35 -/
def telemeterref06_part.f (a0 : Int) (a1 : Int) : Option (Int) := if 0 ≤ (IntKind.u64.wrap (a1)) then (some (Go.bits .xor .u64 a0 (shr .u64 a0 (IntKind.u64.wrap (a1))))) else (none)
set_option maxHeartbeats 8000000 in
set_option maxRecDepth 100000 in
theorem telemeterref06_part.calls (a0 : Int) (a1 : Int) (r : Int) (w : World) (h : telemeterref06_part.f a0 a1 = some r) :
    Calls Try.prog 35 #[.int .u64 a0, .int .i64 a1] w fun e w' => e = .returned (.int .u64 r) ∧ Drawn0 w w' := by
  have H : (if 0 ≤ (IntKind.u64.wrap (a1)) then (some (Go.bits .xor .u64 a0 (shr .u64 a0 (IntKind.u64.wrap (a1))))) else (none)) = some r := h
  clear h
  obtain ⟨ji3, hji3⟩ : ∃ j_ : Int, (IntKind.u64.wrap (a1)) = j_ := ⟨_, rfl⟩
  replace H : (if 0 ≤ (ji3) then (some (Go.bits .xor .u64 a0 (shr .u64 a0 (ji3)))) else (none)) = some r := by first | (rw [hji3] at H; exact H) | (simp only [hji3] at H ⊢; exact H)
  by_cases c4 : 0 ≤ (ji3)
  · rw [if_pos c4] at H
    have c4b0 := eq_true c4
    have c4b1 : decide (0 ≤ (ji3)) = true := decide_eq_true c4
    clear c4
    obtain ⟨ji5, hji5⟩ : ∃ j_ : Int, (shr .u64 a0 (ji3)) = j_ := ⟨_, rfl⟩
    replace H : (some (Go.bits .xor .u64 a0 (ji5))) = some r := by first | (rw [hji5] at H; exact H) | (simp only [hji5] at H ⊢; exact H)
    have hji5_ : (a0 / 2 ^ min (ji3).toNat 64) = ji5 := hji5
    have hji5z : (ji3) ≤ 64 → (a0 / 2 ^ (ji3).toNat) = ji5 := shr_small hji5
    obtain rfl := Option.some.inj H
    go_enter Try.func35, Try.ntmps35
    go_wp2
    go_ret
    exact ⟨by first | rfl | (simp; done) | (simp only [← hji3, ← hji5] <;> (first | rfl | simp)) | (simp [*]; done), by repeat (first | exact Drawn0.refl _ | apply Drawn0.step)⟩
  · rw [if_neg c4] at H
    exact absurd H (by simp)

/-! ### telemeterref06_Mix: function 33 -/
def telemeterref06_Mix.f (a0 : Int) : Option (Int) := (telemeterref06_part.f a0 30).bind fun t147 => ((telemeterref06_part.f (IntKind.u64.wrap (t147 * 13787848793156543929)) 27).bind fun t148 => ((telemeterref06_part.f (IntKind.u64.wrap (t148 * 10723151780598845931)) 31).bind fun t149 => (some t149)))
set_option maxHeartbeats 8000000 in
set_option maxRecDepth 100000 in
theorem telemeterref06_Mix.calls (a0 : Int) (r : Int) (w : World) (h : telemeterref06_Mix.f a0 = some r) :
    Calls Try.prog 33 #[.int .u64 a0] w fun e w' => e = .returned (.int .u64 r) ∧ Drawn0 w w' := by
  have H : ((telemeterref06_part.f a0 30).bind fun t147 => ((telemeterref06_part.f (IntKind.u64.wrap (t147 * 13787848793156543929)) 27).bind fun t148 => ((telemeterref06_part.f (IntKind.u64.wrap (t148 * 10723151780598845931)) 31).bind fun t149 => (some t149)))) = some r := h
  clear h
  replace H := Option.bind_eq_some_iff.mp H
  obtain ⟨t147, A20, H⟩ := H
  replace H : ((telemeterref06_part.f (IntKind.u64.wrap (t147 * 13787848793156543929)) 27).bind fun t148 => ((telemeterref06_part.f (IntKind.u64.wrap (t148 * 10723151780598845931)) 31).bind fun t149 => (some t149))) = some r := H
  have A2 := Aside0.mk A20
  clear A20
  replace H := Option.bind_eq_some_iff.mp H
  obtain ⟨t148, A30, H⟩ := H
  replace H : ((telemeterref06_part.f (IntKind.u64.wrap (t148 * 10723151780598845931)) 31).bind fun t149 => (some t149)) = some r := H
  have A3 := Aside0.mk A30
  clear A30
  replace H := Option.bind_eq_some_iff.mp H
  obtain ⟨t149, A40, H⟩ := H
  replace H : (some t149) = some r := H
  have A4 := Aside0.mk A40
  clear A40
  obtain rfl := Option.some.inj H
  go_enter Try.func33, Try.ntmps33
  go_wp2_with (first | ((with_reducible refine gate_callee (f := 35) rfl ?_); refine goesL_ (some 4) rfl rfl Try.func35 (by kernel_rfl) rfl #[.int .u64 a0, .int .i64 30] rfl (by (try simp only [List.map_toArray, List.map_cons, List.map_nil]); first | done | rfl | (simp only [List.length_drop, List.length_take]; rfl)) ?_; (with_reducible refine (telemeterref06_part.calls a0 30 t147 _ A2.out).mono ?_); rintro e w' ⟨rfl, ⟨nd, rfl⟩⟩; refine ⟨_, rfl, ?_⟩) | ((with_reducible refine gate_callee (f := 35) rfl ?_); refine goesL_ (some 7) rfl rfl Try.func35 (by kernel_rfl) rfl #[.int .u64 (IntKind.u64.wrap (t147 * 13787848793156543929)), .int .i64 27] rfl (by (try simp only [List.map_toArray, List.map_cons, List.map_nil]); first | done | rfl | (simp only [List.length_drop, List.length_take]; rfl)) ?_; (with_reducible refine (telemeterref06_part.calls (IntKind.u64.wrap (t147 * 13787848793156543929)) 27 t148 _ A3.out).mono ?_); rintro e w' ⟨rfl, ⟨nd, rfl⟩⟩; refine ⟨_, rfl, ?_⟩) | ((with_reducible refine gate_callee (f := 35) rfl ?_); refine goesL_ (some 10) rfl rfl Try.func35 (by kernel_rfl) rfl #[.int .u64 (IntKind.u64.wrap (t148 * 10723151780598845931)), .int .i64 31] rfl (by (try simp only [List.map_toArray, List.map_cons, List.map_nil]); first | done | rfl | (simp only [List.length_drop, List.length_take]; rfl)) ?_; (with_reducible refine (telemeterref06_part.calls (IntKind.u64.wrap (t148 * 10723151780598845931)) 31 t149 _ A4.out).mono ?_); rintro e w' ⟨rfl, ⟨nd, rfl⟩⟩; refine ⟨_, rfl, ?_⟩))
  go_ret
  exact ⟨by first | rfl | (simp; done) | (simp [*]; done), by repeat (first | exact Drawn0.refl _ | apply Drawn0.step)⟩

/-! ### telemeterref06_Of: function 31 -/
def telemeterref06_Of.l0 : Nat → ByteArray → Int → Int → Option (Int)
  | 0, _, _, _ => none
  | k + 1, x1, x5, x6 => if x6 < (x1.size : Int) then (if 0 ≤ x6 then (telemeterref06_Of.l0 k x1 (IntKind.u64.wrap ((Go.bits .xor .u64 x5 (IntKind.u64.wrap (bt x1 x6))) * 1099511628211)) (wrap64 (x6 + 1))) else (none)) else ((telemeterref06_Mix.f (Go.bits .xor .u64 x5 (IntKind.u64.wrap ((x1.size : Int))))).bind fun t151 => (some t151))
def telemeterref06_Of.f (k : Nat) (a0 : Int) (a1 : ByteArray) : Option (Int) := (telemeterref06_Mix.f a0).bind fun t150 => (telemeterref06_Of.l0 k a1 t150 0)
theorem telemeterref06_Of.mono_l : ∀ k, (∀ y0 y1 y2, LeO (telemeterref06_Of.l0 k y0 y1 y2) (telemeterref06_Of.l0 (k + 1) y0 y1 y2))
  | 0 => fun _ _ _ r h => by simp [telemeterref06_Of.l0] at h
  | k + 1 => by
    have ih0 := telemeterref06_Of.mono_l k
    · intro y0 y1 y2
      unfold telemeterref06_Of.l0
      repeat' first
      | (with_reducible exact ih0 _ _ _)
      | (with_reducible exact LeO.refl _)
      | (with_reducible exact LeO.none _)
      | (with_reducible refine LeO.ite ?_ ?_)
      | (with_reducible refine LeO.bind ?_ (fun _ => ?_))
      | exact ih0 _ _ _
      | exact LeO.none _
      | refine LeO.ite ?_ ?_
      | refine LeO.bind ?_ (fun _ => ?_)
theorem telemeterref06_Of.mono : ∀ a0 a1 k, LeO (telemeterref06_Of.f k a0 a1) (telemeterref06_Of.f (k + 1) a0 a1) := by
  intro a0 a1 k
  have ih0 := telemeterref06_Of.mono_l k
  unfold telemeterref06_Of.f
  repeat' first
      | (with_reducible exact ih0 _ _ _)
      | (with_reducible exact LeO.refl _)
      | (with_reducible exact LeO.none _)
      | (with_reducible refine LeO.ite ?_ ?_)
      | (with_reducible refine LeO.bind ?_ (fun _ => ?_))
      | exact ih0 _ _ _
      | exact LeO.none _
      | refine LeO.ite ?_ ?_
      | refine LeO.bind ?_ (fun _ => ?_)
set_option maxHeartbeats 8000000 in
set_option maxRecDepth 100000 in
theorem telemeterref06_Of.calls (k : Nat) (a0 : Int) (a1 : ByteArray) (r : Int) (w : World) (h : telemeterref06_Of.f k a0 a1 = some r) :
    Calls Try.prog 31 #[.int .u64 a0, .string a1] w fun e w' => e = .returned (.int .u64 r) ∧ Drawn0 w w' := by
  have H : ((telemeterref06_Mix.f a0).bind fun t150 => (telemeterref06_Of.l0 k a1 t150 0)) = some r := h
  clear h
  replace H := Option.bind_eq_some_iff.mp H
  obtain ⟨t150, A30, H⟩ := H
  replace H : (telemeterref06_Of.l0 k a1 t150 0) = some r := H
  have A3 := Aside0.mk A30
  clear A30
  have H' := Aside0.mk H
  clear H
  go_enter Try.func31, Try.ntmps31
  go_wp2_with (first | ((with_reducible refine gate_callee (f := 33) rfl ?_); refine goesL_ (some 8) rfl rfl Try.func33 (by kernel_rfl) rfl #[.int .u64 a0] rfl (by (try simp only [List.map_toArray, List.map_cons, List.map_nil]); first | done | rfl | (simp only [List.length_drop, List.length_take]; rfl)) ?_; (with_reducible refine (telemeterref06_Mix.calls a0 t150 _ A3.out).mono ?_); rintro e w' ⟨rfl, ⟨nd, rfl⟩⟩; refine ⟨_, rfl, ?_⟩))
  go_loopg [5, 6] k (fun kq v5 v6 w' => ∃ (x5_1 : Int) (x6_1 : Int), v5 = .int .u64 x5_1 ∧ v6 = .int .i64 x6_1 ∧ Aside0 (telemeterref06_Of.l0 kq a1 x5_1 x6_1 = some r) ∧ Aside0 (kq ≤ k) ∧ Drawn0 w w')
  case atStart => exact ⟨(t150), (0), (by first | rfl | (simp; done) | (simp [*]; done)), (by first | rfl | (simp; done) | (simp [*]; done)), H', ⟨Nat.le_refl _⟩, by repeat (first | exact Drawn0.refl _ | apply Drawn0.step)⟩
  case round =>
    clear H'
    try clear p2
    try clear c3
    obtain ⟨x5_1, x6_1, rfl, rfl, HA, HK1, ⟨m1, rfl⟩⟩ := hrel
    cases gk with
    | zero => exact absurd HA.out (by simp [telemeterref06_Of.l0])
    | succ k1 =>
      have H := HA.out
      clear HA
      simp only [telemeterref06_Of.l0] at H
      by_cases c4 : x6_1 < (a1.size : Int)
      · rw [if_pos c4] at H
        have c4b0 : decide (x6_1 < (a1.size : Int)) = true := decide_eq_true c4
        clear c4
        by_cases c5 : 0 ≤ x6_1
        · rw [if_pos c5] at H
          have c5b0 : decide (0 ≤ x6_1) = true := decide_eq_true c5
          clear c5
          have H' := Aside0.mk H
          clear H
          have p6 : 0 ≤ (x6_1 : Int) := of_decide_eq_true (by first | (with_reducible assumption) | assumption)
          have q6 : x6_1 < (a1.size : Int) := of_decide_eq_true (by first | (with_reducible assumption) | assumption)
          have hx6 := bt_at a1 x6_1
          replace p6 := eq_true p6
          replace q6 := eq_true q6
          go_wp2
          go_roundg k1
          case measure => have := HK1.out; omega
          case rel => exact ⟨(IntKind.u64.wrap ((Go.bits .xor .u64 x5_1 (IntKind.u64.wrap (bt a1 x6_1))) * 1099511628211)), (wrap64 (x6_1 + 1)), (by first | rfl | (simp; done) | (simp [*]; done)), (by first | rfl | (simp; done) | (simp [*]; done)), H', ⟨by have := HK1.out; omega⟩, by repeat (first | exact Drawn0.refl _ | apply Drawn0.step)⟩
        · rw [if_neg c5] at H
          exact absurd H (by simp)
      · rw [if_neg c4] at H
        have c4b0 : decide (x6_1 < (a1.size : Int)) = false := decide_eq_false c4
        clear c4
        replace H := Option.bind_eq_some_iff.mp H
        obtain ⟨t151, A70, H⟩ := H
        replace H : (some t151) = some r := H
        have A7 := Aside0.mk A70
        clear A70
        obtain rfl := Option.some.inj H
        go_wp2_with (first | ((with_reducible refine gate_callee (f := 33) rfl ?_); refine goesL_ (some 27) rfl rfl Try.func33 (by kernel_rfl) rfl #[.int .u64 (Go.bits .xor .u64 x5_1 (IntKind.u64.wrap ((a1.size : Int))))] rfl (by (try simp only [List.map_toArray, List.map_cons, List.map_nil]); first | done | rfl | (simp only [List.length_drop, List.length_take]; rfl)) ?_; (with_reducible refine (telemeterref06_Mix.calls (Go.bits .xor .u64 x5_1 (IntKind.u64.wrap ((a1.size : Int)))) t151 _ A7.out).mono ?_); rintro e w' ⟨rfl, ⟨nd, rfl⟩⟩; refine ⟨_, rfl, ?_⟩))
        go_ret
        exact ⟨by first | rfl | (simp; done) | (simp [*]; done), by repeat (first | exact Drawn0.refl _ | apply Drawn0.step)⟩

/-! ### telemeterref06_In: function 29 -/
def telemeterref06_In.f (k : Nat) (a0 : Int) (a1 : ByteArray) (a2 : Int) : Option (Int) := if a2 < 1 then (some 0) else ((telemeterref06_Of.f k a0 a1).bind fun t152 => (if (IntKind.u64.wrap (a2)) = 0 then (none) else (some (wrap64 (Int.tmod t152 (IntKind.u64.wrap (a2)))))))
theorem telemeterref06_In.mono : ∀ a0 a1 a2 k, LeO (telemeterref06_In.f k a0 a1 a2) (telemeterref06_In.f (k + 1) a0 a1 a2) := by
  intro a0 a1 a2 k
  unfold telemeterref06_In.f
  repeat' first
      | (with_reducible exact telemeterref06_Of.mono _ _ _)
      | (with_reducible exact LeO.refl _)
      | (with_reducible exact LeO.none _)
      | (with_reducible refine LeO.ite ?_ ?_)
      | (with_reducible refine LeO.bind ?_ (fun _ => ?_))
      | exact telemeterref06_Of.mono _ _ _
      | exact LeO.none _
      | refine LeO.ite ?_ ?_
      | refine LeO.bind ?_ (fun _ => ?_)
set_option maxHeartbeats 8000000 in
set_option maxRecDepth 100000 in
theorem telemeterref06_In.calls (k : Nat) (a0 : Int) (a1 : ByteArray) (a2 : Int) (r : Int) (w : World) (h : telemeterref06_In.f k a0 a1 a2 = some r) :
    Calls Try.prog 29 #[.int .u64 a0, .string a1, .int .i64 a2] w fun e w' => e = .returned (.int .i64 r) ∧ Drawn0 w w' := by
  have H : (if a2 < 1 then (some 0) else ((telemeterref06_Of.f k a0 a1).bind fun t152 => (if (IntKind.u64.wrap (a2)) = 0 then (none) else (some (wrap64 (Int.tmod t152 (IntKind.u64.wrap (a2)))))))) = some r := h
  clear h
  by_cases c4 : a2 < 1
  · rw [if_pos c4] at H
    have c4b0 : decide (a2 < 1) = true := decide_eq_true c4
    clear c4
    obtain rfl := Option.some.inj H
    go_enter Try.func29, Try.ntmps29
    go_wp2
    go_ret
    exact ⟨by first | rfl | (simp; done) | (simp [*]; done), by repeat (first | exact Drawn0.refl _ | apply Drawn0.step)⟩
  · rw [if_neg c4] at H
    have c4b0 : decide (a2 < 1) = false := decide_eq_false c4
    clear c4
    replace H := Option.bind_eq_some_iff.mp H
    obtain ⟨t152, A50, H⟩ := H
    replace H : (if (IntKind.u64.wrap (a2)) = 0 then (none) else (some (wrap64 (Int.tmod t152 (IntKind.u64.wrap (a2)))))) = some r := H
    have A5 := Aside0.mk A50
    clear A50
    by_cases c6 : (IntKind.u64.wrap (a2)) = 0
    · rw [if_pos c6] at H
      exact absurd H (by simp)
    · rw [if_neg c6] at H
      have c6b0 : ((IntKind.u64.wrap (a2)) == 0) = false := beq_eq_false_iff_ne.mpr c6
      have c6b1 : ((IntKind.u64.wrap (a2)) != 0) = true := bne_iff_ne.mpr c6
      obtain rfl := Option.some.inj H
      go_enter Try.func29, Try.ntmps29
      go_wp2_with (first | ((with_reducible refine gate_callee (f := 31) rfl ?_); refine goesL_ (some 11) rfl rfl Try.func31 (by kernel_rfl) rfl #[.int .u64 a0, .string a1] rfl (by (try simp only [List.map_toArray, List.map_cons, List.map_nil]); first | done | rfl | (simp only [List.length_drop, List.length_take]; rfl)) ?_; (with_reducible refine (telemeterref06_Of.calls k a0 a1 t152 _ A5.out).mono ?_); rintro e w' ⟨rfl, ⟨nd, rfl⟩⟩; refine ⟨_, rfl, ?_⟩))
      go_ret
      exact ⟨by first | rfl | (simp; done) | (simp [*]; done), by repeat (first | exact Drawn0.refl _ | apply Drawn0.step)⟩

/-! ### telemeterref07_place: function 25 -/
def telemeterref07_place.f (k : Nat) (l0_0 : List (List Int)) (a0_1 : Int) (a0_2 : Int) (a0_3 : Int) (a1 : Int) (a2 : ByteArray) : Option (Int) := (telemeterref06_In.f k (IntKind.u64.wrap (a0_2 + (IntKind.u64.wrap (a1)))) a2 a0_1).bind fun t154 => (some t154)
theorem telemeterref07_place.mono : ∀ a0 a1 a2 a3 a4 a5 k, LeO (telemeterref07_place.f k a0 a1 a2 a3 a4 a5) (telemeterref07_place.f (k + 1) a0 a1 a2 a3 a4 a5) := by
  intro a0 a1 a2 a3 a4 a5 k
  unfold telemeterref07_place.f
  repeat' first
      | (with_reducible exact telemeterref06_In.mono _ _ _ _)
      | (with_reducible exact LeO.refl _)
      | (with_reducible exact LeO.none _)
      | (with_reducible refine LeO.ite ?_ ?_)
      | (with_reducible refine LeO.bind ?_ (fun _ => ?_))
      | exact telemeterref06_In.mono _ _ _ _
      | exact LeO.none _
      | refine LeO.ite ?_ ?_
      | refine LeO.bind ?_ (fun _ => ?_)
set_option maxHeartbeats 8000000 in
set_option maxRecDepth 100000 in
theorem telemeterref07_place.calls (k : Nat) (A0_0 : Option Addr) (c0_0 : Nat) (l0_0 : List (List Int)) (a0_1 : Int) (a0_2 : Int) (a0_3 : Int) (a1 : Int) (a2 : ByteArray) (r : Int) (w : World) (hr0_0 : Kd.C (Kd.slice 22 (Kd.int .u64)) w A0_0 l0_0.length l0_0) (hc0_0 : l0_0.length ≤ c0_0) (h : telemeterref07_place.f k l0_0 a0_1 a0_2 a0_3 a1 a2 = some r) :
    Calls Try.prog 25 #[.agg #[.slice A0_0 l0_0.length c0_0, .int .i64 a0_1, .int .u64 a0_2, .int .u64 a0_3], .int .i64 a1, .string a2] w fun e w' => e = .returned (.int .i64 r) ∧ Below w.heap.size w w' := by
  have hu36 := Try.underlying36
  have HR0_0 := Aside0.mk hr0_0
  have HC0_0 := Aside0.mk hc0_0
  clear hr0_0 hc0_0
  have HB := Aside0.mk (Below.refl w.heap.size w)
  have H : ((telemeterref06_In.f k (IntKind.u64.wrap (a0_2 + (IntKind.u64.wrap (a1)))) a2 a0_1).bind fun t154 => (some t154)) = some r := h
  clear h
  replace H := Option.bind_eq_some_iff.mp H
  obtain ⟨t154, A40, H⟩ := H
  replace H : (some t154) = some r := H
  have A4 := Aside0.mk A40
  clear A40
  obtain rfl := Option.some.inj H
  go_enter Try.func25, Try.ntmps25
  go_wp2_with (first | ((with_reducible refine gate_dst (N := 3) rfl ?_); refine box_event ?hg (N := 3) ?hd (cs := #[.slice A0_0 l0_0.length c0_0, .int .i64 a0_1, .int .u64 a0_2, .int .u64 a0_3]) (t := 36) ?hr ?_; (case hd => rfl); (case hg => rfl); (case hr => first | (go_simp; done) | (go_simp; rfl)); intro gb153 hg w5 hbox hb; have n0_ := Aside0.mk (below_step (by repeat (first | (with_reducible first | exact HB.out | apply below_alloc | apply pw_below_drewN | apply below_drew1) | exact HB.out)) hb); have n1_ := Aside0.mk (hbox); have n2_ := Aside0.mk ((by rw [hg]; exact (below_size (by repeat (first | (with_reducible first | exact HB.out | apply below_alloc | apply pw_below_drewN | apply below_drew1) | exact HB.out))) : w.heap.size ≤ gb153)); have n3_ := Aside0.mk ((by rw [hg]; exact (below_size (by repeat (first | (with_reducible first | exact HB.out | apply below_alloc | apply pw_below_drewN | apply below_drew1) | exact HB.out))) : w.heap.size ≤ gb153)); clear HB; have HB := n0_; have BK153 := n1_; have GW153 := n2_; have GE153 := n3_; clear n0_ n1_ n2_ n3_; clear hb hbox hg; have hcz6_0 : w5.cell? ⟨gb153, 0, none⟩ = some (.slice A0_0 l0_0.length c0_0) := (blk_cell BK153.out 0).trans rfl; have hcz6_1 : w5.cell? ⟨gb153, 1, none⟩ = some (.int .i64 a0_1) := (blk_cell BK153.out 1).trans rfl; have hcz6_2 : w5.cell? ⟨gb153, 2, none⟩ = some (.int .u64 a0_2) := (blk_cell BK153.out 2).trans rfl; have hcz6_3 : w5.cell? ⟨gb153, 3, none⟩ = some (.int .u64 a0_3) := (blk_cell BK153.out 3).trans rfl; have hfz6_0 := blk_frozen BK153.out 0; have hfz6_1 := blk_frozen BK153.out 1; have hfz6_2 := blk_frozen BK153.out 2; have hfz6_3 := blk_frozen BK153.out 3) | ((with_reducible refine gate_callee (f := 29) rfl ?_); refine goesL_ (some 15) rfl rfl Try.func29 (by kernel_rfl) rfl #[.int .u64 (IntKind.u64.wrap (a0_2 + (IntKind.u64.wrap (a1)))), .string a2, .int .i64 a0_1] rfl (by (try simp only [List.map_toArray, List.map_cons, List.map_nil]); first | done | rfl | (simp only [List.length_drop, List.length_take]; rfl)) ?_; (with_reducible refine (telemeterref06_In.calls k (IntKind.u64.wrap (a0_2 + (IntKind.u64.wrap (a1)))) a2 a0_1 t154 _ A4.out).mono ?_); rintro e w' ⟨rfl, ⟨nd, rfl⟩⟩; refine ⟨_, rfl, ?_⟩))
  go_ret
  exact ⟨by first | rfl | (simp [errW_none, errW_some] <;> rfl) | (simp [*, errW_none, errW_some] <;> rfl), by repeat (first | (with_reducible first | exact HB.out | apply below_alloc | apply pw_below_drewN | apply below_drew1 | refine below_set ?_ GE153.out) | exact HB.out)⟩

end Go.Proofs.Ytiohjmpnkoohjaa.PWindowCounts
