-- PRINTED BY print.sh 35421559b90ae4d0a3588c463048766b98c2df88dd9212a6774a882060cdf62d: not written by this session
import Derived.Test.YtjpfamminemegaaPRateAsksx0
import Derived.Test.YtjpfamminemegaaPRateAsksx3
namespace Go.Proofs.Ytjpfamminemegaa.PRateAsks
open Go.RowKit Go.Proofs.YtjpfamminemegaaW.PrintWords Go.Proofs.YtjpfamminemegaaW.PrintLast Go.Proofs.YtjpfamminemegaaW.PrintMore
attribute [local go_sem] max2_int min2_int max_two min_two max_three min_three max_four min_four   -- for this text's walks alone
set_option linter.unusedVariables false
set_option linter.unusedSimpArgs false

/-! ### telemeterref07_Add: function 43 -/
def telemeterref07_Add.l0 : Nat → ByteArray → Int → Int → List (List Int) → Int → Int → Int → List (List Int) → Int → Int → Int → Option ((List (List Int)) × Int × Int × Int)
  | 0, _, _, _, _, _, _, _, _, _, _, _ => none
  | k + 1, x1, x7, x9, x197000, x197001, x197002, x197003, x202000, x202001, x202002, x202003 => if x9 < (x197000.length : Int) then (if 0 ≤ x9 then (if ([] : List Int).length + (rd_L1 x197000 x9).length < 17592186044416 then ((some (([] : List Int) ++ (rd_L1 x197000 x9) : List Int)).bind fun y203 => ((telemeterref07_place.f k x197000 x197001 x197002 x197003 x9 x1).bind fun t206 => (if 0 ≤ t206 then (if t206 < (y203.length : Int) then (if x202000.length < 5864062014805 then (telemeterref07_Add.l0 k x1 x7 (wrap64 (x9 + 1)) x197000 x197001 x197002 x197003 (x202000 ++ [(y203.set (t206 : Int).toNat (mx (rd y203 t206) x7))]) x202001 x202002 x202003) else (none)) else (none)) else (none)))) else (none)) else (none)) else (some (x202000, x202001, x202002, x202003))
def telemeterref07_Add.f (k : Nat) (l0_0 : List (List Int)) (a0_1 : Int) (a0_2 : Int) (a0_3 : Int) (a1 : ByteArray) (a2 : Int) : Option ((List (List Int)) × Int × Int × Int) := (telemeterref07_Count.f k l0_0 a0_1 a0_2 a0_3 a1).bind fun t198 => ((telemeterref07_plus.f t198 a2).bind fun t199 => ((telemeterref07_plus.f a0_3 a2).bind fun t200 => (telemeterref07_Add.l0 k a1 t199 0 l0_0 a0_1 a0_2 a0_3 ([] : List (List Int)) a0_1 a0_2 t200)))
theorem telemeterref07_Add.mono_l : ∀ k, (∀ y0 y1 y2 y3 y4 y5 y6 y7 y8 y9 y10, LeO (telemeterref07_Add.l0 k y0 y1 y2 y3 y4 y5 y6 y7 y8 y9 y10) (telemeterref07_Add.l0 (k + 1) y0 y1 y2 y3 y4 y5 y6 y7 y8 y9 y10))
  | 0 => fun _ _ _ _ _ _ _ _ _ _ _ r h => by simp [telemeterref07_Add.l0] at h
  | k + 1 => by
    have ih0 := telemeterref07_Add.mono_l k
    · intro y0 y1 y2 y3 y4 y5 y6 y7 y8 y9 y10
      unfold telemeterref07_Add.l0
      repeat' first
      | (with_reducible exact ih0 _ _ _ _ _ _ _ _ _ _ _)
      | (with_reducible exact telemeterref07_Count.mono _ _ _ _ _ _)
      | (with_reducible exact telemeterref07_place.mono _ _ _ _ _ _ _)
      | (with_reducible exact LeO.refl _)
      | (with_reducible exact LeO.none _)
      | (with_reducible refine LeO.ite ?_ ?_)
      | (with_reducible refine LeO.bind ?_ (fun _ => ?_))
      | exact ih0 _ _ _ _ _ _ _ _ _ _ _
      | exact telemeterref07_Count.mono _ _ _ _ _ _
      | exact telemeterref07_place.mono _ _ _ _ _ _ _
      | exact LeO.none _
      | refine LeO.ite ?_ ?_
      | refine LeO.bind ?_ (fun _ => ?_)
theorem telemeterref07_Add.mono : ∀ a0 a1 a2 a3 a4 a5 k, LeO (telemeterref07_Add.f k a0 a1 a2 a3 a4 a5) (telemeterref07_Add.f (k + 1) a0 a1 a2 a3 a4 a5) := by
  intro a0 a1 a2 a3 a4 a5 k
  have ih0 := telemeterref07_Add.mono_l k
  unfold telemeterref07_Add.f
  repeat' first
      | (with_reducible exact ih0 _ _ _ _ _ _ _ _ _ _ _)
      | (with_reducible exact telemeterref07_Count.mono _ _ _ _ _ _)
      | (with_reducible exact telemeterref07_place.mono _ _ _ _ _ _ _)
      | (with_reducible exact LeO.refl _)
      | (with_reducible exact LeO.none _)
      | (with_reducible refine LeO.ite ?_ ?_)
      | (with_reducible refine LeO.bind ?_ (fun _ => ?_))
      | exact ih0 _ _ _ _ _ _ _ _ _ _ _
      | exact telemeterref07_Count.mono _ _ _ _ _ _
      | exact telemeterref07_place.mono _ _ _ _ _ _ _
      | exact LeO.none _
      | refine LeO.ite ?_ ?_
      | refine LeO.bind ?_ (fun _ => ?_)
def telemeterref07_Add.T2 : Bool × List (List Nat × List Nat) := (true, [([], []), ([0], [0]), ([], []), ([2], [2]), ([], []), ([4], [4]), ([], []), ([5, 6], [5, 6]), ([1, 3, 7], [1, 3, 7]), ([], []), ([9, 8, 7, 0, 1, 2, 3, 4, 5, 6, 7, 8, 9], [8, 9])])
def telemeterref07_Add.B2 : List Nat := [0, 1, 0, 4, 0, 16, 0, 112, 255, 0, 1023]
theorem telemeterref07_Add.tab2 : rtab .any (opsOf Try.f43 2) = telemeterref07_Add.T2 := by kernel_rfl
theorem telemeterref07_Add.bits2 : waitsOk telemeterref07_Add.T2.2 telemeterref07_Add.B2 = true := by kernel_rfl
set_option maxHeartbeats 8000000 in
set_option maxRecDepth 100000 in
theorem telemeterref07_Add.calls (k : Nat) (A0_0 : Option Addr) (c0_0 : Nat) (l0_0 : List (List Int)) (a0_1 : Int) (a0_2 : Int) (a0_3 : Int) (a1 : ByteArray) (a2 : Int) (r1 : List (List Int)) (r2 : Int) (r3 : Int) (r4 : Int) (w : World) (hr0_0 : Kd.C (Kd.slice 22 (Kd.int .u64)) w A0_0 l0_0.length l0_0) (hc0_0 : l0_0.length ≤ c0_0) (h : telemeterref07_Add.f k l0_0 a0_1 a0_2 a0_3 a1 a2 = some (r1, r2, r3, r4)) :
    Calls Try.prog 43 #[.agg #[.slice A0_0 l0_0.length c0_0, .int .i64 a0_1, .int .u64 a0_2, .int .u64 a0_3], .string a1, .int .u64 a2] w fun e w' => ∃ v0_ : Value, e = .returned (.agg #[v0_, .int .i64 r2, .int .u64 r3, .int .u64 r4]) ∧ Kd.S (Kd.slice 22 (Kd.int .u64)) 83 w' w.heap.size (fun _ => True) v0_ r1 ∧ Below w.heap.size w w' := by
  have hu38 := Try.underlying38
  have HR0_0 := Aside0.mk hr0_0
  have HC0_0 := Aside0.mk hc0_0
  clear hr0_0 hc0_0
  have HB := Aside0.mk (Below.refl w.heap.size w)
  have H : ((telemeterref07_Count.f k l0_0 a0_1 a0_2 a0_3 a1).bind fun t198 => ((telemeterref07_plus.f t198 a2).bind fun t199 => ((telemeterref07_plus.f a0_3 a2).bind fun t200 => (telemeterref07_Add.l0 k a1 t199 0 l0_0 a0_1 a0_2 a0_3 ([] : List (List Int)) a0_1 a0_2 t200)))) = some (r1, r2, r3, r4) := h
  clear h
  replace H := Option.bind_eq_some_iff.mp H
  obtain ⟨t198, A40, H⟩ := H
  replace H : ((telemeterref07_plus.f t198 a2).bind fun t199 => ((telemeterref07_plus.f a0_3 a2).bind fun t200 => (telemeterref07_Add.l0 k a1 t199 0 l0_0 a0_1 a0_2 a0_3 ([] : List (List Int)) a0_1 a0_2 t200))) = some (r1, r2, r3, r4) := H
  have A4 := Aside0.mk A40
  clear A40
  replace H := Option.bind_eq_some_iff.mp H
  obtain ⟨t199, A50, H⟩ := H
  replace H : ((telemeterref07_plus.f a0_3 a2).bind fun t200 => (telemeterref07_Add.l0 k a1 t199 0 l0_0 a0_1 a0_2 a0_3 ([] : List (List Int)) a0_1 a0_2 t200)) = some (r1, r2, r3, r4) := H
  have A5 := Aside0.mk A50
  clear A50
  replace H := Option.bind_eq_some_iff.mp H
  obtain ⟨t200, A60, H⟩ := H
  replace H : (telemeterref07_Add.l0 k a1 t199 0 l0_0 a0_1 a0_2 a0_3 ([] : List (List Int)) a0_1 a0_2 t200) = some (r1, r2, r3, r4) := H
  have A6 := Aside0.mk A60
  clear A60
  have H' := Aside0.mk H
  clear H
  go_enter Try.func43, Try.ntmps43
  try go_wp2_with (first | ((with_reducible refine gate_dst (N := 3) rfl ?_); refine box_event ?hg (N := 3) ?hd (cs := #[.slice A0_0 l0_0.length c0_0, .int .i64 a0_1, .int .u64 a0_2, .int .u64 a0_3]) (t := 38) ?hr ?_; (case hd => rfl); (case hg => rfl); (case hr => first | (go_simp; done) | (go_simp; rfl)); intro gb196 hg w7 hbox hb; have n0_ := Aside0.mk (below_step (by repeat (first | (with_reducible first | exact HB.out | apply below_alloc | apply pw_below_drewN | apply below_drew1) | exact HB.out)) hb); have n1_ := Aside0.mk (hbox); have n2_ := Aside0.mk ((by rw [hg]; exact (below_size (by repeat (first | (with_reducible first | exact HB.out | apply below_alloc | apply pw_below_drewN | apply below_drew1) | exact HB.out))) : w.heap.size ≤ gb196)); have n3_ := Aside0.mk ((by rw [hg]; exact (below_size (by repeat (first | (with_reducible first | exact HB.out | apply below_alloc | apply pw_below_drewN | apply below_drew1) | exact HB.out))) : w.heap.size ≤ gb196)); clear HB; have HB := n0_; have BK196 := n1_; have GW196 := n2_; have GE196 := n3_; clear n0_ n1_ n2_ n3_; clear hb hbox hg) | ((with_reducible refine gate_dst (N := 6) rfl ?_); refine box_event ?hg (N := 6) ?hd (cs := #[.slice none 0 0, .int .i64 0, .int .u64 0, .int .u64 0]) (t := 38) ?hr ?_; (case hd => rfl); (case hg => rfl); (case hr => first | (go_simp; done) | (go_simp; rfl)); intro gb197 hg w8 hbox hb; have n0_ := Aside0.mk (blk_below (g := gb196) (o := .cells #[.slice A0_0 l0_0.length c0_0, .int .i64 a0_1, .int .u64 a0_2, .int .u64 a0_3] 38 (0, 0)) (by (with_reducible repeat (first | refine blk_drewN ?_ _ | refine blk_drew ?_ | refine blk_alloc ?_ _)); exact BK196.out) hb); have n1_ := Aside0.mk (below_step (by repeat (first | (with_reducible first | exact HB.out | apply below_alloc | apply pw_below_drewN | apply below_drew1 | refine below_set ?_ GE196.out) | exact HB.out)) hb); have n2_ := Aside0.mk (hbox); have n3_ := Aside0.mk ((by rw [hg]; exact (below_size (by repeat (first | (with_reducible first | exact HB.out | apply below_alloc | apply pw_below_drewN | apply below_drew1 | refine below_set ?_ GE196.out) | exact HB.out))) : w.heap.size ≤ gb197)); have n4_ := Aside0.mk ((by rw [hg]; exact (below_size (by repeat (first | (with_reducible first | exact HB.out | apply below_alloc | apply pw_below_drewN | apply below_drew1 | refine below_set ?_ GE196.out) | exact HB.out))) : w.heap.size ≤ gb197)); have n5_ := Aside0.mk ((by rw [hg]; exact Nat.ne_of_lt (blk_lt (g := gb196) (o := .cells #[.slice A0_0 l0_0.length c0_0, .int .i64 a0_1, .int .u64 a0_2, .int .u64 a0_3] 38 (0, 0)) (by (with_reducible repeat (first | refine blk_drewN ?_ _ | refine blk_drew ?_ | refine blk_alloc ?_ _)); exact BK196.out)) : gb196 ≠ gb197)); have n6_ := Aside0.mk ((by rw [hg]; exact Nat.ne_of_gt (blk_lt (g := gb196) (o := .cells #[.slice A0_0 l0_0.length c0_0, .int .i64 a0_1, .int .u64 a0_2, .int .u64 a0_3] 38 (0, 0)) (by (with_reducible repeat (first | refine blk_drewN ?_ _ | refine blk_drew ?_ | refine blk_alloc ?_ _)); exact BK196.out)) : gb197 ≠ gb196)); clear BK196; clear HB; have BK196 := n0_; have HB := n1_; have BK197 := n2_; have GW197 := n3_; have GE197 := n4_; have NB196_197 := n5_; have NB197_196 := n6_; clear n0_ n1_ n2_ n3_ n4_ n5_ n6_; clear hb hbox hg; have hnb9 := NB196_197.out; have hnc9 := NB197_196.out; have hcz10_0 : w8.cell? ⟨gb196, 0, none⟩ = some (.slice A0_0 l0_0.length c0_0) := (blk_cell BK196.out 0).trans rfl; have hcz10_1 : w8.cell? ⟨gb196, 1, none⟩ = some (.int .i64 a0_1) := (blk_cell BK196.out 1).trans rfl; have hcz10_2 : w8.cell? ⟨gb196, 2, none⟩ = some (.int .u64 a0_2) := (blk_cell BK196.out 2).trans rfl; have hcz10_3 : w8.cell? ⟨gb196, 3, none⟩ = some (.int .u64 a0_3) := (blk_cell BK196.out 3).trans rfl; have hfz10_0 := blk_frozen BK196.out 0; have hfz10_1 := blk_frozen BK196.out 1; have hfz10_2 := blk_frozen BK196.out 2; have hfz10_3 := blk_frozen BK196.out 3) | ((with_reducible refine gate_callee (f := 31) rfl ?_); refine goesL_ (some 14) rfl rfl Try.func31 (by kernel_rfl) rfl #[.agg #[.slice A0_0 l0_0.length c0_0, .int .i64 a0_1, .int .u64 a0_2, .int .u64 a0_3], .string a1] rfl (by (try simp only [List.map_toArray, List.map_cons, List.map_nil]); first | done | rfl | (simp only [List.length_drop, List.length_take]; rfl)) ?_; (with_reducible refine (telemeterref07_Count.calls k _ _ l0_0 a0_1 a0_2 a0_3 a1 t198 _ ?side1 ?side2 A4.out).mono ?_); (case side1 => repeat (first | exact (Kd.C_below HR0_0.out HB.out) | (with_reducible refine Kd.C_alloc ?_ _) | (with_reducible refine Kd.C_drewN ?_ _) | (with_reducible refine Kd.C_drew ?_))); (case side2 => exact HC0_0.out); rintro e w11 ⟨rfl, hb⟩; refine ⟨_, rfl, ?_⟩; have n0_ := Aside0.mk (blk_below (g := gb196) (o := .cells #[.slice A0_0 l0_0.length c0_0, .int .i64 a0_1, .int .u64 a0_2, .int .u64 a0_3] 38 (0, 0)) (by (with_reducible repeat (first | refine blk_drewN ?_ _ | refine blk_drew ?_ | refine blk_alloc ?_ _)); exact BK196.out) hb); have n1_ := Aside0.mk (blk_below (g := gb197) (o := .cells #[.slice none 0 0, .int .i64 0, .int .u64 0, .int .u64 0] 38 (0, 0)) (by (with_reducible repeat (first | refine blk_drewN ?_ _ | refine blk_drew ?_ | refine blk_alloc ?_ _)); exact BK197.out) hb); have n2_ := Aside0.mk (below_step (by repeat (first | (with_reducible first | exact HB.out | apply below_alloc | apply pw_below_drewN | apply below_drew1 | refine below_set ?_ GE196.out | refine below_set ?_ GE197.out) | exact HB.out)) hb); clear BK196; clear BK197; clear HB; have BK196 := n0_; have BK197 := n1_; have HB := n2_; clear n0_ n1_ n2_; (try clear hb); (try clear hb2); (try clear hk); (try clear hi)) | ((with_reducible refine gate_callee (f := 48) rfl ?_); refine goesL_ (some 16) rfl rfl Try.func48 (by kernel_rfl) rfl #[.int .u64 t198, .int .u64 a2] rfl (by (try simp only [List.map_toArray, List.map_cons, List.map_nil]); first | done | rfl | (simp only [List.length_drop, List.length_take]; rfl)) ?_; (with_reducible refine (telemeterref07_plus.calls t198 a2 t199 _ A5.out).mono ?_); rintro e w' ⟨rfl, ⟨nd, rfl⟩⟩; refine ⟨_, rfl, ?_⟩; (try (rw [drewN_self w11]; generalize hq_ : World.drewN w11 _ = w11; have n0_ : Aside0 (w11.heap[gb196]? = some (.cells #[.slice A0_0 l0_0.length c0_0, .int .i64 a0_1, .int .u64 a0_2, .int .u64 a0_3] 38 (0, 0))) := ⟨by rw [← hq_]; exact (by (with_reducible repeat (first | refine blk_drewN ?_ _ | refine blk_drew ?_ | refine blk_alloc ?_ _)); exact BK196.out)⟩; have n1_ : Aside0 (w11.heap[gb197]? = some (.cells #[.slice none 0 0, .int .i64 0, .int .u64 0, .int .u64 0] 38 (0, 0))) := ⟨by rw [← hq_]; exact (by (with_reducible repeat (first | refine blk_drewN ?_ _ | refine blk_drew ?_ | refine blk_alloc ?_ _)); exact BK197.out)⟩; have n2_ : Aside0 (Below w.heap.size w w11) := ⟨by rw [← hq_]; exact (by repeat (first | (with_reducible first | exact HB.out | apply below_alloc | apply pw_below_drewN | apply below_drew1 | refine below_set ?_ GE196.out | refine below_set ?_ GE197.out) | exact HB.out))⟩; clear BK196 BK197 HB hq_; have BK196 := n0_; have BK197 := n1_; have HB := n2_; clear n0_ n1_ n2_))))
  have n0_ := Aside0.mk (blk_drew BK196.out)
  have n1_ := Aside0.mk (blk_drew BK197.out)
  have n2_ := Aside0.mk (below_drew1 HB.out)
  clear BK196
  clear BK197
  clear HB
  have BK196 := n0_
  have BK197 := n1_
  have HB := n2_
  clear n0_ n1_ n2_
  refine start_ (n := 11) (S := fun w' => w'.cell? ⟨gb196, 0, none⟩ = some (.slice A0_0 l0_0.length c0_0) ∧ w'.cell? ⟨gb196, 1, none⟩ = some (.int .i64 a0_1) ∧ w'.cell? ⟨gb196, 2, none⟩ = some (.int .u64 a0_2) ∧ w'.cell? ⟨gb196, 3, none⟩ = some (.int .u64 a0_3)) (ds := []) #[false, false, false, false, false, false, false, false, false, false, false] (by kernel_rfl) rfl rfl ⟨(blk_cell BK196.out 0).trans rfl, (blk_cell BK196.out 1).trans rfl, (blk_cell BK196.out 2).trans rfl, (blk_cell BK196.out 3).trans rfl⟩ (fun hHeld => ?_); refine with_tabW telemeterref07_Add.tab2 telemeterref07_Add.bits2 (fun HT_ HW_ => ?_)
  generalize w11.drew = w12 at BK196 BK197 HB hHeld ⊢
  refine pure_ (i := 0) (N := some 17) (v := ?_) (a' := ?_) #[true, false, false, false, false, false, false, false, false, false, false] rfl rfl (any_of HT_.out (by kernel_rfl)) (fun _ _ _ h => h) (Or.inl ⟨by rfl, ?_⟩) ?_ ?_
  rotate_left
  · intro w'
    go_simp
    with_reducible rfl
  rotate_left
  · simp only [Act.put, List.setIfInBounds_toArray, List.set_cons_zero, List.set_cons_succ, i64_w, i32_w]
    rfl
  refine pure_ (i := 2) (N := some 19) (v := ?_) (a' := ?_) #[true, false, true, false, false, false, false, false, false, false, false] rfl rfl (any_of HT_.out (by kernel_rfl)) (fun _ _ _ h => h) (Or.inl ⟨by rfl, ?_⟩) ?_ ?_
  rotate_left
  · intro w'
    go_simp
    with_reducible rfl
  rotate_left
  · simp only [Act.put, List.setIfInBounds_toArray, List.set_cons_zero, List.set_cons_succ, i64_w, i32_w]
    rfl
  refine pure_ (i := 4) (N := some 21) (v := ?_) (a' := ?_) #[true, false, true, false, true, false, false, false, false, false, false] rfl rfl (any_of HT_.out (by kernel_rfl)) (fun _ _ _ h => h) (Or.inl ⟨by rfl, ?_⟩) ?_ ?_
  rotate_left
  · intro w'
    go_simp
    with_reducible rfl
  rotate_left
  · simp only [Act.put, List.setIfInBounds_toArray, List.set_cons_zero, List.set_cons_succ, i64_w, i32_w]
    rfl
  refine pure_ (i := 6) (N := some 23) (v := ?_) (a' := ?_) #[true, false, true, false, true, false, true, false, false, false, false] rfl rfl (any_of HT_.out (by kernel_rfl)) (fun _ _ _ h => h) (Or.inl ⟨by rfl, ?_⟩) ?_ ?_
  rotate_left
  · intro w'
    go_simp
    with_reducible rfl
  rotate_left
  · simp only [Act.put, List.setIfInBounds_toArray, List.set_cons_zero, List.set_cons_succ, i64_w, i32_w]
    rfl
  refine take_ (i := 1) (N := some 18) (v := ?_) (a' := ?_) #[true, true, true, false, true, false, true, false, false, false, false] rfl rfl (take_ofW HT_.out HW_.out (by kernel_rfl)) (fun _ _ _ h => h) (Or.inl ⟨by rfl, ?_⟩) hHeld ?_ ?_
  rotate_left
  · rintro w' ⟨s0, s1, s2, s3⟩
    go_simp
    with_reducible rfl
  rotate_left
  · simp only [Act.put, List.setIfInBounds_toArray, List.set_cons_zero, List.set_cons_succ, i64_w, i32_w]
    rfl
  refine take_ (i := 3) (N := some 20) (v := ?_) (a' := ?_) #[true, true, true, true, true, false, true, false, false, false, false] rfl rfl (take_ofW HT_.out HW_.out (by kernel_rfl)) (fun _ _ _ h => h) (Or.inl ⟨by rfl, ?_⟩) hHeld ?_ ?_
  rotate_left
  · rintro w' ⟨s0, s1, s2, s3⟩
    go_simp
    with_reducible rfl
  rotate_left
  · simp only [Act.put, List.setIfInBounds_toArray, List.set_cons_zero, List.set_cons_succ, i64_w, i32_w]
    rfl
  refine take_ (i := 5) (N := some 22) (v := ?_) (a' := ?_) #[true, true, true, true, true, true, true, false, false, false, false] rfl rfl (take_ofW HT_.out HW_.out (by kernel_rfl)) (fun _ _ _ h => h) (Or.inl ⟨by rfl, ?_⟩) hHeld ?_ ?_
  rotate_left
  · rintro w' ⟨s0, s1, s2, s3⟩
    go_simp
    with_reducible rfl
  rotate_left
  · simp only [Act.put, List.setIfInBounds_toArray, List.set_cons_zero, List.set_cons_succ, i64_w, i32_w]
    rfl
  refine join_ (σ := Nat) 1 #[true, true, true, true, true, true, true, true, true, true, false] (fun s_ => [(24, .int .u64 t200), (8, .pointer (some ⟨s_, 0, none⟩)), (25, .agg #[.slice none 0 0, .int .i64 a0_1, .int .u64 a0_2, .int .u64 t200])]) (fun s_ w' => (w'.cell? ⟨gb196, 0, none⟩ = some (.slice A0_0 l0_0.length c0_0) ∧ w'.cell? ⟨gb196, 1, none⟩ = some (.int .i64 a0_1) ∧ w'.cell? ⟨gb196, 2, none⟩ = some (.int .u64 a0_2) ∧ w'.cell? ⟨gb196, 3, none⟩ = some (.int .u64 a0_3)) ∧ (w'.heap[gb196]? = some (.cells #[.slice A0_0 l0_0.length c0_0, .int .i64 a0_1, .int .u64 a0_2, .int .u64 a0_3] 38 (0, 0))) ∧ (w'.heap[gb197]? = some (.cells #[.slice none 0 0, .int .i64 0, .int .u64 0, .int .u64 0] 38 (0, 0))) ∧ (w'.heap[s_]? = some (.cells #[.slice none 0 0, .int .i64 0, .int .u64 0, .int .u64 0] 38 (0, 0))) ∧ (w.heap.size ≤ s_) ∧ (w.heap.size ≤ s_) ∧ (gb196 ≠ s_) ∧ (s_ ≠ gb196) ∧ (gb197 ≠ s_) ∧ (s_ ≠ gb197) ∧ (Below w.heap.size w w')) ?_ ?_
  rotate_left
  · intro hCont
    refine two_ (i := 7) (j := 9) (Ni := some 24) (Nj := some 8) #[true, true, true, true, true, true, true, true, false, false, false] #[true, true, true, true, true, true, true, false, false, true, false] rfl rfl rfl rfl (two_of HT_.out (by kernel_rfl)) (by decide) (by decide) (fun K hK => ?_) (fun K hK => ?_)
    · skip
      refine goes_ Try.func48 (by kernel_rfl) rfl #[.int .u64 a0_3, .int .u64 a2] (by rfl) rfl rfl (by (try simp only [List.map_toArray, List.map_cons, List.map_nil]); first | done | rfl | (simp only [List.length_drop, List.length_take]; rfl)) ?_
      with_reducible refine (telemeterref07_plus.calls a0_3 a2 t200 _ A6.out).mono ?_
      rintro e w' ⟨rfl, ⟨nd, rfl⟩⟩
      refine ⟨_, rfl, ?_⟩
      refine hK.out _ _ ⟨(blk_cell BK196.out 0).trans rfl, (blk_cell BK196.out 1).trans rfl, (blk_cell BK196.out 2).trans rfl, (blk_cell BK196.out 3).trans rfl⟩ (fun hHeld => ?_)
      clear hK K
      refine norm_ (a' := ?_) ?_ ?_
      rotate_left
      · show Act.put _ (some 24) _ = _
        simp only [Act.put, List.setIfInBounds_toArray, List.set_cons_zero, List.set_cons_succ, i64_w, i32_w]
        rfl
      refine pure_ (i := 8) (N := some 25) (v := ?_) (a' := ?_) #[true, true, true, true, true, true, true, true, true, false, false] rfl rfl (any_of HT_.out (by kernel_rfl)) (fun _ _ _ h => h) (Or.inl ⟨by rfl, ?_⟩) ?_ ?_
      rotate_left
      · intro w'
        go_simp
        with_reducible rfl
      rotate_left
      · simp only [Act.put, List.setIfInBounds_toArray, List.set_cons_zero, List.set_cons_succ, i64_w, i32_w]
        rfl
      refine one_ (i := 9) (N := some 8) #[true, true, true, true, true, true, true, true, true, true, false] rfl rfl (one_of HT_.out (by kernel_rfl)) (by decide) (fun K hK => ?_)
      refine box_step ?hg (N := 8) ?hd (cs := #[.slice none 0 0, .int .i64 0, .int .u64 0, .int .u64 0]) (t := 38) ?hr ?_; (case hd => rfl); (case hg => rfl); (case hr => first | (go_simp; done) | (go_simp; rfl))
      intro gb201 hg w13 hbox hb
      have n0_ := Aside0.mk (blk_below (g := gb196) (o := .cells #[.slice A0_0 l0_0.length c0_0, .int .i64 a0_1, .int .u64 a0_2, .int .u64 a0_3] 38 (0, 0)) (by (with_reducible repeat (first | refine blk_drewN ?_ _ | refine blk_drew ?_ | refine blk_alloc ?_ _)); exact BK196.out) hb)
      have n1_ := Aside0.mk (blk_below (g := gb197) (o := .cells #[.slice none 0 0, .int .i64 0, .int .u64 0, .int .u64 0] 38 (0, 0)) (by (with_reducible repeat (first | refine blk_drewN ?_ _ | refine blk_drew ?_ | refine blk_alloc ?_ _)); exact BK197.out) hb)
      have n2_ := Aside0.mk (below_step (by repeat (first | (with_reducible first | exact HB.out | apply below_alloc | apply pw_below_drewN | apply below_drew1 | refine below_set ?_ GE196.out | refine below_set ?_ GE197.out) | exact HB.out)) hb)
      have n3_ := Aside0.mk (hbox)
      have n4_ := Aside0.mk ((by rw [hg]; exact (below_size (by repeat (first | (with_reducible first | exact HB.out | apply below_alloc | apply pw_below_drewN | apply below_drew1 | refine below_set ?_ GE196.out | refine below_set ?_ GE197.out) | exact HB.out))) : w.heap.size ≤ gb201))
      have n5_ := Aside0.mk ((by rw [hg]; exact (below_size (by repeat (first | (with_reducible first | exact HB.out | apply below_alloc | apply pw_below_drewN | apply below_drew1 | refine below_set ?_ GE196.out | refine below_set ?_ GE197.out) | exact HB.out))) : w.heap.size ≤ gb201))
      have n6_ := Aside0.mk ((by rw [hg]; exact Nat.ne_of_lt (blk_lt (g := gb196) (o := .cells #[.slice A0_0 l0_0.length c0_0, .int .i64 a0_1, .int .u64 a0_2, .int .u64 a0_3] 38 (0, 0)) (by (with_reducible repeat (first | refine blk_drewN ?_ _ | refine blk_drew ?_ | refine blk_alloc ?_ _)); exact BK196.out)) : gb196 ≠ gb201))
      have n7_ := Aside0.mk ((by rw [hg]; exact Nat.ne_of_gt (blk_lt (g := gb196) (o := .cells #[.slice A0_0 l0_0.length c0_0, .int .i64 a0_1, .int .u64 a0_2, .int .u64 a0_3] 38 (0, 0)) (by (with_reducible repeat (first | refine blk_drewN ?_ _ | refine blk_drew ?_ | refine blk_alloc ?_ _)); exact BK196.out)) : gb201 ≠ gb196))
      have n8_ := Aside0.mk ((by rw [hg]; exact Nat.ne_of_lt (blk_lt (g := gb197) (o := .cells #[.slice none 0 0, .int .i64 0, .int .u64 0, .int .u64 0] 38 (0, 0)) (by (with_reducible repeat (first | refine blk_drewN ?_ _ | refine blk_drew ?_ | refine blk_alloc ?_ _)); exact BK197.out)) : gb197 ≠ gb201))
      have n9_ := Aside0.mk ((by rw [hg]; exact Nat.ne_of_gt (blk_lt (g := gb197) (o := .cells #[.slice none 0 0, .int .i64 0, .int .u64 0, .int .u64 0] 38 (0, 0)) (by (with_reducible repeat (first | refine blk_drewN ?_ _ | refine blk_drew ?_ | refine blk_alloc ?_ _)); exact BK197.out)) : gb201 ≠ gb197))
      clear BK196
      clear BK197
      clear HB
      have BK196 := n0_
      have BK197 := n1_
      have HB := n2_
      have BK201 := n3_
      have GW201 := n4_
      have GE201 := n5_
      have NB196_201 := n6_
      have NB201_196 := n7_
      have NB197_201 := n8_
      have NB201_197 := n9_
      clear n0_ n1_ n2_ n3_ n4_ n5_ n6_ n7_ n8_ n9_
      clear hb hbox hg
      refine hK.out _ _ ⟨(blk_cell BK196.out 0).trans rfl, (blk_cell BK196.out 1).trans rfl, (blk_cell BK196.out 2).trans rfl, (blk_cell BK196.out 3).trans rfl⟩ (fun hHeld => ?_)
      clear hK K
      refine norm_ (a' := ?_) ?_ ?_
      rotate_left
      · show Act.put _ (some 8) _ = _
        simp only [Act.put, List.setIfInBounds_toArray, List.set_cons_zero, List.set_cons_succ, i64_w, i32_w]
        rfl
      exact norm_ (by simp only [putAll, Act.put, List.setIfInBounds_toArray, List.set_cons_zero, List.set_cons_succ]) (hCont (gb201) _ ⟨hHeld, (by (with_reducible repeat (first | refine blk_drewN ?_ _ | refine blk_drew ?_ | refine blk_alloc ?_ _)); exact BK196.out), (by (with_reducible repeat (first | refine blk_drewN ?_ _ | refine blk_drew ?_ | refine blk_alloc ?_ _)); exact BK197.out), (by (with_reducible repeat (first | refine blk_drewN ?_ _ | refine blk_drew ?_ | refine blk_alloc ?_ _)); exact BK201.out), GW201.out, GE201.out, NB196_201.out, NB201_196.out, NB197_201.out, NB201_197.out, (by repeat (first | (with_reducible first | exact HB.out | apply below_alloc | apply pw_below_drewN | apply below_drew1 | refine below_set ?_ GE196.out | refine below_set ?_ GE197.out | refine below_set ?_ GE201.out) | exact HB.out))⟩)
    · skip
      refine box_step ?hg (N := 8) ?hd (cs := #[.slice none 0 0, .int .i64 0, .int .u64 0, .int .u64 0]) (t := 38) ?hr ?_; (case hd => rfl); (case hg => rfl); (case hr => first | (go_simp; done) | (go_simp; rfl))
      intro gb201 hg w13 hbox hb
      have n0_ := Aside0.mk (blk_below (g := gb196) (o := .cells #[.slice A0_0 l0_0.length c0_0, .int .i64 a0_1, .int .u64 a0_2, .int .u64 a0_3] 38 (0, 0)) (by (with_reducible repeat (first | refine blk_drewN ?_ _ | refine blk_drew ?_ | refine blk_alloc ?_ _)); exact BK196.out) hb)
      have n1_ := Aside0.mk (blk_below (g := gb197) (o := .cells #[.slice none 0 0, .int .i64 0, .int .u64 0, .int .u64 0] 38 (0, 0)) (by (with_reducible repeat (first | refine blk_drewN ?_ _ | refine blk_drew ?_ | refine blk_alloc ?_ _)); exact BK197.out) hb)
      have n2_ := Aside0.mk (below_step (by repeat (first | (with_reducible first | exact HB.out | apply below_alloc | apply pw_below_drewN | apply below_drew1 | refine below_set ?_ GE196.out | refine below_set ?_ GE197.out) | exact HB.out)) hb)
      have n3_ := Aside0.mk (hbox)
      have n4_ := Aside0.mk ((by rw [hg]; exact (below_size (by repeat (first | (with_reducible first | exact HB.out | apply below_alloc | apply pw_below_drewN | apply below_drew1 | refine below_set ?_ GE196.out | refine below_set ?_ GE197.out) | exact HB.out))) : w.heap.size ≤ gb201))
      have n5_ := Aside0.mk ((by rw [hg]; exact (below_size (by repeat (first | (with_reducible first | exact HB.out | apply below_alloc | apply pw_below_drewN | apply below_drew1 | refine below_set ?_ GE196.out | refine below_set ?_ GE197.out) | exact HB.out))) : w.heap.size ≤ gb201))
      have n6_ := Aside0.mk ((by rw [hg]; exact Nat.ne_of_lt (blk_lt (g := gb196) (o := .cells #[.slice A0_0 l0_0.length c0_0, .int .i64 a0_1, .int .u64 a0_2, .int .u64 a0_3] 38 (0, 0)) (by (with_reducible repeat (first | refine blk_drewN ?_ _ | refine blk_drew ?_ | refine blk_alloc ?_ _)); exact BK196.out)) : gb196 ≠ gb201))
      have n7_ := Aside0.mk ((by rw [hg]; exact Nat.ne_of_gt (blk_lt (g := gb196) (o := .cells #[.slice A0_0 l0_0.length c0_0, .int .i64 a0_1, .int .u64 a0_2, .int .u64 a0_3] 38 (0, 0)) (by (with_reducible repeat (first | refine blk_drewN ?_ _ | refine blk_drew ?_ | refine blk_alloc ?_ _)); exact BK196.out)) : gb201 ≠ gb196))
      have n8_ := Aside0.mk ((by rw [hg]; exact Nat.ne_of_lt (blk_lt (g := gb197) (o := .cells #[.slice none 0 0, .int .i64 0, .int .u64 0, .int .u64 0] 38 (0, 0)) (by (with_reducible repeat (first | refine blk_drewN ?_ _ | refine blk_drew ?_ | refine blk_alloc ?_ _)); exact BK197.out)) : gb197 ≠ gb201))
      have n9_ := Aside0.mk ((by rw [hg]; exact Nat.ne_of_gt (blk_lt (g := gb197) (o := .cells #[.slice none 0 0, .int .i64 0, .int .u64 0, .int .u64 0] 38 (0, 0)) (by (with_reducible repeat (first | refine blk_drewN ?_ _ | refine blk_drew ?_ | refine blk_alloc ?_ _)); exact BK197.out)) : gb201 ≠ gb197))
      clear BK196
      clear BK197
      clear HB
      have BK196 := n0_
      have BK197 := n1_
      have HB := n2_
      have BK201 := n3_
      have GW201 := n4_
      have GE201 := n5_
      have NB196_201 := n6_
      have NB201_196 := n7_
      have NB197_201 := n8_
      have NB201_197 := n9_
      clear n0_ n1_ n2_ n3_ n4_ n5_ n6_ n7_ n8_ n9_
      clear hb hbox hg
      refine hK.out _ _ ⟨(blk_cell BK196.out 0).trans rfl, (blk_cell BK196.out 1).trans rfl, (blk_cell BK196.out 2).trans rfl, (blk_cell BK196.out 3).trans rfl⟩ (fun hHeld => ?_)
      clear hK K
      refine norm_ (a' := ?_) ?_ ?_
      rotate_left
      · show Act.put _ (some 8) _ = _
        simp only [Act.put, List.setIfInBounds_toArray, List.set_cons_zero, List.set_cons_succ, i64_w, i32_w]
        rfl
      refine one_ (i := 7) (N := some 24) #[true, true, true, true, true, true, true, true, false, true, false] rfl rfl (one_of HT_.out (by kernel_rfl)) (by decide) (fun K hK => ?_)
      refine goes_ Try.func48 (by kernel_rfl) rfl #[.int .u64 a0_3, .int .u64 a2] (by rfl) rfl rfl (by (try simp only [List.map_toArray, List.map_cons, List.map_nil]); first | done | rfl | (simp only [List.length_drop, List.length_take]; rfl)) ?_
      with_reducible refine (telemeterref07_plus.calls a0_3 a2 t200 _ A6.out).mono ?_
      rintro e w' ⟨rfl, ⟨nd, rfl⟩⟩
      refine ⟨_, rfl, ?_⟩
      refine hK.out _ _ ⟨(blk_cell BK196.out 0).trans rfl, (blk_cell BK196.out 1).trans rfl, (blk_cell BK196.out 2).trans rfl, (blk_cell BK196.out 3).trans rfl⟩ (fun hHeld => ?_)
      clear hK K
      refine norm_ (a' := ?_) ?_ ?_
      rotate_left
      · show Act.put _ (some 24) _ = _
        simp only [Act.put, List.setIfInBounds_toArray, List.set_cons_zero, List.set_cons_succ, i64_w, i32_w]
        rfl
      refine pure_ (i := 8) (N := some 25) (v := ?_) (a' := ?_) #[true, true, true, true, true, true, true, true, true, true, false] rfl rfl (any_of HT_.out (by kernel_rfl)) (fun _ _ _ h => h) (Or.inl ⟨by rfl, ?_⟩) ?_ ?_
      rotate_left
      · intro w'
        go_simp
        with_reducible rfl
      rotate_left
      · simp only [Act.put, List.setIfInBounds_toArray, List.set_cons_zero, List.set_cons_succ, i64_w, i32_w]
        rfl
      exact norm_ (by simp only [putAll, Act.put, List.setIfInBounds_toArray, List.set_cons_zero, List.set_cons_succ]) (hCont (gb201) _ ⟨hHeld, (by (with_reducible repeat (first | refine blk_drewN ?_ _ | refine blk_drew ?_ | refine blk_alloc ?_ _)); exact BK196.out), (by (with_reducible repeat (first | refine blk_drewN ?_ _ | refine blk_drew ?_ | refine blk_alloc ?_ _)); exact BK197.out), (by (with_reducible repeat (first | refine blk_drewN ?_ _ | refine blk_drew ?_ | refine blk_alloc ?_ _)); exact BK201.out), GW201.out, GE201.out, NB196_201.out, NB201_196.out, NB197_201.out, NB201_197.out, (by repeat (first | (with_reducible first | exact HB.out | apply below_alloc | apply pw_below_drewN | apply below_drew1 | refine below_set ?_ GE196.out | refine below_set ?_ GE197.out | refine below_set ?_ GE201.out) | exact HB.out))⟩)
  rintro gb201 w14 ⟨hS_, h0_, h1_, h2_, h3_, h4_, h5_, h6_, h7_, h8_, h9_⟩
  have n0_ : Aside0 (w14.heap[gb196]? = some (.cells #[.slice A0_0 l0_0.length c0_0, .int .i64 a0_1, .int .u64 a0_2, .int .u64 a0_3] 38 (0, 0))) := ⟨h0_⟩
  have n1_ : Aside0 (w14.heap[gb197]? = some (.cells #[.slice none 0 0, .int .i64 0, .int .u64 0, .int .u64 0] 38 (0, 0))) := ⟨h1_⟩
  have n2_ : Aside0 (w14.heap[gb201]? = some (.cells #[.slice none 0 0, .int .i64 0, .int .u64 0, .int .u64 0] 38 (0, 0))) := ⟨h2_⟩
  have n3_ : Aside0 (w.heap.size ≤ gb201) := ⟨h3_⟩
  have n4_ : Aside0 (w.heap.size ≤ gb201) := ⟨h4_⟩
  have n5_ : Aside0 (gb196 ≠ gb201) := ⟨h5_⟩
  have n6_ : Aside0 (gb201 ≠ gb196) := ⟨h6_⟩
  have n7_ : Aside0 (gb197 ≠ gb201) := ⟨h7_⟩
  have n8_ : Aside0 (gb201 ≠ gb197) := ⟨h8_⟩
  have n9_ : Aside0 (Below w.heap.size w w14) := ⟨h9_⟩
  clear BK196
  clear BK197
  clear HB
  clear h0_ h1_ h2_ h3_ h4_ h5_ h6_ h7_ h8_ h9_
  have BK196 := n0_
  have BK197 := n1_
  have BK201 := n2_
  have GW201 := n3_
  have GE201 := n4_
  have NB196_201 := n5_
  have NB201_196 := n6_
  have NB197_201 := n7_
  have NB201_197 := n8_
  have HB := n9_
  clear n0_ n1_ n2_ n3_ n4_ n5_ n6_ n7_ n8_ n9_
  have hHeld : w14.cell? ⟨gb196, 0, none⟩ = some (.slice A0_0 l0_0.length c0_0) ∧ w14.cell? ⟨gb196, 1, none⟩ = some (.int .i64 a0_1) ∧ w14.cell? ⟨gb196, 2, none⟩ = some (.int .u64 a0_2) ∧ w14.cell? ⟨gb196, 3, none⟩ = some (.int .u64 a0_3) := hS_
  refine norm_ (a' := ?_) ?_ ?_
  rotate_left
  · simp only [putAll, Act.put, List.setIfInBounds_toArray, List.set_cons_zero, List.set_cons_succ]
    rfl
  refine one_ (i := 10) (N := none) #[true, true, true, true, true, true, true, true, true, true, true] rfl rfl (one_of HT_.out (by kernel_rfl)) (by decide) (fun K hK => ?_)
  have hs15 : w14.cell? ⟨gb201, 0, none⟩ = some (.slice none 0 0) := (blk_cell BK201.out 0).trans rfl
  have hfs15 := blk_frozen BK201.out 0
  have hns15_0 := NB196_201.out
  have hns15_1 := NB197_201.out
  have hms15_0 := NB201_196.out
  have hms15_1 := NB201_197.out
  have hs16 : w14.cell? ⟨gb201, 1, none⟩ = some (.int .i64 0) := (blk_cell BK201.out 1).trans rfl
  have hfs16 := blk_frozen BK201.out 1
  have hns16_0 := NB196_201.out
  have hns16_1 := NB197_201.out
  have hms16_0 := NB201_196.out
  have hms16_1 := NB201_197.out
  have hs17 : w14.cell? ⟨gb201, 2, none⟩ = some (.int .u64 0) := (blk_cell BK201.out 2).trans rfl
  have hfs17 := blk_frozen BK201.out 2
  have hns17_0 := NB196_201.out
  have hns17_1 := NB197_201.out
  have hms17_0 := NB201_196.out
  have hms17_1 := NB201_197.out
  have hs18 : w14.cell? ⟨gb201, 3, none⟩ = some (.int .u64 0) := (blk_cell BK201.out 3).trans rfl
  have hfs18 := blk_frozen BK201.out 3
  have hns18_0 := NB196_201.out
  have hns18_1 := NB197_201.out
  have hms18_0 := NB201_196.out
  have hms18_1 := NB201_197.out
  refine skip_ (w1 := ?_) (by rfl) rfl ?_ ?_
  rotate_left
  · go_simp
    rfl
  refine hK.out _ _ ⟨((cell_far (p := ⟨gb201, _, none⟩) NB196_201.out _).trans (((cell_far (p := ⟨gb201, _, none⟩) NB196_201.out _).trans (((cell_far (p := ⟨gb201, _, none⟩) NB196_201.out _).trans (((cell_far (p := ⟨gb201, _, none⟩) NB196_201.out _).trans (hHeld.1)))))))), ((cell_far (p := ⟨gb201, _, none⟩) NB196_201.out _).trans (((cell_far (p := ⟨gb201, _, none⟩) NB196_201.out _).trans (((cell_far (p := ⟨gb201, _, none⟩) NB196_201.out _).trans (((cell_far (p := ⟨gb201, _, none⟩) NB196_201.out _).trans (hHeld.2.1)))))))), ((cell_far (p := ⟨gb201, _, none⟩) NB196_201.out _).trans (((cell_far (p := ⟨gb201, _, none⟩) NB196_201.out _).trans (((cell_far (p := ⟨gb201, _, none⟩) NB196_201.out _).trans (((cell_far (p := ⟨gb201, _, none⟩) NB196_201.out _).trans (hHeld.2.2.1)))))))), ((cell_far (p := ⟨gb201, _, none⟩) NB196_201.out _).trans (((cell_far (p := ⟨gb201, _, none⟩) NB196_201.out _).trans (((cell_far (p := ⟨gb201, _, none⟩) NB196_201.out _).trans (((cell_far (p := ⟨gb201, _, none⟩) NB196_201.out _).trans (hHeld.2.2.2))))))))⟩ (fun hHeld => ?_)
  clear hK K
  refine done_ (done_of HT_.out (by kernel_rfl)) ?_
  try go_wp2
  go_loopg [9] k (fun kq v9 w' => ∃ (x9_1 : Int) (x202000_1 : List (List Int)) (u202000 : Value), v9 = .int .i64 x9_1 ∧ Aside0 (telemeterref07_Add.l0 kq a1 t199 x9_1 l0_0 a0_1 a0_2 a0_3 x202000_1 a0_1 a0_2 t200 = some (r1, r2, r3, r4)) ∧ Aside0 (kq ≤ k) ∧ Aside0 (Kd.S (Kd.slice 22 (Kd.int .u64)) 83 w' w.heap.size (fun _ => True) u202000 x202000_1) ∧ Aside0 (w'.heap[gb196]? = some (.cells #[(.slice A0_0 l0_0.length c0_0), .int .i64 a0_1, .int .u64 a0_2, .int .u64 a0_3] 38 (0, 0))) ∧ Aside0 (w'.heap[gb197]? = some (.cells #[(.slice none 0 0), .int .i64 0, .int .u64 0, .int .u64 0] 38 (0, 0))) ∧ Aside0 (w'.heap[gb201]? = some (.cells #[u202000, .int .i64 a0_1, .int .u64 a0_2, .int .u64 t200] 38 (0, 0))) ∧ Aside0 (Below w.heap.size w w'))
  case atStart => exact ⟨(0), (([] : List (List Int))), (.slice none 0 0), (by first | rfl | (simp; done) | (simp [*]; done)), H', ⟨Nat.le_refl _⟩, ⟨by first | exact Kd.S_nil _ _ _ _ _ | exact Kd.N_nil _ _ _ _ _ | exact Kd.V_nil _ _ _ _ _ | exact Kd.Q_nil _ _ _ _ _ | exact Kd.R_nil _ _ _ _ _⟩, ⟨by (with_reducible repeat (first | refine blk_drewN ?_ _ | refine blk_drew ?_ | refine blk_alloc ?_ _)); refine blk_far ?_ NB196_201.out _; (with_reducible repeat (first | refine blk_drewN ?_ _ | refine blk_drew ?_ | refine blk_alloc ?_ _)); refine blk_far ?_ NB196_201.out _; (with_reducible repeat (first | refine blk_drewN ?_ _ | refine blk_drew ?_ | refine blk_alloc ?_ _)); refine blk_far ?_ NB196_201.out _; (with_reducible repeat (first | refine blk_drewN ?_ _ | refine blk_drew ?_ | refine blk_alloc ?_ _)); refine blk_far ?_ NB196_201.out _; (with_reducible repeat (first | refine blk_drewN ?_ _ | refine blk_drew ?_ | refine blk_alloc ?_ _)); exact BK196.out⟩, ⟨by (with_reducible repeat (first | refine blk_drewN ?_ _ | refine blk_drew ?_ | refine blk_alloc ?_ _)); refine blk_far ?_ NB197_201.out _; (with_reducible repeat (first | refine blk_drewN ?_ _ | refine blk_drew ?_ | refine blk_alloc ?_ _)); refine blk_far ?_ NB197_201.out _; (with_reducible repeat (first | refine blk_drewN ?_ _ | refine blk_drew ?_ | refine blk_alloc ?_ _)); refine blk_far ?_ NB197_201.out _; (with_reducible repeat (first | refine blk_drewN ?_ _ | refine blk_drew ?_ | refine blk_alloc ?_ _)); refine blk_far ?_ NB197_201.out _; (with_reducible repeat (first | refine blk_drewN ?_ _ | refine blk_drew ?_ | refine blk_alloc ?_ _)); exact BK197.out⟩, ⟨by (with_reducible repeat (first | refine blk_drewN ?_ _ | refine blk_drew ?_ | refine blk_alloc ?_ _)); refine blk_put (cs := #[.slice none 0 0, .int .i64 a0_1, .int .u64 a0_2, .int .u64 0]) ?_ 3 _ rfl; (with_reducible repeat (first | refine blk_drewN ?_ _ | refine blk_drew ?_ | refine blk_alloc ?_ _)); refine blk_put (cs := #[.slice none 0 0, .int .i64 a0_1, .int .u64 0, .int .u64 0]) ?_ 2 _ rfl; (with_reducible repeat (first | refine blk_drewN ?_ _ | refine blk_drew ?_ | refine blk_alloc ?_ _)); refine blk_put (cs := #[.slice none 0 0, .int .i64 0, .int .u64 0, .int .u64 0]) ?_ 1 _ rfl; (with_reducible repeat (first | refine blk_drewN ?_ _ | refine blk_drew ?_ | refine blk_alloc ?_ _)); refine blk_put (cs := #[.slice none 0 0, .int .i64 0, .int .u64 0, .int .u64 0]) ?_ 0 _ rfl; (with_reducible repeat (first | refine blk_drewN ?_ _ | refine blk_drew ?_ | refine blk_alloc ?_ _)); exact BK201.out⟩, ⟨by repeat (first | (with_reducible first | exact HB.out | apply below_alloc | apply pw_below_drewN | apply below_drew1 | refine below_set ?_ GE196.out | refine below_set ?_ GE197.out | refine below_set ?_ GE201.out) | exact HB.out)⟩⟩
  case round =>
    clear H'
    try clear p2
    try clear c3
    try clear c4
    try clear c9
    try clear hcz10_0
    try clear hcz10_1
    try clear hcz10_2
    try clear hcz10_3
    try clear hfz10_0
    try clear hfz10_1
    try clear hfz10_2
    try clear hfz10_3
    obtain ⟨x9_1, x202000_1, u202000, rfl, HA, HK1, HO_202000, BK196, BK197, BK201, HB⟩ := hrel
    cases gk with
    | zero => exact absurd HA.out (by simp [telemeterref07_Add.l0])
    | succ k1 =>
      have H := HA.out
      clear HA
      simp only [telemeterref07_Add.l0] at H
      by_cases c19 : x9_1 < (l0_0.length : Int)
      · rw [if_pos c19] at H
        have c19b0 : decide (x9_1 < (l0_0.length : Int)) = true := decide_eq_true c19
        clear c19
        by_cases c20 : 0 ≤ x9_1
        · rw [if_pos c20] at H
          have c20b0 : decide (0 ≤ x9_1) = true := decide_eq_true c20
          clear c20
          by_cases c21 : ([] : List Int).length + (rd_L1 l0_0 x9_1).length < 17592186044416
          · rw [if_pos c21] at H
            have LMc21 := Aside0.mk c21
            clear c21
            obtain ⟨y203, hy203⟩ : ∃ y_ : List Int, y_ = (([] : List Int) ++ (rd_L1 l0_0 x9_1)) := ⟨_, rfl⟩
            replace H : ((telemeterref07_place.f k1 l0_0 a0_1 a0_2 a0_3 x9_1 a1).bind fun t206 => (if 0 ≤ t206 then (if t206 < (y203.length : Int) then (if x202000_1.length < 5864062014805 then (telemeterref07_Add.l0 k1 a1 t199 (wrap64 (x9_1 + 1)) l0_0 a0_1 a0_2 a0_3 (x202000_1 ++ [(y203.set (t206 : Int).toNat (mx (rd y203 t206) t199))]) a0_1 a0_2 t200) else (none)) else (none)) else (none))) = some (r1, r2, r3, r4) := by first | (rw [hy203]; with_reducible exact H) | (have H2_ := (Option.bind_some _ _).symm.trans H; rw [hy203]; with_reducible exact H2_) | (have H2_ := (Option.bind_some _ _).symm.trans H; with_reducible exact H2_) | with_reducible exact H | (rw [hy203]; exact H) | exact H
            have Ny203 := Aside0.mk hy203
            clear hy203
            replace H := Option.bind_eq_some_iff.mp H
            obtain ⟨t206, A220, H⟩ := H
            replace H : (if 0 ≤ t206 then (if t206 < (y203.length : Int) then (if x202000_1.length < 5864062014805 then (telemeterref07_Add.l0 k1 a1 t199 (wrap64 (x9_1 + 1)) l0_0 a0_1 a0_2 a0_3 (x202000_1 ++ [(y203.set (t206 : Int).toNat (mx (rd y203 t206) t199))]) a0_1 a0_2 t200) else (none)) else (none)) else (none)) = some (r1, r2, r3, r4) := H
            have A22 := Aside0.mk A220
            clear A220
            by_cases c23 : 0 ≤ t206
            · rw [if_pos c23] at H
              have c23b0 : decide (0 ≤ t206) = true := decide_eq_true c23
              clear c23
              by_cases c24 : t206 < (y203.length : Int)
              · rw [if_pos c24] at H
                have c24b0 : decide (t206 < (y203.length : Int)) = true := decide_eq_true c24
                clear c24
                obtain ⟨ji25, hji25⟩ : ∃ j_ : Int, (mx (rd y203 t206) t199) = j_ := ⟨_, rfl⟩
                replace H : (if x202000_1.length < 5864062014805 then (telemeterref07_Add.l0 k1 a1 t199 (wrap64 (x9_1 + 1)) l0_0 a0_1 a0_2 a0_3 (x202000_1 ++ [(y203.set (t206 : Int).toNat (ji25))]) a0_1 a0_2 t200) else (none)) = some (r1, r2, r3, r4) := by first | (rw [hji25] at H; exact H) | (simp only [hji25] at H ⊢; exact H)
                (try rw [hji25] at A22)
                have hji25_ : (if (rd y203 t206) < t199 then t199 else (rd y203 t206)) = ji25 := hji25
                obtain ⟨y208, hy208⟩ : ∃ y_ : List Int, y_ = (y203.set (t206 : Int).toNat (ji25)) := ⟨_, rfl⟩
                replace H : (if x202000_1.length < 5864062014805 then (telemeterref07_Add.l0 k1 a1 t199 (wrap64 (x9_1 + 1)) l0_0 a0_1 a0_2 a0_3 (x202000_1 ++ [y208]) a0_1 a0_2 t200) else (none)) = some (r1, r2, r3, r4) := by first | (rw [hy208]; with_reducible exact H) | (have H2_ := (Option.bind_some _ _).symm.trans H; rw [hy208]; with_reducible exact H2_) | (have H2_ := (Option.bind_some _ _).symm.trans H; with_reducible exact H2_) | with_reducible exact H | (rw [hy208]; exact H) | exact H
                have Ny208 := Aside0.mk hy208
                clear hy208
                by_cases c27 : x202000_1.length < 5864062014805
                · rw [if_pos c27] at H
                  have LMc27 := Aside0.mk c27
                  clear c27
                  obtain ⟨y209, hy209⟩ : ∃ y_ : List (List Int), y_ = (x202000_1 ++ [y208]) := ⟨_, rfl⟩
                  replace H : (telemeterref07_Add.l0 k1 a1 t199 (wrap64 (x9_1 + 1)) l0_0 a0_1 a0_2 a0_3 y209 a0_1 a0_2 t200) = some (r1, r2, r3, r4) := by first | (rw [hy209]; with_reducible exact H) | (have H2_ := (Option.bind_some _ _).symm.trans H; rw [hy209]; with_reducible exact H2_) | (have H2_ := (Option.bind_some _ _).symm.trans H; with_reducible exact H2_) | with_reducible exact H | (rw [hy209]; exact H) | exact H
                  have Ny209 := Aside0.mk hy209
                  clear hy209
                  have H' := Aside0.mk H
                  clear H
                  have hnb28 := NB196_197.out
                  have hnc28 := NB197_196.out
                  have hnb29 := NB196_201.out
                  have hnc29 := NB201_196.out
                  have hcz30_0 : wr.cell? ⟨gb196, 0, none⟩ = some (.slice A0_0 l0_0.length c0_0) := (blk_cell BK196.out 0).trans rfl
                  have hcz30_1 : wr.cell? ⟨gb196, 1, none⟩ = some (.int .i64 a0_1) := (blk_cell BK196.out 1).trans rfl
                  have hcz30_2 : wr.cell? ⟨gb196, 2, none⟩ = some (.int .u64 a0_2) := (blk_cell BK196.out 2).trans rfl
                  have hcz30_3 : wr.cell? ⟨gb196, 3, none⟩ = some (.int .u64 a0_3) := (blk_cell BK196.out 3).trans rfl
                  have hfz30_0 := blk_frozen BK196.out 0
                  have hfz30_1 := blk_frozen BK196.out 1
                  have hfz30_2 := blk_frozen BK196.out 2
                  have hfz30_3 := blk_frozen BK196.out 3
                  have p202 : 0 ≤ (x9_1 : Int) := of_decide_eq_true (by first | (with_reducible assumption) | assumption)
                  have q202 : x9_1 < (l0_0.length : Int) := of_decide_eq_true (by first | (with_reducible assumption) | assumption)
                  obtain ⟨ad202, A202_0, c202_0, e202, hx202_0, hl202_0, hi202_0⟩ := at_L1 HR0_0.out x9_1 p202 q202
                  cases e202
                  replace hx202_0 := (HB.out.cell (World.block_lt_of_cell? w _ hx202_0)).trans hx202_0
                  have HR202_0 := Aside0.mk hi202_0
                  have HC202_0 := Aside0.mk hl202_0
                  clear hi202_0 hl202_0
                  replace p202 := eq_true p202
                  replace q202 := eq_true q202
                  go_wp2_with (first | ((with_reducible refine gate_builtin (b := .append) (xs := #[.tmp 33, .tmp 38]) rfl ?_); at_builtin; refine Kd.R_append_rows (Kd.int .u64) (w0 := w) w.heap.size rfl (.tmp 33) (.tmp 38) 83 22 (.int .u64 0) 8 rfl Try.underlying83 info22 rfl (by decide) (by omega) (.slice none 0 0) ([] : List Int) (rd_L1 l0_0 x9_1) _ _ _ (fun _ => True) (fun _ => False) rfl rfl ?aO ?aR (fun _ _ h => h) (fun _ h => h.elim) ?aF ?aB ?aS ?aL ?_; (case aR => repeat (first | exact (Kd.C_below HR202_0.out HB.out) | (with_reducible refine Kd.C_alloc ?_ _) | (with_reducible refine Kd.C_drewN ?_ _) | (with_reducible refine Kd.C_drew ?_))); (case aB => exact (by repeat (first | (with_reducible first | exact HB.out | apply below_alloc | apply pw_below_drewN | apply below_drew1 | refine below_set ?_ GE196.out | refine below_set ?_ GE197.out | refine below_set ?_ GE201.out) | exact HB.out))); (case aF => exact (fun _ _ => trivial)); (case aO => exact ((Kd.R_nil _ _ _ _ (fun _ => True)))); (case aS => exact (below_size (by repeat (first | (with_reducible first | exact HB.out | apply below_alloc | apply pw_below_drewN | apply below_drew1 | refine below_set ?_ GE196.out | refine below_set ?_ GE197.out | refine below_set ?_ GE201.out) | exact HB.out)))); (case aL => have := LMc21.out; omega); intro v204 w31 ho hb hg hat; rw [← Ny203.out] at ho; have n0_ := Aside0.mk (Kd.S_after (Kd.S_apart_nil (by (with_reducible repeat (first | apply Kd.S_alloc | apply Kd.S_drewN | apply Kd.S_drew)); exact HO_202000.out)) hg hat); have n1_ := Aside0.mk (blk_grown (g := gb196) (o := .cells #[.slice (some ad202) l0_0.length c0_0, .int .i64 a0_1, .int .u64 a0_2, .int .u64 a0_3] 38 (0, 0)) (by (with_reducible repeat (first | refine blk_drewN ?_ _ | refine blk_drew ?_ | refine blk_alloc ?_ _)); exact BK196.out) hg (by simp [Value.ownBlock])); have n2_ := Aside0.mk (blk_grown (g := gb197) (o := .cells #[.slice none 0 0, .int .i64 0, .int .u64 0, .int .u64 0] 38 (0, 0)) (by (with_reducible repeat (first | refine blk_drewN ?_ _ | refine blk_drew ?_ | refine blk_alloc ?_ _)); exact BK197.out) hg (by simp [Value.ownBlock])); have n3_ := Aside0.mk (blk_grown (g := gb201) (o := .cells #[u202000, .int .i64 a0_1, .int .u64 a0_2, .int .u64 t200] 38 (0, 0)) (by (with_reducible repeat (first | refine blk_drewN ?_ _ | refine blk_drew ?_ | refine blk_alloc ?_ _)); exact BK201.out) hg (by simp [Value.ownBlock])); have n4_ := Aside0.mk (hb); have n5_ := Aside0.mk (ho); clear HO_202000; clear BK196; clear BK197; clear BK201; clear HB; have HO_202000 := n0_; have BK196 := n1_; have BK197 := n2_; have BK201 := n3_; have HB := n4_; have HO205 := n5_; clear n0_ n1_ n2_ n3_ n4_ n5_; clear ho hb hg hat; have hcz32_0 : w31.cell? ⟨gb196, 0, none⟩ = some (.slice (some ad202) l0_0.length c0_0) := (blk_cell BK196.out 0).trans rfl; have hcz32_1 : w31.cell? ⟨gb196, 1, none⟩ = some (.int .i64 a0_1) := (blk_cell BK196.out 1).trans rfl; have hcz32_2 : w31.cell? ⟨gb196, 2, none⟩ = some (.int .u64 a0_2) := (blk_cell BK196.out 2).trans rfl; have hcz32_3 : w31.cell? ⟨gb196, 3, none⟩ = some (.int .u64 a0_3) := (blk_cell BK196.out 3).trans rfl; have hfz32_0 := blk_frozen BK196.out 0; have hfz32_1 := blk_frozen BK196.out 1; have hfz32_2 := blk_frozen BK196.out 2; have hfz32_3 := blk_frozen BK196.out 3) | ((with_reducible refine gate_callee (f := 42) rfl ?_); refine goesL_ (some 43) rfl rfl Try.func42 (by kernel_rfl) rfl #[.agg #[.slice (some ad202) l0_0.length c0_0, .int .i64 a0_1, .int .u64 a0_2, .int .u64 a0_3], .int .i64 x9_1, .string a1] rfl (by (try simp only [List.map_toArray, List.map_cons, List.map_nil]); first | done | rfl | (simp only [List.length_drop, List.length_take]; rfl)) ?_; (with_reducible refine (telemeterref07_place.calls k1 _ _ l0_0 a0_1 a0_2 a0_3 x9_1 a1 t206 _ ?side1 ?side2 A22.out).mono ?_); (case side1 => repeat (first | exact (Kd.C_below HR0_0.out HB.out) | (with_reducible refine Kd.C_alloc ?_ _) | (with_reducible refine Kd.C_drewN ?_ _) | (with_reducible refine Kd.C_drew ?_))); (case side2 => exact HC0_0.out); rintro e w33 ⟨rfl, hb⟩; refine ⟨_, rfl, ?_⟩; have n0_ := Aside0.mk (Kd.S_below (by (with_reducible repeat (first | apply Kd.S_alloc | apply Kd.S_drewN | apply Kd.S_drew)); exact HO_202000.out) hb); have n1_ := Aside0.mk (Kd.R_below (by (with_reducible repeat (first | apply Kd.R_alloc | apply Kd.R_drewN | apply Kd.R_drew)); exact HO205.out) hb); have n2_ := Aside0.mk (blk_below (g := gb196) (o := .cells #[.slice (some ad202) l0_0.length c0_0, .int .i64 a0_1, .int .u64 a0_2, .int .u64 a0_3] 38 (0, 0)) (by (with_reducible repeat (first | refine blk_drewN ?_ _ | refine blk_drew ?_ | refine blk_alloc ?_ _)); exact BK196.out) hb); have n3_ := Aside0.mk (blk_below (g := gb197) (o := .cells #[.slice none 0 0, .int .i64 0, .int .u64 0, .int .u64 0] 38 (0, 0)) (by (with_reducible repeat (first | refine blk_drewN ?_ _ | refine blk_drew ?_ | refine blk_alloc ?_ _)); exact BK197.out) hb); have n4_ := Aside0.mk (blk_below (g := gb201) (o := .cells #[u202000, .int .i64 a0_1, .int .u64 a0_2, .int .u64 t200] 38 (0, 0)) (by (with_reducible repeat (first | refine blk_drewN ?_ _ | refine blk_drew ?_ | refine blk_alloc ?_ _)); exact BK201.out) hb); have n5_ := Aside0.mk (below_step (by repeat (first | (with_reducible first | exact HB.out | apply below_alloc | apply pw_below_drewN | apply below_drew1 | refine below_set ?_ GE196.out | refine below_set ?_ GE197.out | refine below_set ?_ GE201.out) | exact HB.out)) hb); clear HO_202000; clear HO205; clear BK196; clear BK197; clear BK201; clear HB; have HO_202000 := n0_; have HO205 := n1_; have BK196 := n2_; have BK197 := n3_; have BK201 := n4_; have HB := n5_; clear n0_ n1_ n2_ n3_ n4_ n5_; (try clear hb); (try clear hb2); (try clear hk); (try clear hi); obtain ⟨Ao34, co34, eo34⟩ := Kd.R_slice HO205.out; subst eo34; have p207 : 0 ≤ (t206 : Int) := of_decide_eq_true (by first | (with_reducible assumption) | assumption); have q207 : t206 < (y203.length : Int) := of_decide_eq_true (by first | (with_reducible assumption) | assumption); obtain ⟨ad207, e207, hx207_0⟩ := Kd.at_int (Kd.R_reads' HO205.out).2.2 t206 p207 q207; cases e207; replace p207 := eq_true p207; replace q207 := eq_true q207; have p26 : 0 ≤ (t206 : Int) := of_decide_eq_true (by first | (with_reducible assumption) | assumption); have q26 : (t206 : Int) < ((y203.length : Int) : Int) := of_decide_eq_true (by first | (with_reducible assumption) | assumption); obtain ⟨go26, co26, eo26, gb26, gl26, cl26, HG26⟩ := Kd.R_form HO205.out (by omega); (first | cases eo26 | (injection eo26 with ea_ en_ ec_; (first | subst ea_ | (injection ea_ with ea_; subst ea_)); subst ec_; clear en_)); have GB26 := Aside0.mk gb26; have GG26 := Aside0.mk HG26; clear gb26 gl26 HG26; (first | simp only [add_plain] at hx207_0 | skip); obtain ⟨hx26_0, hf26_0⟩ := Kd.R_celln 0 HO205.out (t206 : Int) p26 q26; replace p26 := eq_true p26; replace q26 := eq_true q26; obtain ⟨hy35_, hz35_⟩ := Kd.R_celln 0 HO205.out (t206 : Int) (of_decide_eq_true (by first | (with_reducible assumption) | assumption)) (of_decide_eq_true (by first | (with_reducible assumption) | assumption)); have HP35 := Kd.R_putg HO205.out (t206 : Int) ji25) | ((with_reducible refine gate_store (t := 22) (p := 52) rfl ?_); refine store_event (t := 22) (p := 52) (v := ?vo_w36) (w1 := (w33.setCell ⟨go26, (t206 : Int).toNat, none⟩ (.int .u64 ji25))) ?hg ?ho ?hn ?hr ?_; (case ho => rfl); (case hg => rfl); (case hn => rfl); (case hr => first | (go_simp; done) | (go_simp; rfl)); intro w36 hw; have hg : w33.grownBy w36 (some go26) := (by rw [hw]; exact HP35.2); have hp_ : Kd.R (Kd.int .u64) 22 w36 w.heap.size (fun _ => True) (.slice (some ⟨go26, 0, none⟩) y203.length co34) y208 := (by rw [hw, Ny208.out]; exact HP35.1); clear HP35; have n0_ := Aside0.mk (Kd.S_after (v := (.slice (some ⟨go26, 0, none⟩) y203.length co34)) (v1 := (.slice (some ⟨go26, 0, none⟩) y203.length co34)) (ok := (fun _ => True)) (by (with_reducible repeat (first | apply Kd.S_alloc | apply Kd.S_drewN | apply Kd.S_drew)); exact HO_202000.out) hg (.inl rfl)); have n1_ := Aside0.mk (blk_grown (g := gb196) (o := .cells #[.slice (some ad202) l0_0.length c0_0, .int .i64 a0_1, .int .u64 a0_2, .int .u64 a0_3] 38 (0, 0)) (by (with_reducible repeat (first | refine blk_drewN ?_ _ | refine blk_drew ?_ | refine blk_alloc ?_ _)); exact BK196.out) hg (Kd.R_ne HO205.out BK196.out (by decide))); have n2_ := Aside0.mk (blk_grown (g := gb197) (o := .cells #[.slice none 0 0, .int .i64 0, .int .u64 0, .int .u64 0] 38 (0, 0)) (by (with_reducible repeat (first | refine blk_drewN ?_ _ | refine blk_drew ?_ | refine blk_alloc ?_ _)); exact BK197.out) hg (Kd.R_ne HO205.out BK197.out (by decide))); have n3_ := Aside0.mk (blk_grown (g := gb201) (o := .cells #[u202000, .int .i64 a0_1, .int .u64 a0_2, .int .u64 t200] 38 (0, 0)) (by (with_reducible repeat (first | refine blk_drewN ?_ _ | refine blk_drew ?_ | refine blk_alloc ?_ _)); exact BK201.out) hg (Kd.R_ne HO205.out BK201.out (by decide))); have n4_ := Aside0.mk (hp_); have n5_ := Aside0.mk ((by rw [hw]; exact below_set (HB.out) GB26.out : Below w.heap.size w w36)); clear HO_202000; clear BK196; clear BK197; clear BK201; clear HO205; clear HB; have HO_202000 := n0_; have BK196 := n1_; have BK197 := n2_; have BK201 := n3_; have HO205 := n4_; have HB := n5_; clear n0_ n1_ n2_ n3_ n4_ n5_; clear hg hw hp_; have hnb37 := NB201_197.out; have hnc37 := NB197_201.out; have hcz38_0 : w36.cell? ⟨gb201, 0, none⟩ = some (u202000) := (blk_cell BK201.out 0).trans rfl; have hcz38_1 : w36.cell? ⟨gb201, 1, none⟩ = some (.int .i64 a0_1) := (blk_cell BK201.out 1).trans rfl; have hcz38_2 : w36.cell? ⟨gb201, 2, none⟩ = some (.int .u64 a0_2) := (blk_cell BK201.out 2).trans rfl; have hcz38_3 : w36.cell? ⟨gb201, 3, none⟩ = some (.int .u64 t200) := (blk_cell BK201.out 3).trans rfl; have hfz38_0 := blk_frozen BK201.out 0; have hfz38_1 := blk_frozen BK201.out 1; have hfz38_2 := blk_frozen BK201.out 2; have hfz38_3 := blk_frozen BK201.out 3) | ((with_reducible refine gate_builtin (b := .append) (xs := #[.tmp 54, .tmp 56]) rfl ?_); at_builtin; refine Kd.S_append (Kd.slice 22 (Kd.int .u64)) (w0 := w) w.heap.size rfl (.tmp 54) (.tmp 56) 36 83 (.slice none 0 0) 24 rfl Try.underlying36 info83 rfl (by decide) (by omega) u202000 x202000_1 y208 [.slice (some ⟨go26, 0, none⟩) y203.length co34] (fun _ => True) (fun k_ => some k_ = (.slice (some ⟨go26, 0, none⟩) y203.length co34 : Value).ownBlock) rfl rfl ?aP (fun k_ hk_ => ((Kd.R_mono (ok' := fun k_ => ((fun _ => True)) k_ ∧ some k_ ≠ (u202000 : Value).ownBlock) (Kd.R_apart' (HO205.out) (Kd.S_typed HO_202000.out) (by decide)) (fun k_ hk => ⟨trivial, hk.2⟩))).1 k_ hk_.symm) ?aF ?aO ?aB ?aS ?aL ?_; (case aP => exact Kd.M_row (Kd.R_mono (Kd.R_tight rfl (Kd.R_mono (ok' := fun k_ => ((fun _ => True)) k_ ∧ some k_ ≠ (u202000 : Value).ownBlock) (Kd.R_apart' (HO205.out) (Kd.S_typed HO_202000.out) (by decide)) (fun k_ hk => ⟨trivial, hk.2⟩))) (fun _ h_ => h_))); (case aB => exact (by repeat (first | (with_reducible first | exact HB.out | apply below_alloc | apply pw_below_drewN | apply below_drew1 | refine below_set ?_ GE196.out | refine below_set ?_ GE197.out | refine below_set ?_ GE201.out) | exact HB.out))); (case aF => exact (fun _ _ => trivial)); (case aO => exact (by (with_reducible repeat (first | apply Kd.S_alloc | apply Kd.S_drewN | apply Kd.S_drew)); exact Kd.S_mono HO_202000.out (fun k_ hk => ⟨trivial, fun e_ => hk.2 e_⟩))); (case aS => exact (below_size (by repeat (first | (with_reducible first | exact HB.out | apply below_alloc | apply pw_below_drewN | apply below_drew1 | refine below_set ?_ GE196.out | refine below_set ?_ GE197.out | refine below_set ?_ GE201.out) | exact HB.out)))); (case aL => have := LMc27.out; omega); intro v210 w39 ho hb hg hat; rw [← Ny209.out] at ho; have n0_ := Aside0.mk (blk_grown (g := gb196) (o := .cells #[.slice (some ad202) l0_0.length c0_0, .int .i64 a0_1, .int .u64 a0_2, .int .u64 a0_3] 38 (0, 0)) (by (with_reducible repeat (first | refine blk_drewN ?_ _ | refine blk_drew ?_ | refine blk_alloc ?_ _)); exact BK196.out) hg (Kd.S_ne HO_202000.out BK196.out (by decide))); have n1_ := Aside0.mk (blk_grown (g := gb197) (o := .cells #[.slice none 0 0, .int .i64 0, .int .u64 0, .int .u64 0] 38 (0, 0)) (by (with_reducible repeat (first | refine blk_drewN ?_ _ | refine blk_drew ?_ | refine blk_alloc ?_ _)); exact BK197.out) hg (Kd.S_ne HO_202000.out BK197.out (by decide))); have n2_ := Aside0.mk (blk_grown (g := gb201) (o := .cells #[u202000, .int .i64 a0_1, .int .u64 a0_2, .int .u64 t200] 38 (0, 0)) (by (with_reducible repeat (first | refine blk_drewN ?_ _ | refine blk_drew ?_ | refine blk_alloc ?_ _)); exact BK201.out) hg (Kd.S_ne HO_202000.out BK201.out (by decide))); have n3_ := Aside0.mk (hb); have n4_ := Aside0.mk (ho); clear BK196; clear BK197; clear BK201; clear HB; clear HO_202000; clear HO205; have BK196 := n0_; have BK197 := n1_; have BK201 := n2_; have HB := n3_; have HO211 := n4_; clear n0_ n1_ n2_ n3_ n4_; clear ho hb hg hat; obtain ⟨Ao40, co40, eo40⟩ := Kd.S_slice HO211.out; subst eo40; have hcz41_0 : w39.cell? ⟨gb201, 0, none⟩ = some (u202000) := (blk_cell BK201.out 0).trans rfl; have hcz41_1 : w39.cell? ⟨gb201, 1, none⟩ = some (.int .i64 a0_1) := (blk_cell BK201.out 1).trans rfl; have hcz41_2 : w39.cell? ⟨gb201, 2, none⟩ = some (.int .u64 a0_2) := (blk_cell BK201.out 2).trans rfl; have hcz41_3 : w39.cell? ⟨gb201, 3, none⟩ = some (.int .u64 t200) := (blk_cell BK201.out 3).trans rfl; have hfz41_0 := blk_frozen BK201.out 0; have hfz41_1 := blk_frozen BK201.out 1; have hfz41_2 := blk_frozen BK201.out 2; have hfz41_3 := blk_frozen BK201.out 3))
                  go_roundg k1
                  case measure => have := HK1.out; omega
                  case rel => exact ⟨(wrap64 (x9_1 + 1)), (y209), (.slice Ao40 y209.length co40), (by first | rfl | (simp; done) | (simp [*]; done)), H', ⟨by have := HK1.out; omega⟩, ⟨by (with_reducible repeat (first | apply Kd.S_alloc | apply Kd.S_drewN | apply Kd.S_drew)); exact Kd.S_mono (Kd.S_far (p := ⟨gb201, 0, none⟩) (Kd.S_types HO211.out BK201.out (by decide)) (fun _ hk => hk.2) (.slice Ao40 y209.length co40)) (fun _ hk => trivial)⟩, ⟨by (with_reducible repeat (first | refine blk_drewN ?_ _ | refine blk_drew ?_ | refine blk_alloc ?_ _)); refine blk_far ?_ NB196_201.out _; (with_reducible repeat (first | refine blk_drewN ?_ _ | refine blk_drew ?_ | refine blk_alloc ?_ _)); exact BK196.out⟩, ⟨by (with_reducible repeat (first | refine blk_drewN ?_ _ | refine blk_drew ?_ | refine blk_alloc ?_ _)); refine blk_far ?_ NB197_201.out _; (with_reducible repeat (first | refine blk_drewN ?_ _ | refine blk_drew ?_ | refine blk_alloc ?_ _)); exact BK197.out⟩, ⟨by (with_reducible repeat (first | refine blk_drewN ?_ _ | refine blk_drew ?_ | refine blk_alloc ?_ _)); refine blk_put (cs := #[u202000, .int .i64 a0_1, .int .u64 a0_2, .int .u64 t200]) ?_ 0 _ rfl; (with_reducible repeat (first | refine blk_drewN ?_ _ | refine blk_drew ?_ | refine blk_alloc ?_ _)); exact BK201.out⟩, ⟨by repeat (first | (with_reducible first | exact HB.out | apply below_alloc | apply pw_below_drewN | apply below_drew1 | refine below_set ?_ GE196.out | refine below_set ?_ GE197.out | refine below_set ?_ GE201.out) | exact HB.out)⟩⟩
                · rw [if_neg c27] at H
                  exact absurd H (by simp)
              · rw [if_neg c24] at H
                exact absurd H (by simp)
            · rw [if_neg c23] at H
              exact absurd H (by simp)
          · rw [if_neg c21] at H
            exact absurd H (by simp)
        · rw [if_neg c20] at H
          exact absurd H (by simp)
      · rw [if_neg c19] at H
        have c19b0 : decide (x9_1 < (l0_0.length : Int)) = false := decide_eq_false c19
        clear c19
        simp only [Option.some.injEq, Prod.mk.injEq] at H
        obtain ⟨rfl, rfl, rfl, rfl⟩ := H
        have hnb42 := NB196_197.out
        have hnc42 := NB197_196.out
        have hnb43 := NB196_201.out
        have hnc43 := NB201_196.out
        have hcz44_0 : wr.cell? ⟨gb196, 0, none⟩ = some (.slice A0_0 l0_0.length c0_0) := (blk_cell BK196.out 0).trans rfl
        have hcz44_1 : wr.cell? ⟨gb196, 1, none⟩ = some (.int .i64 a0_1) := (blk_cell BK196.out 1).trans rfl
        have hcz44_2 : wr.cell? ⟨gb196, 2, none⟩ = some (.int .u64 a0_2) := (blk_cell BK196.out 2).trans rfl
        have hcz44_3 : wr.cell? ⟨gb196, 3, none⟩ = some (.int .u64 a0_3) := (blk_cell BK196.out 3).trans rfl
        have hfz44_0 := blk_frozen BK196.out 0
        have hfz44_1 := blk_frozen BK196.out 1
        have hfz44_2 := blk_frozen BK196.out 2
        have hfz44_3 := blk_frozen BK196.out 3
        have hnb45 := NB201_197.out
        have hnc45 := NB197_201.out
        have hcz46_0 : wr.cell? ⟨gb201, 0, none⟩ = some (u202000) := (blk_cell BK201.out 0).trans rfl
        have hcz46_1 : wr.cell? ⟨gb201, 1, none⟩ = some (.int .i64 a0_1) := (blk_cell BK201.out 1).trans rfl
        have hcz46_2 : wr.cell? ⟨gb201, 2, none⟩ = some (.int .u64 a0_2) := (blk_cell BK201.out 2).trans rfl
        have hcz46_3 : wr.cell? ⟨gb201, 3, none⟩ = some (.int .u64 t200) := (blk_cell BK201.out 3).trans rfl
        have hfz46_0 := blk_frozen BK201.out 0
        have hfz46_1 := blk_frozen BK201.out 1
        have hfz46_2 := blk_frozen BK201.out 2
        have hfz46_3 := blk_frozen BK201.out 3
        obtain ⟨Ao47, co47, eo47⟩ := Kd.S_slice HO_202000.out
        subst eo47
        have hcz48_0 : wr.cell? ⟨gb197, 0, none⟩ = some (.slice none 0 0) := (blk_cell BK197.out 0).trans rfl
        have hcz48_1 : wr.cell? ⟨gb197, 1, none⟩ = some (.int .i64 0) := (blk_cell BK197.out 1).trans rfl
        have hcz48_2 : wr.cell? ⟨gb197, 2, none⟩ = some (.int .u64 0) := (blk_cell BK197.out 2).trans rfl
        have hcz48_3 : wr.cell? ⟨gb197, 3, none⟩ = some (.int .u64 0) := (blk_cell BK197.out 3).trans rfl
        have hfz48_0 := blk_frozen BK197.out 0
        have hfz48_1 := blk_frozen BK197.out 1
        have hfz48_2 := blk_frozen BK197.out 2
        have hfz48_3 := blk_frozen BK197.out 3
        go_wp2
        refine bodyPost_ret (results_cell_row rfl _ _ gb197 38 #[.slice Ao47 x202000_1.length co47, .int .i64 a0_1, .int .u64 a0_2, .int .u64 t200] (0, 0) _ rfl (by (with_reducible repeat (first | refine blk_drewN ?_ _ | refine blk_drew ?_ | refine blk_alloc ?_ _)); refine blk_put (cs := #[.slice Ao47 x202000_1.length co47, .int .i64 a0_1, .int .u64 a0_2, .int .u64 0]) ?_ 3 _ rfl; (with_reducible repeat (first | refine blk_drewN ?_ _ | refine blk_drew ?_ | refine blk_alloc ?_ _)); refine blk_put (cs := #[.slice Ao47 x202000_1.length co47, .int .i64 a0_1, .int .u64 0, .int .u64 0]) ?_ 2 _ rfl; (with_reducible repeat (first | refine blk_drewN ?_ _ | refine blk_drew ?_ | refine blk_alloc ?_ _)); refine blk_put (cs := #[.slice Ao47 x202000_1.length co47, .int .i64 0, .int .u64 0, .int .u64 0]) ?_ 1 _ rfl; (with_reducible repeat (first | refine blk_drewN ?_ _ | refine blk_drew ?_ | refine blk_alloc ?_ _)); refine blk_put (cs := #[.slice none 0 0, .int .i64 0, .int .u64 0, .int .u64 0]) ?_ 0 _ rfl; (with_reducible repeat (first | refine blk_drewN ?_ _ | refine blk_drew ?_ | refine blk_alloc ?_ _)); exact BK197.out) Try.underlying38 rfl (by kernel_rfl)) rfl ?_
        exact ⟨_, by first | rfl | (simp [errW_none, errW_some] <;> rfl) | (simp [*, errW_none, errW_some] <;> rfl), by (with_reducible repeat (first | apply Kd.S_alloc | apply Kd.S_drewN | apply Kd.S_drew)); exact Kd.S_mono (Kd.S_far (p := ⟨gb197, 3, none⟩) (Kd.S_far (p := ⟨gb197, 2, none⟩) (Kd.S_far (p := ⟨gb197, 1, none⟩) (Kd.S_far (p := ⟨gb197, 0, none⟩) (Kd.S_types HO_202000.out BK197.out (by decide)) (fun _ hk => hk.2) (.slice Ao47 x202000_1.length co47)) (fun _ hk => hk.2) (.int .i64 a0_1)) (fun _ hk => hk.2) (.int .u64 a0_2)) (fun _ hk => hk.2) (.int .u64 t200)) (fun _ hk => trivial), by repeat (first | (with_reducible first | exact HB.out | apply below_alloc | apply pw_below_drewN | apply below_drew1 | refine below_set ?_ GE196.out | refine below_set ?_ GE197.out | refine below_set ?_ GE201.out) | exact HB.out)⟩

-- NOT PRINTED: function 32 (telemeterref08_Add)

-- NOT PRINTED: function 20 (telemeterref09_Ask)

-- NOT PRINTED: function 4 (telemeterlaw09_RateAsks)

end Go.Proofs.Ytjpfamminemegaa.PRateAsks
