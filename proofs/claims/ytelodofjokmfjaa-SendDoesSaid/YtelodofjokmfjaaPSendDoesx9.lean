-- PRINTED BY print.sh 35421559b90ae4d0a3588c463048766b98c2df88dd9212a6774a882060cdf62d: not written by this session
import Derived.Test.YtelodofjokmfjaaPSendDoesx0
import Derived.Test.YtelodofjokmfjaaPSendDoesx7
import Derived.Test.YtelodofjokmfjaaPSendDoesx8
namespace Go.Proofs.Ytelodofjokmfjaa.PSendDoes
open Go.RowKit Go.Proofs.YtelodofjokmfjaaW.PrintWords Go.Proofs.YtelodofjokmfjaaW.PrintLast Go.Proofs.YtelodofjokmfjaaW.PrintMore
attribute [local go_sem] max2_int min2_int max_two min_two max_three min_three max_four min_four   -- for this text's walks alone
set_option linter.unusedVariables false
set_option linter.unusedSimpArgs false

/-! ### telemeterref17_Due: function 21 -/
mutual
def telemeterref17_Due.l0 : Nat → Int → Int → List Int → Int → List (S70) → Int → Int → Int → Option ((List (S70)) × Int × Int × Int × List Int)
  | 0, _, _, _, _, _, _, _, _ => none
  | k + 1, x1, x2, x9, x10, x262000, x262001, x262002, x262003 => if x10 < (x262000.length : Int) then (if 0 ≤ x10 then (if ((rd_T70 x262000 x10).f1) = 1 then (if ((rd_T70 x262000 x10).f3) > x1 then (telemeterref17_Due.j1 k x1 x2 x9 x10 true x262000 x262001 x262002 x262003 ((rd_T70 x262000 x10).f0) ((rd_T70 x262000 x10).f1) ((rd_T70 x262000 x10).f2) ((rd_T70 x262000 x10).f3)) else (if ((rd_T70 x262000 x10).f1) = 0 then ((telemeterref17_Flying.f k x262000 x262001 x262002 x262003).bind fun t268 => (telemeterref17_Due.j1 k x1 x2 x9 x10 (decide (t268 ≥ x262001)) x262000 x262001 x262002 x262003 ((rd_T70 x262000 x10).f0) ((rd_T70 x262000 x10).f1) ((rd_T70 x262000 x10).f2) ((rd_T70 x262000 x10).f3))) else (telemeterref17_Due.j1 k x1 x2 x9 x10 false x262000 x262001 x262002 x262003 ((rd_T70 x262000 x10).f0) ((rd_T70 x262000 x10).f1) ((rd_T70 x262000 x10).f2) ((rd_T70 x262000 x10).f3)))) else (if ((rd_T70 x262000 x10).f1) = 0 then ((telemeterref17_Flying.f k x262000 x262001 x262002 x262003).bind fun t269 => (telemeterref17_Due.j1 k x1 x2 x9 x10 (decide (t269 ≥ x262001)) x262000 x262001 x262002 x262003 ((rd_T70 x262000 x10).f0) ((rd_T70 x262000 x10).f1) ((rd_T70 x262000 x10).f2) ((rd_T70 x262000 x10).f3))) else (telemeterref17_Due.j1 k x1 x2 x9 x10 false x262000 x262001 x262002 x262003 ((rd_T70 x262000 x10).f0) ((rd_T70 x262000 x10).f1) ((rd_T70 x262000 x10).f2) ((rd_T70 x262000 x10).f3)))) else (none)) else (some (x262000, x262001, x262002, x262003, x9))
def telemeterref17_Due.j1 : Nat → Int → Int → List Int → Int → Bool → List (S70) → Int → Int → Int → Int → Int → Int → Int → Option ((List (S70)) × Int × Int × Int × List Int)
  | 0, _, _, _, _, _, _, _, _, _, _, _, _, _ => none
  | k + 1, x1, x2, x9, x10, x50, x262000, x262001, x262002, x262003, x268000, x268001, x268002, x268003 => if x50 = true then (telemeterref17_Due.l0 k x1 x2 x9 (wrap64 (x10 + 1)) x262000 x262001 x262002 x262003) else ((telemeterref06_Mix.f (IntKind.u64.wrap (x2 + (IntKind.u64.wrap (x268000))))).bind fun t270 => ((telemeterref17_Delay.f k x262002 x262003 (wrap64 (x268002 + 1)) t270).bind fun t271 => (if 0 ≤ x10 then (if x10 < (x262000.length : Int) then (if x9.length < 17592186044416 then (telemeterref17_Due.l0 k x1 x2 (x9 ++ [x268000]) (wrap64 (x10 + 1)) (x262000.set (x10 : Int).toNat (⟨x268000, 1, wrap64 (x268002 + 1), wrap64 (x1 + t271)⟩ : S70)) x262001 x262002 x262003) else (none)) else (none)) else (none))))
end
def telemeterref17_Due.f (k : Nat) (l0_0 : List (S70)) (a0_1 : Int) (a0_2 : Int) (a0_3 : Int) (a1 : Int) (a2 : Int) : Option ((List (S70)) × Int × Int × Int × List Int) := if ([] : List (S70)).length + l0_0.length < 4398046511104 then (telemeterref17_Due.l0 k a1 a2 ([] : List Int) 0 (([] : List (S70)) ++ l0_0) a0_1 a0_2 a0_3) else (none)
theorem telemeterref17_Due.mono_l : ∀ k, (∀ y0 y1 y2 y3 y4 y5 y6 y7, LeO (telemeterref17_Due.l0 k y0 y1 y2 y3 y4 y5 y6 y7) (telemeterref17_Due.l0 (k + 1) y0 y1 y2 y3 y4 y5 y6 y7)) ∧ (∀ y0 y1 y2 y3 y4 y5 y6 y7 y8 y9 y10 y11 y12, LeO (telemeterref17_Due.j1 k y0 y1 y2 y3 y4 y5 y6 y7 y8 y9 y10 y11 y12) (telemeterref17_Due.j1 (k + 1) y0 y1 y2 y3 y4 y5 y6 y7 y8 y9 y10 y11 y12))
  | 0 => ⟨fun _ _ _ _ _ _ _ _ r h => by simp [telemeterref17_Due.l0] at h, fun _ _ _ _ _ _ _ _ _ _ _ _ _ r h => by simp [telemeterref17_Due.j1] at h⟩
  | k + 1 => by
    obtain ⟨ih0, ih1⟩ := telemeterref17_Due.mono_l k
    refine ⟨?_, ?_⟩
    · intro y0 y1 y2 y3 y4 y5 y6 y7
      unfold telemeterref17_Due.l0
      repeat' first
      | (with_reducible exact ih0 _ _ _ _ _ _ _ _)
      | (with_reducible exact ih1 _ _ _ _ _ _ _ _ _ _ _ _ _)
      | (with_reducible exact telemeterref17_Delay.mono _ _ _ _ _)
      | (with_reducible exact telemeterref17_Flying.mono _ _ _ _ _)
      | (with_reducible exact LeO.refl _)
      | (with_reducible exact LeO.none _)
      | (with_reducible refine LeO.ite ?_ ?_)
      | (with_reducible refine LeO.bind ?_ (fun _ => ?_))
      | exact ih0 _ _ _ _ _ _ _ _
      | exact ih1 _ _ _ _ _ _ _ _ _ _ _ _ _
      | exact telemeterref17_Delay.mono _ _ _ _ _
      | exact telemeterref17_Flying.mono _ _ _ _ _
      | exact LeO.none _
      | refine LeO.ite ?_ ?_
      | refine LeO.bind ?_ (fun _ => ?_)
    · intro y0 y1 y2 y3 y4 y5 y6 y7 y8 y9 y10 y11 y12
      unfold telemeterref17_Due.j1
      repeat' first
      | (with_reducible exact ih0 _ _ _ _ _ _ _ _)
      | (with_reducible exact ih1 _ _ _ _ _ _ _ _ _ _ _ _ _)
      | (with_reducible exact telemeterref17_Delay.mono _ _ _ _ _)
      | (with_reducible exact telemeterref17_Flying.mono _ _ _ _ _)
      | (with_reducible exact LeO.refl _)
      | (with_reducible exact LeO.none _)
      | (with_reducible refine LeO.ite ?_ ?_)
      | (with_reducible refine LeO.bind ?_ (fun _ => ?_))
      | exact ih0 _ _ _ _ _ _ _ _
      | exact ih1 _ _ _ _ _ _ _ _ _ _ _ _ _
      | exact telemeterref17_Delay.mono _ _ _ _ _
      | exact telemeterref17_Flying.mono _ _ _ _ _
      | exact LeO.none _
      | refine LeO.ite ?_ ?_
      | refine LeO.bind ?_ (fun _ => ?_)
theorem telemeterref17_Due.mono : ∀ a0 a1 a2 a3 a4 a5 k, LeO (telemeterref17_Due.f k a0 a1 a2 a3 a4 a5) (telemeterref17_Due.f (k + 1) a0 a1 a2 a3 a4 a5) := by
  intro a0 a1 a2 a3 a4 a5 k
  obtain ⟨ih0, ih1⟩ := telemeterref17_Due.mono_l k
  unfold telemeterref17_Due.f
  repeat' first
      | (with_reducible exact ih0 _ _ _ _ _ _ _ _)
      | (with_reducible exact ih1 _ _ _ _ _ _ _ _ _ _ _ _ _)
      | (with_reducible exact telemeterref17_Delay.mono _ _ _ _ _)
      | (with_reducible exact telemeterref17_Flying.mono _ _ _ _ _)
      | (with_reducible exact LeO.refl _)
      | (with_reducible exact LeO.none _)
      | (with_reducible refine LeO.ite ?_ ?_)
      | (with_reducible refine LeO.bind ?_ (fun _ => ?_))
      | exact ih0 _ _ _ _ _ _ _ _
      | exact ih1 _ _ _ _ _ _ _ _ _ _ _ _ _
      | exact telemeterref17_Delay.mono _ _ _ _ _
      | exact telemeterref17_Flying.mono _ _ _ _ _
      | exact LeO.none _
      | refine LeO.ite ?_ ?_
      | refine LeO.bind ?_ (fun _ => ?_)
def telemeterref17_Due.T9 : Bool × List (List Nat × List Nat) := (true, [([], []), ([0], [0]), ([1], [1]), ([2], [2]), ([3], [3]), ([4, 3], [3, 4]), ([3], [3]), ([5, 6, 3], [3, 5, 6]), ([3, 7], [3, 7]), ([8, 3], [8]), ([9], [9]), ([10, 9], [9, 10]), ([11, 9], [9, 11]), ([12, 9, 9], [9, 12]), ([13], [13]), ([14, 13, 13], [13, 14]), ([13], [13]), ([16, 13], [13, 16]), ([15, 17, 13], [13, 15, 17]), ([13, 18, 9], [9, 13, 18]), ([9, 19], [9, 19])])
def telemeterref17_Due.B9 : List Nat := [0, 1, 3, 7, 15, 31, 15, 127, 255, 511, 1023, 2047, 4095, 8191, 16383, 32767, 16383, 81919, 262143, 524287, 1048575]
theorem telemeterref17_Due.tab9 : rtab .any (opsOf Try.f21 9) = telemeterref17_Due.T9 := by kernel_rfl
theorem telemeterref17_Due.bits9 : waitsOk telemeterref17_Due.T9.2 telemeterref17_Due.B9 = true := by kernel_rfl
def telemeterref17_Due.T12 : Bool × List (List Nat × List Nat) := (true, [([], []), ([], []), ([1], [1]), ([], []), ([3], [3]), ([], []), ([5], [5]), ([], []), ([], []), ([8], [8]), ([9], [9]), ([7, 10], [7, 10]), ([11], [11]), ([2, 4, 6, 12, 12], [2, 4, 6, 12]), ([0, 13], [0, 13]), ([0, 1, 2, 3, 4, 5, 6, 7, 8, 9, 10, 11, 12, 13, 14], []), ([15, 14, 13, 0, 1, 2, 3, 4, 5, 6, 7, 8, 9, 10, 11, 12, 13, 14], [14, 15])])
def telemeterref17_Due.B12 : List Nat := [0, 0, 2, 0, 8, 0, 32, 0, 0, 256, 768, 1920, 3968, 8190, 16383, 32767, 65535]
theorem telemeterref17_Due.tab12 : rtab .any (opsOf Try.f21 12) = telemeterref17_Due.T12 := by kernel_rfl
theorem telemeterref17_Due.bits12 : waitsOk telemeterref17_Due.T12.2 telemeterref17_Due.B12 = true := by kernel_rfl
set_option maxHeartbeats 8000000 in
set_option maxRecDepth 100000 in
theorem telemeterref17_Due.calls (k : Nat) (A0_0 : Option Addr) (c0_0 : Nat) (l0_0 : List (S70)) (a0_1 : Int) (a0_2 : Int) (a0_3 : Int) (a1 : Int) (a2 : Int) (r1 : List (S70)) (r2 : Int) (r3 : Int) (r4 : Int) (r5 : List Int) (w : World) (hr0_0 : Kd.C k70 w A0_0 l0_0.length l0_0) (hc0_0 : l0_0.length ≤ c0_0) (h : telemeterref17_Due.f k l0_0 a0_1 a0_2 a0_3 a1 a2 = some (r1, r2, r3, r4, r5)) :
    Calls Try.prog 21 #[.agg #[.slice A0_0 l0_0.length c0_0, .int .i64 a0_1, .int .i64 a0_2, .int .i64 a0_3], .int .i64 a1, .int .u64 a2] w fun e w' => ∃ v0_ v4_ : Value, e = .returned (.tuple #[.agg #[v0_, .int .i64 r2, .int .i64 r3, .int .i64 r4], v4_]) ∧ Kd.R k70 70 w' w.heap.size (fun _ => True) v0_ r1 ∧ Kd.R (Kd.int .i64) 3 w' w.heap.size (fun _ => True) v4_ r5 ∧ Below w.heap.size w w' := by
  have hu41 := Try.underlying41
  have hu70 := Try.underlying70
  have HR0_0 := Aside0.mk hr0_0
  have HC0_0 := Aside0.mk hc0_0
  clear hr0_0 hc0_0
  have HB := Aside0.mk (Below.refl w.heap.size w)
  have H : (if ([] : List (S70)).length + l0_0.length < 4398046511104 then (telemeterref17_Due.l0 k a1 a2 ([] : List Int) 0 (([] : List (S70)) ++ l0_0) a0_1 a0_2 a0_3) else (none)) = some (r1, r2, r3, r4, r5) := h
  clear h
  by_cases c4 : ([] : List (S70)).length + l0_0.length < 4398046511104
  · rw [if_pos c4] at H
    have LMc4 := Aside0.mk c4
    clear c4
    obtain ⟨y263, hy263⟩ : ∃ y_ : List (S70), y_ = (([] : List (S70)) ++ l0_0) := ⟨_, rfl⟩
    replace H : (telemeterref17_Due.l0 k a1 a2 ([] : List Int) 0 y263 a0_1 a0_2 a0_3) = some (r1, r2, r3, r4, r5) := by first | (rw [hy263]; with_reducible exact H) | (have H2_ := (Option.bind_some _ _).symm.trans H; rw [hy263]; with_reducible exact H2_) | (have H2_ := (Option.bind_some _ _).symm.trans H; with_reducible exact H2_) | with_reducible exact H | (rw [hy263]; exact H) | exact H
    have Ny263 := Aside0.mk hy263
    clear hy263
    have H' := Aside0.mk H
    clear H
    go_enter Try.func21, Try.ntmps21
    go_wp2_with (first | ((with_reducible refine gate_dst (N := 3) rfl ?_); refine box_event ?hg (N := 3) ?hd (cs := #[.slice A0_0 l0_0.length c0_0, .int .i64 a0_1, .int .i64 a0_2, .int .i64 a0_3]) (t := 41) ?hr ?_; (case hd => rfl); (case hg => rfl); (case hr => first | (go_simp; done) | (go_simp; rfl)); intro gb261 hg w5 hbox hb; have n0_ := Aside0.mk (below_step (by repeat (first | (with_reducible first | exact HB.out | apply below_alloc | apply pw_below_drewN | apply below_drew1) | exact HB.out)) hb); have n1_ := Aside0.mk (hbox); have n2_ := Aside0.mk ((by rw [hg]; exact (below_size (by repeat (first | (with_reducible first | exact HB.out | apply below_alloc | apply pw_below_drewN | apply below_drew1) | exact HB.out))) : w.heap.size ≤ gb261)); have n3_ := Aside0.mk ((by rw [hg]; exact (below_size (by repeat (first | (with_reducible first | exact HB.out | apply below_alloc | apply pw_below_drewN | apply below_drew1) | exact HB.out))) : w.heap.size ≤ gb261)); clear HB; have HB := n0_; have BK261 := n1_; have GW261 := n2_; have GE261 := n3_; clear n0_ n1_ n2_ n3_; clear hb hbox hg) | ((with_reducible refine gate_dst (N := 6) rfl ?_); refine box_event ?hg (N := 6) ?hd (cs := #[.slice none 0 0, .int .i64 0, .int .i64 0, .int .i64 0]) (t := 41) ?hr ?_; (case hd => rfl); (case hg => rfl); (case hr => first | (go_simp; done) | (go_simp; rfl)); intro gb262 hg w6 hbox hb; have n0_ := Aside0.mk (blk_below (g := gb261) (o := .cells #[.slice A0_0 l0_0.length c0_0, .int .i64 a0_1, .int .i64 a0_2, .int .i64 a0_3] 41 (0, 0)) (by (with_reducible repeat (first | refine blk_drewN ?_ _ | refine blk_drew ?_ | refine blk_alloc ?_ _)); exact BK261.out) hb); have n1_ := Aside0.mk (below_step (by repeat (first | (with_reducible first | exact HB.out | apply below_alloc | apply pw_below_drewN | apply below_drew1 | refine below_set ?_ GE261.out) | exact HB.out)) hb); have n2_ := Aside0.mk (hbox); have n3_ := Aside0.mk ((by rw [hg]; exact (below_size (by repeat (first | (with_reducible first | exact HB.out | apply below_alloc | apply pw_below_drewN | apply below_drew1 | refine below_set ?_ GE261.out) | exact HB.out))) : w.heap.size ≤ gb262)); have n4_ := Aside0.mk ((by rw [hg]; exact (below_size (by repeat (first | (with_reducible first | exact HB.out | apply below_alloc | apply pw_below_drewN | apply below_drew1 | refine below_set ?_ GE261.out) | exact HB.out))) : w.heap.size ≤ gb262)); have n5_ := Aside0.mk ((by rw [hg]; exact Nat.ne_of_lt (blk_lt (g := gb261) (o := .cells #[.slice A0_0 l0_0.length c0_0, .int .i64 a0_1, .int .i64 a0_2, .int .i64 a0_3] 41 (0, 0)) (by (with_reducible repeat (first | refine blk_drewN ?_ _ | refine blk_drew ?_ | refine blk_alloc ?_ _)); exact BK261.out)) : gb261 ≠ gb262)); have n6_ := Aside0.mk ((by rw [hg]; exact Nat.ne_of_gt (blk_lt (g := gb261) (o := .cells #[.slice A0_0 l0_0.length c0_0, .int .i64 a0_1, .int .i64 a0_2, .int .i64 a0_3] 41 (0, 0)) (by (with_reducible repeat (first | refine blk_drewN ?_ _ | refine blk_drew ?_ | refine blk_alloc ?_ _)); exact BK261.out)) : gb262 ≠ gb261)); clear BK261; clear HB; have BK261 := n0_; have HB := n1_; have BK262 := n2_; have GW262 := n3_; have GE262 := n4_; have NB261_262 := n5_; have NB262_261 := n6_; clear n0_ n1_ n2_ n3_ n4_ n5_ n6_; clear hb hbox hg; have hnb7 := NB261_262.out; have hnc7 := NB262_261.out; have hcz8_0 : w6.cell? ⟨gb261, 0, none⟩ = some (.slice A0_0 l0_0.length c0_0) := (blk_cell BK261.out 0).trans rfl; have hcz8_1 : w6.cell? ⟨gb261, 1, none⟩ = some (.int .i64 a0_1) := (blk_cell BK261.out 1).trans rfl; have hcz8_2 : w6.cell? ⟨gb261, 2, none⟩ = some (.int .i64 a0_2) := (blk_cell BK261.out 2).trans rfl; have hcz8_3 : w6.cell? ⟨gb261, 3, none⟩ = some (.int .i64 a0_3) := (blk_cell BK261.out 3).trans rfl; have hfz8_0 := blk_frozen BK261.out 0; have hfz8_1 := blk_frozen BK261.out 1; have hfz8_2 := blk_frozen BK261.out 2; have hfz8_3 := blk_frozen BK261.out 3) | ((with_reducible refine gate_builtin (b := .append) (xs := #[.tmp 12, .tmp 14]) rfl ?_); at_builtin; refine Kd.R_append_rows k70 (w0 := w) w.heap.size rfl (.tmp 12) (.tmp 14) 39 70 (.agg #[(.int .i64 0), (.int .i64 0), (.int .i64 0), (.int .i64 0)]) 32 rfl Try.underlying39 info70 rfl (by decide) (by omega) (.slice none 0 0) ([] : List (S70)) l0_0 _ _ _ (fun _ => True) (fun _ => False) rfl rfl ?aO ?aR (fun _ _ h => h) (fun _ h => h.elim) ?aF ?aB ?aS ?aL ?_; (case aR => repeat (first | exact (Kd.C_below HR0_0.out HB.out) | (with_reducible refine Kd.C_alloc ?_ _) | (with_reducible refine Kd.C_drewN ?_ _) | (with_reducible refine Kd.C_drew ?_))); (case aB => exact (by repeat (first | (with_reducible first | exact HB.out | apply below_alloc | apply pw_below_drewN | apply below_drew1 | refine below_set ?_ GE261.out | refine below_set ?_ GE262.out) | exact HB.out))); (case aF => exact (fun _ _ => trivial)); (case aO => exact ((Kd.R_nil _ _ _ _ (fun _ => True)))); (case aS => exact (below_size (by repeat (first | (with_reducible first | exact HB.out | apply below_alloc | apply pw_below_drewN | apply below_drew1 | refine below_set ?_ GE261.out | refine below_set ?_ GE262.out) | exact HB.out)))); (case aL => have := LMc4.out; omega); intro v264 w9 ho hb hg hat; rw [← Ny263.out] at ho; have n0_ := Aside0.mk (blk_grown (g := gb261) (o := .cells #[.slice A0_0 l0_0.length c0_0, .int .i64 a0_1, .int .i64 a0_2, .int .i64 a0_3] 41 (0, 0)) (by (with_reducible repeat (first | refine blk_drewN ?_ _ | refine blk_drew ?_ | refine blk_alloc ?_ _)); exact BK261.out) hg (by simp [Value.ownBlock])); have n1_ := Aside0.mk (blk_grown (g := gb262) (o := .cells #[.slice none 0 0, .int .i64 0, .int .i64 0, .int .i64 0] 41 (0, 0)) (by (with_reducible repeat (first | refine blk_drewN ?_ _ | refine blk_drew ?_ | refine blk_alloc ?_ _)); exact BK262.out) hg (by simp [Value.ownBlock])); have n2_ := Aside0.mk (hb); have n3_ := Aside0.mk (ho); clear BK261; clear BK262; clear HB; have BK261 := n0_; have BK262 := n1_; have HB := n2_; have HO265 := n3_; clear n0_ n1_ n2_ n3_; clear ho hb hg hat; obtain ⟨Ao10, co10, eo10⟩ := Kd.R_slice HO265.out; subst eo10; have hcz11_0 : w9.cell? ⟨gb261, 0, none⟩ = some (.slice A0_0 l0_0.length c0_0) := (blk_cell BK261.out 0).trans rfl; have hcz11_1 : w9.cell? ⟨gb261, 1, none⟩ = some (.int .i64 a0_1) := (blk_cell BK261.out 1).trans rfl; have hcz11_2 : w9.cell? ⟨gb261, 2, none⟩ = some (.int .i64 a0_2) := (blk_cell BK261.out 2).trans rfl; have hcz11_3 : w9.cell? ⟨gb261, 3, none⟩ = some (.int .i64 a0_3) := (blk_cell BK261.out 3).trans rfl; have hfz11_0 := blk_frozen BK261.out 0; have hfz11_1 := blk_frozen BK261.out 1; have hfz11_2 := blk_frozen BK261.out 2; have hfz11_3 := blk_frozen BK261.out 3))
    go_loopg [9, 10] k (fun kq v9 v10 w' => ∃ (x9_1 : List Int) (x10_1 : Int) (x262000_1 : List (S70)) (u262000 : Value), v10 = .int .i64 x10_1 ∧ Aside0 (telemeterref17_Due.l0 kq a1 a2 x9_1 x10_1 x262000_1 a0_1 a0_2 a0_3 = some (r1, r2, r3, r4, r5)) ∧ Aside0 (kq ≤ k) ∧ Aside0 (Kd.R (Kd.int .i64) 3 w' w.heap.size (fun _ => True) v9 x9_1) ∧ Aside0 (Kd.R k70 70 w' w.heap.size (fun _ => True) u262000 x262000_1) ∧ Aside0 (w'.heap[gb261]? = some (.cells #[u262000, .int .i64 a0_1, .int .i64 a0_2, .int .i64 a0_3] 41 (0, 0))) ∧ Aside0 (w'.heap[gb262]? = some (.cells #[(.slice none 0 0), .int .i64 0, .int .i64 0, .int .i64 0] 41 (0, 0))) ∧ Aside0 (Below w.heap.size w w'))
    case atStart => exact ⟨(([] : List Int)), (0), (y263), (.slice Ao10 y263.length co10), (by first | rfl | (simp; done) | (simp [*]; done)), H', ⟨Nat.le_refl _⟩, ⟨by first | exact Kd.R_nil _ _ _ _ _ | exact Kd.N_nil _ _ _ _ _ | exact Kd.V_nil _ _ _ _ _ | exact Kd.Q_nil _ _ _ _ _ | exact Kd.S_nil _ _ _ _ _⟩, ⟨by (with_reducible repeat (first | apply Kd.R_alloc | apply Kd.R_drewN | apply Kd.R_drew)); exact Kd.R_mono (Kd.R_far (p := ⟨gb261, 0, none⟩) (Kd.R_types HO265.out BK261.out (by decide)) (fun _ hk => hk.2) (.slice Ao10 y263.length co10)) (fun _ hk => trivial)⟩, ⟨by (with_reducible repeat (first | refine blk_drewN ?_ _ | refine blk_drew ?_ | refine blk_alloc ?_ _)); refine blk_put (cs := #[.slice A0_0 l0_0.length c0_0, .int .i64 a0_1, .int .i64 a0_2, .int .i64 a0_3]) ?_ 0 _ rfl; (with_reducible repeat (first | refine blk_drewN ?_ _ | refine blk_drew ?_ | refine blk_alloc ?_ _)); exact BK261.out⟩, ⟨by (with_reducible repeat (first | refine blk_drewN ?_ _ | refine blk_drew ?_ | refine blk_alloc ?_ _)); refine blk_far ?_ NB262_261.out _; (with_reducible repeat (first | refine blk_drewN ?_ _ | refine blk_drew ?_ | refine blk_alloc ?_ _)); exact BK262.out⟩, ⟨by repeat (first | (with_reducible first | exact HB.out | apply below_alloc | apply pw_below_drewN | apply below_drew1 | refine below_set ?_ GE261.out | refine below_set ?_ GE262.out) | exact HB.out)⟩⟩
    case round =>
      clear H'
      try clear c2
      try clear p2
      try clear c4
      try clear c7
      try clear hcz11_0
      try clear hcz11_1
      try clear hcz11_2
      try clear hcz11_3
      try clear hcz8_0
      try clear hcz8_1
      try clear hcz8_2
      try clear hcz8_3
      try clear hfz11_0
      try clear hfz11_1
      try clear hfz11_2
      try clear hfz11_3
      try clear hfz8_0
      try clear hfz8_1
      try clear hfz8_2
      try clear hfz8_3
      obtain ⟨x9_1, x10_1, x262000_1, u262000, rfl, HA, HK1, HO_9, HO_262000, BK261, BK262, HB⟩ := hrel
      cases gk with
      | zero => exact absurd HA.out (by simp [telemeterref17_Due.l0])
      | succ k1 =>
        have H := HA.out
        clear HA
        simp only [telemeterref17_Due.l0] at H
        by_cases c12 : x10_1 < (x262000_1.length : Int)
        · rw [if_pos c12] at H
          have c12b0 : decide (x10_1 < (x262000_1.length : Int)) = true := decide_eq_true c12
          clear c12
          by_cases c13 : 0 ≤ x10_1
          · rw [if_pos c13] at H
            have c13b0 : decide (0 ≤ x10_1) = true := decide_eq_true c13
            clear c13
            have HC14 := Aside0.mk H
            clear H
            have hnb15 := NB261_262.out
            have hnc15 := NB262_261.out
            have hcz16_0 : wr.cell? ⟨gb261, 0, none⟩ = some (u262000) := (blk_cell BK261.out 0).trans rfl
            have hcz16_1 : wr.cell? ⟨gb261, 1, none⟩ = some (.int .i64 a0_1) := (blk_cell BK261.out 1).trans rfl
            have hcz16_2 : wr.cell? ⟨gb261, 2, none⟩ = some (.int .i64 a0_2) := (blk_cell BK261.out 2).trans rfl
            have hcz16_3 : wr.cell? ⟨gb261, 3, none⟩ = some (.int .i64 a0_3) := (blk_cell BK261.out 3).trans rfl
            have hfz16_0 := blk_frozen BK261.out 0
            have hfz16_1 := blk_frozen BK261.out 1
            have hfz16_2 := blk_frozen BK261.out 2
            have hfz16_3 := blk_frozen BK261.out 3
            obtain ⟨Ao17, co17, eo17⟩ := Kd.R_slice HO_262000.out
            subst eo17
            have p266 : 0 ≤ (x10_1 : Int) := of_decide_eq_true (by first | (with_reducible assumption) | assumption)
            have q266 : x10_1 < (x262000_1.length : Int) := of_decide_eq_true (by first | (with_reducible assumption) | assumption)
            obtain ⟨ad266, e266, hx266_0, hx266_1, hx266_2, hx266_3⟩ := at_T70 (Kd.R_reads' HO_262000.out).2.2 x10_1 p266 q266
            cases e266
            replace p266 := eq_true p266
            replace q266 := eq_true q266
            go_upto_region 9 with (first | ((with_reducible refine gate_dst (N := 11) rfl ?_); refine box_event ?hg (N := 11) ?hd (cs := #[.int .i64 0, .int .i64 0, .int .i64 0, .int .i64 0]) (t := 70) ?hr ?_; (case hd => rfl); (case hg => rfl); (case hr => first | (go_simp; done) | (go_simp; rfl)); intro gb267 hg w18 hbox hb; have n0_ := Aside0.mk (Kd.R_below (by (with_reducible repeat (first | apply Kd.R_alloc | apply Kd.R_drewN | apply Kd.R_drew)); exact HO_9.out) hb); have n1_ := Aside0.mk (Kd.R_below (Kd.R_elderB (by (with_reducible repeat (first | apply Kd.R_alloc | apply Kd.R_drewN | apply Kd.R_drew)); exact HO_262000.out) gb267 (Nat.le_of_eq hg.symm)) hb); have n2_ := Aside0.mk (blk_below (g := gb261) (o := .cells #[.slice (some ad266) x262000_1.length co17, .int .i64 a0_1, .int .i64 a0_2, .int .i64 a0_3] 41 (0, 0)) (by (with_reducible repeat (first | refine blk_drewN ?_ _ | refine blk_drew ?_ | refine blk_alloc ?_ _)); exact BK261.out) hb); have n3_ := Aside0.mk (blk_below (g := gb262) (o := .cells #[.slice none 0 0, .int .i64 0, .int .i64 0, .int .i64 0] 41 (0, 0)) (by (with_reducible repeat (first | refine blk_drewN ?_ _ | refine blk_drew ?_ | refine blk_alloc ?_ _)); exact BK262.out) hb); have n4_ := Aside0.mk (below_step (by repeat (first | (with_reducible first | exact HB.out | apply below_alloc | apply pw_below_drewN | apply below_drew1 | refine below_set ?_ GE261.out | refine below_set ?_ GE262.out) | exact HB.out)) hb); have n5_ := Aside0.mk (hbox); have n6_ := Aside0.mk ((by rw [hg]; exact (below_size (by repeat (first | (with_reducible first | exact HB.out | apply below_alloc | apply pw_below_drewN | apply below_drew1 | refine below_set ?_ GE261.out | refine below_set ?_ GE262.out) | exact HB.out))) : w.heap.size ≤ gb267)); have n7_ := Aside0.mk ((by rw [hg]; exact (below_size (by repeat (first | (with_reducible first | exact HB.out | apply below_alloc | apply pw_below_drewN | apply below_drew1 | refine below_set ?_ GE261.out | refine below_set ?_ GE262.out) | exact HB.out))) : w.heap.size ≤ gb267)); have n8_ := Aside0.mk ((by rw [hg]; exact Nat.ne_of_lt (blk_lt (g := gb261) (o := .cells #[.slice (some ad266) x262000_1.length co17, .int .i64 a0_1, .int .i64 a0_2, .int .i64 a0_3] 41 (0, 0)) (by (with_reducible repeat (first | refine blk_drewN ?_ _ | refine blk_drew ?_ | refine blk_alloc ?_ _)); exact BK261.out)) : gb261 ≠ gb267)); have n9_ := Aside0.mk ((by rw [hg]; exact Nat.ne_of_gt (blk_lt (g := gb261) (o := .cells #[.slice (some ad266) x262000_1.length co17, .int .i64 a0_1, .int .i64 a0_2, .int .i64 a0_3] 41 (0, 0)) (by (with_reducible repeat (first | refine blk_drewN ?_ _ | refine blk_drew ?_ | refine blk_alloc ?_ _)); exact BK261.out)) : gb267 ≠ gb261)); have n10_ := Aside0.mk ((by rw [hg]; exact Nat.ne_of_lt (blk_lt (g := gb262) (o := .cells #[.slice none 0 0, .int .i64 0, .int .i64 0, .int .i64 0] 41 (0, 0)) (by (with_reducible repeat (first | refine blk_drewN ?_ _ | refine blk_drew ?_ | refine blk_alloc ?_ _)); exact BK262.out)) : gb262 ≠ gb267)); have n11_ := Aside0.mk ((by rw [hg]; exact Nat.ne_of_gt (blk_lt (g := gb262) (o := .cells #[.slice none 0 0, .int .i64 0, .int .i64 0, .int .i64 0] 41 (0, 0)) (by (with_reducible repeat (first | refine blk_drewN ?_ _ | refine blk_drew ?_ | refine blk_alloc ?_ _)); exact BK262.out)) : gb267 ≠ gb262)); clear HO_9; clear HO_262000; clear BK261; clear BK262; clear HB; have HO_9 := n0_; have HO_262000 := n1_; have BK261 := n2_; have BK262 := n3_; have HB := n4_; have BK267 := n5_; have GW267 := n6_; have GE267 := n7_; have NB261_267 := n8_; have NB267_261 := n9_; have NB262_267 := n10_; have NB267_262 := n11_; clear n0_ n1_ n2_ n3_ n4_ n5_ n6_ n7_ n8_ n9_ n10_ n11_; clear hb hbox hg; have hnb19 := NB267_261.out; have hnc19 := NB261_267.out; have hnb20 := NB267_262.out; have hnc20 := NB262_267.out; have hcz21_0 : w18.cell? ⟨gb267, 0, none⟩ = some (.int .i64 0) := (blk_cell BK267.out 0).trans rfl; have hcz21_1 : w18.cell? ⟨gb267, 1, none⟩ = some (.int .i64 0) := (blk_cell BK267.out 1).trans rfl; have hcz21_2 : w18.cell? ⟨gb267, 2, none⟩ = some (.int .i64 0) := (blk_cell BK267.out 2).trans rfl; have hcz21_3 : w18.cell? ⟨gb267, 3, none⟩ = some (.int .i64 0) := (blk_cell BK267.out 3).trans rfl; have hfz21_0 := blk_frozen BK267.out 0; have hfz21_1 := blk_frozen BK267.out 1; have hfz21_2 := blk_frozen BK267.out 2; have hfz21_3 := blk_frozen BK267.out 3))
            (try simp only [Act.put, List.setIfInBounds_toArray, List.set_cons_zero, List.set_cons_succ])
            go_cut [50] (fun v50 wc => ∃ (kq : Nat) (x50_13 : Bool), v50 = .bool x50_13 ∧ Aside0 (telemeterref17_Due.j1 kq a1 a2 x9_1 x10_1 x50_13 x262000_1 a0_1 a0_2 a0_3 ((rd_T70 x262000_1 x10_1).f0) ((rd_T70 x262000_1 x10_1).f1) ((rd_T70 x262000_1 x10_1).f2) ((rd_T70 x262000_1 x10_1).f3) = some (r1, r2, r3, r4, r5)) ∧ Aside0 (kq ≤ k1) ∧ Aside0 (Kd.R (Kd.int .i64) 3 wc w.heap.size (fun _ => True) u9 x9_1) ∧ Aside0 (Kd.R k70 70 wc w.heap.size (fun k_ => k_ ≠ gb267) (.slice (some ad266) x262000_1.length co17) x262000_1) ∧ Aside0 (wc.heap[gb261]? = some (.cells #[(.slice (some ad266) x262000_1.length co17), .int .i64 a0_1, .int .i64 a0_2, .int .i64 a0_3] 41 (0, 0))) ∧ Aside0 (wc.heap[gb262]? = some (.cells #[(.slice none 0 0), .int .i64 0, .int .i64 0, .int .i64 0] 41 (0, 0))) ∧ Aside0 (wc.heap[gb267]? = some (.cells #[.int .i64 ((rd_T70 x262000_1 x10_1).f0), .int .i64 ((rd_T70 x262000_1 x10_1).f1), .int .i64 ((rd_T70 x262000_1 x10_1).f2), .int .i64 ((rd_T70 x262000_1 x10_1).f3)] 70 (0, 0))) ∧ Aside0 (Below w.heap.size w wc))
            case first =>
              have H := HC14.out
              clear HC14
              by_cases c22 : ((rd_T70 x262000_1 x10_1).f1) = 1
              · rw [if_pos c22] at H
                have c22b0 : (((rd_T70 x262000_1 x10_1).f1) == 1) = true := beq_iff_eq.mpr c22
                have c22b1 : (((rd_T70 x262000_1 x10_1).f1) != 1) = false := bne_eq_false_iff_eq.mpr c22
                clear c22
                (first | rw [c22b0] | (simp only [i64_w, i32_w]; rw [c22b0]) | skip)
                by_cases c23 : ((rd_T70 x262000_1 x10_1).f3) > a1
                · rw [if_pos c23] at H
                  have c23b0 : decide (a1 < ((rd_T70 x262000_1 x10_1).f3)) = true := decide_eq_true c23
                  clear c23
                  have H' := Aside0.mk H
                  clear H
                  try go_wp2
                  have n0_ : Aside0 (Kd.R (Kd.int .i64) 3 ((((w18.setCell ⟨gb267, 0, none⟩ (.int .i64 ((rd_T70 x262000_1 x10_1).f0))).setCell ⟨gb267, 1, none⟩ (.int .i64 ((rd_T70 x262000_1 x10_1).f1))).setCell ⟨gb267, 2, none⟩ (.int .i64 ((rd_T70 x262000_1 x10_1).f2))).setCell ⟨gb267, 3, none⟩ (.int .i64 ((rd_T70 x262000_1 x10_1).f3))) w.heap.size (fun _ => True) u9 x9_1) := ⟨by (with_reducible repeat (first | apply Kd.R_alloc | apply Kd.R_drewN | apply Kd.R_drew)); exact Kd.R_mono (Kd.R_far (p := ⟨gb267, 3, none⟩) (Kd.R_far (p := ⟨gb267, 2, none⟩) (Kd.R_far (p := ⟨gb267, 1, none⟩) (Kd.R_far (p := ⟨gb267, 0, none⟩) (Kd.R_types HO_9.out BK267.out (by decide)) (fun _ hk => hk.2) (.int .i64 ((rd_T70 x262000_1 x10_1).f0))) (fun _ hk => hk.2) (.int .i64 ((rd_T70 x262000_1 x10_1).f1))) (fun _ hk => hk.2) (.int .i64 ((rd_T70 x262000_1 x10_1).f2))) (fun _ hk => hk.2) (.int .i64 ((rd_T70 x262000_1 x10_1).f3))) (fun _ hk => trivial)⟩
                  have n1_ : Aside0 (Kd.R k70 70 ((((w18.setCell ⟨gb267, 0, none⟩ (.int .i64 ((rd_T70 x262000_1 x10_1).f0))).setCell ⟨gb267, 1, none⟩ (.int .i64 ((rd_T70 x262000_1 x10_1).f1))).setCell ⟨gb267, 2, none⟩ (.int .i64 ((rd_T70 x262000_1 x10_1).f2))).setCell ⟨gb267, 3, none⟩ (.int .i64 ((rd_T70 x262000_1 x10_1).f3))) w.heap.size (fun k_ => k_ ≠ gb267) (.slice (some ad266) x262000_1.length co17) x262000_1) := ⟨by (with_reducible repeat (first | apply Kd.R_alloc | apply Kd.R_drewN | apply Kd.R_drew)); exact Kd.R_mono (Kd.R_far (p := ⟨gb267, 3, none⟩) (Kd.R_far (p := ⟨gb267, 2, none⟩) (Kd.R_far (p := ⟨gb267, 1, none⟩) (Kd.R_far (p := ⟨gb267, 0, none⟩) (Kd.R_mono HO_262000.out (fun k_ hk => (⟨hk, hk.2⟩ : _ ∧ k_ ≠ gb267))) (fun _ hk => hk.2) (.int .i64 ((rd_T70 x262000_1 x10_1).f0))) (fun _ hk => hk.2) (.int .i64 ((rd_T70 x262000_1 x10_1).f1))) (fun _ hk => hk.2) (.int .i64 ((rd_T70 x262000_1 x10_1).f2))) (fun _ hk => hk.2) (.int .i64 ((rd_T70 x262000_1 x10_1).f3))) (fun _ hk => hk.1.2)⟩
                  have n2_ : Aside0 (((((w18.setCell ⟨gb267, 0, none⟩ (.int .i64 ((rd_T70 x262000_1 x10_1).f0))).setCell ⟨gb267, 1, none⟩ (.int .i64 ((rd_T70 x262000_1 x10_1).f1))).setCell ⟨gb267, 2, none⟩ (.int .i64 ((rd_T70 x262000_1 x10_1).f2))).setCell ⟨gb267, 3, none⟩ (.int .i64 ((rd_T70 x262000_1 x10_1).f3))).heap[gb261]? = some (.cells #[.slice (some ad266) x262000_1.length co17, .int .i64 a0_1, .int .i64 a0_2, .int .i64 a0_3] 41 (0, 0))) := ⟨by (with_reducible repeat (first | refine blk_drewN ?_ _ | refine blk_drew ?_ | refine blk_alloc ?_ _)); refine blk_far ?_ NB261_267.out _; (with_reducible repeat (first | refine blk_drewN ?_ _ | refine blk_drew ?_ | refine blk_alloc ?_ _)); refine blk_far ?_ NB261_267.out _; (with_reducible repeat (first | refine blk_drewN ?_ _ | refine blk_drew ?_ | refine blk_alloc ?_ _)); refine blk_far ?_ NB261_267.out _; (with_reducible repeat (first | refine blk_drewN ?_ _ | refine blk_drew ?_ | refine blk_alloc ?_ _)); refine blk_far ?_ NB261_267.out _; (with_reducible repeat (first | refine blk_drewN ?_ _ | refine blk_drew ?_ | refine blk_alloc ?_ _)); exact BK261.out⟩
                  have n3_ : Aside0 (((((w18.setCell ⟨gb267, 0, none⟩ (.int .i64 ((rd_T70 x262000_1 x10_1).f0))).setCell ⟨gb267, 1, none⟩ (.int .i64 ((rd_T70 x262000_1 x10_1).f1))).setCell ⟨gb267, 2, none⟩ (.int .i64 ((rd_T70 x262000_1 x10_1).f2))).setCell ⟨gb267, 3, none⟩ (.int .i64 ((rd_T70 x262000_1 x10_1).f3))).heap[gb262]? = some (.cells #[.slice none 0 0, .int .i64 0, .int .i64 0, .int .i64 0] 41 (0, 0))) := ⟨by (with_reducible repeat (first | refine blk_drewN ?_ _ | refine blk_drew ?_ | refine blk_alloc ?_ _)); refine blk_far ?_ NB262_267.out _; (with_reducible repeat (first | refine blk_drewN ?_ _ | refine blk_drew ?_ | refine blk_alloc ?_ _)); refine blk_far ?_ NB262_267.out _; (with_reducible repeat (first | refine blk_drewN ?_ _ | refine blk_drew ?_ | refine blk_alloc ?_ _)); refine blk_far ?_ NB262_267.out _; (with_reducible repeat (first | refine blk_drewN ?_ _ | refine blk_drew ?_ | refine blk_alloc ?_ _)); refine blk_far ?_ NB262_267.out _; (with_reducible repeat (first | refine blk_drewN ?_ _ | refine blk_drew ?_ | refine blk_alloc ?_ _)); exact BK262.out⟩
                  have n4_ : Aside0 (((((w18.setCell ⟨gb267, 0, none⟩ (.int .i64 ((rd_T70 x262000_1 x10_1).f0))).setCell ⟨gb267, 1, none⟩ (.int .i64 ((rd_T70 x262000_1 x10_1).f1))).setCell ⟨gb267, 2, none⟩ (.int .i64 ((rd_T70 x262000_1 x10_1).f2))).setCell ⟨gb267, 3, none⟩ (.int .i64 ((rd_T70 x262000_1 x10_1).f3))).heap[gb267]? = some (.cells #[.int .i64 ((rd_T70 x262000_1 x10_1).f0), .int .i64 ((rd_T70 x262000_1 x10_1).f1), .int .i64 ((rd_T70 x262000_1 x10_1).f2), .int .i64 ((rd_T70 x262000_1 x10_1).f3)] 70 (0, 0))) := ⟨by (with_reducible repeat (first | refine blk_drewN ?_ _ | refine blk_drew ?_ | refine blk_alloc ?_ _)); refine blk_put (cs := #[.int .i64 ((rd_T70 x262000_1 x10_1).f0), .int .i64 ((rd_T70 x262000_1 x10_1).f1), .int .i64 ((rd_T70 x262000_1 x10_1).f2), .int .i64 0]) ?_ 3 _ rfl; (with_reducible repeat (first | refine blk_drewN ?_ _ | refine blk_drew ?_ | refine blk_alloc ?_ _)); refine blk_put (cs := #[.int .i64 ((rd_T70 x262000_1 x10_1).f0), .int .i64 ((rd_T70 x262000_1 x10_1).f1), .int .i64 0, .int .i64 0]) ?_ 2 _ rfl; (with_reducible repeat (first | refine blk_drewN ?_ _ | refine blk_drew ?_ | refine blk_alloc ?_ _)); refine blk_put (cs := #[.int .i64 ((rd_T70 x262000_1 x10_1).f0), .int .i64 0, .int .i64 0, .int .i64 0]) ?_ 1 _ rfl; (with_reducible repeat (first | refine blk_drewN ?_ _ | refine blk_drew ?_ | refine blk_alloc ?_ _)); refine blk_put (cs := #[.int .i64 0, .int .i64 0, .int .i64 0, .int .i64 0]) ?_ 0 _ rfl; (with_reducible repeat (first | refine blk_drewN ?_ _ | refine blk_drew ?_ | refine blk_alloc ?_ _)); exact BK267.out⟩
                  have n5_ : Aside0 (Below w.heap.size w ((((w18.setCell ⟨gb267, 0, none⟩ (.int .i64 ((rd_T70 x262000_1 x10_1).f0))).setCell ⟨gb267, 1, none⟩ (.int .i64 ((rd_T70 x262000_1 x10_1).f1))).setCell ⟨gb267, 2, none⟩ (.int .i64 ((rd_T70 x262000_1 x10_1).f2))).setCell ⟨gb267, 3, none⟩ (.int .i64 ((rd_T70 x262000_1 x10_1).f3)))) := ⟨by repeat (first | (with_reducible first | exact HB.out | apply below_alloc | apply pw_below_drewN | apply below_drew1 | refine below_set ?_ GE261.out | refine below_set ?_ GE262.out | refine below_set ?_ GE267.out) | exact HB.out)⟩
                  (try clear HO_9)
                  (try clear HO_262000)
                  (try clear BK261)
                  (try clear BK262)
                  (try clear BK267)
                  (try clear HB)
                  generalize ((((w18.setCell ⟨gb267, 0, none⟩ (.int .i64 ((rd_T70 x262000_1 x10_1).f0))).setCell ⟨gb267, 1, none⟩ (.int .i64 ((rd_T70 x262000_1 x10_1).f1))).setCell ⟨gb267, 2, none⟩ (.int .i64 ((rd_T70 x262000_1 x10_1).f2))).setCell ⟨gb267, 3, none⟩ (.int .i64 ((rd_T70 x262000_1 x10_1).f3))) = w24 at n0_ n1_ n2_ n3_ n4_ n5_ ⊢
                  have HO_9 := n0_
                  have HO_262000 := n1_
                  have BK261 := n2_
                  have BK262 := n3_
                  have BK267 := n4_
                  have HB := n5_
                  clear n0_ n1_ n2_ n3_ n4_ n5_
                  have n0_ := Aside0.mk (Kd.R_drew HO_9.out)
                  have n1_ := Aside0.mk (Kd.R_drew HO_262000.out)
                  have n2_ := Aside0.mk (blk_drew BK261.out)
                  have n3_ := Aside0.mk (blk_drew BK262.out)
                  have n4_ := Aside0.mk (blk_drew BK267.out)
                  have n5_ := Aside0.mk (below_drew1 HB.out)
                  clear HO_9
                  clear HO_262000
                  clear BK261
                  clear BK262
                  clear BK267
                  clear HB
                  have HO_9 := n0_
                  have HO_262000 := n1_
                  have BK261 := n2_
                  have BK262 := n3_
                  have BK267 := n4_
                  have HB := n5_
                  clear n0_ n1_ n2_ n3_ n4_ n5_
                  refine start_ (n := 21) (S := fun w' => w'.cell? ⟨gb267, 0, none⟩ = some (.int .i64 ((rd_T70 x262000_1 x10_1).f0)) ∧ w'.cell? ⟨gb267, 1, none⟩ = some (.int .i64 ((rd_T70 x262000_1 x10_1).f1)) ∧ w'.cell? ⟨gb267, 2, none⟩ = some (.int .i64 ((rd_T70 x262000_1 x10_1).f2)) ∧ w'.cell? ⟨gb267, 3, none⟩ = some (.int .i64 ((rd_T70 x262000_1 x10_1).f3))) (ds := []) #[false, false, false, false, false, false, false, false, false, false, false, false, false, false, false, false, false, false, false, false, false] (by kernel_rfl) rfl rfl ⟨(blk_cell BK267.out 0).trans rfl, (blk_cell BK267.out 1).trans rfl, (blk_cell BK267.out 2).trans rfl, (blk_cell BK267.out 3).trans rfl⟩ (fun hHeld => ?_); refine with_tabW telemeterref17_Due.tab9 telemeterref17_Due.bits9 (fun HT_ HW_ => ?_)
                  generalize w24.drew = w25 at HO_9 HO_262000 BK261 BK262 BK267 HB hHeld ⊢
                  refine pure_ (i := 0) (N := some 30) (v := ?_) (a' := ?_) #[true, false, false, false, false, false, false, false, false, false, false, false, false, false, false, false, false, false, false, false, false] rfl rfl (any_of HT_.out (by kernel_rfl)) (fun _ _ _ h => h) (Or.inl ⟨by rfl, ?_⟩) ?_ ?_
                  rotate_left
                  · intro w'
                    go_simp
                    with_reducible rfl
                  rotate_left
                  · simp only [Act.put, List.setIfInBounds_toArray, List.set_cons_zero, List.set_cons_succ, i64_w, i32_w]
                    rfl
                  refine take_ (i := 1) (N := some 31) (v := ?_) (a' := ?_) #[true, true, false, false, false, false, false, false, false, false, false, false, false, false, false, false, false, false, false, false, false] rfl rfl (take_ofW HT_.out HW_.out (by kernel_rfl)) (fun _ _ _ h => h) (Or.inl ⟨by rfl, ?_⟩) hHeld ?_ ?_
                  rotate_left
                  · rintro w' ⟨s0, s1, s2, s3⟩
                    go_simp
                    with_reducible rfl
                  rotate_left
                  · simp only [Act.put, List.setIfInBounds_toArray, List.set_cons_zero, List.set_cons_succ, i64_w, i32_w]
                    rfl
                  refine pure_ (i := 2) (N := some 32) (v := ?_) (a' := ?_) #[true, true, true, false, false, false, false, false, false, false, false, false, false, false, false, false, false, false, false, false, false] rfl rfl (any_of HT_.out (by kernel_rfl)) (fun _ _ _ h => h) (Or.inl ⟨by rfl, ?_⟩) ?_ ?_
                  rotate_left
                  · intro w'
                    go_simp
                    with_reducible rfl
                  rotate_left
                  · simp only [Act.put, List.setIfInBounds_toArray, List.set_cons_zero, List.set_cons_succ, i64_w, i32_w]
                    rfl
                  refine pure_ (i := 3) (N := some 33) (v := ?_) (a' := ?_) #[true, true, true, true, false, false, false, false, false, false, false, false, false, false, false, false, false, false, false, false, false] rfl rfl (any_of HT_.out (by kernel_rfl)) (fun _ _ _ h => h) (Or.inl ⟨by rfl, ?_⟩) ?_ ?_
                  rotate_left
                  · intro w'
                    go_simp
                    with_reducible rfl
                  rotate_left
                  · simp only [Act.put, List.setIfInBounds_toArray, List.set_cons_zero, List.set_cons_succ, i64_w, i32_w]
                    rfl
                  refine pure_ (i := 4) (N := some 34) (v := ?_) (a' := ?_) #[true, true, true, true, true, false, false, false, false, false, false, false, false, false, false, false, false, false, false, false, false] rfl rfl (any_of HT_.out (by kernel_rfl)) (fun _ _ _ h => h) (Or.inl ⟨by rfl, ?_⟩) ?_ ?_
                  rotate_left
                  · intro w'
                    go_simp
                    with_reducible rfl
                  rotate_left
                  · simp only [Act.put, List.setIfInBounds_toArray, List.set_cons_zero, List.set_cons_succ, i64_w, i32_w]
                    rfl
                  refine pure_ (i := 6) (N := some 36) (v := ?_) (a' := ?_) #[true, true, true, true, true, false, true, false, false, false, false, false, false, false, false, false, false, false, false, false, false] rfl rfl (any_of HT_.out (by kernel_rfl)) (fun _ _ _ h => h) (Or.inl ⟨by rfl, ?_⟩) ?_ ?_
                  rotate_left
                  · intro w'
                    go_simp
                    with_reducible rfl
                  rotate_left
                  · simp only [Act.put, List.setIfInBounds_toArray, List.set_cons_zero, List.set_cons_succ, i64_w, i32_w]
                    rfl
                  refine take_ (i := 5) (N := some 35) (v := ?_) (a' := ?_) #[true, true, true, true, true, true, true, false, false, false, false, false, false, false, false, false, false, false, false, false, false] rfl rfl (take_ofW HT_.out HW_.out (by kernel_rfl)) (fun _ _ _ h => h) (Or.inl ⟨by rfl, ?_⟩) hHeld ?_ ?_
                  rotate_left
                  · rintro w' ⟨s0, s1, s2, s3⟩
                    go_simp
                    with_reducible rfl
                  rotate_left
                  · simp only [Act.put, List.setIfInBounds_toArray, List.set_cons_zero, List.set_cons_succ, i64_w, i32_w]
                    rfl
                  refine pure_ (i := 7) (N := some 37) (v := ?_) (a' := ?_) #[true, true, true, true, true, true, true, true, false, false, false, false, false, false, false, false, false, false, false, false, false] rfl rfl (any_of HT_.out (by kernel_rfl)) (fun _ _ _ h => h) (Or.inl ⟨by rfl, ?_⟩) ?_ ?_
                  rotate_left
                  · intro w'
                    go_simp
                    with_reducible rfl
                  rotate_left
                  · simp only [Act.put, List.setIfInBounds_toArray, List.set_cons_zero, List.set_cons_succ, i64_w, i32_w]
                    rfl
                  refine pure_ (i := 8) (N := some 38) (v := ?_) (a' := ?_) #[true, true, true, true, true, true, true, true, true, false, false, false, false, false, false, false, false, false, false, false, false] rfl rfl (any_of HT_.out (by kernel_rfl)) (fun _ _ _ h => h) (Or.inl ⟨by rfl, ?_⟩) ?_ ?_
                  rotate_left
                  · intro w'
                    go_simp
                    with_reducible rfl
                  rotate_left
                  · simp only [Act.put, List.setIfInBounds_toArray, List.set_cons_zero, List.set_cons_succ, i64_w, i32_w]
                    rfl
                  refine pure_ (i := 9) (N := some 39) (v := ?_) (a' := ?_) #[true, true, true, true, true, true, true, true, true, true, false, false, false, false, false, false, false, false, false, false, false] rfl rfl (any_of HT_.out (by kernel_rfl)) (fun _ _ _ h => h) (Or.inl ⟨by rfl, ?_⟩) ?_ ?_
                  rotate_left
                  · intro w'
                    go_simp
                    with_reducible rfl
                  rotate_left
                  · simp only [Act.put, List.setIfInBounds_toArray, List.set_cons_zero, List.set_cons_succ, i64_w, i32_w]
                    rfl
                  refine pure_ (i := 10) (N := some 40) (v := undef) (a' := ?_) #[true, true, true, true, true, true, true, true, true, true, true, false, false, false, false, false, false, false, false, false, false] rfl rfl (any_of HT_.out (by kernel_rfl)) (fun _ _ _ h => h) (Or.inr ⟨by rfl, rfl⟩) ?_ ?_
                  rotate_left
                  · simp only [Act.put, List.setIfInBounds_toArray, List.set_cons_zero, List.set_cons_succ, i64_w, i32_w]
                    rfl
                  refine pure_ (i := 11) (N := some 41) (v := undef) (a' := ?_) #[true, true, true, true, true, true, true, true, true, true, true, true, false, false, false, false, false, false, false, false, false] rfl rfl (any_of HT_.out (by kernel_rfl)) (fun _ _ _ h => h) (Or.inr ⟨by rfl, rfl⟩) ?_ ?_
                  rotate_left
                  · simp only [Act.put, List.setIfInBounds_toArray, List.set_cons_zero, List.set_cons_succ, i64_w, i32_w]
                    rfl
                  refine pure_ (i := 12) (N := some 42) (v := undef) (a' := ?_) #[true, true, true, true, true, true, true, true, true, true, true, true, true, false, false, false, false, false, false, false, false] rfl rfl (any_of HT_.out (by kernel_rfl)) (fun _ _ _ h => h) (Or.inr ⟨by rfl, rfl⟩) ?_ ?_
                  rotate_left
                  · simp only [Act.put, List.setIfInBounds_toArray, List.set_cons_zero, List.set_cons_succ, i64_w, i32_w]
                    rfl
                  refine pure_ (i := 13) (N := some 43) (v := undef) (a' := ?_) #[true, true, true, true, true, true, true, true, true, true, true, true, true, true, false, false, false, false, false, false, false] rfl rfl (any_of HT_.out (by kernel_rfl)) (fun _ _ _ h => h) (Or.inr ⟨by rfl, rfl⟩) ?_ ?_
                  rotate_left
                  · simp only [Act.put, List.setIfInBounds_toArray, List.set_cons_zero, List.set_cons_succ, i64_w, i32_w]
                    rfl
                  refine pure_ (i := 14) (N := some 44) (v := undef) (a' := ?_) #[true, true, true, true, true, true, true, true, true, true, true, true, true, true, true, false, false, false, false, false, false] rfl rfl (any_of HT_.out (by kernel_rfl)) (fun _ _ _ h => h) (Or.inr ⟨by rfl, rfl⟩) ?_ ?_
                  rotate_left
                  · simp only [Act.put, List.setIfInBounds_toArray, List.set_cons_zero, List.set_cons_succ, i64_w, i32_w]
                    rfl
                  refine pure_ (i := 15) (N := some 45) (v := undef) (a' := ?_) #[true, true, true, true, true, true, true, true, true, true, true, true, true, true, true, true, false, false, false, false, false] rfl rfl (any_of HT_.out (by kernel_rfl)) (fun _ _ _ h => h) (Or.inr ⟨by rfl, rfl⟩) ?_ ?_
                  rotate_left
                  · simp only [Act.put, List.setIfInBounds_toArray, List.set_cons_zero, List.set_cons_succ, i64_w, i32_w]
                    rfl
                  refine pure_ (i := 16) (N := some 46) (v := undef) (a' := ?_) #[true, true, true, true, true, true, true, true, true, true, true, true, true, true, true, true, true, false, false, false, false] rfl rfl (any_of HT_.out (by kernel_rfl)) (fun _ _ _ h => h) (Or.inr ⟨by rfl, rfl⟩) ?_ ?_
                  rotate_left
                  · simp only [Act.put, List.setIfInBounds_toArray, List.set_cons_zero, List.set_cons_succ, i64_w, i32_w]
                    rfl
                  refine pure_ (i := 17) (N := some 47) (v := undef) (a' := ?_) #[true, true, true, true, true, true, true, true, true, true, true, true, true, true, true, true, true, true, false, false, false] rfl rfl (any_of HT_.out (by kernel_rfl)) (fun _ _ _ h => h) (Or.inr ⟨by rfl, rfl⟩) ?_ ?_
                  rotate_left
                  · simp only [Act.put, List.setIfInBounds_toArray, List.set_cons_zero, List.set_cons_succ, i64_w, i32_w]
                    rfl
                  refine pure_ (i := 18) (N := some 48) (v := undef) (a' := ?_) #[true, true, true, true, true, true, true, true, true, true, true, true, true, true, true, true, true, true, true, false, false] rfl rfl (any_of HT_.out (by kernel_rfl)) (fun _ _ _ h => h) (Or.inr ⟨by rfl, rfl⟩) ?_ ?_
                  rotate_left
                  · simp only [Act.put, List.setIfInBounds_toArray, List.set_cons_zero, List.set_cons_succ, i64_w, i32_w]
                    rfl
                  refine pure_ (i := 19) (N := some 49) (v := undef) (a' := ?_) #[true, true, true, true, true, true, true, true, true, true, true, true, true, true, true, true, true, true, true, true, false] rfl rfl (any_of HT_.out (by kernel_rfl)) (fun _ _ _ h => h) (Or.inr ⟨by rfl, rfl⟩) ?_ ?_
                  rotate_left
                  · simp only [Act.put, List.setIfInBounds_toArray, List.set_cons_zero, List.set_cons_succ, i64_w, i32_w]
                    rfl
                  refine pure_ (i := 20) (N := some 50) (v := ?_) (a' := ?_) #[true, true, true, true, true, true, true, true, true, true, true, true, true, true, true, true, true, true, true, true, true] rfl rfl (any_of HT_.out (by kernel_rfl)) (fun _ _ _ h => h) (Or.inl ⟨by rfl, ?_⟩) ?_ ?_
                  rotate_left
                  · intro w'
                    go_simp
                    with_reducible rfl
                  rotate_left
                  · simp only [Act.put, List.setIfInBounds_toArray, List.set_cons_zero, List.set_cons_succ, i64_w, i32_w]
                    rfl
                  refine done_ (done_of HT_.out (by kernel_rfl)) ?_
                  try go_wp2
                  go_meet
                  case rel => exact ⟨_, (true), (by first | rfl | (simp; done) | (simp [*]; done)), H', ⟨by have := HK1.out; first | omega | exact Nat.le_refl _⟩, ⟨by (with_reducible repeat (first | apply Kd.R_alloc | apply Kd.R_drewN | apply Kd.R_drew)); exact HO_9.out⟩, ⟨by (with_reducible repeat (first | apply Kd.R_alloc | apply Kd.R_drewN | apply Kd.R_drew)); exact HO_262000.out⟩, ⟨by (with_reducible repeat (first | refine blk_drewN ?_ _ | refine blk_drew ?_ | refine blk_alloc ?_ _)); exact BK261.out⟩, ⟨by (with_reducible repeat (first | refine blk_drewN ?_ _ | refine blk_drew ?_ | refine blk_alloc ?_ _)); exact BK262.out⟩, ⟨by (with_reducible repeat (first | refine blk_drewN ?_ _ | refine blk_drew ?_ | refine blk_alloc ?_ _)); exact BK267.out⟩, ⟨by repeat (first | (with_reducible first | exact HB.out | apply below_alloc | apply pw_below_drewN | apply below_drew1 | refine below_set ?_ GE261.out | refine below_set ?_ GE262.out | refine below_set ?_ GE267.out) | exact HB.out)⟩⟩
                · rw [if_neg c23] at H
                  have c23b0 : decide (a1 < ((rd_T70 x262000_1 x10_1).f3)) = false := decide_eq_false c23
                  clear c23
                  by_cases c26 : ((rd_T70 x262000_1 x10_1).f1) = 0
                  · rw [if_pos c26] at H
                    have c26b0 : (((rd_T70 x262000_1 x10_1).f1) == 0) = true := beq_iff_eq.mpr c26
                    have c26b1 : (((rd_T70 x262000_1 x10_1).f1) != 0) = false := bne_eq_false_iff_eq.mpr c26
                    clear c26
                    replace H := Option.bind_eq_some_iff.mp H
                    obtain ⟨t268, A270, H⟩ := H
                    replace H : (telemeterref17_Due.j1 k1 a1 a2 x9_1 x10_1 (decide (t268 ≥ a0_1)) x262000_1 a0_1 a0_2 a0_3 ((rd_T70 x262000_1 x10_1).f0) ((rd_T70 x262000_1 x10_1).f1) ((rd_T70 x262000_1 x10_1).f2) ((rd_T70 x262000_1 x10_1).f3)) = some (r1, r2, r3, r4, r5) := H
                    have A27 := Aside0.mk A270
                    clear A270
                    have H' := Aside0.mk H
                    clear H
                    try go_wp2
                    have n0_ : Aside0 (Kd.R (Kd.int .i64) 3 ((((w18.setCell ⟨gb267, 0, none⟩ (.int .i64 ((rd_T70 x262000_1 x10_1).f0))).setCell ⟨gb267, 1, none⟩ (.int .i64 ((rd_T70 x262000_1 x10_1).f1))).setCell ⟨gb267, 2, none⟩ (.int .i64 ((rd_T70 x262000_1 x10_1).f2))).setCell ⟨gb267, 3, none⟩ (.int .i64 ((rd_T70 x262000_1 x10_1).f3))) w.heap.size (fun _ => True) u9 x9_1) := ⟨by (with_reducible repeat (first | apply Kd.R_alloc | apply Kd.R_drewN | apply Kd.R_drew)); exact Kd.R_mono (Kd.R_far (p := ⟨gb267, 3, none⟩) (Kd.R_far (p := ⟨gb267, 2, none⟩) (Kd.R_far (p := ⟨gb267, 1, none⟩) (Kd.R_far (p := ⟨gb267, 0, none⟩) (Kd.R_types HO_9.out BK267.out (by decide)) (fun _ hk => hk.2) (.int .i64 ((rd_T70 x262000_1 x10_1).f0))) (fun _ hk => hk.2) (.int .i64 ((rd_T70 x262000_1 x10_1).f1))) (fun _ hk => hk.2) (.int .i64 ((rd_T70 x262000_1 x10_1).f2))) (fun _ hk => hk.2) (.int .i64 ((rd_T70 x262000_1 x10_1).f3))) (fun _ hk => trivial)⟩
                    have n1_ : Aside0 (Kd.R k70 70 ((((w18.setCell ⟨gb267, 0, none⟩ (.int .i64 ((rd_T70 x262000_1 x10_1).f0))).setCell ⟨gb267, 1, none⟩ (.int .i64 ((rd_T70 x262000_1 x10_1).f1))).setCell ⟨gb267, 2, none⟩ (.int .i64 ((rd_T70 x262000_1 x10_1).f2))).setCell ⟨gb267, 3, none⟩ (.int .i64 ((rd_T70 x262000_1 x10_1).f3))) w.heap.size (fun k_ => k_ ≠ gb267) (.slice (some ad266) x262000_1.length co17) x262000_1) := ⟨by (with_reducible repeat (first | apply Kd.R_alloc | apply Kd.R_drewN | apply Kd.R_drew)); exact Kd.R_mono (Kd.R_far (p := ⟨gb267, 3, none⟩) (Kd.R_far (p := ⟨gb267, 2, none⟩) (Kd.R_far (p := ⟨gb267, 1, none⟩) (Kd.R_far (p := ⟨gb267, 0, none⟩) (Kd.R_mono HO_262000.out (fun k_ hk => (⟨hk, hk.2⟩ : _ ∧ k_ ≠ gb267))) (fun _ hk => hk.2) (.int .i64 ((rd_T70 x262000_1 x10_1).f0))) (fun _ hk => hk.2) (.int .i64 ((rd_T70 x262000_1 x10_1).f1))) (fun _ hk => hk.2) (.int .i64 ((rd_T70 x262000_1 x10_1).f2))) (fun _ hk => hk.2) (.int .i64 ((rd_T70 x262000_1 x10_1).f3))) (fun _ hk => hk.1.2)⟩
                    have n2_ : Aside0 (((((w18.setCell ⟨gb267, 0, none⟩ (.int .i64 ((rd_T70 x262000_1 x10_1).f0))).setCell ⟨gb267, 1, none⟩ (.int .i64 ((rd_T70 x262000_1 x10_1).f1))).setCell ⟨gb267, 2, none⟩ (.int .i64 ((rd_T70 x262000_1 x10_1).f2))).setCell ⟨gb267, 3, none⟩ (.int .i64 ((rd_T70 x262000_1 x10_1).f3))).heap[gb261]? = some (.cells #[.slice (some ad266) x262000_1.length co17, .int .i64 a0_1, .int .i64 a0_2, .int .i64 a0_3] 41 (0, 0))) := ⟨by (with_reducible repeat (first | refine blk_drewN ?_ _ | refine blk_drew ?_ | refine blk_alloc ?_ _)); refine blk_far ?_ NB261_267.out _; (with_reducible repeat (first | refine blk_drewN ?_ _ | refine blk_drew ?_ | refine blk_alloc ?_ _)); refine blk_far ?_ NB261_267.out _; (with_reducible repeat (first | refine blk_drewN ?_ _ | refine blk_drew ?_ | refine blk_alloc ?_ _)); refine blk_far ?_ NB261_267.out _; (with_reducible repeat (first | refine blk_drewN ?_ _ | refine blk_drew ?_ | refine blk_alloc ?_ _)); refine blk_far ?_ NB261_267.out _; (with_reducible repeat (first | refine blk_drewN ?_ _ | refine blk_drew ?_ | refine blk_alloc ?_ _)); exact BK261.out⟩
                    have n3_ : Aside0 (((((w18.setCell ⟨gb267, 0, none⟩ (.int .i64 ((rd_T70 x262000_1 x10_1).f0))).setCell ⟨gb267, 1, none⟩ (.int .i64 ((rd_T70 x262000_1 x10_1).f1))).setCell ⟨gb267, 2, none⟩ (.int .i64 ((rd_T70 x262000_1 x10_1).f2))).setCell ⟨gb267, 3, none⟩ (.int .i64 ((rd_T70 x262000_1 x10_1).f3))).heap[gb262]? = some (.cells #[.slice none 0 0, .int .i64 0, .int .i64 0, .int .i64 0] 41 (0, 0))) := ⟨by (with_reducible repeat (first | refine blk_drewN ?_ _ | refine blk_drew ?_ | refine blk_alloc ?_ _)); refine blk_far ?_ NB262_267.out _; (with_reducible repeat (first | refine blk_drewN ?_ _ | refine blk_drew ?_ | refine blk_alloc ?_ _)); refine blk_far ?_ NB262_267.out _; (with_reducible repeat (first | refine blk_drewN ?_ _ | refine blk_drew ?_ | refine blk_alloc ?_ _)); refine blk_far ?_ NB262_267.out _; (with_reducible repeat (first | refine blk_drewN ?_ _ | refine blk_drew ?_ | refine blk_alloc ?_ _)); refine blk_far ?_ NB262_267.out _; (with_reducible repeat (first | refine blk_drewN ?_ _ | refine blk_drew ?_ | refine blk_alloc ?_ _)); exact BK262.out⟩
                    have n4_ : Aside0 (((((w18.setCell ⟨gb267, 0, none⟩ (.int .i64 ((rd_T70 x262000_1 x10_1).f0))).setCell ⟨gb267, 1, none⟩ (.int .i64 ((rd_T70 x262000_1 x10_1).f1))).setCell ⟨gb267, 2, none⟩ (.int .i64 ((rd_T70 x262000_1 x10_1).f2))).setCell ⟨gb267, 3, none⟩ (.int .i64 ((rd_T70 x262000_1 x10_1).f3))).heap[gb267]? = some (.cells #[.int .i64 ((rd_T70 x262000_1 x10_1).f0), .int .i64 ((rd_T70 x262000_1 x10_1).f1), .int .i64 ((rd_T70 x262000_1 x10_1).f2), .int .i64 ((rd_T70 x262000_1 x10_1).f3)] 70 (0, 0))) := ⟨by (with_reducible repeat (first | refine blk_drewN ?_ _ | refine blk_drew ?_ | refine blk_alloc ?_ _)); refine blk_put (cs := #[.int .i64 ((rd_T70 x262000_1 x10_1).f0), .int .i64 ((rd_T70 x262000_1 x10_1).f1), .int .i64 ((rd_T70 x262000_1 x10_1).f2), .int .i64 0]) ?_ 3 _ rfl; (with_reducible repeat (first | refine blk_drewN ?_ _ | refine blk_drew ?_ | refine blk_alloc ?_ _)); refine blk_put (cs := #[.int .i64 ((rd_T70 x262000_1 x10_1).f0), .int .i64 ((rd_T70 x262000_1 x10_1).f1), .int .i64 0, .int .i64 0]) ?_ 2 _ rfl; (with_reducible repeat (first | refine blk_drewN ?_ _ | refine blk_drew ?_ | refine blk_alloc ?_ _)); refine blk_put (cs := #[.int .i64 ((rd_T70 x262000_1 x10_1).f0), .int .i64 0, .int .i64 0, .int .i64 0]) ?_ 1 _ rfl; (with_reducible repeat (first | refine blk_drewN ?_ _ | refine blk_drew ?_ | refine blk_alloc ?_ _)); refine blk_put (cs := #[.int .i64 0, .int .i64 0, .int .i64 0, .int .i64 0]) ?_ 0 _ rfl; (with_reducible repeat (first | refine blk_drewN ?_ _ | refine blk_drew ?_ | refine blk_alloc ?_ _)); exact BK267.out⟩
                    have n5_ : Aside0 (Below w.heap.size w ((((w18.setCell ⟨gb267, 0, none⟩ (.int .i64 ((rd_T70 x262000_1 x10_1).f0))).setCell ⟨gb267, 1, none⟩ (.int .i64 ((rd_T70 x262000_1 x10_1).f1))).setCell ⟨gb267, 2, none⟩ (.int .i64 ((rd_T70 x262000_1 x10_1).f2))).setCell ⟨gb267, 3, none⟩ (.int .i64 ((rd_T70 x262000_1 x10_1).f3)))) := ⟨by repeat (first | (with_reducible first | exact HB.out | apply below_alloc | apply pw_below_drewN | apply below_drew1 | refine below_set ?_ GE261.out | refine below_set ?_ GE262.out | refine below_set ?_ GE267.out) | exact HB.out)⟩
                    (try clear HO_9)
                    (try clear HO_262000)
                    (try clear BK261)
                    (try clear BK262)
                    (try clear BK267)
                    (try clear HB)
                    generalize ((((w18.setCell ⟨gb267, 0, none⟩ (.int .i64 ((rd_T70 x262000_1 x10_1).f0))).setCell ⟨gb267, 1, none⟩ (.int .i64 ((rd_T70 x262000_1 x10_1).f1))).setCell ⟨gb267, 2, none⟩ (.int .i64 ((rd_T70 x262000_1 x10_1).f2))).setCell ⟨gb267, 3, none⟩ (.int .i64 ((rd_T70 x262000_1 x10_1).f3))) = w28 at n0_ n1_ n2_ n3_ n4_ n5_ ⊢
                    have HO_9 := n0_
                    have HO_262000 := n1_
                    have BK261 := n2_
                    have BK262 := n3_
                    have BK267 := n4_
                    have HB := n5_
                    clear n0_ n1_ n2_ n3_ n4_ n5_
                    have n0_ := Aside0.mk (Kd.R_drew HO_9.out)
                    have n1_ := Aside0.mk (Kd.R_drew HO_262000.out)
                    have n2_ := Aside0.mk (blk_drew BK261.out)
                    have n3_ := Aside0.mk (blk_drew BK262.out)
                    have n4_ := Aside0.mk (blk_drew BK267.out)
                    have n5_ := Aside0.mk (below_drew1 HB.out)
                    clear HO_9
                    clear HO_262000
                    clear BK261
                    clear BK262
                    clear BK267
                    clear HB
                    have HO_9 := n0_
                    have HO_262000 := n1_
                    have BK261 := n2_
                    have BK262 := n3_
                    have BK267 := n4_
                    have HB := n5_
                    clear n0_ n1_ n2_ n3_ n4_ n5_
                    refine start_ (n := 21) (S := fun w' => w'.cell? ⟨gb267, 0, none⟩ = some (.int .i64 ((rd_T70 x262000_1 x10_1).f0)) ∧ w'.cell? ⟨gb267, 1, none⟩ = some (.int .i64 ((rd_T70 x262000_1 x10_1).f1)) ∧ w'.cell? ⟨gb267, 2, none⟩ = some (.int .i64 ((rd_T70 x262000_1 x10_1).f2)) ∧ w'.cell? ⟨gb267, 3, none⟩ = some (.int .i64 ((rd_T70 x262000_1 x10_1).f3)) ∧ w'.cell? ⟨gb261, 0, none⟩ = some (.slice (some ad266) x262000_1.length co17) ∧ w'.cell? ⟨gb261, 1, none⟩ = some (.int .i64 a0_1) ∧ w'.cell? ⟨gb261, 2, none⟩ = some (.int .i64 a0_2) ∧ w'.cell? ⟨gb261, 3, none⟩ = some (.int .i64 a0_3)) (ds := []) #[false, false, false, false, false, false, false, false, false, false, false, false, false, false, false, false, false, false, false, false, false] (by kernel_rfl) rfl rfl ⟨(blk_cell BK267.out 0).trans rfl, (blk_cell BK267.out 1).trans rfl, (blk_cell BK267.out 2).trans rfl, (blk_cell BK267.out 3).trans rfl, (blk_cell BK261.out 0).trans rfl, (blk_cell BK261.out 1).trans rfl, (blk_cell BK261.out 2).trans rfl, (blk_cell BK261.out 3).trans rfl⟩ (fun hHeld => ?_); refine with_tabW telemeterref17_Due.tab9 telemeterref17_Due.bits9 (fun HT_ HW_ => ?_)
                    generalize w28.drew = w29 at HO_9 HO_262000 BK261 BK262 BK267 HB hHeld ⊢
                    refine pure_ (i := 0) (N := some 30) (v := ?_) (a' := ?_) #[true, false, false, false, false, false, false, false, false, false, false, false, false, false, false, false, false, false, false, false, false] rfl rfl (any_of HT_.out (by kernel_rfl)) (fun _ _ _ h => h) (Or.inl ⟨by rfl, ?_⟩) ?_ ?_
                    rotate_left
                    · intro w'
                      go_simp
                      with_reducible rfl
                    rotate_left
                    · simp only [Act.put, List.setIfInBounds_toArray, List.set_cons_zero, List.set_cons_succ, i64_w, i32_w]
                      rfl
                    refine take_ (i := 1) (N := some 31) (v := ?_) (a' := ?_) #[true, true, false, false, false, false, false, false, false, false, false, false, false, false, false, false, false, false, false, false, false] rfl rfl (take_ofW HT_.out HW_.out (by kernel_rfl)) (fun _ _ _ h => h) (Or.inl ⟨by rfl, ?_⟩) hHeld ?_ ?_
                    rotate_left
                    · rintro w' ⟨s0, s1, s2, s3, s4, s5, s6, s7⟩
                      go_simp
                      with_reducible rfl
                    rotate_left
                    · simp only [Act.put, List.setIfInBounds_toArray, List.set_cons_zero, List.set_cons_succ, i64_w, i32_w]
                      rfl
                    refine pure_ (i := 2) (N := some 32) (v := ?_) (a' := ?_) #[true, true, true, false, false, false, false, false, false, false, false, false, false, false, false, false, false, false, false, false, false] rfl rfl (any_of HT_.out (by kernel_rfl)) (fun _ _ _ h => h) (Or.inl ⟨by rfl, ?_⟩) ?_ ?_
                    rotate_left
                    · intro w'
                      go_simp
                      with_reducible rfl
                    rotate_left
                    · simp only [Act.put, List.setIfInBounds_toArray, List.set_cons_zero, List.set_cons_succ, i64_w, i32_w]
                      rfl
                    refine pure_ (i := 3) (N := some 33) (v := ?_) (a' := ?_) #[true, true, true, true, false, false, false, false, false, false, false, false, false, false, false, false, false, false, false, false, false] rfl rfl (any_of HT_.out (by kernel_rfl)) (fun _ _ _ h => h) (Or.inl ⟨by rfl, ?_⟩) ?_ ?_
                    rotate_left
                    · intro w'
                      go_simp
                      with_reducible rfl
                    rotate_left
                    · simp only [Act.put, List.setIfInBounds_toArray, List.set_cons_zero, List.set_cons_succ, i64_w, i32_w]
                      rfl
                    refine pure_ (i := 4) (N := some 34) (v := ?_) (a' := ?_) #[true, true, true, true, true, false, false, false, false, false, false, false, false, false, false, false, false, false, false, false, false] rfl rfl (any_of HT_.out (by kernel_rfl)) (fun _ _ _ h => h) (Or.inl ⟨by rfl, ?_⟩) ?_ ?_
                    rotate_left
                    · intro w'
                      go_simp
                      with_reducible rfl
                    rotate_left
                    · simp only [Act.put, List.setIfInBounds_toArray, List.set_cons_zero, List.set_cons_succ, i64_w, i32_w]
                      rfl
                    refine pure_ (i := 6) (N := some 36) (v := ?_) (a' := ?_) #[true, true, true, true, true, false, true, false, false, false, false, false, false, false, false, false, false, false, false, false, false] rfl rfl (any_of HT_.out (by kernel_rfl)) (fun _ _ _ h => h) (Or.inl ⟨by rfl, ?_⟩) ?_ ?_
                    rotate_left
                    · intro w'
                      go_simp
                      with_reducible rfl
                    rotate_left
                    · simp only [Act.put, List.setIfInBounds_toArray, List.set_cons_zero, List.set_cons_succ, i64_w, i32_w]
                      rfl
                    refine take_ (i := 5) (N := some 35) (v := ?_) (a' := ?_) #[true, true, true, true, true, true, true, false, false, false, false, false, false, false, false, false, false, false, false, false, false] rfl rfl (take_ofW HT_.out HW_.out (by kernel_rfl)) (fun _ _ _ h => h) (Or.inl ⟨by rfl, ?_⟩) hHeld ?_ ?_
                    rotate_left
                    · rintro w' ⟨s0, s1, s2, s3, s4, s5, s6, s7⟩
                      go_simp
                      with_reducible rfl
                    rotate_left
                    · simp only [Act.put, List.setIfInBounds_toArray, List.set_cons_zero, List.set_cons_succ, i64_w, i32_w]
                      rfl
                    refine pure_ (i := 7) (N := some 37) (v := ?_) (a' := ?_) #[true, true, true, true, true, true, true, true, false, false, false, false, false, false, false, false, false, false, false, false, false] rfl rfl (any_of HT_.out (by kernel_rfl)) (fun _ _ _ h => h) (Or.inl ⟨by rfl, ?_⟩) ?_ ?_
                    rotate_left
                    · intro w'
                      go_simp
                      with_reducible rfl
                    rotate_left
                    · simp only [Act.put, List.setIfInBounds_toArray, List.set_cons_zero, List.set_cons_succ, i64_w, i32_w]
                      rfl
                    refine pure_ (i := 8) (N := some 38) (v := ?_) (a' := ?_) #[true, true, true, true, true, true, true, true, true, false, false, false, false, false, false, false, false, false, false, false, false] rfl rfl (any_of HT_.out (by kernel_rfl)) (fun _ _ _ h => h) (Or.inl ⟨by rfl, ?_⟩) ?_ ?_
                    rotate_left
                    · intro w'
                      go_simp
                      with_reducible rfl
                    rotate_left
                    · simp only [Act.put, List.setIfInBounds_toArray, List.set_cons_zero, List.set_cons_succ, i64_w, i32_w]
                      rfl
                    refine pure_ (i := 9) (N := some 39) (v := ?_) (a' := ?_) #[true, true, true, true, true, true, true, true, true, true, false, false, false, false, false, false, false, false, false, false, false] rfl rfl (any_of HT_.out (by kernel_rfl)) (fun _ _ _ h => h) (Or.inl ⟨by rfl, ?_⟩) ?_ ?_
                    rotate_left
                    · intro w'
                      go_simp
                      with_reducible rfl
                    rotate_left
                    · simp only [Act.put, List.setIfInBounds_toArray, List.set_cons_zero, List.set_cons_succ, i64_w, i32_w]
                      rfl
                    refine pure_ (i := 10) (N := some 40) (v := ?_) (a' := ?_) #[true, true, true, true, true, true, true, true, true, true, true, false, false, false, false, false, false, false, false, false, false] rfl rfl (any_of HT_.out (by kernel_rfl)) (fun _ _ _ h => h) (Or.inl ⟨by rfl, ?_⟩) ?_ ?_
                    rotate_left
                    · intro w'
                      go_simp
                      with_reducible rfl
                    rotate_left
                    · simp only [Act.put, List.setIfInBounds_toArray, List.set_cons_zero, List.set_cons_succ, i64_w, i32_w]
                      rfl
                    refine take_ (i := 11) (N := some 41) (v := ?_) (a' := ?_) #[true, true, true, true, true, true, true, true, true, true, true, true, false, false, false, false, false, false, false, false, false] rfl rfl (take_ofW HT_.out HW_.out (by kernel_rfl)) (fun _ _ _ h => h) (Or.inl ⟨by rfl, ?_⟩) hHeld ?_ ?_
                    rotate_left
                    · rintro w' ⟨s0, s1, s2, s3, s4, s5, s6, s7⟩
                      go_simp
                      with_reducible rfl
                    rotate_left
                    · simp only [Act.put, List.setIfInBounds_toArray, List.set_cons_zero, List.set_cons_succ, i64_w, i32_w]
                      rfl
                    refine pure_ (i := 12) (N := some 42) (v := ?_) (a' := ?_) #[true, true, true, true, true, true, true, true, true, true, true, true, true, false, false, false, false, false, false, false, false] rfl rfl (any_of HT_.out (by kernel_rfl)) (fun _ _ _ h => h) (Or.inl ⟨by rfl, ?_⟩) ?_ ?_
                    rotate_left
                    · intro w'
                      go_simp
                      with_reducible rfl
                    rotate_left
                    · simp only [Act.put, List.setIfInBounds_toArray, List.set_cons_zero, List.set_cons_succ, i64_w, i32_w]
                      rfl
                    refine pure_ (i := 13) (N := some 43) (v := ?_) (a' := ?_) #[true, true, true, true, true, true, true, true, true, true, true, true, true, true, false, false, false, false, false, false, false] rfl rfl (any_of HT_.out (by kernel_rfl)) (fun _ _ _ h => h) (Or.inl ⟨by rfl, ?_⟩) ?_ ?_
                    rotate_left
                    · intro w'
                      go_simp
                      with_reducible rfl
                    rotate_left
                    · simp only [Act.put, List.setIfInBounds_toArray, List.set_cons_zero, List.set_cons_succ, i64_w, i32_w]
                      rfl
                    refine pure_ (i := 16) (N := some 46) (v := ?_) (a' := ?_) #[true, true, true, true, true, true, true, true, true, true, true, true, true, true, false, false, true, false, false, false, false] rfl rfl (any_of HT_.out (by kernel_rfl)) (fun _ _ _ h => h) (Or.inl ⟨by rfl, ?_⟩) ?_ ?_
                    rotate_left
                    · intro w'
                      go_simp
                      with_reducible rfl
                    rotate_left
                    · simp only [Act.put, List.setIfInBounds_toArray, List.set_cons_zero, List.set_cons_succ, i64_w, i32_w]
                      rfl
                    refine take_ (i := 14) (N := some 44) (v := ?_) (a' := ?_) #[true, true, true, true, true, true, true, true, true, true, true, true, true, true, true, false, true, false, false, false, false] rfl rfl (take_ofW HT_.out HW_.out (by kernel_rfl)) (fun _ _ _ h => h) (Or.inl ⟨by rfl, ?_⟩) hHeld ?_ ?_
                    rotate_left
                    · rintro w' ⟨s0, s1, s2, s3, s4, s5, s6, s7⟩
                      go_simp
                      with_reducible rfl
                    rotate_left
                    · simp only [Act.put, List.setIfInBounds_toArray, List.set_cons_zero, List.set_cons_succ, i64_w, i32_w]
                      rfl
                    refine take_ (i := 17) (N := some 47) (v := ?_) (a' := ?_) #[true, true, true, true, true, true, true, true, true, true, true, true, true, true, true, false, true, true, false, false, false] rfl rfl (take_ofW HT_.out HW_.out (by kernel_rfl)) (fun _ _ _ h => h) (Or.inl ⟨by rfl, ?_⟩) hHeld ?_ ?_
                    rotate_left
                    · rintro w' ⟨s0, s1, s2, s3, s4, s5, s6, s7⟩
                      go_simp
                      with_reducible rfl
                    rotate_left
                    · simp only [Act.put, List.setIfInBounds_toArray, List.set_cons_zero, List.set_cons_succ, i64_w, i32_w]
                      rfl
                    refine one_ (i := 15) (N := some 45) #[true, true, true, true, true, true, true, true, true, true, true, true, true, true, true, true, true, true, false, false, false] rfl rfl (one_of HT_.out (by kernel_rfl)) (by decide) (fun K hK => ?_)
                    refine goes_ Try.func24 (by kernel_rfl) rfl #[.agg #[.slice (some ad266) x262000_1.length co17, .int .i64 a0_1, .int .i64 a0_2, .int .i64 a0_3]] (by rfl) rfl rfl (by (try simp only [List.map_toArray, List.map_cons, List.map_nil]); first | done | rfl | (simp only [List.length_drop, List.length_take]; rfl)) ?_
                    with_reducible refine (telemeterref17_Flying.calls k1 _ _ x262000_1 a0_1 a0_2 a0_3 t268 _ ?side1 ?side2 A27.out).mono ?_
                    (case side1 => repeat (first | exact (Kd.R_reads' HO_262000.out).2.2 | (with_reducible refine Kd.C_alloc ?_ _) | (with_reducible refine Kd.C_drewN ?_ _) | (with_reducible refine Kd.C_drew ?_)))
                    (case side2 => exact (Kd.R_reads' HO_262000.out).2.1)
                    rintro e w30 ⟨rfl, hb⟩
                    refine ⟨_, rfl, ?_⟩
                    have n0_ := Aside0.mk (Kd.R_below (by (with_reducible repeat (first | apply Kd.R_alloc | apply Kd.R_drewN | apply Kd.R_drew)); exact HO_9.out) hb)
                    have n1_ := Aside0.mk (Kd.R_below (by (with_reducible repeat (first | apply Kd.R_alloc | apply Kd.R_drewN | apply Kd.R_drew)); exact HO_262000.out) hb)
                    have n2_ := Aside0.mk (blk_below (g := gb261) (o := .cells #[.slice (some ad266) x262000_1.length co17, .int .i64 a0_1, .int .i64 a0_2, .int .i64 a0_3] 41 (0, 0)) (by (with_reducible repeat (first | refine blk_drewN ?_ _ | refine blk_drew ?_ | refine blk_alloc ?_ _)); exact BK261.out) hb)
                    have n3_ := Aside0.mk (blk_below (g := gb262) (o := .cells #[.slice none 0 0, .int .i64 0, .int .i64 0, .int .i64 0] 41 (0, 0)) (by (with_reducible repeat (first | refine blk_drewN ?_ _ | refine blk_drew ?_ | refine blk_alloc ?_ _)); exact BK262.out) hb)
                    have n4_ := Aside0.mk (blk_below (g := gb267) (o := .cells #[.int .i64 ((rd_T70 x262000_1 x10_1).f0), .int .i64 ((rd_T70 x262000_1 x10_1).f1), .int .i64 ((rd_T70 x262000_1 x10_1).f2), .int .i64 ((rd_T70 x262000_1 x10_1).f3)] 70 (0, 0)) (by (with_reducible repeat (first | refine blk_drewN ?_ _ | refine blk_drew ?_ | refine blk_alloc ?_ _)); exact BK267.out) hb)
                    have n5_ := Aside0.mk (below_step (by repeat (first | (with_reducible first | exact HB.out | apply below_alloc | apply pw_below_drewN | apply below_drew1 | refine below_set ?_ GE261.out | refine below_set ?_ GE262.out | refine below_set ?_ GE267.out) | exact HB.out)) hb)
                    clear HO_9
                    clear HO_262000
                    clear BK261
                    clear BK262
                    clear BK267
                    clear HB
                    have HO_9 := n0_
                    have HO_262000 := n1_
                    have BK261 := n2_
                    have BK262 := n3_
                    have BK267 := n4_
                    have HB := n5_
                    clear n0_ n1_ n2_ n3_ n4_ n5_
                    (try clear hb)
                    (try clear hb2)
                    (try clear hk)
                    (try clear hi)
                    refine hK.out _ _ ⟨(blk_cell BK267.out 0).trans rfl, (blk_cell BK267.out 1).trans rfl, (blk_cell BK267.out 2).trans rfl, (blk_cell BK267.out 3).trans rfl, (blk_cell BK261.out 0).trans rfl, (blk_cell BK261.out 1).trans rfl, (blk_cell BK261.out 2).trans rfl, (blk_cell BK261.out 3).trans rfl⟩ (fun hHeld => ?_)
                    clear hK K
                    refine norm_ (a' := ?_) ?_ ?_
                    rotate_left
                    · show Act.put _ (some 45) _ = _
                      simp only [Act.put, List.setIfInBounds_toArray, List.set_cons_zero, List.set_cons_succ, i64_w, i32_w]
                      rfl
                    refine pure_ (i := 18) (N := some 48) (v := ?_) (a' := ?_) #[true, true, true, true, true, true, true, true, true, true, true, true, true, true, true, true, true, true, true, false, false] rfl rfl (any_of HT_.out (by kernel_rfl)) (fun _ _ _ h => h) (Or.inl ⟨by rfl, ?_⟩) ?_ ?_
                    rotate_left
                    · intro w'
                      go_simp
                      with_reducible rfl
                    rotate_left
                    · simp only [Act.put, List.setIfInBounds_toArray, List.set_cons_zero, List.set_cons_succ, i64_w, i32_w]
                      rfl
                    refine pure_ (i := 19) (N := some 49) (v := ?_) (a' := ?_) #[true, true, true, true, true, true, true, true, true, true, true, true, true, true, true, true, true, true, true, true, false] rfl rfl (any_of HT_.out (by kernel_rfl)) (fun _ _ _ h => h) (Or.inl ⟨by rfl, ?_⟩) ?_ ?_
                    rotate_left
                    · intro w'
                      go_simp
                      with_reducible rfl
                    rotate_left
                    · simp only [Act.put, List.setIfInBounds_toArray, List.set_cons_zero, List.set_cons_succ, i64_w, i32_w]
                      rfl
                    refine pure_ (i := 20) (N := some 50) (v := ?_) (a' := ?_) #[true, true, true, true, true, true, true, true, true, true, true, true, true, true, true, true, true, true, true, true, true] rfl rfl (any_of HT_.out (by kernel_rfl)) (fun _ _ _ h => h) (Or.inl ⟨by rfl, ?_⟩) ?_ ?_
                    rotate_left
                    · intro w'
                      go_simp
                      with_reducible rfl
                    rotate_left
                    · simp only [Act.put, List.setIfInBounds_toArray, List.set_cons_zero, List.set_cons_succ, i64_w, i32_w]
                      rfl
                    refine done_ (done_of HT_.out (by kernel_rfl)) ?_
                    try go_wp2
                    go_meet
                    case rel => exact ⟨_, (decide (t268 ≥ a0_1)), (by first | rfl | (simp; done) | (simp [*]; done)), H', ⟨by have := HK1.out; first | omega | exact Nat.le_refl _⟩, ⟨by (with_reducible repeat (first | apply Kd.R_alloc | apply Kd.R_drewN | apply Kd.R_drew)); exact HO_9.out⟩, ⟨by (with_reducible repeat (first | apply Kd.R_alloc | apply Kd.R_drewN | apply Kd.R_drew)); exact HO_262000.out⟩, ⟨by (with_reducible repeat (first | refine blk_drewN ?_ _ | refine blk_drew ?_ | refine blk_alloc ?_ _)); exact BK261.out⟩, ⟨by (with_reducible repeat (first | refine blk_drewN ?_ _ | refine blk_drew ?_ | refine blk_alloc ?_ _)); exact BK262.out⟩, ⟨by (with_reducible repeat (first | refine blk_drewN ?_ _ | refine blk_drew ?_ | refine blk_alloc ?_ _)); exact BK267.out⟩, ⟨by repeat (first | (with_reducible first | exact HB.out | apply below_alloc | apply pw_below_drewN | apply below_drew1 | refine below_set ?_ GE261.out | refine below_set ?_ GE262.out | refine below_set ?_ GE267.out) | exact HB.out)⟩⟩
                  · rw [if_neg c26] at H
                    have c26b0 : (((rd_T70 x262000_1 x10_1).f1) == 0) = false := beq_eq_false_iff_ne.mpr c26
                    have c26b1 : (((rd_T70 x262000_1 x10_1).f1) != 0) = true := bne_iff_ne.mpr c26
                    have H' := Aside0.mk H
                    clear H
                    try go_wp2
                    have n0_ : Aside0 (Kd.R (Kd.int .i64) 3 ((((w18.setCell ⟨gb267, 0, none⟩ (.int .i64 ((rd_T70 x262000_1 x10_1).f0))).setCell ⟨gb267, 1, none⟩ (.int .i64 ((rd_T70 x262000_1 x10_1).f1))).setCell ⟨gb267, 2, none⟩ (.int .i64 ((rd_T70 x262000_1 x10_1).f2))).setCell ⟨gb267, 3, none⟩ (.int .i64 ((rd_T70 x262000_1 x10_1).f3))) w.heap.size (fun _ => True) u9 x9_1) := ⟨by (with_reducible repeat (first | apply Kd.R_alloc | apply Kd.R_drewN | apply Kd.R_drew)); exact Kd.R_mono (Kd.R_far (p := ⟨gb267, 3, none⟩) (Kd.R_far (p := ⟨gb267, 2, none⟩) (Kd.R_far (p := ⟨gb267, 1, none⟩) (Kd.R_far (p := ⟨gb267, 0, none⟩) (Kd.R_types HO_9.out BK267.out (by decide)) (fun _ hk => hk.2) (.int .i64 ((rd_T70 x262000_1 x10_1).f0))) (fun _ hk => hk.2) (.int .i64 ((rd_T70 x262000_1 x10_1).f1))) (fun _ hk => hk.2) (.int .i64 ((rd_T70 x262000_1 x10_1).f2))) (fun _ hk => hk.2) (.int .i64 ((rd_T70 x262000_1 x10_1).f3))) (fun _ hk => trivial)⟩
                    have n1_ : Aside0 (Kd.R k70 70 ((((w18.setCell ⟨gb267, 0, none⟩ (.int .i64 ((rd_T70 x262000_1 x10_1).f0))).setCell ⟨gb267, 1, none⟩ (.int .i64 ((rd_T70 x262000_1 x10_1).f1))).setCell ⟨gb267, 2, none⟩ (.int .i64 ((rd_T70 x262000_1 x10_1).f2))).setCell ⟨gb267, 3, none⟩ (.int .i64 ((rd_T70 x262000_1 x10_1).f3))) w.heap.size (fun k_ => k_ ≠ gb267) (.slice (some ad266) x262000_1.length co17) x262000_1) := ⟨by (with_reducible repeat (first | apply Kd.R_alloc | apply Kd.R_drewN | apply Kd.R_drew)); exact Kd.R_mono (Kd.R_far (p := ⟨gb267, 3, none⟩) (Kd.R_far (p := ⟨gb267, 2, none⟩) (Kd.R_far (p := ⟨gb267, 1, none⟩) (Kd.R_far (p := ⟨gb267, 0, none⟩) (Kd.R_mono HO_262000.out (fun k_ hk => (⟨hk, hk.2⟩ : _ ∧ k_ ≠ gb267))) (fun _ hk => hk.2) (.int .i64 ((rd_T70 x262000_1 x10_1).f0))) (fun _ hk => hk.2) (.int .i64 ((rd_T70 x262000_1 x10_1).f1))) (fun _ hk => hk.2) (.int .i64 ((rd_T70 x262000_1 x10_1).f2))) (fun _ hk => hk.2) (.int .i64 ((rd_T70 x262000_1 x10_1).f3))) (fun _ hk => hk.1.2)⟩
                    have n2_ : Aside0 (((((w18.setCell ⟨gb267, 0, none⟩ (.int .i64 ((rd_T70 x262000_1 x10_1).f0))).setCell ⟨gb267, 1, none⟩ (.int .i64 ((rd_T70 x262000_1 x10_1).f1))).setCell ⟨gb267, 2, none⟩ (.int .i64 ((rd_T70 x262000_1 x10_1).f2))).setCell ⟨gb267, 3, none⟩ (.int .i64 ((rd_T70 x262000_1 x10_1).f3))).heap[gb261]? = some (.cells #[.slice (some ad266) x262000_1.length co17, .int .i64 a0_1, .int .i64 a0_2, .int .i64 a0_3] 41 (0, 0))) := ⟨by (with_reducible repeat (first | refine blk_drewN ?_ _ | refine blk_drew ?_ | refine blk_alloc ?_ _)); refine blk_far ?_ NB261_267.out _; (with_reducible repeat (first | refine blk_drewN ?_ _ | refine blk_drew ?_ | refine blk_alloc ?_ _)); refine blk_far ?_ NB261_267.out _; (with_reducible repeat (first | refine blk_drewN ?_ _ | refine blk_drew ?_ | refine blk_alloc ?_ _)); refine blk_far ?_ NB261_267.out _; (with_reducible repeat (first | refine blk_drewN ?_ _ | refine blk_drew ?_ | refine blk_alloc ?_ _)); refine blk_far ?_ NB261_267.out _; (with_reducible repeat (first | refine blk_drewN ?_ _ | refine blk_drew ?_ | refine blk_alloc ?_ _)); exact BK261.out⟩
                    have n3_ : Aside0 (((((w18.setCell ⟨gb267, 0, none⟩ (.int .i64 ((rd_T70 x262000_1 x10_1).f0))).setCell ⟨gb267, 1, none⟩ (.int .i64 ((rd_T70 x262000_1 x10_1).f1))).setCell ⟨gb267, 2, none⟩ (.int .i64 ((rd_T70 x262000_1 x10_1).f2))).setCell ⟨gb267, 3, none⟩ (.int .i64 ((rd_T70 x262000_1 x10_1).f3))).heap[gb262]? = some (.cells #[.slice none 0 0, .int .i64 0, .int .i64 0, .int .i64 0] 41 (0, 0))) := ⟨by (with_reducible repeat (first | refine blk_drewN ?_ _ | refine blk_drew ?_ | refine blk_alloc ?_ _)); refine blk_far ?_ NB262_267.out _; (with_reducible repeat (first | refine blk_drewN ?_ _ | refine blk_drew ?_ | refine blk_alloc ?_ _)); refine blk_far ?_ NB262_267.out _; (with_reducible repeat (first | refine blk_drewN ?_ _ | refine blk_drew ?_ | refine blk_alloc ?_ _)); refine blk_far ?_ NB262_267.out _; (with_reducible repeat (first | refine blk_drewN ?_ _ | refine blk_drew ?_ | refine blk_alloc ?_ _)); refine blk_far ?_ NB262_267.out _; (with_reducible repeat (first | refine blk_drewN ?_ _ | refine blk_drew ?_ | refine blk_alloc ?_ _)); exact BK262.out⟩
                    have n4_ : Aside0 (((((w18.setCell ⟨gb267, 0, none⟩ (.int .i64 ((rd_T70 x262000_1 x10_1).f0))).setCell ⟨gb267, 1, none⟩ (.int .i64 ((rd_T70 x262000_1 x10_1).f1))).setCell ⟨gb267, 2, none⟩ (.int .i64 ((rd_T70 x262000_1 x10_1).f2))).setCell ⟨gb267, 3, none⟩ (.int .i64 ((rd_T70 x262000_1 x10_1).f3))).heap[gb267]? = some (.cells #[.int .i64 ((rd_T70 x262000_1 x10_1).f0), .int .i64 ((rd_T70 x262000_1 x10_1).f1), .int .i64 ((rd_T70 x262000_1 x10_1).f2), .int .i64 ((rd_T70 x262000_1 x10_1).f3)] 70 (0, 0))) := ⟨by (with_reducible repeat (first | refine blk_drewN ?_ _ | refine blk_drew ?_ | refine blk_alloc ?_ _)); refine blk_put (cs := #[.int .i64 ((rd_T70 x262000_1 x10_1).f0), .int .i64 ((rd_T70 x262000_1 x10_1).f1), .int .i64 ((rd_T70 x262000_1 x10_1).f2), .int .i64 0]) ?_ 3 _ rfl; (with_reducible repeat (first | refine blk_drewN ?_ _ | refine blk_drew ?_ | refine blk_alloc ?_ _)); refine blk_put (cs := #[.int .i64 ((rd_T70 x262000_1 x10_1).f0), .int .i64 ((rd_T70 x262000_1 x10_1).f1), .int .i64 0, .int .i64 0]) ?_ 2 _ rfl; (with_reducible repeat (first | refine blk_drewN ?_ _ | refine blk_drew ?_ | refine blk_alloc ?_ _)); refine blk_put (cs := #[.int .i64 ((rd_T70 x262000_1 x10_1).f0), .int .i64 0, .int .i64 0, .int .i64 0]) ?_ 1 _ rfl; (with_reducible repeat (first | refine blk_drewN ?_ _ | refine blk_drew ?_ | refine blk_alloc ?_ _)); refine blk_put (cs := #[.int .i64 0, .int .i64 0, .int .i64 0, .int .i64 0]) ?_ 0 _ rfl; (with_reducible repeat (first | refine blk_drewN ?_ _ | refine blk_drew ?_ | refine blk_alloc ?_ _)); exact BK267.out⟩
                    have n5_ : Aside0 (Below w.heap.size w ((((w18.setCell ⟨gb267, 0, none⟩ (.int .i64 ((rd_T70 x262000_1 x10_1).f0))).setCell ⟨gb267, 1, none⟩ (.int .i64 ((rd_T70 x262000_1 x10_1).f1))).setCell ⟨gb267, 2, none⟩ (.int .i64 ((rd_T70 x262000_1 x10_1).f2))).setCell ⟨gb267, 3, none⟩ (.int .i64 ((rd_T70 x262000_1 x10_1).f3)))) := ⟨by repeat (first | (with_reducible first | exact HB.out | apply below_alloc | apply pw_below_drewN | apply below_drew1 | refine below_set ?_ GE261.out | refine below_set ?_ GE262.out | refine below_set ?_ GE267.out) | exact HB.out)⟩
                    (try clear HO_9)
                    (try clear HO_262000)
                    (try clear BK261)
                    (try clear BK262)
                    (try clear BK267)
                    (try clear HB)
                    generalize ((((w18.setCell ⟨gb267, 0, none⟩ (.int .i64 ((rd_T70 x262000_1 x10_1).f0))).setCell ⟨gb267, 1, none⟩ (.int .i64 ((rd_T70 x262000_1 x10_1).f1))).setCell ⟨gb267, 2, none⟩ (.int .i64 ((rd_T70 x262000_1 x10_1).f2))).setCell ⟨gb267, 3, none⟩ (.int .i64 ((rd_T70 x262000_1 x10_1).f3))) = w31 at n0_ n1_ n2_ n3_ n4_ n5_ ⊢
                    have HO_9 := n0_
                    have HO_262000 := n1_
                    have BK261 := n2_
                    have BK262 := n3_
                    have BK267 := n4_
                    have HB := n5_
                    clear n0_ n1_ n2_ n3_ n4_ n5_
                    have n0_ := Aside0.mk (Kd.R_drew HO_9.out)
                    have n1_ := Aside0.mk (Kd.R_drew HO_262000.out)
                    have n2_ := Aside0.mk (blk_drew BK261.out)
                    have n3_ := Aside0.mk (blk_drew BK262.out)
                    have n4_ := Aside0.mk (blk_drew BK267.out)
                    have n5_ := Aside0.mk (below_drew1 HB.out)
                    clear HO_9
                    clear HO_262000
                    clear BK261
                    clear BK262
                    clear BK267
                    clear HB
                    have HO_9 := n0_
                    have HO_262000 := n1_
                    have BK261 := n2_
                    have BK262 := n3_
                    have BK267 := n4_
                    have HB := n5_
                    clear n0_ n1_ n2_ n3_ n4_ n5_
                    refine start_ (n := 21) (S := fun w' => w'.cell? ⟨gb267, 0, none⟩ = some (.int .i64 ((rd_T70 x262000_1 x10_1).f0)) ∧ w'.cell? ⟨gb267, 1, none⟩ = some (.int .i64 ((rd_T70 x262000_1 x10_1).f1)) ∧ w'.cell? ⟨gb267, 2, none⟩ = some (.int .i64 ((rd_T70 x262000_1 x10_1).f2)) ∧ w'.cell? ⟨gb267, 3, none⟩ = some (.int .i64 ((rd_T70 x262000_1 x10_1).f3))) (ds := []) #[false, false, false, false, false, false, false, false, false, false, false, false, false, false, false, false, false, false, false, false, false] (by kernel_rfl) rfl rfl ⟨(blk_cell BK267.out 0).trans rfl, (blk_cell BK267.out 1).trans rfl, (blk_cell BK267.out 2).trans rfl, (blk_cell BK267.out 3).trans rfl⟩ (fun hHeld => ?_); refine with_tabW telemeterref17_Due.tab9 telemeterref17_Due.bits9 (fun HT_ HW_ => ?_)
                    generalize w31.drew = w32 at HO_9 HO_262000 BK261 BK262 BK267 HB hHeld ⊢
                    refine pure_ (i := 0) (N := some 30) (v := ?_) (a' := ?_) #[true, false, false, false, false, false, false, false, false, false, false, false, false, false, false, false, false, false, false, false, false] rfl rfl (any_of HT_.out (by kernel_rfl)) (fun _ _ _ h => h) (Or.inl ⟨by rfl, ?_⟩) ?_ ?_
                    rotate_left
                    · intro w'
                      go_simp
                      with_reducible rfl
                    rotate_left
                    · simp only [Act.put, List.setIfInBounds_toArray, List.set_cons_zero, List.set_cons_succ, i64_w, i32_w]
                      rfl
                    refine take_ (i := 1) (N := some 31) (v := ?_) (a' := ?_) #[true, true, false, false, false, false, false, false, false, false, false, false, false, false, false, false, false, false, false, false, false] rfl rfl (take_ofW HT_.out HW_.out (by kernel_rfl)) (fun _ _ _ h => h) (Or.inl ⟨by rfl, ?_⟩) hHeld ?_ ?_
                    rotate_left
                    · rintro w' ⟨s0, s1, s2, s3⟩
                      go_simp
                      with_reducible rfl
                    rotate_left
                    · simp only [Act.put, List.setIfInBounds_toArray, List.set_cons_zero, List.set_cons_succ, i64_w, i32_w]
                      rfl
                    refine pure_ (i := 2) (N := some 32) (v := ?_) (a' := ?_) #[true, true, true, false, false, false, false, false, false, false, false, false, false, false, false, false, false, false, false, false, false] rfl rfl (any_of HT_.out (by kernel_rfl)) (fun _ _ _ h => h) (Or.inl ⟨by rfl, ?_⟩) ?_ ?_
                    rotate_left
                    · intro w'
                      go_simp
                      with_reducible rfl
                    rotate_left
                    · simp only [Act.put, List.setIfInBounds_toArray, List.set_cons_zero, List.set_cons_succ, i64_w, i32_w]
                      rfl
                    refine pure_ (i := 3) (N := some 33) (v := ?_) (a' := ?_) #[true, true, true, true, false, false, false, false, false, false, false, false, false, false, false, false, false, false, false, false, false] rfl rfl (any_of HT_.out (by kernel_rfl)) (fun _ _ _ h => h) (Or.inl ⟨by rfl, ?_⟩) ?_ ?_
                    rotate_left
                    · intro w'
                      go_simp
                      with_reducible rfl
                    rotate_left
                    · simp only [Act.put, List.setIfInBounds_toArray, List.set_cons_zero, List.set_cons_succ, i64_w, i32_w]
                      rfl
                    refine pure_ (i := 4) (N := some 34) (v := ?_) (a' := ?_) #[true, true, true, true, true, false, false, false, false, false, false, false, false, false, false, false, false, false, false, false, false] rfl rfl (any_of HT_.out (by kernel_rfl)) (fun _ _ _ h => h) (Or.inl ⟨by rfl, ?_⟩) ?_ ?_
                    rotate_left
                    · intro w'
                      go_simp
                      with_reducible rfl
                    rotate_left
                    · simp only [Act.put, List.setIfInBounds_toArray, List.set_cons_zero, List.set_cons_succ, i64_w, i32_w]
                      rfl
                    refine pure_ (i := 6) (N := some 36) (v := ?_) (a' := ?_) #[true, true, true, true, true, false, true, false, false, false, false, false, false, false, false, false, false, false, false, false, false] rfl rfl (any_of HT_.out (by kernel_rfl)) (fun _ _ _ h => h) (Or.inl ⟨by rfl, ?_⟩) ?_ ?_
                    rotate_left
                    · intro w'
                      go_simp
                      with_reducible rfl
                    rotate_left
                    · simp only [Act.put, List.setIfInBounds_toArray, List.set_cons_zero, List.set_cons_succ, i64_w, i32_w]
                      rfl
                    refine take_ (i := 5) (N := some 35) (v := ?_) (a' := ?_) #[true, true, true, true, true, true, true, false, false, false, false, false, false, false, false, false, false, false, false, false, false] rfl rfl (take_ofW HT_.out HW_.out (by kernel_rfl)) (fun _ _ _ h => h) (Or.inl ⟨by rfl, ?_⟩) hHeld ?_ ?_
                    rotate_left
                    · rintro w' ⟨s0, s1, s2, s3⟩
                      go_simp
                      with_reducible rfl
                    rotate_left
                    · simp only [Act.put, List.setIfInBounds_toArray, List.set_cons_zero, List.set_cons_succ, i64_w, i32_w]
                      rfl
                    refine pure_ (i := 7) (N := some 37) (v := ?_) (a' := ?_) #[true, true, true, true, true, true, true, true, false, false, false, false, false, false, false, false, false, false, false, false, false] rfl rfl (any_of HT_.out (by kernel_rfl)) (fun _ _ _ h => h) (Or.inl ⟨by rfl, ?_⟩) ?_ ?_
                    rotate_left
                    · intro w'
                      go_simp
                      with_reducible rfl
                    rotate_left
                    · simp only [Act.put, List.setIfInBounds_toArray, List.set_cons_zero, List.set_cons_succ, i64_w, i32_w]
                      rfl
                    refine pure_ (i := 8) (N := some 38) (v := ?_) (a' := ?_) #[true, true, true, true, true, true, true, true, true, false, false, false, false, false, false, false, false, false, false, false, false] rfl rfl (any_of HT_.out (by kernel_rfl)) (fun _ _ _ h => h) (Or.inl ⟨by rfl, ?_⟩) ?_ ?_
                    rotate_left
                    · intro w'
                      go_simp
                      with_reducible rfl
                    rotate_left
                    · simp only [Act.put, List.setIfInBounds_toArray, List.set_cons_zero, List.set_cons_succ, i64_w, i32_w]
                      rfl
                    refine pure_ (i := 9) (N := some 39) (v := ?_) (a' := ?_) #[true, true, true, true, true, true, true, true, true, true, false, false, false, false, false, false, false, false, false, false, false] rfl rfl (any_of HT_.out (by kernel_rfl)) (fun _ _ _ h => h) (Or.inl ⟨by rfl, ?_⟩) ?_ ?_
                    rotate_left
                    · intro w'
                      go_simp
                      with_reducible rfl
                    rotate_left
                    · simp only [Act.put, List.setIfInBounds_toArray, List.set_cons_zero, List.set_cons_succ, i64_w, i32_w]
                      rfl
                    refine pure_ (i := 10) (N := some 40) (v := ?_) (a' := ?_) #[true, true, true, true, true, true, true, true, true, true, true, false, false, false, false, false, false, false, false, false, false] rfl rfl (any_of HT_.out (by kernel_rfl)) (fun _ _ _ h => h) (Or.inl ⟨by rfl, ?_⟩) ?_ ?_
                    rotate_left
                    · intro w'
                      go_simp
                      with_reducible rfl
                    rotate_left
                    · simp only [Act.put, List.setIfInBounds_toArray, List.set_cons_zero, List.set_cons_succ, i64_w, i32_w]
                      rfl
                    refine take_ (i := 11) (N := some 41) (v := ?_) (a' := ?_) #[true, true, true, true, true, true, true, true, true, true, true, true, false, false, false, false, false, false, false, false, false] rfl rfl (take_ofW HT_.out HW_.out (by kernel_rfl)) (fun _ _ _ h => h) (Or.inl ⟨by rfl, ?_⟩) hHeld ?_ ?_
                    rotate_left
                    · rintro w' ⟨s0, s1, s2, s3⟩
                      go_simp
                      with_reducible rfl
                    rotate_left
                    · simp only [Act.put, List.setIfInBounds_toArray, List.set_cons_zero, List.set_cons_succ, i64_w, i32_w]
                      rfl
                    refine pure_ (i := 12) (N := some 42) (v := ?_) (a' := ?_) #[true, true, true, true, true, true, true, true, true, true, true, true, true, false, false, false, false, false, false, false, false] rfl rfl (any_of HT_.out (by kernel_rfl)) (fun _ _ _ h => h) (Or.inl ⟨by rfl, ?_⟩) ?_ ?_
                    rotate_left
                    · intro w'
                      go_simp
                      with_reducible rfl
                    rotate_left
                    · simp only [Act.put, List.setIfInBounds_toArray, List.set_cons_zero, List.set_cons_succ, i64_w, i32_w]
                      rfl
                    refine pure_ (i := 13) (N := some 43) (v := ?_) (a' := ?_) #[true, true, true, true, true, true, true, true, true, true, true, true, true, true, false, false, false, false, false, false, false] rfl rfl (any_of HT_.out (by kernel_rfl)) (fun _ _ _ h => h) (Or.inl ⟨by rfl, ?_⟩) ?_ ?_
                    rotate_left
                    · intro w'
                      go_simp
                      with_reducible rfl
                    rotate_left
                    · simp only [Act.put, List.setIfInBounds_toArray, List.set_cons_zero, List.set_cons_succ, i64_w, i32_w]
                      rfl
                    refine pure_ (i := 14) (N := some 44) (v := undef) (a' := ?_) #[true, true, true, true, true, true, true, true, true, true, true, true, true, true, true, false, false, false, false, false, false] rfl rfl (any_of HT_.out (by kernel_rfl)) (fun _ _ _ h => h) (Or.inr ⟨by rfl, rfl⟩) ?_ ?_
                    rotate_left
                    · simp only [Act.put, List.setIfInBounds_toArray, List.set_cons_zero, List.set_cons_succ, i64_w, i32_w]
                      rfl
                    refine pure_ (i := 15) (N := some 45) (v := undef) (a' := ?_) #[true, true, true, true, true, true, true, true, true, true, true, true, true, true, true, true, false, false, false, false, false] rfl rfl (any_of HT_.out (by kernel_rfl)) (fun _ _ _ h => h) (Or.inr ⟨by rfl, rfl⟩) ?_ ?_
                    rotate_left
                    · simp only [Act.put, List.setIfInBounds_toArray, List.set_cons_zero, List.set_cons_succ, i64_w, i32_w]
                      rfl
                    refine pure_ (i := 16) (N := some 46) (v := undef) (a' := ?_) #[true, true, true, true, true, true, true, true, true, true, true, true, true, true, true, true, true, false, false, false, false] rfl rfl (any_of HT_.out (by kernel_rfl)) (fun _ _ _ h => h) (Or.inr ⟨by rfl, rfl⟩) ?_ ?_
                    rotate_left
                    · simp only [Act.put, List.setIfInBounds_toArray, List.set_cons_zero, List.set_cons_succ, i64_w, i32_w]
                      rfl
                    refine pure_ (i := 17) (N := some 47) (v := undef) (a' := ?_) #[true, true, true, true, true, true, true, true, true, true, true, true, true, true, true, true, true, true, false, false, false] rfl rfl (any_of HT_.out (by kernel_rfl)) (fun _ _ _ h => h) (Or.inr ⟨by rfl, rfl⟩) ?_ ?_
                    rotate_left
                    · simp only [Act.put, List.setIfInBounds_toArray, List.set_cons_zero, List.set_cons_succ, i64_w, i32_w]
                      rfl
                    refine pure_ (i := 18) (N := some 48) (v := undef) (a' := ?_) #[true, true, true, true, true, true, true, true, true, true, true, true, true, true, true, true, true, true, true, false, false] rfl rfl (any_of HT_.out (by kernel_rfl)) (fun _ _ _ h => h) (Or.inr ⟨by rfl, rfl⟩) ?_ ?_
                    rotate_left
                    · simp only [Act.put, List.setIfInBounds_toArray, List.set_cons_zero, List.set_cons_succ, i64_w, i32_w]
                      rfl
                    refine pure_ (i := 19) (N := some 49) (v := ?_) (a' := ?_) #[true, true, true, true, true, true, true, true, true, true, true, true, true, true, true, true, true, true, true, true, false] rfl rfl (any_of HT_.out (by kernel_rfl)) (fun _ _ _ h => h) (Or.inl ⟨by rfl, ?_⟩) ?_ ?_
                    rotate_left
                    · intro w'
                      go_simp
                      with_reducible rfl
                    rotate_left
                    · simp only [Act.put, List.setIfInBounds_toArray, List.set_cons_zero, List.set_cons_succ, i64_w, i32_w]
                      rfl
                    refine pure_ (i := 20) (N := some 50) (v := ?_) (a' := ?_) #[true, true, true, true, true, true, true, true, true, true, true, true, true, true, true, true, true, true, true, true, true] rfl rfl (any_of HT_.out (by kernel_rfl)) (fun _ _ _ h => h) (Or.inl ⟨by rfl, ?_⟩) ?_ ?_
                    rotate_left
                    · intro w'
                      go_simp
                      with_reducible rfl
                    rotate_left
                    · simp only [Act.put, List.setIfInBounds_toArray, List.set_cons_zero, List.set_cons_succ, i64_w, i32_w]
                      rfl
                    refine done_ (done_of HT_.out (by kernel_rfl)) ?_
                    try go_wp2
                    go_meet
                    case rel => exact ⟨_, (false), (by first | rfl | (simp; done) | (simp [*]; done)), H', ⟨by have := HK1.out; first | omega | exact Nat.le_refl _⟩, ⟨by (with_reducible repeat (first | apply Kd.R_alloc | apply Kd.R_drewN | apply Kd.R_drew)); exact HO_9.out⟩, ⟨by (with_reducible repeat (first | apply Kd.R_alloc | apply Kd.R_drewN | apply Kd.R_drew)); exact HO_262000.out⟩, ⟨by (with_reducible repeat (first | refine blk_drewN ?_ _ | refine blk_drew ?_ | refine blk_alloc ?_ _)); exact BK261.out⟩, ⟨by (with_reducible repeat (first | refine blk_drewN ?_ _ | refine blk_drew ?_ | refine blk_alloc ?_ _)); exact BK262.out⟩, ⟨by (with_reducible repeat (first | refine blk_drewN ?_ _ | refine blk_drew ?_ | refine blk_alloc ?_ _)); exact BK267.out⟩, ⟨by repeat (first | (with_reducible first | exact HB.out | apply below_alloc | apply pw_below_drewN | apply below_drew1 | refine below_set ?_ GE261.out | refine below_set ?_ GE262.out | refine below_set ?_ GE267.out) | exact HB.out)⟩⟩
              · rw [if_neg c22] at H
                have c22b0 : (((rd_T70 x262000_1 x10_1).f1) == 1) = false := beq_eq_false_iff_ne.mpr c22
                have c22b1 : (((rd_T70 x262000_1 x10_1).f1) != 1) = true := bne_iff_ne.mpr c22
                (first | rw [c22b0] | (simp only [i64_w, i32_w]; rw [c22b0]) | skip)
                by_cases c33 : ((rd_T70 x262000_1 x10_1).f1) = 0
                · rw [if_pos c33] at H
                  have c33b0 : (((rd_T70 x262000_1 x10_1).f1) == 0) = true := beq_iff_eq.mpr c33
                  have c33b1 : (((rd_T70 x262000_1 x10_1).f1) != 0) = false := bne_eq_false_iff_eq.mpr c33
                  clear c33
                  replace H := Option.bind_eq_some_iff.mp H
                  obtain ⟨t269, A340, H⟩ := H
                  replace H : (telemeterref17_Due.j1 k1 a1 a2 x9_1 x10_1 (decide (t269 ≥ a0_1)) x262000_1 a0_1 a0_2 a0_3 ((rd_T70 x262000_1 x10_1).f0) ((rd_T70 x262000_1 x10_1).f1) ((rd_T70 x262000_1 x10_1).f2) ((rd_T70 x262000_1 x10_1).f3)) = some (r1, r2, r3, r4, r5) := H
                  have A34 := Aside0.mk A340
                  clear A340
                  have H' := Aside0.mk H
                  clear H
                  try go_wp2
                  have n0_ : Aside0 (Kd.R (Kd.int .i64) 3 ((((w18.setCell ⟨gb267, 0, none⟩ (.int .i64 ((rd_T70 x262000_1 x10_1).f0))).setCell ⟨gb267, 1, none⟩ (.int .i64 ((rd_T70 x262000_1 x10_1).f1))).setCell ⟨gb267, 2, none⟩ (.int .i64 ((rd_T70 x262000_1 x10_1).f2))).setCell ⟨gb267, 3, none⟩ (.int .i64 ((rd_T70 x262000_1 x10_1).f3))) w.heap.size (fun _ => True) u9 x9_1) := ⟨by (with_reducible repeat (first | apply Kd.R_alloc | apply Kd.R_drewN | apply Kd.R_drew)); exact Kd.R_mono (Kd.R_far (p := ⟨gb267, 3, none⟩) (Kd.R_far (p := ⟨gb267, 2, none⟩) (Kd.R_far (p := ⟨gb267, 1, none⟩) (Kd.R_far (p := ⟨gb267, 0, none⟩) (Kd.R_types HO_9.out BK267.out (by decide)) (fun _ hk => hk.2) (.int .i64 ((rd_T70 x262000_1 x10_1).f0))) (fun _ hk => hk.2) (.int .i64 ((rd_T70 x262000_1 x10_1).f1))) (fun _ hk => hk.2) (.int .i64 ((rd_T70 x262000_1 x10_1).f2))) (fun _ hk => hk.2) (.int .i64 ((rd_T70 x262000_1 x10_1).f3))) (fun _ hk => trivial)⟩
                  have n1_ : Aside0 (Kd.R k70 70 ((((w18.setCell ⟨gb267, 0, none⟩ (.int .i64 ((rd_T70 x262000_1 x10_1).f0))).setCell ⟨gb267, 1, none⟩ (.int .i64 ((rd_T70 x262000_1 x10_1).f1))).setCell ⟨gb267, 2, none⟩ (.int .i64 ((rd_T70 x262000_1 x10_1).f2))).setCell ⟨gb267, 3, none⟩ (.int .i64 ((rd_T70 x262000_1 x10_1).f3))) w.heap.size (fun k_ => k_ ≠ gb267) (.slice (some ad266) x262000_1.length co17) x262000_1) := ⟨by (with_reducible repeat (first | apply Kd.R_alloc | apply Kd.R_drewN | apply Kd.R_drew)); exact Kd.R_mono (Kd.R_far (p := ⟨gb267, 3, none⟩) (Kd.R_far (p := ⟨gb267, 2, none⟩) (Kd.R_far (p := ⟨gb267, 1, none⟩) (Kd.R_far (p := ⟨gb267, 0, none⟩) (Kd.R_mono HO_262000.out (fun k_ hk => (⟨hk, hk.2⟩ : _ ∧ k_ ≠ gb267))) (fun _ hk => hk.2) (.int .i64 ((rd_T70 x262000_1 x10_1).f0))) (fun _ hk => hk.2) (.int .i64 ((rd_T70 x262000_1 x10_1).f1))) (fun _ hk => hk.2) (.int .i64 ((rd_T70 x262000_1 x10_1).f2))) (fun _ hk => hk.2) (.int .i64 ((rd_T70 x262000_1 x10_1).f3))) (fun _ hk => hk.1.2)⟩
                  have n2_ : Aside0 (((((w18.setCell ⟨gb267, 0, none⟩ (.int .i64 ((rd_T70 x262000_1 x10_1).f0))).setCell ⟨gb267, 1, none⟩ (.int .i64 ((rd_T70 x262000_1 x10_1).f1))).setCell ⟨gb267, 2, none⟩ (.int .i64 ((rd_T70 x262000_1 x10_1).f2))).setCell ⟨gb267, 3, none⟩ (.int .i64 ((rd_T70 x262000_1 x10_1).f3))).heap[gb261]? = some (.cells #[.slice (some ad266) x262000_1.length co17, .int .i64 a0_1, .int .i64 a0_2, .int .i64 a0_3] 41 (0, 0))) := ⟨by (with_reducible repeat (first | refine blk_drewN ?_ _ | refine blk_drew ?_ | refine blk_alloc ?_ _)); refine blk_far ?_ NB261_267.out _; (with_reducible repeat (first | refine blk_drewN ?_ _ | refine blk_drew ?_ | refine blk_alloc ?_ _)); refine blk_far ?_ NB261_267.out _; (with_reducible repeat (first | refine blk_drewN ?_ _ | refine blk_drew ?_ | refine blk_alloc ?_ _)); refine blk_far ?_ NB261_267.out _; (with_reducible repeat (first | refine blk_drewN ?_ _ | refine blk_drew ?_ | refine blk_alloc ?_ _)); refine blk_far ?_ NB261_267.out _; (with_reducible repeat (first | refine blk_drewN ?_ _ | refine blk_drew ?_ | refine blk_alloc ?_ _)); exact BK261.out⟩
                  have n3_ : Aside0 (((((w18.setCell ⟨gb267, 0, none⟩ (.int .i64 ((rd_T70 x262000_1 x10_1).f0))).setCell ⟨gb267, 1, none⟩ (.int .i64 ((rd_T70 x262000_1 x10_1).f1))).setCell ⟨gb267, 2, none⟩ (.int .i64 ((rd_T70 x262000_1 x10_1).f2))).setCell ⟨gb267, 3, none⟩ (.int .i64 ((rd_T70 x262000_1 x10_1).f3))).heap[gb262]? = some (.cells #[.slice none 0 0, .int .i64 0, .int .i64 0, .int .i64 0] 41 (0, 0))) := ⟨by (with_reducible repeat (first | refine blk_drewN ?_ _ | refine blk_drew ?_ | refine blk_alloc ?_ _)); refine blk_far ?_ NB262_267.out _; (with_reducible repeat (first | refine blk_drewN ?_ _ | refine blk_drew ?_ | refine blk_alloc ?_ _)); refine blk_far ?_ NB262_267.out _; (with_reducible repeat (first | refine blk_drewN ?_ _ | refine blk_drew ?_ | refine blk_alloc ?_ _)); refine blk_far ?_ NB262_267.out _; (with_reducible repeat (first | refine blk_drewN ?_ _ | refine blk_drew ?_ | refine blk_alloc ?_ _)); refine blk_far ?_ NB262_267.out _; (with_reducible repeat (first | refine blk_drewN ?_ _ | refine blk_drew ?_ | refine blk_alloc ?_ _)); exact BK262.out⟩
                  have n4_ : Aside0 (((((w18.setCell ⟨gb267, 0, none⟩ (.int .i64 ((rd_T70 x262000_1 x10_1).f0))).setCell ⟨gb267, 1, none⟩ (.int .i64 ((rd_T70 x262000_1 x10_1).f1))).setCell ⟨gb267, 2, none⟩ (.int .i64 ((rd_T70 x262000_1 x10_1).f2))).setCell ⟨gb267, 3, none⟩ (.int .i64 ((rd_T70 x262000_1 x10_1).f3))).heap[gb267]? = some (.cells #[.int .i64 ((rd_T70 x262000_1 x10_1).f0), .int .i64 ((rd_T70 x262000_1 x10_1).f1), .int .i64 ((rd_T70 x262000_1 x10_1).f2), .int .i64 ((rd_T70 x262000_1 x10_1).f3)] 70 (0, 0))) := ⟨by (with_reducible repeat (first | refine blk_drewN ?_ _ | refine blk_drew ?_ | refine blk_alloc ?_ _)); refine blk_put (cs := #[.int .i64 ((rd_T70 x262000_1 x10_1).f0), .int .i64 ((rd_T70 x262000_1 x10_1).f1), .int .i64 ((rd_T70 x262000_1 x10_1).f2), .int .i64 0]) ?_ 3 _ rfl; (with_reducible repeat (first | refine blk_drewN ?_ _ | refine blk_drew ?_ | refine blk_alloc ?_ _)); refine blk_put (cs := #[.int .i64 ((rd_T70 x262000_1 x10_1).f0), .int .i64 ((rd_T70 x262000_1 x10_1).f1), .int .i64 0, .int .i64 0]) ?_ 2 _ rfl; (with_reducible repeat (first | refine blk_drewN ?_ _ | refine blk_drew ?_ | refine blk_alloc ?_ _)); refine blk_put (cs := #[.int .i64 ((rd_T70 x262000_1 x10_1).f0), .int .i64 0, .int .i64 0, .int .i64 0]) ?_ 1 _ rfl; (with_reducible repeat (first | refine blk_drewN ?_ _ | refine blk_drew ?_ | refine blk_alloc ?_ _)); refine blk_put (cs := #[.int .i64 0, .int .i64 0, .int .i64 0, .int .i64 0]) ?_ 0 _ rfl; (with_reducible repeat (first | refine blk_drewN ?_ _ | refine blk_drew ?_ | refine blk_alloc ?_ _)); exact BK267.out⟩
                  have n5_ : Aside0 (Below w.heap.size w ((((w18.setCell ⟨gb267, 0, none⟩ (.int .i64 ((rd_T70 x262000_1 x10_1).f0))).setCell ⟨gb267, 1, none⟩ (.int .i64 ((rd_T70 x262000_1 x10_1).f1))).setCell ⟨gb267, 2, none⟩ (.int .i64 ((rd_T70 x262000_1 x10_1).f2))).setCell ⟨gb267, 3, none⟩ (.int .i64 ((rd_T70 x262000_1 x10_1).f3)))) := ⟨by repeat (first | (with_reducible first | exact HB.out | apply below_alloc | apply pw_below_drewN | apply below_drew1 | refine below_set ?_ GE261.out | refine below_set ?_ GE262.out | refine below_set ?_ GE267.out) | exact HB.out)⟩
                  (try clear HO_9)
                  (try clear HO_262000)
                  (try clear BK261)
                  (try clear BK262)
                  (try clear BK267)
                  (try clear HB)
                  generalize ((((w18.setCell ⟨gb267, 0, none⟩ (.int .i64 ((rd_T70 x262000_1 x10_1).f0))).setCell ⟨gb267, 1, none⟩ (.int .i64 ((rd_T70 x262000_1 x10_1).f1))).setCell ⟨gb267, 2, none⟩ (.int .i64 ((rd_T70 x262000_1 x10_1).f2))).setCell ⟨gb267, 3, none⟩ (.int .i64 ((rd_T70 x262000_1 x10_1).f3))) = w35 at n0_ n1_ n2_ n3_ n4_ n5_ ⊢
                  have HO_9 := n0_
                  have HO_262000 := n1_
                  have BK261 := n2_
                  have BK262 := n3_
                  have BK267 := n4_
                  have HB := n5_
                  clear n0_ n1_ n2_ n3_ n4_ n5_
                  have n0_ := Aside0.mk (Kd.R_drew HO_9.out)
                  have n1_ := Aside0.mk (Kd.R_drew HO_262000.out)
                  have n2_ := Aside0.mk (blk_drew BK261.out)
                  have n3_ := Aside0.mk (blk_drew BK262.out)
                  have n4_ := Aside0.mk (blk_drew BK267.out)
                  have n5_ := Aside0.mk (below_drew1 HB.out)
                  clear HO_9
                  clear HO_262000
                  clear BK261
                  clear BK262
                  clear BK267
                  clear HB
                  have HO_9 := n0_
                  have HO_262000 := n1_
                  have BK261 := n2_
                  have BK262 := n3_
                  have BK267 := n4_
                  have HB := n5_
                  clear n0_ n1_ n2_ n3_ n4_ n5_
                  refine start_ (n := 21) (S := fun w' => w'.cell? ⟨gb267, 0, none⟩ = some (.int .i64 ((rd_T70 x262000_1 x10_1).f0)) ∧ w'.cell? ⟨gb267, 1, none⟩ = some (.int .i64 ((rd_T70 x262000_1 x10_1).f1)) ∧ w'.cell? ⟨gb267, 2, none⟩ = some (.int .i64 ((rd_T70 x262000_1 x10_1).f2)) ∧ w'.cell? ⟨gb267, 3, none⟩ = some (.int .i64 ((rd_T70 x262000_1 x10_1).f3)) ∧ w'.cell? ⟨gb261, 0, none⟩ = some (.slice (some ad266) x262000_1.length co17) ∧ w'.cell? ⟨gb261, 1, none⟩ = some (.int .i64 a0_1) ∧ w'.cell? ⟨gb261, 2, none⟩ = some (.int .i64 a0_2) ∧ w'.cell? ⟨gb261, 3, none⟩ = some (.int .i64 a0_3)) (ds := []) #[false, false, false, false, false, false, false, false, false, false, false, false, false, false, false, false, false, false, false, false, false] (by kernel_rfl) rfl rfl ⟨(blk_cell BK267.out 0).trans rfl, (blk_cell BK267.out 1).trans rfl, (blk_cell BK267.out 2).trans rfl, (blk_cell BK267.out 3).trans rfl, (blk_cell BK261.out 0).trans rfl, (blk_cell BK261.out 1).trans rfl, (blk_cell BK261.out 2).trans rfl, (blk_cell BK261.out 3).trans rfl⟩ (fun hHeld => ?_); refine with_tabW telemeterref17_Due.tab9 telemeterref17_Due.bits9 (fun HT_ HW_ => ?_)
                  generalize w35.drew = w36 at HO_9 HO_262000 BK261 BK262 BK267 HB hHeld ⊢
                  refine pure_ (i := 0) (N := some 30) (v := ?_) (a' := ?_) #[true, false, false, false, false, false, false, false, false, false, false, false, false, false, false, false, false, false, false, false, false] rfl rfl (any_of HT_.out (by kernel_rfl)) (fun _ _ _ h => h) (Or.inl ⟨by rfl, ?_⟩) ?_ ?_
                  rotate_left
                  · intro w'
                    go_simp
                    with_reducible rfl
                  rotate_left
                  · simp only [Act.put, List.setIfInBounds_toArray, List.set_cons_zero, List.set_cons_succ, i64_w, i32_w]
                    rfl
                  refine take_ (i := 1) (N := some 31) (v := ?_) (a' := ?_) #[true, true, false, false, false, false, false, false, false, false, false, false, false, false, false, false, false, false, false, false, false] rfl rfl (take_ofW HT_.out HW_.out (by kernel_rfl)) (fun _ _ _ h => h) (Or.inl ⟨by rfl, ?_⟩) hHeld ?_ ?_
                  rotate_left
                  · rintro w' ⟨s0, s1, s2, s3, s4, s5, s6, s7⟩
                    go_simp
                    with_reducible rfl
                  rotate_left
                  · simp only [Act.put, List.setIfInBounds_toArray, List.set_cons_zero, List.set_cons_succ, i64_w, i32_w]
                    rfl
                  refine pure_ (i := 2) (N := some 32) (v := ?_) (a' := ?_) #[true, true, true, false, false, false, false, false, false, false, false, false, false, false, false, false, false, false, false, false, false] rfl rfl (any_of HT_.out (by kernel_rfl)) (fun _ _ _ h => h) (Or.inl ⟨by rfl, ?_⟩) ?_ ?_
                  rotate_left
                  · intro w'
                    go_simp
                    with_reducible rfl
                  rotate_left
                  · simp only [Act.put, List.setIfInBounds_toArray, List.set_cons_zero, List.set_cons_succ, i64_w, i32_w]
                    rfl
                  refine pure_ (i := 3) (N := some 33) (v := ?_) (a' := ?_) #[true, true, true, true, false, false, false, false, false, false, false, false, false, false, false, false, false, false, false, false, false] rfl rfl (any_of HT_.out (by kernel_rfl)) (fun _ _ _ h => h) (Or.inl ⟨by rfl, ?_⟩) ?_ ?_
                  rotate_left
                  · intro w'
                    go_simp
                    with_reducible rfl
                  rotate_left
                  · simp only [Act.put, List.setIfInBounds_toArray, List.set_cons_zero, List.set_cons_succ, i64_w, i32_w]
                    rfl
                  refine pure_ (i := 4) (N := some 34) (v := undef) (a' := ?_) #[true, true, true, true, true, false, false, false, false, false, false, false, false, false, false, false, false, false, false, false, false] rfl rfl (any_of HT_.out (by kernel_rfl)) (fun _ _ _ h => h) (Or.inr ⟨by rfl, rfl⟩) ?_ ?_
                  rotate_left
                  · simp only [Act.put, List.setIfInBounds_toArray, List.set_cons_zero, List.set_cons_succ, i64_w, i32_w]
                    rfl
                  refine pure_ (i := 5) (N := some 35) (v := undef) (a' := ?_) #[true, true, true, true, true, true, false, false, false, false, false, false, false, false, false, false, false, false, false, false, false] rfl rfl (any_of HT_.out (by kernel_rfl)) (fun _ _ _ h => h) (Or.inr ⟨by rfl, rfl⟩) ?_ ?_
                  rotate_left
                  · simp only [Act.put, List.setIfInBounds_toArray, List.set_cons_zero, List.set_cons_succ, i64_w, i32_w]
                    rfl
                  refine pure_ (i := 6) (N := some 36) (v := undef) (a' := ?_) #[true, true, true, true, true, true, true, false, false, false, false, false, false, false, false, false, false, false, false, false, false] rfl rfl (any_of HT_.out (by kernel_rfl)) (fun _ _ _ h => h) (Or.inr ⟨by rfl, rfl⟩) ?_ ?_
                  rotate_left
                  · simp only [Act.put, List.setIfInBounds_toArray, List.set_cons_zero, List.set_cons_succ, i64_w, i32_w]
                    rfl
                  refine pure_ (i := 7) (N := some 37) (v := undef) (a' := ?_) #[true, true, true, true, true, true, true, true, false, false, false, false, false, false, false, false, false, false, false, false, false] rfl rfl (any_of HT_.out (by kernel_rfl)) (fun _ _ _ h => h) (Or.inr ⟨by rfl, rfl⟩) ?_ ?_
                  rotate_left
                  · simp only [Act.put, List.setIfInBounds_toArray, List.set_cons_zero, List.set_cons_succ, i64_w, i32_w]
                    rfl
                  refine pure_ (i := 8) (N := some 38) (v := ?_) (a' := ?_) #[true, true, true, true, true, true, true, true, true, false, false, false, false, false, false, false, false, false, false, false, false] rfl rfl (any_of HT_.out (by kernel_rfl)) (fun _ _ _ h => h) (Or.inl ⟨by rfl, ?_⟩) ?_ ?_
                  rotate_left
                  · intro w'
                    go_simp
                    with_reducible rfl
                  rotate_left
                  · simp only [Act.put, List.setIfInBounds_toArray, List.set_cons_zero, List.set_cons_succ, i64_w, i32_w]
                    rfl
                  refine pure_ (i := 9) (N := some 39) (v := ?_) (a' := ?_) #[true, true, true, true, true, true, true, true, true, true, false, false, false, false, false, false, false, false, false, false, false] rfl rfl (any_of HT_.out (by kernel_rfl)) (fun _ _ _ h => h) (Or.inl ⟨by rfl, ?_⟩) ?_ ?_
                  rotate_left
                  · intro w'
                    go_simp
                    with_reducible rfl
                  rotate_left
                  · simp only [Act.put, List.setIfInBounds_toArray, List.set_cons_zero, List.set_cons_succ, i64_w, i32_w]
                    rfl
                  refine pure_ (i := 10) (N := some 40) (v := ?_) (a' := ?_) #[true, true, true, true, true, true, true, true, true, true, true, false, false, false, false, false, false, false, false, false, false] rfl rfl (any_of HT_.out (by kernel_rfl)) (fun _ _ _ h => h) (Or.inl ⟨by rfl, ?_⟩) ?_ ?_
                  rotate_left
                  · intro w'
                    go_simp
                    with_reducible rfl
                  rotate_left
                  · simp only [Act.put, List.setIfInBounds_toArray, List.set_cons_zero, List.set_cons_succ, i64_w, i32_w]
                    rfl
                  refine take_ (i := 11) (N := some 41) (v := ?_) (a' := ?_) #[true, true, true, true, true, true, true, true, true, true, true, true, false, false, false, false, false, false, false, false, false] rfl rfl (take_ofW HT_.out HW_.out (by kernel_rfl)) (fun _ _ _ h => h) (Or.inl ⟨by rfl, ?_⟩) hHeld ?_ ?_
                  rotate_left
                  · rintro w' ⟨s0, s1, s2, s3, s4, s5, s6, s7⟩
                    go_simp
                    with_reducible rfl
                  rotate_left
                  · simp only [Act.put, List.setIfInBounds_toArray, List.set_cons_zero, List.set_cons_succ, i64_w, i32_w]
                    rfl
                  refine pure_ (i := 12) (N := some 42) (v := ?_) (a' := ?_) #[true, true, true, true, true, true, true, true, true, true, true, true, true, false, false, false, false, false, false, false, false] rfl rfl (any_of HT_.out (by kernel_rfl)) (fun _ _ _ h => h) (Or.inl ⟨by rfl, ?_⟩) ?_ ?_
                  rotate_left
                  · intro w'
                    go_simp
                    with_reducible rfl
                  rotate_left
                  · simp only [Act.put, List.setIfInBounds_toArray, List.set_cons_zero, List.set_cons_succ, i64_w, i32_w]
                    rfl
                  refine pure_ (i := 13) (N := some 43) (v := ?_) (a' := ?_) #[true, true, true, true, true, true, true, true, true, true, true, true, true, true, false, false, false, false, false, false, false] rfl rfl (any_of HT_.out (by kernel_rfl)) (fun _ _ _ h => h) (Or.inl ⟨by rfl, ?_⟩) ?_ ?_
                  rotate_left
                  · intro w'
                    go_simp
                    with_reducible rfl
                  rotate_left
                  · simp only [Act.put, List.setIfInBounds_toArray, List.set_cons_zero, List.set_cons_succ, i64_w, i32_w]
                    rfl
                  refine pure_ (i := 16) (N := some 46) (v := ?_) (a' := ?_) #[true, true, true, true, true, true, true, true, true, true, true, true, true, true, false, false, true, false, false, false, false] rfl rfl (any_of HT_.out (by kernel_rfl)) (fun _ _ _ h => h) (Or.inl ⟨by rfl, ?_⟩) ?_ ?_
                  rotate_left
                  · intro w'
                    go_simp
                    with_reducible rfl
                  rotate_left
                  · simp only [Act.put, List.setIfInBounds_toArray, List.set_cons_zero, List.set_cons_succ, i64_w, i32_w]
                    rfl
                  refine take_ (i := 14) (N := some 44) (v := ?_) (a' := ?_) #[true, true, true, true, true, true, true, true, true, true, true, true, true, true, true, false, true, false, false, false, false] rfl rfl (take_ofW HT_.out HW_.out (by kernel_rfl)) (fun _ _ _ h => h) (Or.inl ⟨by rfl, ?_⟩) hHeld ?_ ?_
                  rotate_left
                  · rintro w' ⟨s0, s1, s2, s3, s4, s5, s6, s7⟩
                    go_simp
                    with_reducible rfl
                  rotate_left
                  · simp only [Act.put, List.setIfInBounds_toArray, List.set_cons_zero, List.set_cons_succ, i64_w, i32_w]
                    rfl
                  refine take_ (i := 17) (N := some 47) (v := ?_) (a' := ?_) #[true, true, true, true, true, true, true, true, true, true, true, true, true, true, true, false, true, true, false, false, false] rfl rfl (take_ofW HT_.out HW_.out (by kernel_rfl)) (fun _ _ _ h => h) (Or.inl ⟨by rfl, ?_⟩) hHeld ?_ ?_
                  rotate_left
                  · rintro w' ⟨s0, s1, s2, s3, s4, s5, s6, s7⟩
                    go_simp
                    with_reducible rfl
                  rotate_left
                  · simp only [Act.put, List.setIfInBounds_toArray, List.set_cons_zero, List.set_cons_succ, i64_w, i32_w]
                    rfl
                  refine one_ (i := 15) (N := some 45) #[true, true, true, true, true, true, true, true, true, true, true, true, true, true, true, true, true, true, false, false, false] rfl rfl (one_of HT_.out (by kernel_rfl)) (by decide) (fun K hK => ?_)
                  refine goes_ Try.func24 (by kernel_rfl) rfl #[.agg #[.slice (some ad266) x262000_1.length co17, .int .i64 a0_1, .int .i64 a0_2, .int .i64 a0_3]] (by rfl) rfl rfl (by (try simp only [List.map_toArray, List.map_cons, List.map_nil]); first | done | rfl | (simp only [List.length_drop, List.length_take]; rfl)) ?_
                  with_reducible refine (telemeterref17_Flying.calls k1 _ _ x262000_1 a0_1 a0_2 a0_3 t269 _ ?side1 ?side2 A34.out).mono ?_
                  (case side1 => repeat (first | exact (Kd.R_reads' HO_262000.out).2.2 | (with_reducible refine Kd.C_alloc ?_ _) | (with_reducible refine Kd.C_drewN ?_ _) | (with_reducible refine Kd.C_drew ?_)))
                  (case side2 => exact (Kd.R_reads' HO_262000.out).2.1)
                  rintro e w37 ⟨rfl, hb⟩
                  refine ⟨_, rfl, ?_⟩
                  have n0_ := Aside0.mk (Kd.R_below (by (with_reducible repeat (first | apply Kd.R_alloc | apply Kd.R_drewN | apply Kd.R_drew)); exact HO_9.out) hb)
                  have n1_ := Aside0.mk (Kd.R_below (by (with_reducible repeat (first | apply Kd.R_alloc | apply Kd.R_drewN | apply Kd.R_drew)); exact HO_262000.out) hb)
                  have n2_ := Aside0.mk (blk_below (g := gb261) (o := .cells #[.slice (some ad266) x262000_1.length co17, .int .i64 a0_1, .int .i64 a0_2, .int .i64 a0_3] 41 (0, 0)) (by (with_reducible repeat (first | refine blk_drewN ?_ _ | refine blk_drew ?_ | refine blk_alloc ?_ _)); exact BK261.out) hb)
                  have n3_ := Aside0.mk (blk_below (g := gb262) (o := .cells #[.slice none 0 0, .int .i64 0, .int .i64 0, .int .i64 0] 41 (0, 0)) (by (with_reducible repeat (first | refine blk_drewN ?_ _ | refine blk_drew ?_ | refine blk_alloc ?_ _)); exact BK262.out) hb)
                  have n4_ := Aside0.mk (blk_below (g := gb267) (o := .cells #[.int .i64 ((rd_T70 x262000_1 x10_1).f0), .int .i64 ((rd_T70 x262000_1 x10_1).f1), .int .i64 ((rd_T70 x262000_1 x10_1).f2), .int .i64 ((rd_T70 x262000_1 x10_1).f3)] 70 (0, 0)) (by (with_reducible repeat (first | refine blk_drewN ?_ _ | refine blk_drew ?_ | refine blk_alloc ?_ _)); exact BK267.out) hb)
                  have n5_ := Aside0.mk (below_step (by repeat (first | (with_reducible first | exact HB.out | apply below_alloc | apply pw_below_drewN | apply below_drew1 | refine below_set ?_ GE261.out | refine below_set ?_ GE262.out | refine below_set ?_ GE267.out) | exact HB.out)) hb)
                  clear HO_9
                  clear HO_262000
                  clear BK261
                  clear BK262
                  clear BK267
                  clear HB
                  have HO_9 := n0_
                  have HO_262000 := n1_
                  have BK261 := n2_
                  have BK262 := n3_
                  have BK267 := n4_
                  have HB := n5_
                  clear n0_ n1_ n2_ n3_ n4_ n5_
                  (try clear hb)
                  (try clear hb2)
                  (try clear hk)
                  (try clear hi)
                  refine hK.out _ _ ⟨(blk_cell BK267.out 0).trans rfl, (blk_cell BK267.out 1).trans rfl, (blk_cell BK267.out 2).trans rfl, (blk_cell BK267.out 3).trans rfl, (blk_cell BK261.out 0).trans rfl, (blk_cell BK261.out 1).trans rfl, (blk_cell BK261.out 2).trans rfl, (blk_cell BK261.out 3).trans rfl⟩ (fun hHeld => ?_)
                  clear hK K
                  refine norm_ (a' := ?_) ?_ ?_
                  rotate_left
                  · show Act.put _ (some 45) _ = _
                    simp only [Act.put, List.setIfInBounds_toArray, List.set_cons_zero, List.set_cons_succ, i64_w, i32_w]
                    rfl
                  refine pure_ (i := 18) (N := some 48) (v := ?_) (a' := ?_) #[true, true, true, true, true, true, true, true, true, true, true, true, true, true, true, true, true, true, true, false, false] rfl rfl (any_of HT_.out (by kernel_rfl)) (fun _ _ _ h => h) (Or.inl ⟨by rfl, ?_⟩) ?_ ?_
                  rotate_left
                  · intro w'
                    go_simp
                    with_reducible rfl
                  rotate_left
                  · simp only [Act.put, List.setIfInBounds_toArray, List.set_cons_zero, List.set_cons_succ, i64_w, i32_w]
                    rfl
                  refine pure_ (i := 19) (N := some 49) (v := ?_) (a' := ?_) #[true, true, true, true, true, true, true, true, true, true, true, true, true, true, true, true, true, true, true, true, false] rfl rfl (any_of HT_.out (by kernel_rfl)) (fun _ _ _ h => h) (Or.inl ⟨by rfl, ?_⟩) ?_ ?_
                  rotate_left
                  · intro w'
                    go_simp
                    with_reducible rfl
                  rotate_left
                  · simp only [Act.put, List.setIfInBounds_toArray, List.set_cons_zero, List.set_cons_succ, i64_w, i32_w]
                    rfl
                  refine pure_ (i := 20) (N := some 50) (v := ?_) (a' := ?_) #[true, true, true, true, true, true, true, true, true, true, true, true, true, true, true, true, true, true, true, true, true] rfl rfl (any_of HT_.out (by kernel_rfl)) (fun _ _ _ h => h) (Or.inl ⟨by rfl, ?_⟩) ?_ ?_
                  rotate_left
                  · intro w'
                    go_simp
                    with_reducible rfl
                  rotate_left
                  · simp only [Act.put, List.setIfInBounds_toArray, List.set_cons_zero, List.set_cons_succ, i64_w, i32_w]
                    rfl
                  refine done_ (done_of HT_.out (by kernel_rfl)) ?_
                  try go_wp2
                  go_meet
                  case rel => exact ⟨_, (decide (t269 ≥ a0_1)), (by first | rfl | (simp; done) | (simp [*]; done)), H', ⟨by have := HK1.out; first | omega | exact Nat.le_refl _⟩, ⟨by (with_reducible repeat (first | apply Kd.R_alloc | apply Kd.R_drewN | apply Kd.R_drew)); exact HO_9.out⟩, ⟨by (with_reducible repeat (first | apply Kd.R_alloc | apply Kd.R_drewN | apply Kd.R_drew)); exact HO_262000.out⟩, ⟨by (with_reducible repeat (first | refine blk_drewN ?_ _ | refine blk_drew ?_ | refine blk_alloc ?_ _)); exact BK261.out⟩, ⟨by (with_reducible repeat (first | refine blk_drewN ?_ _ | refine blk_drew ?_ | refine blk_alloc ?_ _)); exact BK262.out⟩, ⟨by (with_reducible repeat (first | refine blk_drewN ?_ _ | refine blk_drew ?_ | refine blk_alloc ?_ _)); exact BK267.out⟩, ⟨by repeat (first | (with_reducible first | exact HB.out | apply below_alloc | apply pw_below_drewN | apply below_drew1 | refine below_set ?_ GE261.out | refine below_set ?_ GE262.out | refine below_set ?_ GE267.out) | exact HB.out)⟩⟩
                · rw [if_neg c33] at H
                  have c33b0 : (((rd_T70 x262000_1 x10_1).f1) == 0) = false := beq_eq_false_iff_ne.mpr c33
                  have c33b1 : (((rd_T70 x262000_1 x10_1).f1) != 0) = true := bne_iff_ne.mpr c33
                  have H' := Aside0.mk H
                  clear H
                  try go_wp2
                  have n0_ : Aside0 (Kd.R (Kd.int .i64) 3 ((((w18.setCell ⟨gb267, 0, none⟩ (.int .i64 ((rd_T70 x262000_1 x10_1).f0))).setCell ⟨gb267, 1, none⟩ (.int .i64 ((rd_T70 x262000_1 x10_1).f1))).setCell ⟨gb267, 2, none⟩ (.int .i64 ((rd_T70 x262000_1 x10_1).f2))).setCell ⟨gb267, 3, none⟩ (.int .i64 ((rd_T70 x262000_1 x10_1).f3))) w.heap.size (fun _ => True) u9 x9_1) := ⟨by (with_reducible repeat (first | apply Kd.R_alloc | apply Kd.R_drewN | apply Kd.R_drew)); exact Kd.R_mono (Kd.R_far (p := ⟨gb267, 3, none⟩) (Kd.R_far (p := ⟨gb267, 2, none⟩) (Kd.R_far (p := ⟨gb267, 1, none⟩) (Kd.R_far (p := ⟨gb267, 0, none⟩) (Kd.R_types HO_9.out BK267.out (by decide)) (fun _ hk => hk.2) (.int .i64 ((rd_T70 x262000_1 x10_1).f0))) (fun _ hk => hk.2) (.int .i64 ((rd_T70 x262000_1 x10_1).f1))) (fun _ hk => hk.2) (.int .i64 ((rd_T70 x262000_1 x10_1).f2))) (fun _ hk => hk.2) (.int .i64 ((rd_T70 x262000_1 x10_1).f3))) (fun _ hk => trivial)⟩
                  have n1_ : Aside0 (Kd.R k70 70 ((((w18.setCell ⟨gb267, 0, none⟩ (.int .i64 ((rd_T70 x262000_1 x10_1).f0))).setCell ⟨gb267, 1, none⟩ (.int .i64 ((rd_T70 x262000_1 x10_1).f1))).setCell ⟨gb267, 2, none⟩ (.int .i64 ((rd_T70 x262000_1 x10_1).f2))).setCell ⟨gb267, 3, none⟩ (.int .i64 ((rd_T70 x262000_1 x10_1).f3))) w.heap.size (fun k_ => k_ ≠ gb267) (.slice (some ad266) x262000_1.length co17) x262000_1) := ⟨by (with_reducible repeat (first | apply Kd.R_alloc | apply Kd.R_drewN | apply Kd.R_drew)); exact Kd.R_mono (Kd.R_far (p := ⟨gb267, 3, none⟩) (Kd.R_far (p := ⟨gb267, 2, none⟩) (Kd.R_far (p := ⟨gb267, 1, none⟩) (Kd.R_far (p := ⟨gb267, 0, none⟩) (Kd.R_mono HO_262000.out (fun k_ hk => (⟨hk, hk.2⟩ : _ ∧ k_ ≠ gb267))) (fun _ hk => hk.2) (.int .i64 ((rd_T70 x262000_1 x10_1).f0))) (fun _ hk => hk.2) (.int .i64 ((rd_T70 x262000_1 x10_1).f1))) (fun _ hk => hk.2) (.int .i64 ((rd_T70 x262000_1 x10_1).f2))) (fun _ hk => hk.2) (.int .i64 ((rd_T70 x262000_1 x10_1).f3))) (fun _ hk => hk.1.2)⟩
                  have n2_ : Aside0 (((((w18.setCell ⟨gb267, 0, none⟩ (.int .i64 ((rd_T70 x262000_1 x10_1).f0))).setCell ⟨gb267, 1, none⟩ (.int .i64 ((rd_T70 x262000_1 x10_1).f1))).setCell ⟨gb267, 2, none⟩ (.int .i64 ((rd_T70 x262000_1 x10_1).f2))).setCell ⟨gb267, 3, none⟩ (.int .i64 ((rd_T70 x262000_1 x10_1).f3))).heap[gb261]? = some (.cells #[.slice (some ad266) x262000_1.length co17, .int .i64 a0_1, .int .i64 a0_2, .int .i64 a0_3] 41 (0, 0))) := ⟨by (with_reducible repeat (first | refine blk_drewN ?_ _ | refine blk_drew ?_ | refine blk_alloc ?_ _)); refine blk_far ?_ NB261_267.out _; (with_reducible repeat (first | refine blk_drewN ?_ _ | refine blk_drew ?_ | refine blk_alloc ?_ _)); refine blk_far ?_ NB261_267.out _; (with_reducible repeat (first | refine blk_drewN ?_ _ | refine blk_drew ?_ | refine blk_alloc ?_ _)); refine blk_far ?_ NB261_267.out _; (with_reducible repeat (first | refine blk_drewN ?_ _ | refine blk_drew ?_ | refine blk_alloc ?_ _)); refine blk_far ?_ NB261_267.out _; (with_reducible repeat (first | refine blk_drewN ?_ _ | refine blk_drew ?_ | refine blk_alloc ?_ _)); exact BK261.out⟩
                  have n3_ : Aside0 (((((w18.setCell ⟨gb267, 0, none⟩ (.int .i64 ((rd_T70 x262000_1 x10_1).f0))).setCell ⟨gb267, 1, none⟩ (.int .i64 ((rd_T70 x262000_1 x10_1).f1))).setCell ⟨gb267, 2, none⟩ (.int .i64 ((rd_T70 x262000_1 x10_1).f2))).setCell ⟨gb267, 3, none⟩ (.int .i64 ((rd_T70 x262000_1 x10_1).f3))).heap[gb262]? = some (.cells #[.slice none 0 0, .int .i64 0, .int .i64 0, .int .i64 0] 41 (0, 0))) := ⟨by (with_reducible repeat (first | refine blk_drewN ?_ _ | refine blk_drew ?_ | refine blk_alloc ?_ _)); refine blk_far ?_ NB262_267.out _; (with_reducible repeat (first | refine blk_drewN ?_ _ | refine blk_drew ?_ | refine blk_alloc ?_ _)); refine blk_far ?_ NB262_267.out _; (with_reducible repeat (first | refine blk_drewN ?_ _ | refine blk_drew ?_ | refine blk_alloc ?_ _)); refine blk_far ?_ NB262_267.out _; (with_reducible repeat (first | refine blk_drewN ?_ _ | refine blk_drew ?_ | refine blk_alloc ?_ _)); refine blk_far ?_ NB262_267.out _; (with_reducible repeat (first | refine blk_drewN ?_ _ | refine blk_drew ?_ | refine blk_alloc ?_ _)); exact BK262.out⟩
                  have n4_ : Aside0 (((((w18.setCell ⟨gb267, 0, none⟩ (.int .i64 ((rd_T70 x262000_1 x10_1).f0))).setCell ⟨gb267, 1, none⟩ (.int .i64 ((rd_T70 x262000_1 x10_1).f1))).setCell ⟨gb267, 2, none⟩ (.int .i64 ((rd_T70 x262000_1 x10_1).f2))).setCell ⟨gb267, 3, none⟩ (.int .i64 ((rd_T70 x262000_1 x10_1).f3))).heap[gb267]? = some (.cells #[.int .i64 ((rd_T70 x262000_1 x10_1).f0), .int .i64 ((rd_T70 x262000_1 x10_1).f1), .int .i64 ((rd_T70 x262000_1 x10_1).f2), .int .i64 ((rd_T70 x262000_1 x10_1).f3)] 70 (0, 0))) := ⟨by (with_reducible repeat (first | refine blk_drewN ?_ _ | refine blk_drew ?_ | refine blk_alloc ?_ _)); refine blk_put (cs := #[.int .i64 ((rd_T70 x262000_1 x10_1).f0), .int .i64 ((rd_T70 x262000_1 x10_1).f1), .int .i64 ((rd_T70 x262000_1 x10_1).f2), .int .i64 0]) ?_ 3 _ rfl; (with_reducible repeat (first | refine blk_drewN ?_ _ | refine blk_drew ?_ | refine blk_alloc ?_ _)); refine blk_put (cs := #[.int .i64 ((rd_T70 x262000_1 x10_1).f0), .int .i64 ((rd_T70 x262000_1 x10_1).f1), .int .i64 0, .int .i64 0]) ?_ 2 _ rfl; (with_reducible repeat (first | refine blk_drewN ?_ _ | refine blk_drew ?_ | refine blk_alloc ?_ _)); refine blk_put (cs := #[.int .i64 ((rd_T70 x262000_1 x10_1).f0), .int .i64 0, .int .i64 0, .int .i64 0]) ?_ 1 _ rfl; (with_reducible repeat (first | refine blk_drewN ?_ _ | refine blk_drew ?_ | refine blk_alloc ?_ _)); refine blk_put (cs := #[.int .i64 0, .int .i64 0, .int .i64 0, .int .i64 0]) ?_ 0 _ rfl; (with_reducible repeat (first | refine blk_drewN ?_ _ | refine blk_drew ?_ | refine blk_alloc ?_ _)); exact BK267.out⟩
                  have n5_ : Aside0 (Below w.heap.size w ((((w18.setCell ⟨gb267, 0, none⟩ (.int .i64 ((rd_T70 x262000_1 x10_1).f0))).setCell ⟨gb267, 1, none⟩ (.int .i64 ((rd_T70 x262000_1 x10_1).f1))).setCell ⟨gb267, 2, none⟩ (.int .i64 ((rd_T70 x262000_1 x10_1).f2))).setCell ⟨gb267, 3, none⟩ (.int .i64 ((rd_T70 x262000_1 x10_1).f3)))) := ⟨by repeat (first | (with_reducible first | exact HB.out | apply below_alloc | apply pw_below_drewN | apply below_drew1 | refine below_set ?_ GE261.out | refine below_set ?_ GE262.out | refine below_set ?_ GE267.out) | exact HB.out)⟩
                  (try clear HO_9)
                  (try clear HO_262000)
                  (try clear BK261)
                  (try clear BK262)
                  (try clear BK267)
                  (try clear HB)
                  generalize ((((w18.setCell ⟨gb267, 0, none⟩ (.int .i64 ((rd_T70 x262000_1 x10_1).f0))).setCell ⟨gb267, 1, none⟩ (.int .i64 ((rd_T70 x262000_1 x10_1).f1))).setCell ⟨gb267, 2, none⟩ (.int .i64 ((rd_T70 x262000_1 x10_1).f2))).setCell ⟨gb267, 3, none⟩ (.int .i64 ((rd_T70 x262000_1 x10_1).f3))) = w38 at n0_ n1_ n2_ n3_ n4_ n5_ ⊢
                  have HO_9 := n0_
                  have HO_262000 := n1_
                  have BK261 := n2_
                  have BK262 := n3_
                  have BK267 := n4_
                  have HB := n5_
                  clear n0_ n1_ n2_ n3_ n4_ n5_
                  have n0_ := Aside0.mk (Kd.R_drew HO_9.out)
                  have n1_ := Aside0.mk (Kd.R_drew HO_262000.out)
                  have n2_ := Aside0.mk (blk_drew BK261.out)
                  have n3_ := Aside0.mk (blk_drew BK262.out)
                  have n4_ := Aside0.mk (blk_drew BK267.out)
                  have n5_ := Aside0.mk (below_drew1 HB.out)
                  clear HO_9
                  clear HO_262000
                  clear BK261
                  clear BK262
                  clear BK267
                  clear HB
                  have HO_9 := n0_
                  have HO_262000 := n1_
                  have BK261 := n2_
                  have BK262 := n3_
                  have BK267 := n4_
                  have HB := n5_
                  clear n0_ n1_ n2_ n3_ n4_ n5_
                  refine start_ (n := 21) (S := fun w' => w'.cell? ⟨gb267, 0, none⟩ = some (.int .i64 ((rd_T70 x262000_1 x10_1).f0)) ∧ w'.cell? ⟨gb267, 1, none⟩ = some (.int .i64 ((rd_T70 x262000_1 x10_1).f1)) ∧ w'.cell? ⟨gb267, 2, none⟩ = some (.int .i64 ((rd_T70 x262000_1 x10_1).f2)) ∧ w'.cell? ⟨gb267, 3, none⟩ = some (.int .i64 ((rd_T70 x262000_1 x10_1).f3))) (ds := []) #[false, false, false, false, false, false, false, false, false, false, false, false, false, false, false, false, false, false, false, false, false] (by kernel_rfl) rfl rfl ⟨(blk_cell BK267.out 0).trans rfl, (blk_cell BK267.out 1).trans rfl, (blk_cell BK267.out 2).trans rfl, (blk_cell BK267.out 3).trans rfl⟩ (fun hHeld => ?_); refine with_tabW telemeterref17_Due.tab9 telemeterref17_Due.bits9 (fun HT_ HW_ => ?_)
                  generalize w38.drew = w39 at HO_9 HO_262000 BK261 BK262 BK267 HB hHeld ⊢
                  refine pure_ (i := 0) (N := some 30) (v := ?_) (a' := ?_) #[true, false, false, false, false, false, false, false, false, false, false, false, false, false, false, false, false, false, false, false, false] rfl rfl (any_of HT_.out (by kernel_rfl)) (fun _ _ _ h => h) (Or.inl ⟨by rfl, ?_⟩) ?_ ?_
                  rotate_left
                  · intro w'
                    go_simp
                    with_reducible rfl
                  rotate_left
                  · simp only [Act.put, List.setIfInBounds_toArray, List.set_cons_zero, List.set_cons_succ, i64_w, i32_w]
                    rfl
                  refine take_ (i := 1) (N := some 31) (v := ?_) (a' := ?_) #[true, true, false, false, false, false, false, false, false, false, false, false, false, false, false, false, false, false, false, false, false] rfl rfl (take_ofW HT_.out HW_.out (by kernel_rfl)) (fun _ _ _ h => h) (Or.inl ⟨by rfl, ?_⟩) hHeld ?_ ?_
                  rotate_left
                  · rintro w' ⟨s0, s1, s2, s3⟩
                    go_simp
                    with_reducible rfl
                  rotate_left
                  · simp only [Act.put, List.setIfInBounds_toArray, List.set_cons_zero, List.set_cons_succ, i64_w, i32_w]
                    rfl
                  refine pure_ (i := 2) (N := some 32) (v := ?_) (a' := ?_) #[true, true, true, false, false, false, false, false, false, false, false, false, false, false, false, false, false, false, false, false, false] rfl rfl (any_of HT_.out (by kernel_rfl)) (fun _ _ _ h => h) (Or.inl ⟨by rfl, ?_⟩) ?_ ?_
                  rotate_left
                  · intro w'
                    go_simp
                    with_reducible rfl
                  rotate_left
                  · simp only [Act.put, List.setIfInBounds_toArray, List.set_cons_zero, List.set_cons_succ, i64_w, i32_w]
                    rfl
                  refine pure_ (i := 3) (N := some 33) (v := ?_) (a' := ?_) #[true, true, true, true, false, false, false, false, false, false, false, false, false, false, false, false, false, false, false, false, false] rfl rfl (any_of HT_.out (by kernel_rfl)) (fun _ _ _ h => h) (Or.inl ⟨by rfl, ?_⟩) ?_ ?_
                  rotate_left
                  · intro w'
                    go_simp
                    with_reducible rfl
                  rotate_left
                  · simp only [Act.put, List.setIfInBounds_toArray, List.set_cons_zero, List.set_cons_succ, i64_w, i32_w]
                    rfl
                  refine pure_ (i := 4) (N := some 34) (v := undef) (a' := ?_) #[true, true, true, true, true, false, false, false, false, false, false, false, false, false, false, false, false, false, false, false, false] rfl rfl (any_of HT_.out (by kernel_rfl)) (fun _ _ _ h => h) (Or.inr ⟨by rfl, rfl⟩) ?_ ?_
                  rotate_left
                  · simp only [Act.put, List.setIfInBounds_toArray, List.set_cons_zero, List.set_cons_succ, i64_w, i32_w]
                    rfl
                  refine pure_ (i := 5) (N := some 35) (v := undef) (a' := ?_) #[true, true, true, true, true, true, false, false, false, false, false, false, false, false, false, false, false, false, false, false, false] rfl rfl (any_of HT_.out (by kernel_rfl)) (fun _ _ _ h => h) (Or.inr ⟨by rfl, rfl⟩) ?_ ?_
                  rotate_left
                  · simp only [Act.put, List.setIfInBounds_toArray, List.set_cons_zero, List.set_cons_succ, i64_w, i32_w]
                    rfl
                  refine pure_ (i := 6) (N := some 36) (v := undef) (a' := ?_) #[true, true, true, true, true, true, true, false, false, false, false, false, false, false, false, false, false, false, false, false, false] rfl rfl (any_of HT_.out (by kernel_rfl)) (fun _ _ _ h => h) (Or.inr ⟨by rfl, rfl⟩) ?_ ?_
                  rotate_left
                  · simp only [Act.put, List.setIfInBounds_toArray, List.set_cons_zero, List.set_cons_succ, i64_w, i32_w]
                    rfl
                  refine pure_ (i := 7) (N := some 37) (v := undef) (a' := ?_) #[true, true, true, true, true, true, true, true, false, false, false, false, false, false, false, false, false, false, false, false, false] rfl rfl (any_of HT_.out (by kernel_rfl)) (fun _ _ _ h => h) (Or.inr ⟨by rfl, rfl⟩) ?_ ?_
                  rotate_left
                  · simp only [Act.put, List.setIfInBounds_toArray, List.set_cons_zero, List.set_cons_succ, i64_w, i32_w]
                    rfl
                  refine pure_ (i := 8) (N := some 38) (v := ?_) (a' := ?_) #[true, true, true, true, true, true, true, true, true, false, false, false, false, false, false, false, false, false, false, false, false] rfl rfl (any_of HT_.out (by kernel_rfl)) (fun _ _ _ h => h) (Or.inl ⟨by rfl, ?_⟩) ?_ ?_
                  rotate_left
                  · intro w'
                    go_simp
                    with_reducible rfl
                  rotate_left
                  · simp only [Act.put, List.setIfInBounds_toArray, List.set_cons_zero, List.set_cons_succ, i64_w, i32_w]
                    rfl
                  refine pure_ (i := 9) (N := some 39) (v := ?_) (a' := ?_) #[true, true, true, true, true, true, true, true, true, true, false, false, false, false, false, false, false, false, false, false, false] rfl rfl (any_of HT_.out (by kernel_rfl)) (fun _ _ _ h => h) (Or.inl ⟨by rfl, ?_⟩) ?_ ?_
                  rotate_left
                  · intro w'
                    go_simp
                    with_reducible rfl
                  rotate_left
                  · simp only [Act.put, List.setIfInBounds_toArray, List.set_cons_zero, List.set_cons_succ, i64_w, i32_w]
                    rfl
                  refine pure_ (i := 10) (N := some 40) (v := ?_) (a' := ?_) #[true, true, true, true, true, true, true, true, true, true, true, false, false, false, false, false, false, false, false, false, false] rfl rfl (any_of HT_.out (by kernel_rfl)) (fun _ _ _ h => h) (Or.inl ⟨by rfl, ?_⟩) ?_ ?_
                  rotate_left
                  · intro w'
                    go_simp
                    with_reducible rfl
                  rotate_left
                  · simp only [Act.put, List.setIfInBounds_toArray, List.set_cons_zero, List.set_cons_succ, i64_w, i32_w]
                    rfl
                  refine take_ (i := 11) (N := some 41) (v := ?_) (a' := ?_) #[true, true, true, true, true, true, true, true, true, true, true, true, false, false, false, false, false, false, false, false, false] rfl rfl (take_ofW HT_.out HW_.out (by kernel_rfl)) (fun _ _ _ h => h) (Or.inl ⟨by rfl, ?_⟩) hHeld ?_ ?_
                  rotate_left
                  · rintro w' ⟨s0, s1, s2, s3⟩
                    go_simp
                    with_reducible rfl
                  rotate_left
                  · simp only [Act.put, List.setIfInBounds_toArray, List.set_cons_zero, List.set_cons_succ, i64_w, i32_w]
                    rfl
                  refine pure_ (i := 12) (N := some 42) (v := ?_) (a' := ?_) #[true, true, true, true, true, true, true, true, true, true, true, true, true, false, false, false, false, false, false, false, false] rfl rfl (any_of HT_.out (by kernel_rfl)) (fun _ _ _ h => h) (Or.inl ⟨by rfl, ?_⟩) ?_ ?_
                  rotate_left
                  · intro w'
                    go_simp
                    with_reducible rfl
                  rotate_left
                  · simp only [Act.put, List.setIfInBounds_toArray, List.set_cons_zero, List.set_cons_succ, i64_w, i32_w]
                    rfl
                  refine pure_ (i := 13) (N := some 43) (v := ?_) (a' := ?_) #[true, true, true, true, true, true, true, true, true, true, true, true, true, true, false, false, false, false, false, false, false] rfl rfl (any_of HT_.out (by kernel_rfl)) (fun _ _ _ h => h) (Or.inl ⟨by rfl, ?_⟩) ?_ ?_
                  rotate_left
                  · intro w'
                    go_simp
                    with_reducible rfl
                  rotate_left
                  · simp only [Act.put, List.setIfInBounds_toArray, List.set_cons_zero, List.set_cons_succ, i64_w, i32_w]
                    rfl
                  refine pure_ (i := 14) (N := some 44) (v := undef) (a' := ?_) #[true, true, true, true, true, true, true, true, true, true, true, true, true, true, true, false, false, false, false, false, false] rfl rfl (any_of HT_.out (by kernel_rfl)) (fun _ _ _ h => h) (Or.inr ⟨by rfl, rfl⟩) ?_ ?_
                  rotate_left
                  · simp only [Act.put, List.setIfInBounds_toArray, List.set_cons_zero, List.set_cons_succ, i64_w, i32_w]
                    rfl
                  refine pure_ (i := 15) (N := some 45) (v := undef) (a' := ?_) #[true, true, true, true, true, true, true, true, true, true, true, true, true, true, true, true, false, false, false, false, false] rfl rfl (any_of HT_.out (by kernel_rfl)) (fun _ _ _ h => h) (Or.inr ⟨by rfl, rfl⟩) ?_ ?_
                  rotate_left
                  · simp only [Act.put, List.setIfInBounds_toArray, List.set_cons_zero, List.set_cons_succ, i64_w, i32_w]
                    rfl
                  refine pure_ (i := 16) (N := some 46) (v := undef) (a' := ?_) #[true, true, true, true, true, true, true, true, true, true, true, true, true, true, true, true, true, false, false, false, false] rfl rfl (any_of HT_.out (by kernel_rfl)) (fun _ _ _ h => h) (Or.inr ⟨by rfl, rfl⟩) ?_ ?_
                  rotate_left
                  · simp only [Act.put, List.setIfInBounds_toArray, List.set_cons_zero, List.set_cons_succ, i64_w, i32_w]
                    rfl
                  refine pure_ (i := 17) (N := some 47) (v := undef) (a' := ?_) #[true, true, true, true, true, true, true, true, true, true, true, true, true, true, true, true, true, true, false, false, false] rfl rfl (any_of HT_.out (by kernel_rfl)) (fun _ _ _ h => h) (Or.inr ⟨by rfl, rfl⟩) ?_ ?_
                  rotate_left
                  · simp only [Act.put, List.setIfInBounds_toArray, List.set_cons_zero, List.set_cons_succ, i64_w, i32_w]
                    rfl
                  refine pure_ (i := 18) (N := some 48) (v := undef) (a' := ?_) #[true, true, true, true, true, true, true, true, true, true, true, true, true, true, true, true, true, true, true, false, false] rfl rfl (any_of HT_.out (by kernel_rfl)) (fun _ _ _ h => h) (Or.inr ⟨by rfl, rfl⟩) ?_ ?_
                  rotate_left
                  · simp only [Act.put, List.setIfInBounds_toArray, List.set_cons_zero, List.set_cons_succ, i64_w, i32_w]
                    rfl
                  refine pure_ (i := 19) (N := some 49) (v := ?_) (a' := ?_) #[true, true, true, true, true, true, true, true, true, true, true, true, true, true, true, true, true, true, true, true, false] rfl rfl (any_of HT_.out (by kernel_rfl)) (fun _ _ _ h => h) (Or.inl ⟨by rfl, ?_⟩) ?_ ?_
                  rotate_left
                  · intro w'
                    go_simp
                    with_reducible rfl
                  rotate_left
                  · simp only [Act.put, List.setIfInBounds_toArray, List.set_cons_zero, List.set_cons_succ, i64_w, i32_w]
                    rfl
                  refine pure_ (i := 20) (N := some 50) (v := ?_) (a' := ?_) #[true, true, true, true, true, true, true, true, true, true, true, true, true, true, true, true, true, true, true, true, true] rfl rfl (any_of HT_.out (by kernel_rfl)) (fun _ _ _ h => h) (Or.inl ⟨by rfl, ?_⟩) ?_ ?_
                  rotate_left
                  · intro w'
                    go_simp
                    with_reducible rfl
                  rotate_left
                  · simp only [Act.put, List.setIfInBounds_toArray, List.set_cons_zero, List.set_cons_succ, i64_w, i32_w]
                    rfl
                  refine done_ (done_of HT_.out (by kernel_rfl)) ?_
                  try go_wp2
                  go_meet
                  case rel => exact ⟨_, (false), (by first | rfl | (simp; done) | (simp [*]; done)), H', ⟨by have := HK1.out; first | omega | exact Nat.le_refl _⟩, ⟨by (with_reducible repeat (first | apply Kd.R_alloc | apply Kd.R_drewN | apply Kd.R_drew)); exact HO_9.out⟩, ⟨by (with_reducible repeat (first | apply Kd.R_alloc | apply Kd.R_drewN | apply Kd.R_drew)); exact HO_262000.out⟩, ⟨by (with_reducible repeat (first | refine blk_drewN ?_ _ | refine blk_drew ?_ | refine blk_alloc ?_ _)); exact BK261.out⟩, ⟨by (with_reducible repeat (first | refine blk_drewN ?_ _ | refine blk_drew ?_ | refine blk_alloc ?_ _)); exact BK262.out⟩, ⟨by (with_reducible repeat (first | refine blk_drewN ?_ _ | refine blk_drew ?_ | refine blk_alloc ?_ _)); exact BK267.out⟩, ⟨by repeat (first | (with_reducible first | exact HB.out | apply below_alloc | apply pw_below_drewN | apply below_drew1 | refine below_set ?_ GE261.out | refine below_set ?_ GE262.out | refine below_set ?_ GE267.out) | exact HB.out)⟩⟩
            case rest =>
              clear HC14
              try clear c2
              try clear p2
              try clear c3
              try clear c22
              try clear c22b0
              try clear c22b1
              try clear c24
              try clear c33
              try clear c33b0
              try clear c33b1
              obtain ⟨kq, x50_13, rfl, HA, HJ13, HO_9, HO_262000, BK261, BK262, BK267, HB⟩ := hcut
              cases kq with
              | zero => exact absurd HA.out (by simp [telemeterref17_Due.j1])
              | succ kj13 =>
                have H := HA.out
                clear HA
                simp only [telemeterref17_Due.j1] at H
                by_cases c40 : x50_13 = true
                · subst c40
                  have H1 : (telemeterref17_Due.l0 kj13 a1 a2 x9_1 (wrap64 (x10_1 + 1)) x262000_1 a0_1 a0_2 a0_3) = some (r1, r2, r3, r4, r5) := by rw [if_pos rfl] at H; exact H
                  clear H
                  have H := H1
                  clear H1
                  have H' := Aside0.mk H
                  clear H
                  go_wp2
                  go_roundg kj13
                  case measure => have := HK1.out; have := HJ13.out; omega
                  case rel => exact ⟨(x9_1), (wrap64 (x10_1 + 1)), (x262000_1), (.slice (some ad266) x262000_1.length co17), (by first | rfl | (simp; done) | (simp [*]; done)), H', ⟨by have := HK1.out; have := HJ13.out; omega⟩, ⟨by (with_reducible repeat (first | apply Kd.R_alloc | apply Kd.R_drewN | apply Kd.R_drew)); exact HO_9.out⟩, ⟨by (with_reducible repeat (first | apply Kd.R_alloc | apply Kd.R_drewN | apply Kd.R_drew)); exact Kd.R_mono HO_262000.out (fun _ hk => trivial)⟩, ⟨by (with_reducible repeat (first | refine blk_drewN ?_ _ | refine blk_drew ?_ | refine blk_alloc ?_ _)); exact BK261.out⟩, ⟨by (with_reducible repeat (first | refine blk_drewN ?_ _ | refine blk_drew ?_ | refine blk_alloc ?_ _)); exact BK262.out⟩, ⟨by repeat (first | (with_reducible first | exact HB.out | apply below_alloc | apply pw_below_drewN | apply below_drew1 | refine below_set ?_ GE261.out | refine below_set ?_ GE262.out | refine below_set ?_ GE267.out) | exact HB.out)⟩⟩
                · replace c40 := Bool.eq_false_iff.mpr c40
                  subst c40
                  have H1 : ((telemeterref06_Mix.f (IntKind.u64.wrap (a2 + (IntKind.u64.wrap (((rd_T70 x262000_1 x10_1).f0)))))).bind fun t270 => ((telemeterref17_Delay.f kj13 a0_2 a0_3 (wrap64 (((rd_T70 x262000_1 x10_1).f2) + 1)) t270).bind fun t271 => (if 0 ≤ x10_1 then (if x10_1 < (x262000_1.length : Int) then (if x9_1.length < 17592186044416 then (telemeterref17_Due.l0 kj13 a1 a2 (x9_1 ++ [((rd_T70 x262000_1 x10_1).f0)]) (wrap64 (x10_1 + 1)) (x262000_1.set (x10_1 : Int).toNat (⟨((rd_T70 x262000_1 x10_1).f0), 1, wrap64 (((rd_T70 x262000_1 x10_1).f2) + 1), wrap64 (a1 + t271)⟩ : S70)) a0_1 a0_2 a0_3) else (none)) else (none)) else (none)))) = some (r1, r2, r3, r4, r5) := by rw [if_neg (show ¬ (false = true) by decide)] at H; exact H
                  clear H
                  have H := H1
                  clear H1
                  replace H := Option.bind_eq_some_iff.mp H
                  obtain ⟨t270, A410, H⟩ := H
                  replace H : ((telemeterref17_Delay.f kj13 a0_2 a0_3 (wrap64 (((rd_T70 x262000_1 x10_1).f2) + 1)) t270).bind fun t271 => (if 0 ≤ x10_1 then (if x10_1 < (x262000_1.length : Int) then (if x9_1.length < 17592186044416 then (telemeterref17_Due.l0 kj13 a1 a2 (x9_1 ++ [((rd_T70 x262000_1 x10_1).f0)]) (wrap64 (x10_1 + 1)) (x262000_1.set (x10_1 : Int).toNat (⟨((rd_T70 x262000_1 x10_1).f0), 1, wrap64 (((rd_T70 x262000_1 x10_1).f2) + 1), wrap64 (a1 + t271)⟩ : S70)) a0_1 a0_2 a0_3) else (none)) else (none)) else (none))) = some (r1, r2, r3, r4, r5) := H
                  have A41 := Aside0.mk A410
                  clear A410
                  replace H := Option.bind_eq_some_iff.mp H
                  obtain ⟨t271, A420, H⟩ := H
                  replace H : (if 0 ≤ x10_1 then (if x10_1 < (x262000_1.length : Int) then (if x9_1.length < 17592186044416 then (telemeterref17_Due.l0 kj13 a1 a2 (x9_1 ++ [((rd_T70 x262000_1 x10_1).f0)]) (wrap64 (x10_1 + 1)) (x262000_1.set (x10_1 : Int).toNat (⟨((rd_T70 x262000_1 x10_1).f0), 1, wrap64 (((rd_T70 x262000_1 x10_1).f2) + 1), wrap64 (a1 + t271)⟩ : S70)) a0_1 a0_2 a0_3) else (none)) else (none)) else (none)) = some (r1, r2, r3, r4, r5) := H
                  have A42 := Aside0.mk A420
                  clear A420
                  by_cases c43 : 0 ≤ x10_1
                  · rw [if_pos c43] at H
                    have c43b0 : decide (0 ≤ x10_1) = true := decide_eq_true c43
                    clear c43
                    by_cases c44 : x10_1 < (x262000_1.length : Int)
                    · rw [if_pos c44] at H
                      have c44b0 : decide (x10_1 < (x262000_1.length : Int)) = true := decide_eq_true c44
                      clear c44
                      obtain ⟨y272, hy272⟩ : ∃ y_ : List (S70), y_ = (x262000_1.set (x10_1 : Int).toNat (⟨((rd_T70 x262000_1 x10_1).f0), 1, wrap64 (((rd_T70 x262000_1 x10_1).f2) + 1), wrap64 (a1 + t271)⟩ : S70)) := ⟨_, rfl⟩
                      replace H : (if x9_1.length < 17592186044416 then (telemeterref17_Due.l0 kj13 a1 a2 (x9_1 ++ [((rd_T70 x262000_1 x10_1).f0)]) (wrap64 (x10_1 + 1)) y272 a0_1 a0_2 a0_3) else (none)) = some (r1, r2, r3, r4, r5) := by first | (rw [hy272]; with_reducible exact H) | (have H2_ := (Option.bind_some _ _).symm.trans H; rw [hy272]; with_reducible exact H2_) | (have H2_ := (Option.bind_some _ _).symm.trans H; with_reducible exact H2_) | with_reducible exact H | (rw [hy272]; exact H) | exact H
                      have Ny272 := Aside0.mk hy272
                      clear hy272
                      by_cases c46 : x9_1.length < 17592186044416
                      · rw [if_pos c46] at H
                        have LMc46 := Aside0.mk c46
                        clear c46
                        obtain ⟨y273, hy273⟩ : ∃ y_ : List Int, y_ = (x9_1 ++ [((rd_T70 x262000_1 x10_1).f0)]) := ⟨_, rfl⟩
                        replace H : (telemeterref17_Due.l0 kj13 a1 a2 y273 (wrap64 (x10_1 + 1)) y272 a0_1 a0_2 a0_3) = some (r1, r2, r3, r4, r5) := by first | (rw [hy273]; with_reducible exact H) | (have H2_ := (Option.bind_some _ _).symm.trans H; rw [hy273]; with_reducible exact H2_) | (have H2_ := (Option.bind_some _ _).symm.trans H; with_reducible exact H2_) | with_reducible exact H | (rw [hy273]; exact H) | exact H
                        have Ny273 := Aside0.mk hy273
                        clear hy273
                        have H' := Aside0.mk H
                        clear H
                        have hnb47 := NB267_261.out
                        have hnc47 := NB261_267.out
                        have hnb48 := NB267_262.out
                        have hnc48 := NB262_267.out
                        have hcz49_0 : wc.cell? ⟨gb267, 0, none⟩ = some (.int .i64 ((rd_T70 x262000_1 x10_1).f0)) := (blk_cell BK267.out 0).trans rfl
                        have hcz49_1 : wc.cell? ⟨gb267, 1, none⟩ = some (.int .i64 ((rd_T70 x262000_1 x10_1).f1)) := (blk_cell BK267.out 1).trans rfl
                        have hcz49_2 : wc.cell? ⟨gb267, 2, none⟩ = some (.int .i64 ((rd_T70 x262000_1 x10_1).f2)) := (blk_cell BK267.out 2).trans rfl
                        have hcz49_3 : wc.cell? ⟨gb267, 3, none⟩ = some (.int .i64 ((rd_T70 x262000_1 x10_1).f3)) := (blk_cell BK267.out 3).trans rfl
                        have hfz49_0 := blk_frozen BK267.out 0
                        have hfz49_1 := blk_frozen BK267.out 1
                        have hfz49_2 := blk_frozen BK267.out 2
                        have hfz49_3 := blk_frozen BK267.out 3
                        try go_wp2
                        have n0_ : Aside0 (Kd.R (Kd.int .i64) 3 ((wc.setCell ⟨gb267, 1, none⟩ (.int .i64 1)).setCell ⟨gb267, 2, none⟩ (.int .i64 (wrap64 (((rd_T70 x262000_1 x10_1).f2) + 1)))) w.heap.size (fun _ => True) u9 x9_1) := ⟨by (with_reducible repeat (first | apply Kd.R_alloc | apply Kd.R_drewN | apply Kd.R_drew)); exact Kd.R_mono (Kd.R_far (p := ⟨gb267, 2, none⟩) (Kd.R_far (p := ⟨gb267, 1, none⟩) (Kd.R_types HO_9.out BK267.out (by decide)) (fun _ hk => hk.2) (.int .i64 1)) (fun _ hk => hk.2) (.int .i64 (wrap64 (((rd_T70 x262000_1 x10_1).f2) + 1)))) (fun _ hk => trivial)⟩
                        have n1_ : Aside0 (Kd.R k70 70 ((wc.setCell ⟨gb267, 1, none⟩ (.int .i64 1)).setCell ⟨gb267, 2, none⟩ (.int .i64 (wrap64 (((rd_T70 x262000_1 x10_1).f2) + 1)))) w.heap.size (fun k_ => k_ ≠ gb267) (.slice (some ad266) x262000_1.length co17) x262000_1) := ⟨by (with_reducible repeat (first | apply Kd.R_alloc | apply Kd.R_drewN | apply Kd.R_drew)); exact Kd.R_mono (Kd.R_far (p := ⟨gb267, 2, none⟩) (Kd.R_far (p := ⟨gb267, 1, none⟩) (Kd.R_mono HO_262000.out (fun k_ hk => (⟨hk, hk⟩ : _ ∧ k_ ≠ gb267))) (fun _ hk => hk.2) (.int .i64 1)) (fun _ hk => hk.2) (.int .i64 (wrap64 (((rd_T70 x262000_1 x10_1).f2) + 1)))) (fun _ hk => hk.1)⟩
                        have n2_ : Aside0 (((wc.setCell ⟨gb267, 1, none⟩ (.int .i64 1)).setCell ⟨gb267, 2, none⟩ (.int .i64 (wrap64 (((rd_T70 x262000_1 x10_1).f2) + 1)))).heap[gb261]? = some (.cells #[.slice (some ad266) x262000_1.length co17, .int .i64 a0_1, .int .i64 a0_2, .int .i64 a0_3] 41 (0, 0))) := ⟨by (with_reducible repeat (first | refine blk_drewN ?_ _ | refine blk_drew ?_ | refine blk_alloc ?_ _)); refine blk_far ?_ NB261_267.out _; (with_reducible repeat (first | refine blk_drewN ?_ _ | refine blk_drew ?_ | refine blk_alloc ?_ _)); refine blk_far ?_ NB261_267.out _; (with_reducible repeat (first | refine blk_drewN ?_ _ | refine blk_drew ?_ | refine blk_alloc ?_ _)); exact BK261.out⟩
                        have n3_ : Aside0 (((wc.setCell ⟨gb267, 1, none⟩ (.int .i64 1)).setCell ⟨gb267, 2, none⟩ (.int .i64 (wrap64 (((rd_T70 x262000_1 x10_1).f2) + 1)))).heap[gb262]? = some (.cells #[.slice none 0 0, .int .i64 0, .int .i64 0, .int .i64 0] 41 (0, 0))) := ⟨by (with_reducible repeat (first | refine blk_drewN ?_ _ | refine blk_drew ?_ | refine blk_alloc ?_ _)); refine blk_far ?_ NB262_267.out _; (with_reducible repeat (first | refine blk_drewN ?_ _ | refine blk_drew ?_ | refine blk_alloc ?_ _)); refine blk_far ?_ NB262_267.out _; (with_reducible repeat (first | refine blk_drewN ?_ _ | refine blk_drew ?_ | refine blk_alloc ?_ _)); exact BK262.out⟩
                        have n4_ : Aside0 (((wc.setCell ⟨gb267, 1, none⟩ (.int .i64 1)).setCell ⟨gb267, 2, none⟩ (.int .i64 (wrap64 (((rd_T70 x262000_1 x10_1).f2) + 1)))).heap[gb267]? = some (.cells #[.int .i64 ((rd_T70 x262000_1 x10_1).f0), .int .i64 1, .int .i64 (wrap64 (((rd_T70 x262000_1 x10_1).f2) + 1)), .int .i64 ((rd_T70 x262000_1 x10_1).f3)] 70 (0, 0))) := ⟨by (with_reducible repeat (first | refine blk_drewN ?_ _ | refine blk_drew ?_ | refine blk_alloc ?_ _)); refine blk_put (cs := #[.int .i64 ((rd_T70 x262000_1 x10_1).f0), .int .i64 1, .int .i64 ((rd_T70 x262000_1 x10_1).f2), .int .i64 ((rd_T70 x262000_1 x10_1).f3)]) ?_ 2 _ rfl; (with_reducible repeat (first | refine blk_drewN ?_ _ | refine blk_drew ?_ | refine blk_alloc ?_ _)); refine blk_put (cs := #[.int .i64 ((rd_T70 x262000_1 x10_1).f0), .int .i64 ((rd_T70 x262000_1 x10_1).f1), .int .i64 ((rd_T70 x262000_1 x10_1).f2), .int .i64 ((rd_T70 x262000_1 x10_1).f3)]) ?_ 1 _ rfl; (with_reducible repeat (first | refine blk_drewN ?_ _ | refine blk_drew ?_ | refine blk_alloc ?_ _)); exact BK267.out⟩
                        have n5_ : Aside0 (Below w.heap.size w ((wc.setCell ⟨gb267, 1, none⟩ (.int .i64 1)).setCell ⟨gb267, 2, none⟩ (.int .i64 (wrap64 (((rd_T70 x262000_1 x10_1).f2) + 1))))) := ⟨by repeat (first | (with_reducible first | exact HB.out | apply below_alloc | apply pw_below_drewN | apply below_drew1 | refine below_set ?_ GE261.out | refine below_set ?_ GE262.out | refine below_set ?_ GE267.out) | exact HB.out)⟩
                        (try clear HO_9)
                        (try clear HO_262000)
                        (try clear BK261)
                        (try clear BK262)
                        (try clear BK267)
                        (try clear HB)
                        generalize ((wc.setCell ⟨gb267, 1, none⟩ (.int .i64 1)).setCell ⟨gb267, 2, none⟩ (.int .i64 (wrap64 (((rd_T70 x262000_1 x10_1).f2) + 1)))) = w50 at n0_ n1_ n2_ n3_ n4_ n5_ ⊢
                        have HO_9 := n0_
                        have HO_262000 := n1_
                        have BK261 := n2_
                        have BK262 := n3_
                        have BK267 := n4_
                        have HB := n5_
                        clear n0_ n1_ n2_ n3_ n4_ n5_
                        have n0_ := Aside0.mk (Kd.R_drew HO_9.out)
                        have n1_ := Aside0.mk (Kd.R_drew HO_262000.out)
                        have n2_ := Aside0.mk (blk_drew BK261.out)
                        have n3_ := Aside0.mk (blk_drew BK262.out)
                        have n4_ := Aside0.mk (blk_drew BK267.out)
                        have n5_ := Aside0.mk (below_drew1 HB.out)
                        clear HO_9
                        clear HO_262000
                        clear BK261
                        clear BK262
                        clear BK267
                        clear HB
                        have HO_9 := n0_
                        have HO_262000 := n1_
                        have BK261 := n2_
                        have BK262 := n3_
                        have BK267 := n4_
                        have HB := n5_
                        clear n0_ n1_ n2_ n3_ n4_ n5_
                        refine start_ (n := 17) (S := fun w' => w'.cell? ⟨gb261, 0, none⟩ = some (.slice (some ad266) x262000_1.length co17) ∧ w'.cell? ⟨gb261, 1, none⟩ = some (.int .i64 a0_1) ∧ w'.cell? ⟨gb261, 2, none⟩ = some (.int .i64 a0_2) ∧ w'.cell? ⟨gb261, 3, none⟩ = some (.int .i64 a0_3) ∧ w'.cell? ⟨gb267, 0, none⟩ = some (.int .i64 ((rd_T70 x262000_1 x10_1).f0)) ∧ w'.cell? ⟨gb267, 1, none⟩ = some (.int .i64 1) ∧ w'.cell? ⟨gb267, 2, none⟩ = some (.int .i64 (wrap64 (((rd_T70 x262000_1 x10_1).f2) + 1))) ∧ w'.cell? ⟨gb267, 3, none⟩ = some (.int .i64 ((rd_T70 x262000_1 x10_1).f3))) (ds := [16]) #[false, false, false, false, false, false, false, false, false, false, false, false, false, false, false, false, false] (by kernel_rfl) rfl rfl ⟨(blk_cell BK261.out 0).trans rfl, (blk_cell BK261.out 1).trans rfl, (blk_cell BK261.out 2).trans rfl, (blk_cell BK261.out 3).trans rfl, (blk_cell BK267.out 0).trans rfl, (blk_cell BK267.out 1).trans rfl, (blk_cell BK267.out 2).trans rfl, (blk_cell BK267.out 3).trans rfl⟩ (fun hHeld => ?_); refine with_tabW telemeterref17_Due.tab12 telemeterref17_Due.bits12 (fun HT_ HW_ => ?_)
                        generalize w50.drew = w51 at HO_9 HO_262000 BK261 BK262 BK267 HB hHeld ⊢
                        refine pure_ (i := 0) (N := some 56) (v := ?_) (a' := ?_) #[true, false, false, false, false, false, false, false, false, false, false, false, false, false, false, false, false] rfl rfl (any_of HT_.out (by kernel_rfl)) (fun _ _ _ h => h) (Or.inl ⟨by rfl, ?_⟩) ?_ ?_
                        rotate_left
                        · intro w'
                          go_simp
                          with_reducible rfl
                        rotate_left
                        · simp only [Act.put, List.setIfInBounds_toArray, List.set_cons_zero, List.set_cons_succ, i64_w, i32_w]
                          rfl
                        refine pure_ (i := 1) (N := some 57) (v := ?_) (a' := ?_) #[true, true, false, false, false, false, false, false, false, false, false, false, false, false, false, false, false] rfl rfl (any_of HT_.out (by kernel_rfl)) (fun _ _ _ h => h) (Or.inl ⟨by rfl, ?_⟩) ?_ ?_
                        rotate_left
                        · intro w'
                          go_simp
                          with_reducible rfl
                        rotate_left
                        · simp only [Act.put, List.setIfInBounds_toArray, List.set_cons_zero, List.set_cons_succ, i64_w, i32_w]
                          rfl
                        refine pure_ (i := 3) (N := some 59) (v := ?_) (a' := ?_) #[true, true, false, true, false, false, false, false, false, false, false, false, false, false, false, false, false] rfl rfl (any_of HT_.out (by kernel_rfl)) (fun _ _ _ h => h) (Or.inl ⟨by rfl, ?_⟩) ?_ ?_
                        rotate_left
                        · intro w'
                          go_simp
                          with_reducible rfl
                        rotate_left
                        · simp only [Act.put, List.setIfInBounds_toArray, List.set_cons_zero, List.set_cons_succ, i64_w, i32_w]
                          rfl
                        refine pure_ (i := 5) (N := some 61) (v := ?_) (a' := ?_) #[true, true, false, true, false, true, false, false, false, false, false, false, false, false, false, false, false] rfl rfl (any_of HT_.out (by kernel_rfl)) (fun _ _ _ h => h) (Or.inl ⟨by rfl, ?_⟩) ?_ ?_
                        rotate_left
                        · intro w'
                          go_simp
                          with_reducible rfl
                        rotate_left
                        · simp only [Act.put, List.setIfInBounds_toArray, List.set_cons_zero, List.set_cons_succ, i64_w, i32_w]
                          rfl
                        refine pure_ (i := 7) (N := some 63) (v := ?_) (a' := ?_) #[true, true, false, true, false, true, false, true, false, false, false, false, false, false, false, false, false] rfl rfl (any_of HT_.out (by kernel_rfl)) (fun _ _ _ h => h) (Or.inl ⟨by rfl, ?_⟩) ?_ ?_
                        rotate_left
                        · intro w'
                          go_simp
                          with_reducible rfl
                        rotate_left
                        · simp only [Act.put, List.setIfInBounds_toArray, List.set_cons_zero, List.set_cons_succ, i64_w, i32_w]
                          rfl
                        refine pure_ (i := 8) (N := some 64) (v := ?_) (a' := ?_) #[true, true, false, true, false, true, false, true, true, false, false, false, false, false, false, false, false] rfl rfl (any_of HT_.out (by kernel_rfl)) (fun _ _ _ h => h) (Or.inl ⟨by rfl, ?_⟩) ?_ ?_
                        rotate_left
                        · intro w'
                          go_simp
                          with_reducible rfl
                        rotate_left
                        · simp only [Act.put, List.setIfInBounds_toArray, List.set_cons_zero, List.set_cons_succ, i64_w, i32_w]
                          rfl
                        refine take_ (i := 2) (N := some 58) (v := ?_) (a' := ?_) #[true, true, true, true, false, true, false, true, true, false, false, false, false, false, false, false, false] rfl rfl (take_ofW HT_.out HW_.out (by kernel_rfl)) (fun _ _ _ h => h) (Or.inl ⟨by rfl, ?_⟩) hHeld ?_ ?_
                        rotate_left
                        · rintro w' ⟨s0, s1, s2, s3, s4, s5, s6, s7⟩
                          go_simp
                          with_reducible rfl
                        rotate_left
                        · simp only [Act.put, List.setIfInBounds_toArray, List.set_cons_zero, List.set_cons_succ, i64_w, i32_w]
                          rfl
                        refine take_ (i := 4) (N := some 60) (v := ?_) (a' := ?_) #[true, true, true, true, true, true, false, true, true, false, false, false, false, false, false, false, false] rfl rfl (take_ofW HT_.out HW_.out (by kernel_rfl)) (fun _ _ _ h => h) (Or.inl ⟨by rfl, ?_⟩) hHeld ?_ ?_
                        rotate_left
                        · rintro w' ⟨s0, s1, s2, s3, s4, s5, s6, s7⟩
                          go_simp
                          with_reducible rfl
                        rotate_left
                        · simp only [Act.put, List.setIfInBounds_toArray, List.set_cons_zero, List.set_cons_succ, i64_w, i32_w]
                          rfl
                        refine take_ (i := 6) (N := some 62) (v := ?_) (a' := ?_) #[true, true, true, true, true, true, true, true, true, false, false, false, false, false, false, false, false] rfl rfl (take_ofW HT_.out HW_.out (by kernel_rfl)) (fun _ _ _ h => h) (Or.inl ⟨by rfl, ?_⟩) hHeld ?_ ?_
                        rotate_left
                        · rintro w' ⟨s0, s1, s2, s3, s4, s5, s6, s7⟩
                          go_simp
                          with_reducible rfl
                        rotate_left
                        · simp only [Act.put, List.setIfInBounds_toArray, List.set_cons_zero, List.set_cons_succ, i64_w, i32_w]
                          rfl
                        refine take_ (i := 9) (N := some 65) (v := ?_) (a' := ?_) #[true, true, true, true, true, true, true, true, true, true, false, false, false, false, false, false, false] rfl rfl (take_ofW HT_.out HW_.out (by kernel_rfl)) (fun _ _ _ h => h) (Or.inl ⟨by rfl, ?_⟩) hHeld ?_ ?_
                        rotate_left
                        · rintro w' ⟨s0, s1, s2, s3, s4, s5, s6, s7⟩
                          go_simp
                          with_reducible rfl
                        rotate_left
                        · simp only [Act.put, List.setIfInBounds_toArray, List.set_cons_zero, List.set_cons_succ, i64_w, i32_w]
                          rfl
                        refine pure_ (i := 10) (N := some 66) (v := ?_) (a' := ?_) #[true, true, true, true, true, true, true, true, true, true, true, false, false, false, false, false, false] rfl rfl (any_of HT_.out (by kernel_rfl)) (fun _ _ _ h => h) (Or.inl ⟨by rfl, ?_⟩) ?_ ?_
                        rotate_left
                        · intro w'
                          go_simp
                          with_reducible rfl
                        rotate_left
                        · simp only [Act.put, List.setIfInBounds_toArray, List.set_cons_zero, List.set_cons_succ, i64_w, i32_w]
                          rfl
                        refine pure_ (i := 11) (N := some 67) (v := ?_) (a' := ?_) #[true, true, true, true, true, true, true, true, true, true, true, true, false, false, false, false, false] rfl rfl (any_of HT_.out (by kernel_rfl)) (fun _ _ _ h => h) (Or.inl ⟨by rfl, ?_⟩) ?_ ?_
                        rotate_left
                        · intro w'
                          go_simp
                          with_reducible rfl
                        rotate_left
                        · simp only [Act.put, List.setIfInBounds_toArray, List.set_cons_zero, List.set_cons_succ, i64_w, i32_w]
                          rfl
                        refine one_ (i := 12) (N := some 68) #[true, true, true, true, true, true, true, true, true, true, true, true, true, false, false, false, false] rfl rfl (one_of HT_.out (by kernel_rfl)) (by decide) (fun K hK => ?_)
                        refine goes_ Try.func32 (by kernel_rfl) rfl #[.int .u64 (IntKind.u64.wrap (a2 + (IntKind.u64.wrap (((rd_T70 x262000_1 x10_1).f0)))))] (by rfl) rfl rfl (by (try simp only [List.map_toArray, List.map_cons, List.map_nil]); first | done | rfl | (simp only [List.length_drop, List.length_take]; rfl)) ?_
                        with_reducible refine (telemeterref06_Mix.calls (IntKind.u64.wrap (a2 + (IntKind.u64.wrap (((rd_T70 x262000_1 x10_1).f0))))) t270 _ A41.out).mono ?_
                        rintro e w' ⟨rfl, ⟨nd, rfl⟩⟩
                        refine ⟨_, rfl, ?_⟩
                        refine hK.out _ _ ⟨(blk_cell BK261.out 0).trans rfl, (blk_cell BK261.out 1).trans rfl, (blk_cell BK261.out 2).trans rfl, (blk_cell BK261.out 3).trans rfl, (blk_cell BK267.out 0).trans rfl, (blk_cell BK267.out 1).trans rfl, (blk_cell BK267.out 2).trans rfl, (blk_cell BK267.out 3).trans rfl⟩ (fun hHeld => ?_)
                        clear hK K
                        refine norm_ (a' := ?_) ?_ ?_
                        rotate_left
                        · show Act.put _ (some 68) _ = _
                          simp only [Act.put, List.setIfInBounds_toArray, List.set_cons_zero, List.set_cons_succ, i64_w, i32_w]
                          rfl
                        refine one_ (i := 13) (N := some 69) #[true, true, true, true, true, true, true, true, true, true, true, true, true, true, false, false, false] rfl rfl (one_of HT_.out (by kernel_rfl)) (by decide) (fun K hK => ?_)
                        refine goes_ Try.func31 (by kernel_rfl) rfl #[.int .i64 a0_2, .int .i64 a0_3, .int .i64 (wrap64 (((rd_T70 x262000_1 x10_1).f2) + 1)), .int .u64 t270] (by rfl) rfl rfl (by (try simp only [List.map_toArray, List.map_cons, List.map_nil]); first | done | rfl | (simp only [List.length_drop, List.length_take]; rfl)) ?_
                        with_reducible refine (telemeterref17_Delay.calls kj13 a0_2 a0_3 (wrap64 (((rd_T70 x262000_1 x10_1).f2) + 1)) t270 t271 _ A42.out).mono ?_
                        rintro e w52 ⟨rfl, hb⟩
                        refine ⟨_, rfl, ?_⟩
                        have n0_ := Aside0.mk (Kd.R_below (by (with_reducible repeat (first | apply Kd.R_alloc | apply Kd.R_drewN | apply Kd.R_drew)); exact HO_9.out) hb)
                        have n1_ := Aside0.mk (Kd.R_below (by (with_reducible repeat (first | apply Kd.R_alloc | apply Kd.R_drewN | apply Kd.R_drew)); exact HO_262000.out) hb)
                        have n2_ := Aside0.mk (blk_below (g := gb261) (o := .cells #[.slice (some ad266) x262000_1.length co17, .int .i64 a0_1, .int .i64 a0_2, .int .i64 a0_3] 41 (0, 0)) (by (with_reducible repeat (first | refine blk_drewN ?_ _ | refine blk_drew ?_ | refine blk_alloc ?_ _)); exact BK261.out) hb)
                        have n3_ := Aside0.mk (blk_below (g := gb262) (o := .cells #[.slice none 0 0, .int .i64 0, .int .i64 0, .int .i64 0] 41 (0, 0)) (by (with_reducible repeat (first | refine blk_drewN ?_ _ | refine blk_drew ?_ | refine blk_alloc ?_ _)); exact BK262.out) hb)
                        have n4_ := Aside0.mk (blk_below (g := gb267) (o := .cells #[.int .i64 ((rd_T70 x262000_1 x10_1).f0), .int .i64 1, .int .i64 (wrap64 (((rd_T70 x262000_1 x10_1).f2) + 1)), .int .i64 ((rd_T70 x262000_1 x10_1).f3)] 70 (0, 0)) (by (with_reducible repeat (first | refine blk_drewN ?_ _ | refine blk_drew ?_ | refine blk_alloc ?_ _)); exact BK267.out) hb)
                        have n5_ := Aside0.mk (below_step (by repeat (first | (with_reducible first | exact HB.out | apply below_alloc | apply pw_below_drewN | apply below_drew1 | refine below_set ?_ GE261.out | refine below_set ?_ GE262.out | refine below_set ?_ GE267.out) | exact HB.out)) hb)
                        clear HO_9
                        clear HO_262000
                        clear BK261
                        clear BK262
                        clear BK267
                        clear HB
                        have HO_9 := n0_
                        have HO_262000 := n1_
                        have BK261 := n2_
                        have BK262 := n3_
                        have BK267 := n4_
                        have HB := n5_
                        clear n0_ n1_ n2_ n3_ n4_ n5_
                        (try clear hb)
                        (try clear hb2)
                        (try clear hk)
                        (try clear hi)
                        refine hK.out _ _ ⟨(blk_cell BK261.out 0).trans rfl, (blk_cell BK261.out 1).trans rfl, (blk_cell BK261.out 2).trans rfl, (blk_cell BK261.out 3).trans rfl, (blk_cell BK267.out 0).trans rfl, (blk_cell BK267.out 1).trans rfl, (blk_cell BK267.out 2).trans rfl, (blk_cell BK267.out 3).trans rfl⟩ (fun hHeld => ?_)
                        clear hK K
                        refine norm_ (a' := ?_) ?_ ?_
                        rotate_left
                        · show Act.put _ (some 69) _ = _
                          simp only [Act.put, List.setIfInBounds_toArray, List.set_cons_zero, List.set_cons_succ, i64_w, i32_w]
                          rfl
                        refine pure_ (i := 14) (N := some 70) (v := ?_) (a' := ?_) #[true, true, true, true, true, true, true, true, true, true, true, true, true, true, true, false, false] rfl rfl (any_of HT_.out (by kernel_rfl)) (fun _ _ _ h => h) (Or.inl ⟨by rfl, ?_⟩) ?_ ?_
                        rotate_left
                        · intro w'
                          go_simp
                          with_reducible rfl
                        rotate_left
                        · simp only [Act.put, List.setIfInBounds_toArray, List.set_cons_zero, List.set_cons_succ, i64_w, i32_w]
                          rfl
                        refine pure_ (i := 15) (N := some 71) (v := ?_) (a' := ?_) #[true, true, true, true, true, true, true, true, true, true, true, true, true, true, true, true, false] rfl rfl (any_of HT_.out (by kernel_rfl)) (fun _ _ _ h => h) (Or.inl ⟨by rfl, ?_⟩) ?_ ?_
                        rotate_left
                        · intro w'
                          go_simp
                          with_reducible rfl
                        rotate_left
                        · simp only [Act.put, List.setIfInBounds_toArray, List.set_cons_zero, List.set_cons_succ, i64_w, i32_w]
                          rfl
                        refine last_ (i := 16) (N := none) #[true, true, true, true, true, true, true, true, true, true, true, true, true, true, true, true, true] rfl rfl (one_of HT_.out (by kernel_rfl)) (by decide) (fun K hK => ?_)
                        have hs53 : w52.cell? ⟨gb267, 3, none⟩ = some (.int .i64 ((rd_T70 x262000_1 x10_1).f3)) := (blk_cell BK267.out 3).trans rfl
                        have hfs53 := blk_frozen BK267.out 3
                        have hns53_0 := NB261_267.out
                        have hns53_1 := NB262_267.out
                        have hms53_0 := NB267_261.out
                        have hms53_1 := NB267_262.out
                        refine skip_ (w1 := ?_) (by rfl) rfl ?_ ?_
                        rotate_left
                        · go_simp
                          rfl
                        refine hK.out _ _ ?_
                        clear hK K
                        refine done_ (done_of HT_.out (by kernel_rfl)) ?_
                        have n0_ : Aside0 (Kd.R (Kd.int .i64) 3 (w52.setCell ⟨gb267, 3, none⟩ (.int .i64 (wrap64 (a1 + t271)))) w.heap.size (fun _ => True) u9 x9_1) := ⟨by (with_reducible repeat (first | apply Kd.R_alloc | apply Kd.R_drewN | apply Kd.R_drew)); exact Kd.R_mono (Kd.R_far (p := ⟨gb267, 3, none⟩) (Kd.R_types HO_9.out BK267.out (by decide)) (fun _ hk => hk.2) (.int .i64 (wrap64 (a1 + t271)))) (fun _ hk => trivial)⟩
                        have n1_ : Aside0 (Kd.R k70 70 (w52.setCell ⟨gb267, 3, none⟩ (.int .i64 (wrap64 (a1 + t271)))) w.heap.size (fun k_ => k_ ≠ gb267) (.slice (some ad266) x262000_1.length co17) x262000_1) := ⟨by (with_reducible repeat (first | apply Kd.R_alloc | apply Kd.R_drewN | apply Kd.R_drew)); exact Kd.R_mono (Kd.R_far (p := ⟨gb267, 3, none⟩) (Kd.R_mono HO_262000.out (fun k_ hk => (⟨hk, hk⟩ : _ ∧ k_ ≠ gb267))) (fun _ hk => hk.2) (.int .i64 (wrap64 (a1 + t271)))) (fun _ hk => hk.1)⟩
                        have n2_ : Aside0 ((w52.setCell ⟨gb267, 3, none⟩ (.int .i64 (wrap64 (a1 + t271)))).heap[gb261]? = some (.cells #[.slice (some ad266) x262000_1.length co17, .int .i64 a0_1, .int .i64 a0_2, .int .i64 a0_3] 41 (0, 0))) := ⟨by (with_reducible repeat (first | refine blk_drewN ?_ _ | refine blk_drew ?_ | refine blk_alloc ?_ _)); refine blk_far ?_ NB261_267.out _; (with_reducible repeat (first | refine blk_drewN ?_ _ | refine blk_drew ?_ | refine blk_alloc ?_ _)); exact BK261.out⟩
                        have n3_ : Aside0 ((w52.setCell ⟨gb267, 3, none⟩ (.int .i64 (wrap64 (a1 + t271)))).heap[gb262]? = some (.cells #[.slice none 0 0, .int .i64 0, .int .i64 0, .int .i64 0] 41 (0, 0))) := ⟨by (with_reducible repeat (first | refine blk_drewN ?_ _ | refine blk_drew ?_ | refine blk_alloc ?_ _)); refine blk_far ?_ NB262_267.out _; (with_reducible repeat (first | refine blk_drewN ?_ _ | refine blk_drew ?_ | refine blk_alloc ?_ _)); exact BK262.out⟩
                        have n4_ : Aside0 ((w52.setCell ⟨gb267, 3, none⟩ (.int .i64 (wrap64 (a1 + t271)))).heap[gb267]? = some (.cells #[.int .i64 ((rd_T70 x262000_1 x10_1).f0), .int .i64 1, .int .i64 (wrap64 (((rd_T70 x262000_1 x10_1).f2) + 1)), .int .i64 (wrap64 (a1 + t271))] 70 (0, 0))) := ⟨by (with_reducible repeat (first | refine blk_drewN ?_ _ | refine blk_drew ?_ | refine blk_alloc ?_ _)); refine blk_put (cs := #[.int .i64 ((rd_T70 x262000_1 x10_1).f0), .int .i64 1, .int .i64 (wrap64 (((rd_T70 x262000_1 x10_1).f2) + 1)), .int .i64 ((rd_T70 x262000_1 x10_1).f3)]) ?_ 3 _ rfl; (with_reducible repeat (first | refine blk_drewN ?_ _ | refine blk_drew ?_ | refine blk_alloc ?_ _)); exact BK267.out⟩
                        have n5_ : Aside0 (Below w.heap.size w (w52.setCell ⟨gb267, 3, none⟩ (.int .i64 (wrap64 (a1 + t271))))) := ⟨by repeat (first | (with_reducible first | exact HB.out | apply below_alloc | apply pw_below_drewN | apply below_drew1 | refine below_set ?_ GE261.out | refine below_set ?_ GE262.out | refine below_set ?_ GE267.out) | exact HB.out)⟩
                        (try clear HO_9)
                        (try clear HO_262000)
                        (try clear BK261)
                        (try clear BK262)
                        (try clear BK267)
                        (try clear HB)
                        generalize (w52.setCell ⟨gb267, 3, none⟩ (.int .i64 (wrap64 (a1 + t271)))) = w54 at n0_ n1_ n2_ n3_ n4_ n5_ ⊢
                        have HO_9 := n0_
                        have HO_262000 := n1_
                        have BK261 := n2_
                        have BK262 := n3_
                        have BK267 := n4_
                        have HB := n5_
                        clear n0_ n1_ n2_ n3_ n4_ n5_
                        have hnb55 := NB261_262.out
                        have hnc55 := NB262_261.out
                        have hcz56_0 : w54.cell? ⟨gb261, 0, none⟩ = some (.slice (some ad266) x262000_1.length co17) := (blk_cell BK261.out 0).trans rfl
                        have hcz56_1 : w54.cell? ⟨gb261, 1, none⟩ = some (.int .i64 a0_1) := (blk_cell BK261.out 1).trans rfl
                        have hcz56_2 : w54.cell? ⟨gb261, 2, none⟩ = some (.int .i64 a0_2) := (blk_cell BK261.out 2).trans rfl
                        have hcz56_3 : w54.cell? ⟨gb261, 3, none⟩ = some (.int .i64 a0_3) := (blk_cell BK261.out 3).trans rfl
                        have hfz56_0 := blk_frozen BK261.out 0
                        have hfz56_1 := blk_frozen BK261.out 1
                        have hfz56_2 := blk_frozen BK261.out 2
                        have hfz56_3 := blk_frozen BK261.out 3
                        have hcz57_0 : w54.cell? ⟨gb267, 0, none⟩ = some (.int .i64 ((rd_T70 x262000_1 x10_1).f0)) := (blk_cell BK267.out 0).trans rfl
                        have hcz57_1 : w54.cell? ⟨gb267, 1, none⟩ = some (.int .i64 1) := (blk_cell BK267.out 1).trans rfl
                        have hcz57_2 : w54.cell? ⟨gb267, 2, none⟩ = some (.int .i64 (wrap64 (((rd_T70 x262000_1 x10_1).f2) + 1))) := (blk_cell BK267.out 2).trans rfl
                        have hcz57_3 : w54.cell? ⟨gb267, 3, none⟩ = some (.int .i64 (wrap64 (a1 + t271))) := (blk_cell BK267.out 3).trans rfl
                        have hfz57_0 := blk_frozen BK267.out 0
                        have hfz57_1 := blk_frozen BK267.out 1
                        have hfz57_2 := blk_frozen BK267.out 2
                        have hfz57_3 := blk_frozen BK267.out 3
                        have p45 : 0 ≤ (x10_1 : Int) := of_decide_eq_true (by first | (with_reducible assumption) | assumption)
                        have q45 : (x10_1 : Int) < ((x262000_1.length : Int) : Int) := of_decide_eq_true (by first | (with_reducible assumption) | assumption)
                        obtain ⟨go45, co45, eo45, gb45, gl45, cl45, HG45⟩ := Kd.R_form HO_262000.out (by omega)
                        (first | cases eo45 | (injection eo45 with ea_ en_ ec_; (first | subst ea_ | (injection ea_ with ea_; subst ea_)); subst ec_; clear en_))
                        have GB45 := Aside0.mk gb45
                        have GG45 := Aside0.mk HG45
                        clear gb45 gl45 HG45
                        (first | simp only [add_plain] at hx266_0 | skip)
                        (first | simp only [add_plain] at hx266_1 | skip)
                        (first | simp only [add_plain] at hx266_2 | skip)
                        (first | simp only [add_plain] at hx266_3 | skip)
                        obtain ⟨ce45, hcl45, hM45, hcc45, hfr45⟩ := Kd.R_elem HO_262000.out z70 (x10_1 : Int) p45 q45
                        obtain rfl := k70_openM hM45
                        have hx45_0 : w54.cell? ⟨go45, (x10_1 : Int).toNat * 4, none⟩ = some (.int .i64 ((rd_T70 x262000_1 x10_1).f0)) := hcc45 0 _ rfl
                        have hx45_1 : w54.cell? ⟨go45, (x10_1 : Int).toNat * 4 + 1, none⟩ = some (.int .i64 ((rd_T70 x262000_1 x10_1).f1)) := hcc45 1 _ rfl
                        have hx45_2 : w54.cell? ⟨go45, (x10_1 : Int).toNat * 4 + 2, none⟩ = some (.int .i64 ((rd_T70 x262000_1 x10_1).f2)) := hcc45 2 _ rfl
                        have hx45_3 : w54.cell? ⟨go45, (x10_1 : Int).toNat * 4 + 3, none⟩ = some (.int .i64 ((rd_T70 x262000_1 x10_1).f3)) := hcc45 3 _ rfl
                        have hf45_0 : w54.frozen? ⟨go45, (x10_1 : Int).toNat * 4, none⟩ = false := hfr45 0
                        have hf45_1 : w54.frozen? ⟨go45, (x10_1 : Int).toNat * 4 + 1, none⟩ = false := hfr45 1
                        have hf45_2 : w54.frozen? ⟨go45, (x10_1 : Int).toNat * 4 + 2, none⟩ = false := hfr45 2
                        have hf45_3 : w54.frozen? ⟨go45, (x10_1 : Int).toNat * 4 + 3, none⟩ = false := hfr45 3
                        clear hcl45 hcc45 hfr45 hM45
                        replace p45 := eq_true p45
                        replace q45 := eq_true q45
                        have HX58 := Aside0.mk (show Kd.R k70 70 w54 w.heap.size (fun k_ => k_ ≠ gb267) (.slice (some ⟨go45, 0, none⟩) x262000_1.length co17) x262000_1 from (by (with_reducible repeat (first | apply Kd.R_alloc | apply Kd.R_drewN | apply Kd.R_drew)); exact HO_262000.out))
                        obtain ⟨ce58, hcl58, hM58, hcc58, hfr58⟩ := Kd.R_elem HX58.out z70 (x10_1 : Int) (of_decide_eq_true (by first | (with_reducible assumption) | assumption)) (by have h_ : (x10_1 : Int) < ((x262000_1.length : Int) : Int) := of_decide_eq_true (by first | (with_reducible assumption) | assumption); first | exact h_ | (have e_ := (Kd.R_reads' HO_262000.out).1; omega) | simpa using h_)
                        obtain rfl := k70_openM hM58
                        have HP58 := Kd.R_seg HX58.out (x10_1 : Int) (of_decide_eq_true (by first | (with_reducible assumption) | assumption)) (by have h_ : (x10_1 : Int) < ((x262000_1.length : Int) : Int) := of_decide_eq_true (by first | (with_reducible assumption) | assumption); first | exact h_ | (have e_ := (Kd.R_reads' HO_262000.out).1; omega) | simpa using h_) (seg := [.int .i64 ((rd_T70 x262000_1 x10_1).f0), .int .i64 1, .int .i64 (wrap64 (((rd_T70 x262000_1 x10_1).f2) + 1)), .int .i64 (wrap64 (a1 + t271))]) (j := 0) hcl58 hcc58 (show 4 ≤ 4 from by decide) (x' := (⟨((rd_T70 x262000_1 x10_1).f0), 1, wrap64 (((rd_T70 x262000_1 x10_1).f2) + 1), wrap64 (a1 + t271)⟩ : S70)) (k70_mkM _ _ _ (⟨((rd_T70 x262000_1 x10_1).f0), 1, wrap64 (((rd_T70 x262000_1 x10_1).f2) + 1), wrap64 (a1 + t271)⟩ : S70) ) (fun _ hk => hk)
                        have hx58_0 := hcc58 0 _ rfl
                        (try simp only [show (k70).sz = 4 from rfl, Nat.mul_one, Nat.add_zero] at hx58_0)
                        have hf58_0 := hfr58 0
                        (try simp only [show (k70).sz = 4 from rfl, Nat.mul_one, Nat.add_zero] at hf58_0)
                        have hx58_1 := hcc58 1 _ rfl
                        (try simp only [show (k70).sz = 4 from rfl, Nat.mul_one, Nat.add_zero] at hx58_1)
                        have hf58_1 := hfr58 1
                        (try simp only [show (k70).sz = 4 from rfl, Nat.mul_one, Nat.add_zero] at hf58_1)
                        have hx58_2 := hcc58 2 _ rfl
                        (try simp only [show (k70).sz = 4 from rfl, Nat.mul_one, Nat.add_zero] at hx58_2)
                        have hf58_2 := hfr58 2
                        (try simp only [show (k70).sz = 4 from rfl, Nat.mul_one, Nat.add_zero] at hf58_2)
                        have hx58_3 := hcc58 3 _ rfl
                        (try simp only [show (k70).sz = 4 from rfl, Nat.mul_one, Nat.add_zero] at hx58_3)
                        have hf58_3 := hfr58 3
                        (try simp only [show (k70).sz = 4 from rfl, Nat.mul_one, Nat.add_zero] at hf58_3)
                        clear hcl58 hcc58 hfr58 hM58
                        try go_wp2_with (first | ((with_reducible refine gate_store (t := 70) (p := 76) rfl ?_); refine store_event (t := 70) (p := 76) (v := ?vo_w59) (w1 := ((((w54.setCell ⟨go45, (x10_1 : Int).toNat * 4, none⟩ (.int .i64 ((rd_T70 x262000_1 x10_1).f0))).setCell ⟨go45, (x10_1 : Int).toNat * 4 + 1, none⟩ (.int .i64 1)).setCell ⟨go45, (x10_1 : Int).toNat * 4 + 2, none⟩ (.int .i64 (wrap64 (((rd_T70 x262000_1 x10_1).f2) + 1)))).setCell ⟨go45, (x10_1 : Int).toNat * 4 + 3, none⟩ (.int .i64 (wrap64 (a1 + t271))))) ?hg ?ho ?hn ?hr ?_; (case ho => rfl); (case hg => rfl); (case hn => rfl); (case hr => first | (go_simp; done) | (go_simp; rfl)); intro w59 hw; have hg : w54.grownBy w59 (some go45) := (by rw [hw]; exact HP58.2); have hp_ : Kd.R k70 70 w59 w.heap.size (fun k_ => k_ ≠ gb267) (.slice (some ⟨go45, 0, none⟩) x262000_1.length co17) y272 := (by rw [hw, Ny272.out]; exact HP58.1); clear HP58; have n0_ := Aside0.mk (Kd.R_over' (v := (.slice (some ⟨go45, 0, none⟩) x262000_1.length co17)) (by (with_reducible repeat (first | apply Kd.R_alloc | apply Kd.R_drewN | apply Kd.R_drew)); exact HO_9.out) (Kd.R_typed HO_262000.out) (by decide) hg); have n1_ := Aside0.mk (hp_); have n2_ := Aside0.mk (blk_grown (g := gb261) (o := .cells #[.slice (some ⟨go45, 0, none⟩) x262000_1.length co17, .int .i64 a0_1, .int .i64 a0_2, .int .i64 a0_3] 41 (0, 0)) (by (with_reducible repeat (first | refine blk_drewN ?_ _ | refine blk_drew ?_ | refine blk_alloc ?_ _)); exact BK261.out) hg (Kd.R_ne HO_262000.out BK261.out (by decide))); have n3_ := Aside0.mk (blk_grown (g := gb262) (o := .cells #[.slice none 0 0, .int .i64 0, .int .i64 0, .int .i64 0] 41 (0, 0)) (by (with_reducible repeat (first | refine blk_drewN ?_ _ | refine blk_drew ?_ | refine blk_alloc ?_ _)); exact BK262.out) hg (Kd.R_ne HO_262000.out BK262.out (by decide))); have n4_ := Aside0.mk (blk_grown (g := gb267) (o := .cells #[.int .i64 ((rd_T70 x262000_1 x10_1).f0), .int .i64 1, .int .i64 (wrap64 (((rd_T70 x262000_1 x10_1).f2) + 1)), .int .i64 (wrap64 (a1 + t271))] 70 (0, 0)) (by (with_reducible repeat (first | refine blk_drewN ?_ _ | refine blk_drew ?_ | refine blk_alloc ?_ _)); exact BK267.out) hg (Kd.R_away HO_262000.out (fun _ hk => hk))); have n5_ := Aside0.mk ((by rw [hw]; exact below_set (below_set (below_set (below_set (HB.out) GB45.out) GB45.out) GB45.out) GB45.out : Below w.heap.size w w59)); clear HO_9; clear HO_262000; clear BK261; clear BK262; clear BK267; clear HB; have HO_9 := n0_; have HO_262000 := n1_; have BK261 := n2_; have BK262 := n3_; have BK267 := n4_; have HB := n5_; clear n0_ n1_ n2_ n3_ n4_ n5_; clear hg hw hp_; have hcz60_0 : w59.cell? ⟨gb267, 0, none⟩ = some (.int .i64 ((rd_T70 x262000_1 x10_1).f0)) := (blk_cell BK267.out 0).trans rfl; have hcz60_1 : w59.cell? ⟨gb267, 1, none⟩ = some (.int .i64 1) := (blk_cell BK267.out 1).trans rfl; have hcz60_2 : w59.cell? ⟨gb267, 2, none⟩ = some (.int .i64 (wrap64 (((rd_T70 x262000_1 x10_1).f2) + 1))) := (blk_cell BK267.out 2).trans rfl; have hcz60_3 : w59.cell? ⟨gb267, 3, none⟩ = some (.int .i64 (wrap64 (a1 + t271))) := (blk_cell BK267.out 3).trans rfl; have hfz60_0 := blk_frozen BK267.out 0; have hfz60_1 := blk_frozen BK267.out 1; have hfz60_2 := blk_frozen BK267.out 2; have hfz60_3 := blk_frozen BK267.out 3) | ((with_reducible refine gate_builtin (b := .append) (xs := #[.tmp 77, .tmp 80]) rfl ?_); at_builtin; refine Kd.R_append (Kd.int .i64) (w0 := w) w.heap.size rfl (.tmp 77) (.tmp 80) 31 3 (.int .i64 0) 8 rfl Try.underlying31 info3 rfl (by decide) (by omega) u9 x9_1 ((rd_T70 x262000_1 x10_1).f0) [.int .i64 ((rd_T70 x262000_1 x10_1).f0)] (fun _ => True) (fun _ => False) rfl rfl ?aP (fun _ hk => hk.elim) ?aF ?aO ?aB ?aS ?aL ?_; (case aP => exact rfl); (case aB => exact (by repeat (first | (with_reducible first | exact HB.out | apply below_alloc | apply pw_below_drewN | apply below_drew1 | refine below_set ?_ GE261.out | refine below_set ?_ GE262.out | refine below_set ?_ GE267.out) | exact HB.out))); (case aF => exact (fun _ _ => trivial)); (case aO => exact (by (with_reducible repeat (first | apply Kd.R_alloc | apply Kd.R_drewN | apply Kd.R_drew)); exact HO_9.out)); (case aS => exact (below_size (by repeat (first | (with_reducible first | exact HB.out | apply below_alloc | apply pw_below_drewN | apply below_drew1 | refine below_set ?_ GE261.out | refine below_set ?_ GE262.out | refine below_set ?_ GE267.out) | exact HB.out)))); (case aL => have := LMc46.out; omega); intro v274 w61 ho hb hg hat; rw [← Ny273.out] at ho; have n0_ := Aside0.mk (Kd.R_over' (by (with_reducible repeat (first | apply Kd.R_alloc | apply Kd.R_drewN | apply Kd.R_drew)); exact HO_262000.out) (Kd.R_typed (by (with_reducible repeat (first | apply Kd.R_alloc | apply Kd.R_drewN | apply Kd.R_drew)); exact HO_9.out)) (by decide) hg); have n1_ := Aside0.mk (blk_grown (g := gb261) (o := .cells #[.slice (some ⟨go45, 0, none⟩) x262000_1.length co17, .int .i64 a0_1, .int .i64 a0_2, .int .i64 a0_3] 41 (0, 0)) (by (with_reducible repeat (first | refine blk_drewN ?_ _ | refine blk_drew ?_ | refine blk_alloc ?_ _)); exact BK261.out) hg (Kd.R_ne HO_9.out BK261.out (by decide))); have n2_ := Aside0.mk (blk_grown (g := gb262) (o := .cells #[.slice none 0 0, .int .i64 0, .int .i64 0, .int .i64 0] 41 (0, 0)) (by (with_reducible repeat (first | refine blk_drewN ?_ _ | refine blk_drew ?_ | refine blk_alloc ?_ _)); exact BK262.out) hg (Kd.R_ne HO_9.out BK262.out (by decide))); have n3_ := Aside0.mk (blk_grown (g := gb267) (o := .cells #[.int .i64 ((rd_T70 x262000_1 x10_1).f0), .int .i64 1, .int .i64 (wrap64 (((rd_T70 x262000_1 x10_1).f2) + 1)), .int .i64 (wrap64 (a1 + t271))] 70 (0, 0)) (by (with_reducible repeat (first | refine blk_drewN ?_ _ | refine blk_drew ?_ | refine blk_alloc ?_ _)); exact BK267.out) hg (Kd.R_ne HO_9.out BK267.out (by decide))); have n4_ := Aside0.mk (hb); have n5_ := Aside0.mk (ho); clear HO_262000; clear BK261; clear BK262; clear BK267; clear HB; clear HO_9; have HO_262000 := n0_; have BK261 := n1_; have BK262 := n2_; have BK267 := n3_; have HB := n4_; have HO275 := n5_; clear n0_ n1_ n2_ n3_ n4_ n5_; clear ho hb hg hat))
                        go_roundg kj13
                        case measure => have := HK1.out; have := HJ13.out; omega
                        case rel => exact ⟨(y273), (wrap64 (x10_1 + 1)), (y272), (.slice (some ⟨go45, 0, none⟩) x262000_1.length co17), (by first | rfl | (simp; done) | (simp [*]; done)), H', ⟨by have := HK1.out; have := HJ13.out; omega⟩, ⟨by (with_reducible repeat (first | apply Kd.R_alloc | apply Kd.R_drewN | apply Kd.R_drew)); exact HO275.out⟩, ⟨by (with_reducible repeat (first | apply Kd.R_alloc | apply Kd.R_drewN | apply Kd.R_drew)); exact Kd.R_mono HO_262000.out (fun _ hk => trivial)⟩, ⟨by (with_reducible repeat (first | refine blk_drewN ?_ _ | refine blk_drew ?_ | refine blk_alloc ?_ _)); exact BK261.out⟩, ⟨by (with_reducible repeat (first | refine blk_drewN ?_ _ | refine blk_drew ?_ | refine blk_alloc ?_ _)); exact BK262.out⟩, ⟨by repeat (first | (with_reducible first | exact HB.out | apply below_alloc | apply pw_below_drewN | apply below_drew1 | refine below_set ?_ GE261.out | refine below_set ?_ GE262.out | refine below_set ?_ GE267.out) | exact HB.out)⟩⟩
                      · rw [if_neg c46] at H
                        exact absurd H (by simp)
                    · rw [if_neg c44] at H
                      exact absurd H (by simp)
                  · rw [if_neg c43] at H
                    exact absurd H (by simp)
          · rw [if_neg c13] at H
            exact absurd H (by simp)
        · rw [if_neg c12] at H
          have c12b0 : decide (x10_1 < (x262000_1.length : Int)) = false := decide_eq_false c12
          clear c12
          simp only [Option.some.injEq, Prod.mk.injEq] at H
          obtain ⟨rfl, rfl, rfl, rfl, rfl⟩ := H
          have hnb62 := NB261_262.out
          have hnc62 := NB262_261.out
          have hcz63_0 : wr.cell? ⟨gb261, 0, none⟩ = some (u262000) := (blk_cell BK261.out 0).trans rfl
          have hcz63_1 : wr.cell? ⟨gb261, 1, none⟩ = some (.int .i64 a0_1) := (blk_cell BK261.out 1).trans rfl
          have hcz63_2 : wr.cell? ⟨gb261, 2, none⟩ = some (.int .i64 a0_2) := (blk_cell BK261.out 2).trans rfl
          have hcz63_3 : wr.cell? ⟨gb261, 3, none⟩ = some (.int .i64 a0_3) := (blk_cell BK261.out 3).trans rfl
          have hfz63_0 := blk_frozen BK261.out 0
          have hfz63_1 := blk_frozen BK261.out 1
          have hfz63_2 := blk_frozen BK261.out 2
          have hfz63_3 := blk_frozen BK261.out 3
          obtain ⟨Ao64, co64, eo64⟩ := Kd.R_slice HO_262000.out
          subst eo64
          have hcz65_0 : wr.cell? ⟨gb262, 0, none⟩ = some (.slice none 0 0) := (blk_cell BK262.out 0).trans rfl
          have hcz65_1 : wr.cell? ⟨gb262, 1, none⟩ = some (.int .i64 0) := (blk_cell BK262.out 1).trans rfl
          have hcz65_2 : wr.cell? ⟨gb262, 2, none⟩ = some (.int .i64 0) := (blk_cell BK262.out 2).trans rfl
          have hcz65_3 : wr.cell? ⟨gb262, 3, none⟩ = some (.int .i64 0) := (blk_cell BK262.out 3).trans rfl
          have hfz65_0 := blk_frozen BK262.out 0
          have hfz65_1 := blk_frozen BK262.out 1
          have hfz65_2 := blk_frozen BK262.out 2
          have hfz65_3 := blk_frozen BK262.out 3
          go_wp2
          refine bodyPost_ret (results_ct rfl _ _ gb262 41 #[.slice Ao64 x262000_1.length co64, .int .i64 a0_1, .int .i64 a0_2, .int .i64 a0_3] (0, 0) _ rfl (by (with_reducible repeat (first | refine blk_drewN ?_ _ | refine blk_drew ?_ | refine blk_alloc ?_ _)); refine blk_put (cs := #[.slice Ao64 x262000_1.length co64, .int .i64 a0_1, .int .i64 a0_2, .int .i64 0]) ?_ 3 _ rfl; (with_reducible repeat (first | refine blk_drewN ?_ _ | refine blk_drew ?_ | refine blk_alloc ?_ _)); refine blk_put (cs := #[.slice Ao64 x262000_1.length co64, .int .i64 a0_1, .int .i64 0, .int .i64 0]) ?_ 2 _ rfl; (with_reducible repeat (first | refine blk_drewN ?_ _ | refine blk_drew ?_ | refine blk_alloc ?_ _)); refine blk_put (cs := #[.slice Ao64 x262000_1.length co64, .int .i64 0, .int .i64 0, .int .i64 0]) ?_ 1 _ rfl; (with_reducible repeat (first | refine blk_drewN ?_ _ | refine blk_drew ?_ | refine blk_alloc ?_ _)); refine blk_put (cs := #[.slice none 0 0, .int .i64 0, .int .i64 0, .int .i64 0]) ?_ 0 _ rfl; (with_reducible repeat (first | refine blk_drewN ?_ _ | refine blk_drew ?_ | refine blk_alloc ?_ _)); exact BK262.out) Try.underlying41 rfl (by kernel_rfl)) rfl ?_
          exact ⟨_, _, by first | rfl | (simp [errW_none, errW_some] <;> rfl) | (simp [*, errW_none, errW_some] <;> rfl), by (with_reducible repeat (first | apply Kd.R_alloc | apply Kd.R_drewN | apply Kd.R_drew)); exact Kd.R_mono (Kd.R_far (p := ⟨gb262, 3, none⟩) (Kd.R_far (p := ⟨gb262, 2, none⟩) (Kd.R_far (p := ⟨gb262, 1, none⟩) (Kd.R_far (p := ⟨gb262, 0, none⟩) (Kd.R_types HO_262000.out BK262.out (by decide)) (fun _ hk => hk.2) (.slice Ao64 x262000_1.length co64)) (fun _ hk => hk.2) (.int .i64 a0_1)) (fun _ hk => hk.2) (.int .i64 a0_2)) (fun _ hk => hk.2) (.int .i64 a0_3)) (fun _ hk => trivial), by (with_reducible repeat (first | apply Kd.R_alloc | apply Kd.R_drewN | apply Kd.R_drew)); exact Kd.R_mono (Kd.R_far (p := ⟨gb262, 3, none⟩) (Kd.R_far (p := ⟨gb262, 2, none⟩) (Kd.R_far (p := ⟨gb262, 1, none⟩) (Kd.R_far (p := ⟨gb262, 0, none⟩) (Kd.R_types HO_9.out BK262.out (by decide)) (fun _ hk => hk.2) (.slice Ao64 x262000_1.length co64)) (fun _ hk => hk.2) (.int .i64 a0_1)) (fun _ hk => hk.2) (.int .i64 a0_2)) (fun _ hk => hk.2) (.int .i64 a0_3)) (fun _ hk => trivial), by repeat (first | (with_reducible first | exact HB.out | apply below_alloc | apply pw_below_drewN | apply below_drew1 | refine below_set ?_ GE261.out | refine below_set ?_ GE262.out) | exact HB.out)⟩
  · rw [if_neg c4] at H
    exact absurd H (by simp)

end Go.Proofs.Ytelodofjokmfjaa.PSendDoes
