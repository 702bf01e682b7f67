/- The walk of the reference's At over more than one while. No conditions. -/
import Derived.Test.YtiohjmpnkoohjaaRef8
namespace Go.Proofs.Ytiohjmpnkoohjaa.Tele
open Go.RowKit Go.Proofs.YtiohjmpnkoohjaaW.PrintWords Go.Proofs.YtiohjmpnkoohjaaW.PrintLast Go.Proofs.YtiohjmpnkoohjaaW.PrintMore Go.Proofs.Ytiohjmpnkoohjaa.PWindowCounts
set_option linter.unusedVariables false
set_option linter.unusedSimpArgs false

set_option maxRecDepth 8000 in
set_option maxHeartbeats 4000000 in
theorem at_far (m : Win) (aL : Option Addr) (kL : Nat) (L : Sk) (aT : Option Addr) (kT : Nat) (T : Sk) (B : Nat) (P : Nat → Prop) (now : Nat) (w : World) (hm : m.Ok) (hL : RV w B P (.slice aL L.rows kL) L) (hT : RV w B P (.slice aT T.rows kT) T) (hn1 : m.now ≤ now) (hn2 : now ≤ 1099511627776) (hd : ¬ now / m.long = m.now / m.long) (hd2 : ¬ now / m.long = m.now / m.long + 1) :
    Calls Try.prog 15 #[wv m (.slice aL L.rows kL) L (.slice aT T.rows kT) T, .int .i64 (now : Int)] w fun e w' => ∃ v1 v2, e = .returned (.tuple #[wv { m with now := now } v1 (m.fresh (now / m.long - 1)) v2 (m.fresh (now / m.long)), .int .i64 0]) ∧ RV w' w.heap.size (fun q => w.heap.size ≤ q) v1 (m.fresh (now / m.long - 1)) ∧ RV w' w.heap.size (fun q => w.heap.size ≤ q) v2 (m.fresh (now / m.long)) ∧ Below w.heap.size w w' := by
  have hl1 := hm.long1
  have hlm := hm.longm
  have hnm := hm.nowm
  obtain ⟨rows, W, seed, l, n, last, this⟩ := m
  dsimp only at *
  have ham : now / l ≤ 1099511627776 := Nat.le_trans (Nat.div_le_self _ _) hn2
  have hle : n / l ≤ now / l := Nat.div_le_div_right hn1
  obtain ⟨b, hbb⟩ : ∃ b, n / l = b := ⟨_, rfl⟩
  obtain ⟨a, haa⟩ : ∃ a, now / l = a := ⟨_, rfl⟩
  have ha : (now : Int) / (l : Int) = (a : Int) := by rw [← haa, Int.natCast_ediv]
  have hb : (n : Int) / (l : Int) = (b : Int) := by rw [← hbb, Int.natCast_ediv]
  rw [hbb, haa] at hd hd2 hle
  rw [haa] at ham
  have hab : (b : Int) + 1 < (a : Int) := by omega
  have hq1 : ((a : Int) == (b : Int) + 1) = false := by rw [beq_eq_false_iff_ne]; omega
  have hbm : b ≤ 1099511627775 := by omega
  have hm1 : ((a : Int) - 1) = ((a - 1 : Nat) : Int) := by omega
  have HM1 := Lib.hid hm1
  have HM := Lib.hid hm
  rw [haa]
  obtain ⟨N1, hN1⟩ : ∃ N1, N1 = Win.fresh ⟨rows, W, seed, l, n, last, this⟩ (a - 1) := ⟨_, rfl⟩
  obtain ⟨N2, hN2⟩ : ∃ N2, N2 = Win.fresh ⟨rows, W, seed, l, n, last, this⟩ a := ⟨_, rfl⟩
  rw [← hN1, ← hN2]
  have HN1 := Lib.hid hN1
  have HN2 := Lib.hid hN2
  clear hN1 hN2
  clear hbb haa hd hd2 hle hm hm1
  go_enter Try.func15, Try.ntmps15
  go_wp2_with fail
  rw [HM1.out]
  have hk : Below w.heap.size w ((w.alloc (.cells (wvs ⟨rows, W, seed, l, n, last, this⟩ (.slice aL L.rows kL) L (.slice aT T.rows kT) T) 38)).alloc (.cells #[.int .i64 0, .int .i64 0, .int .u64 0, .int .i64 0, .int .i64 0, .slice none 0 0, .int .i64 0, .int .u64 0, .int .u64 0, .slice none 0 0, .int .i64 0, .int .u64 0, .int .u64 0] 38)) := bl_alloc (bl_alloc (Below.refl _ _) _) _
  have hg0 : Blk ((w.alloc (.cells (wvs ⟨rows, W, seed, l, n, last, this⟩ (.slice aL L.rows kL) L (.slice aT T.rows kT) T) 38)).alloc (.cells #[.int .i64 0, .int .i64 0, .int .u64 0, .int .i64 0, .int .i64 0, .slice none 0 0, .int .i64 0, .int .u64 0, .int .u64 0, .slice none 0 0, .int .i64 0, .int .u64 0, .int .u64 0] 38)) w.heap.size 38 (wvs ⟨rows, W, seed, l, n, last, this⟩ (.slice aL L.rows kL) L (.slice aT T.rows kT) T) := heap_alloc2_old w _ _
  have hg1 : Blk ((w.alloc (.cells (wvs ⟨rows, W, seed, l, n, last, this⟩ (.slice aL L.rows kL) L (.slice aT T.rows kT) T) 38)).alloc (.cells #[.int .i64 0, .int .i64 0, .int .u64 0, .int .i64 0, .int .i64 0, .slice none 0 0, .int .i64 0, .int .u64 0, .int .u64 0, .slice none 0 0, .int .i64 0, .int .u64 0, .int .u64 0] 38)) (w.heap.size + 1) 38 #[.int .i64 0, .int .i64 0, .int .u64 0, .int .i64 0, .int .i64 0, .slice none 0 0, .int .i64 0, .int .u64 0, .int .u64 0, .slice none 0 0, .int .i64 0, .int .u64 0, .int .u64 0] := heap_alloc2_new w _ _
  have hs : (((w.alloc (.cells (wvs ⟨rows, W, seed, l, n, last, this⟩ (.slice aL L.rows kL) L (.slice aT T.rows kT) T) 38)).alloc (.cells #[.int .i64 0, .int .i64 0, .int .u64 0, .int .i64 0, .int .i64 0, .slice none 0 0, .int .i64 0, .int .u64 0, .int .u64 0, .slice none 0 0, .int .i64 0, .int .u64 0, .int .u64 0] 38))).heap.size = w.heap.size + 1 + 1 := by rw [World.size_alloc, World.size_alloc]
  have HF := fresh_ref ⟨rows, W, seed, l, n, last, this⟩ (.slice aL L.rows kL) L (.slice aT T.rows kT) T B P (a - 1) _ HM.out (hL.next_ hk) (hT.next_ hk)
  rw [← HN1.out] at HF
  refine HF.mono ?_
  clear HF
  rintro e w3 ⟨v, rfl, hR, hb3⟩
  replace hg0 := hg0.next hb3
  replace hg1 := hg1.next hb3
  have hT3 := (hT.next_ hk).next_ hb3
  have hT3' : RV w3 B (fun q => q < w.heap.size) (.slice aT T.rows kT) T := Kd.R_mono (Kd.R_below (Kd.R_below (Kd.R_bound hT) hk) hb3) fun q hq => hq.2.2.1
  have hR2 : RV w3 w.heap.size (fun q => w.heap.size ≤ q ∧ q ≠ w.heap.size ∧ q ≠ w.heap.size + 1) v N1 := Kd.R_mono (Kd.R_lower hR hk.size) fun q hq => by
    rw [hs] at hq
    omega
  have hb4 := bnext hk hb3
  obtain ⟨av1, kv1, rfl⟩ := hR2.slice_
  clear hk hR hb3 hs hT3
  have c0 : w3.cell? ⟨w.heap.size, 0, none⟩ = some (.int .i64 (rows : Int)) := hg0.cell 0
  have c1 : w3.cell? ⟨w.heap.size, 1, none⟩ = some (.int .i64 (W : Int)) := hg0.cell 1
  have c2 : w3.cell? ⟨w.heap.size, 2, none⟩ = some (uv seed) := hg0.cell 2
  have c3 : w3.cell? ⟨w.heap.size, 3, none⟩ = some (.int .i64 (l : Int)) := hg0.cell 3
  have c4 : w3.cell? ⟨w.heap.size, 4, none⟩ = some (.int .i64 (n : Int)) := hg0.cell 4
  have c5 : w3.cell? ⟨w.heap.size, 5, none⟩ = some ((.slice aL L.rows kL)) := hg0.cell 5
  have c6 : w3.cell? ⟨w.heap.size, 6, none⟩ = some (.int .i64 (L.W : Int)) := hg0.cell 6
  have c7 : w3.cell? ⟨w.heap.size, 7, none⟩ = some (uv L.seed) := hg0.cell 7
  have c8 : w3.cell? ⟨w.heap.size, 8, none⟩ = some (nv L.total) := hg0.cell 8
  have c9 : w3.cell? ⟨w.heap.size, 9, none⟩ = some ((.slice aT T.rows kT)) := hg0.cell 9
  have c10 : w3.cell? ⟨w.heap.size, 10, none⟩ = some (.int .i64 (T.W : Int)) := hg0.cell 10
  have c11 : w3.cell? ⟨w.heap.size, 11, none⟩ = some (uv T.seed) := hg0.cell 11
  have c12 : w3.cell? ⟨w.heap.size, 12, none⟩ = some (nv T.total) := hg0.cell 12
  have f0 := hg0.frozen 0
  have f1 := hg0.frozen 1
  have f2 := hg0.frozen 2
  have f3 := hg0.frozen 3
  have f4 := hg0.frozen 4
  have f5 := hg0.frozen 5
  have f6 := hg0.frozen 6
  have f7 := hg0.frozen 7
  have f8 := hg0.frozen 8
  have f9 := hg0.frozen 9
  have f10 := hg0.frozen 10
  have f11 := hg0.frozen 11
  have f12 := hg0.frozen 12
  go_wp2_with fail
  clear c0 f0 c1 f1 c2 f2 c3 f3 c4 f4 c5 f5 c6 f6 c7 f7 c8 f8 c9 f9 c10 f10 c11 f11 c12 f12
  have hch4 : Chg (fun q => q = w.heap.size ∨ q = w.heap.size + 1) w3 ((((w3.setCell ⟨w.heap.size, 5, none⟩ (.slice av1 N1.rows kv1)).setCell ⟨w.heap.size, 6, none⟩ (.int .i64 (N1.W : Int))).setCell ⟨w.heap.size, 7, none⟩ (uv N1.seed)).setCell ⟨w.heap.size, 8, none⟩ (nv N1.total)) := (((((Chg.refl (fun q => q = w.heap.size ∨ q = w.heap.size + 1) w3).setCell (p := ⟨w.heap.size, 5, none⟩) (.inl (.inl rfl)) _).setCell (p := ⟨w.heap.size, 6, none⟩) (.inl (.inl rfl)) _).setCell (p := ⟨w.heap.size, 7, none⟩) (.inl (.inl rfl)) _).setCell (p := ⟨w.heap.size, 8, none⟩) (.inl (.inl rfl)) _)
  have h5 := hg0.set_ 5 (.slice av1 N1.rows kv1)
  have h6 := h5.set_ 6 ((.int .i64 (N1.W : Int)))
  have h7 := h6.set_ 7 ((uv N1.seed))
  have h8 : Blk ((((w3.setCell ⟨w.heap.size, 5, none⟩ (.slice av1 N1.rows kv1)).setCell ⟨w.heap.size, 6, none⟩ (.int .i64 (N1.W : Int))).setCell ⟨w.heap.size, 7, none⟩ (uv N1.seed)).setCell ⟨w.heap.size, 8, none⟩ (nv N1.total)) w.heap.size 38 (wvs ⟨rows, W, seed, l, n, last, this⟩ (.slice av1 N1.rows kv1) N1 (.slice aT T.rows kT) T) := h7.set_ 8 ((nv N1.total))
  have h9 : Blk ((((w3.setCell ⟨w.heap.size, 5, none⟩ (.slice av1 N1.rows kv1)).setCell ⟨w.heap.size, 6, none⟩ (.int .i64 (N1.W : Int))).setCell ⟨w.heap.size, 7, none⟩ (uv N1.seed)).setCell ⟨w.heap.size, 8, none⟩ (nv N1.total)) (w.heap.size + 1) 38 #[.int .i64 0, .int .i64 0, .int .u64 0, .int .i64 0, .int .i64 0, .slice none 0 0, .int .i64 0, .int .u64 0, .int .u64 0, .slice none 0 0, .int .i64 0, .int .u64 0, .int .u64 0] := ((((hg1.far (p := ⟨w.heap.size, 5, none⟩) (Nat.succ_ne_self _) _).far (p := ⟨w.heap.size, 6, none⟩) (Nat.succ_ne_self _) _).far (p := ⟨w.heap.size, 7, none⟩) (Nat.succ_ne_self _) _).far (p := ⟨w.heap.size, 8, none⟩) (Nat.succ_ne_self _) _)
  have hb5 : Below w.heap.size w ((((w3.setCell ⟨w.heap.size, 5, none⟩ (.slice av1 N1.rows kv1)).setCell ⟨w.heap.size, 6, none⟩ (.int .i64 (N1.W : Int))).setCell ⟨w.heap.size, 7, none⟩ (uv N1.seed)).setCell ⟨w.heap.size, 8, none⟩ (nv N1.total)) := bchg hb4 hch4 (by rintro j (rfl | rfl); exact Nat.le_refl _; exact Nat.le_succ _)
  have hR4 : RV ((((w3.setCell ⟨w.heap.size, 5, none⟩ (.slice av1 N1.rows kv1)).setCell ⟨w.heap.size, 6, none⟩ (.int .i64 (N1.W : Int))).setCell ⟨w.heap.size, 7, none⟩ (uv N1.seed)).setCell ⟨w.heap.size, 8, none⟩ (nv N1.total)) w.heap.size (fun q => w.heap.size ≤ q ∧ q ≠ w.heap.size ∧ q ≠ w.heap.size + 1) (.slice av1 N1.rows kv1) N1 := Kd.R_step hR2 fun q hq hlt => hch4.block q hlt (by rintro (h | h); exact hq.2.1 h; exact hq.2.2 h)
  have hT4 : RV ((((w3.setCell ⟨w.heap.size, 5, none⟩ (.slice av1 N1.rows kv1)).setCell ⟨w.heap.size, 6, none⟩ (.int .i64 (N1.W : Int))).setCell ⟨w.heap.size, 7, none⟩ (uv N1.seed)).setCell ⟨w.heap.size, 8, none⟩ (nv N1.total)) B (fun q => q < w.heap.size) (.slice aT T.rows kT) T := Kd.R_step hT3' fun q hq hlt => hch4.block q hlt (by rintro (h | h) <;> omega)
  have hsz : w.heap.size + 1 + 1 ≤ (((((w3.setCell ⟨w.heap.size, 5, none⟩ (.slice av1 N1.rows kv1)).setCell ⟨w.heap.size, 6, none⟩ (.int .i64 (N1.W : Int))).setCell ⟨w.heap.size, 7, none⟩ (uv N1.seed)).setCell ⟨w.heap.size, 8, none⟩ (nv N1.total))).heap.size := by have := h9.lt; omega
  clear h5 h6 h7 hg0 hg1 hR2 hT3' hb4 hch4
  generalize ((((w3.setCell ⟨w.heap.size, 5, none⟩ (.slice av1 N1.rows kv1)).setCell ⟨w.heap.size, 6, none⟩ (.int .i64 (N1.W : Int))).setCell ⟨w.heap.size, 7, none⟩ (uv N1.seed)).setCell ⟨w.heap.size, 8, none⟩ (nv N1.total)) = w4 at *
  have HG := fresh_ref ⟨rows, W, seed, l, n, last, this⟩ (.slice av1 N1.rows kv1) N1 (.slice aT T.rows kT) T 0 (fun _ => True) a _ HM.out (Kd.R_mono (Kd.R_lower hR4 (Nat.zero_le _)) fun _ _ => trivial) (Kd.R_mono (Kd.R_lower hT4 (Nat.zero_le _)) fun _ _ => trivial)
  rw [← HN2.out] at HG
  refine HG.mono ?_
  clear HG hT4
  rintro e w5 ⟨v, rfl, hR, hb3⟩
  have hR5 := hR4.next_ hb3
  replace hb5 := bnext hb5 hb3
  have hg0 := h8.next hb3
  have hg1 := h9.next hb3
  have hR6 : RV w5 w.heap.size (fun q => w.heap.size ≤ q ∧ q ≠ w.heap.size ∧ q ≠ w.heap.size + 1) v N2 := Kd.R_mono (Kd.R_lower hR (by omega)) fun q hq => by omega
  obtain ⟨av, kv, rfl⟩ := hR6.slice_
  clear hR hR4 h8 h9 hb3 hsz
  have c0 : w5.cell? ⟨w.heap.size, 0, none⟩ = some (.int .i64 (rows : Int)) := hg0.cell 0
  have c1 : w5.cell? ⟨w.heap.size, 1, none⟩ = some (.int .i64 (W : Int)) := hg0.cell 1
  have c2 : w5.cell? ⟨w.heap.size, 2, none⟩ = some (uv seed) := hg0.cell 2
  have c3 : w5.cell? ⟨w.heap.size, 3, none⟩ = some (.int .i64 (l : Int)) := hg0.cell 3
  have c4 : w5.cell? ⟨w.heap.size, 4, none⟩ = some (.int .i64 (n : Int)) := hg0.cell 4
  have c5 : w5.cell? ⟨w.heap.size, 5, none⟩ = some ((.slice av1 N1.rows kv1)) := hg0.cell 5
  have c6 : w5.cell? ⟨w.heap.size, 6, none⟩ = some ((.int .i64 (N1.W : Int))) := hg0.cell 6
  have c7 : w5.cell? ⟨w.heap.size, 7, none⟩ = some ((uv N1.seed)) := hg0.cell 7
  have c8 : w5.cell? ⟨w.heap.size, 8, none⟩ = some ((nv N1.total)) := hg0.cell 8
  have c9 : w5.cell? ⟨w.heap.size, 9, none⟩ = some ((.slice aT T.rows kT)) := hg0.cell 9
  have c10 : w5.cell? ⟨w.heap.size, 10, none⟩ = some (.int .i64 (T.W : Int)) := hg0.cell 10
  have c11 : w5.cell? ⟨w.heap.size, 11, none⟩ = some (uv T.seed) := hg0.cell 11
  have c12 : w5.cell? ⟨w.heap.size, 12, none⟩ = some (nv T.total) := hg0.cell 12
  have f0 := hg0.frozen 0
  have f1 := hg0.frozen 1
  have f2 := hg0.frozen 2
  have f3 := hg0.frozen 3
  have f4 := hg0.frozen 4
  have f5 := hg0.frozen 5
  have f6 := hg0.frozen 6
  have f7 := hg0.frozen 7
  have f8 := hg0.frozen 8
  have f9 := hg0.frozen 9
  have f10 := hg0.frozen 10
  have f11 := hg0.frozen 11
  have f12 := hg0.frozen 12
  have z0 : w5.cell? ⟨(w.heap.size + 1), 0, none⟩ = some (.int .i64 0) := hg1.cell 0
  have z1 : w5.cell? ⟨(w.heap.size + 1), 1, none⟩ = some (.int .i64 0) := hg1.cell 1
  have z2 : w5.cell? ⟨(w.heap.size + 1), 2, none⟩ = some (.int .u64 0) := hg1.cell 2
  have z3 : w5.cell? ⟨(w.heap.size + 1), 3, none⟩ = some (.int .i64 0) := hg1.cell 3
  have z4 : w5.cell? ⟨(w.heap.size + 1), 4, none⟩ = some (.int .i64 0) := hg1.cell 4
  have z5 : w5.cell? ⟨(w.heap.size + 1), 5, none⟩ = some (.slice none 0 0) := hg1.cell 5
  have z6 : w5.cell? ⟨(w.heap.size + 1), 6, none⟩ = some (.int .i64 0) := hg1.cell 6
  have z7 : w5.cell? ⟨(w.heap.size + 1), 7, none⟩ = some (.int .u64 0) := hg1.cell 7
  have z8 : w5.cell? ⟨(w.heap.size + 1), 8, none⟩ = some (.int .u64 0) := hg1.cell 8
  have z9 : w5.cell? ⟨(w.heap.size + 1), 9, none⟩ = some (.slice none 0 0) := hg1.cell 9
  have z10 : w5.cell? ⟨(w.heap.size + 1), 10, none⟩ = some (.int .i64 0) := hg1.cell 10
  have z11 : w5.cell? ⟨(w.heap.size + 1), 11, none⟩ = some (.int .u64 0) := hg1.cell 11
  have z12 : w5.cell? ⟨(w.heap.size + 1), 12, none⟩ = some (.int .u64 0) := hg1.cell 12
  have y0 := hg1.frozen 0
  have y1 := hg1.frozen 1
  have y2 := hg1.frozen 2
  have y3 := hg1.frozen 3
  have y4 := hg1.frozen 4
  have y5 := hg1.frozen 5
  have y6 := hg1.frozen 6
  have y7 := hg1.frozen 7
  have y8 := hg1.frozen 8
  have y9 := hg1.frozen 9
  have y10 := hg1.frozen 10
  have y11 := hg1.frozen 11
  have y12 := hg1.frozen 12
  go_wp2
  refine bodyPost_ret (results_row_tmp rfl _ _ (w.heap.size + 1) 38 _ (0, 0) _ rfl (set13 (((((hg1.far (p := ⟨w.heap.size, 9, none⟩) (Nat.succ_ne_self _) _).far (p := ⟨w.heap.size, 10, none⟩) (Nat.succ_ne_self _) _).far (p := ⟨w.heap.size, 11, none⟩) (Nat.succ_ne_self _) _).far (p := ⟨w.heap.size, 12, none⟩) (Nat.succ_ne_self _) _).far (p := ⟨w.heap.size, 4, none⟩) (Nat.succ_ne_self _) _)) Try.underlying38 rfl (by kernel_rfl)) rfl ?_
  refine ⟨_, _, rfl, Kd.R_mono (Kd.R_step hR5 fun q hq hlt => (Chg.block (((((((((((((((((((Chg.refl (fun q => q = w.heap.size ∨ q = w.heap.size + 1) w5).setCell (p := ⟨w.heap.size, 9, none⟩) (.inl (.inl rfl)) _).setCell (p := ⟨w.heap.size, 10, none⟩) (.inl (.inl rfl)) _).setCell (p := ⟨w.heap.size, 11, none⟩) (.inl (.inl rfl)) _).setCell (p := ⟨w.heap.size, 12, none⟩) (.inl (.inl rfl)) _).setCell (p := ⟨w.heap.size, 4, none⟩) (.inl (.inl rfl)) _).setCell (p := ⟨w.heap.size + 1, 0, none⟩) (.inl (.inr rfl)) _).setCell (p := ⟨w.heap.size + 1, 1, none⟩) (.inl (.inr rfl)) _).setCell (p := ⟨w.heap.size + 1, 2, none⟩) (.inl (.inr rfl)) _).setCell (p := ⟨w.heap.size + 1, 3, none⟩) (.inl (.inr rfl)) _).setCell (p := ⟨w.heap.size + 1, 4, none⟩) (.inl (.inr rfl)) _).setCell (p := ⟨w.heap.size + 1, 5, none⟩) (.inl (.inr rfl)) _).setCell (p := ⟨w.heap.size + 1, 6, none⟩) (.inl (.inr rfl)) _).setCell (p := ⟨w.heap.size + 1, 7, none⟩) (.inl (.inr rfl)) _).setCell (p := ⟨w.heap.size + 1, 8, none⟩) (.inl (.inr rfl)) _).setCell (p := ⟨w.heap.size + 1, 9, none⟩) (.inl (.inr rfl)) _).setCell (p := ⟨w.heap.size + 1, 10, none⟩) (.inl (.inr rfl)) _).setCell (p := ⟨w.heap.size + 1, 11, none⟩) (.inl (.inr rfl)) _).setCell (p := ⟨w.heap.size + 1, 12, none⟩) (.inl (.inr rfl)) _) q hlt ?_)) (fun q hq => hq.1), Kd.R_mono (Kd.R_step hR6 fun q hq hlt => (Chg.block (((((((((((((((((((Chg.refl (fun q => q = w.heap.size ∨ q = w.heap.size + 1) w5).setCell (p := ⟨w.heap.size, 9, none⟩) (.inl (.inl rfl)) _).setCell (p := ⟨w.heap.size, 10, none⟩) (.inl (.inl rfl)) _).setCell (p := ⟨w.heap.size, 11, none⟩) (.inl (.inl rfl)) _).setCell (p := ⟨w.heap.size, 12, none⟩) (.inl (.inl rfl)) _).setCell (p := ⟨w.heap.size, 4, none⟩) (.inl (.inl rfl)) _).setCell (p := ⟨w.heap.size + 1, 0, none⟩) (.inl (.inr rfl)) _).setCell (p := ⟨w.heap.size + 1, 1, none⟩) (.inl (.inr rfl)) _).setCell (p := ⟨w.heap.size + 1, 2, none⟩) (.inl (.inr rfl)) _).setCell (p := ⟨w.heap.size + 1, 3, none⟩) (.inl (.inr rfl)) _).setCell (p := ⟨w.heap.size + 1, 4, none⟩) (.inl (.inr rfl)) _).setCell (p := ⟨w.heap.size + 1, 5, none⟩) (.inl (.inr rfl)) _).setCell (p := ⟨w.heap.size + 1, 6, none⟩) (.inl (.inr rfl)) _).setCell (p := ⟨w.heap.size + 1, 7, none⟩) (.inl (.inr rfl)) _).setCell (p := ⟨w.heap.size + 1, 8, none⟩) (.inl (.inr rfl)) _).setCell (p := ⟨w.heap.size + 1, 9, none⟩) (.inl (.inr rfl)) _).setCell (p := ⟨w.heap.size + 1, 10, none⟩) (.inl (.inr rfl)) _).setCell (p := ⟨w.heap.size + 1, 11, none⟩) (.inl (.inr rfl)) _).setCell (p := ⟨w.heap.size + 1, 12, none⟩) (.inl (.inr rfl)) _) q hlt ?_)) (fun q hq => hq.1), bchg hb5 (((((((((((((((((((Chg.refl (fun q => q = w.heap.size ∨ q = w.heap.size + 1) w5).setCell (p := ⟨w.heap.size, 9, none⟩) (.inl (.inl rfl)) _).setCell (p := ⟨w.heap.size, 10, none⟩) (.inl (.inl rfl)) _).setCell (p := ⟨w.heap.size, 11, none⟩) (.inl (.inl rfl)) _).setCell (p := ⟨w.heap.size, 12, none⟩) (.inl (.inl rfl)) _).setCell (p := ⟨w.heap.size, 4, none⟩) (.inl (.inl rfl)) _).setCell (p := ⟨w.heap.size + 1, 0, none⟩) (.inl (.inr rfl)) _).setCell (p := ⟨w.heap.size + 1, 1, none⟩) (.inl (.inr rfl)) _).setCell (p := ⟨w.heap.size + 1, 2, none⟩) (.inl (.inr rfl)) _).setCell (p := ⟨w.heap.size + 1, 3, none⟩) (.inl (.inr rfl)) _).setCell (p := ⟨w.heap.size + 1, 4, none⟩) (.inl (.inr rfl)) _).setCell (p := ⟨w.heap.size + 1, 5, none⟩) (.inl (.inr rfl)) _).setCell (p := ⟨w.heap.size + 1, 6, none⟩) (.inl (.inr rfl)) _).setCell (p := ⟨w.heap.size + 1, 7, none⟩) (.inl (.inr rfl)) _).setCell (p := ⟨w.heap.size + 1, 8, none⟩) (.inl (.inr rfl)) _).setCell (p := ⟨w.heap.size + 1, 9, none⟩) (.inl (.inr rfl)) _).setCell (p := ⟨w.heap.size + 1, 10, none⟩) (.inl (.inr rfl)) _).setCell (p := ⟨w.heap.size + 1, 11, none⟩) (.inl (.inr rfl)) _).setCell (p := ⟨w.heap.size + 1, 12, none⟩) (.inl (.inr rfl)) _) ?_⟩
  · rintro (h | h)
    · exact hq.2.1 h
    · exact hq.2.2 h
  · rintro (h | h)
    · exact hq.2.1 h
    · exact hq.2.2 h
  · rintro j (rfl | rfl)
    · exact Nat.le_refl _
    · exact Nat.le_succ _
end Go.Proofs.Ytiohjmpnkoohjaa.Tele
