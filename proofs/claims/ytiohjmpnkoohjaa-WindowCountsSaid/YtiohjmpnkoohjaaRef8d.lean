/- The walks of the reference's Add on windows. No conditions. -/
import Derived.Test.YtiohjmpnkoohjaaRef8c
namespace Go.Proofs.Ytiohjmpnkoohjaa.Tele
open Go.RowKit Go.Proofs.YtiohjmpnkoohjaaW.PrintWords Go.Proofs.YtiohjmpnkoohjaaW.PrintLast Go.Proofs.YtiohjmpnkoohjaaW.PrintMore Go.Proofs.Ytiohjmpnkoohjaa.PWindowCounts
set_option linter.unusedVariables false
set_option linter.unusedSimpArgs false

set_option maxRecDepth 8000 in
set_option maxHeartbeats 4000000 in
theorem radd_no (m : Win) (aL : Option Addr) (nL kL : Nat) (L : Sk) (aT : Option Addr) (nT kT : Nat) (T : Sk) (now : Int) (key : ByteArray) (n : Nat) (w : World) (hn : now < (m.now : Int) ∨ 1099511627776 < now) :
    Calls Try.prog 14 #[wv m (.slice aL nL kL) L (.slice aT nT kT) T, .int .i64 now, .string key, nv n] w fun e w' => e = .returned (.tuple #[wv m (.slice aL nL kL) L (.slice aT nT kT) T, .int .i64 60]) ∧ Below w.heap.size w w' := by
  have HA := Lib.hid fun w => at_no m aL nL kL L aT nT kT T now w hn
  clear hn
  go_enter Try.func14, Try.ntmps14
  go_wp2_with fail
  have hk : Below w.heap.size w ((w.alloc (.cells (wvs m (.slice aL nL kL) L (.slice aT nT kT) T) 38)).alloc (.cells #[.int .i64 0, .int .i64 0, .int .u64 0, .int .i64 0, .int .i64 0, .slice none 0 0, .int .i64 0, .int .u64 0, .int .u64 0, .slice none 0 0, .int .i64 0, .int .u64 0, .int .u64 0] 38)) := bl_alloc (bl_alloc (Below.refl _ _) _) _
  have hg0 : Blk ((w.alloc (.cells (wvs m (.slice aL nL kL) L (.slice aT nT kT) T) 38)).alloc (.cells #[.int .i64 0, .int .i64 0, .int .u64 0, .int .i64 0, .int .i64 0, .slice none 0 0, .int .i64 0, .int .u64 0, .int .u64 0, .slice none 0 0, .int .i64 0, .int .u64 0, .int .u64 0] 38)) w.heap.size 38 (wvs m (.slice aL nL kL) L (.slice aT nT kT) T) := heap_alloc2_old w _ _
  have hg1 : Blk ((w.alloc (.cells (wvs m (.slice aL nL kL) L (.slice aT nT kT) T) 38)).alloc (.cells #[.int .i64 0, .int .i64 0, .int .u64 0, .int .i64 0, .int .i64 0, .slice none 0 0, .int .i64 0, .int .u64 0, .int .u64 0, .slice none 0 0, .int .i64 0, .int .u64 0, .int .u64 0] 38)) (w.heap.size + 1) 38 #[.int .i64 0, .int .i64 0, .int .u64 0, .int .i64 0, .int .i64 0, .slice none 0 0, .int .i64 0, .int .u64 0, .int .u64 0, .slice none 0 0, .int .i64 0, .int .u64 0, .int .u64 0] := heap_alloc2_new w _ _
  refine (HA.out _).mono ?_
  rintro e w3 ⟨rfl, hb3⟩
  replace hg0 := (hg0.next hb3).alloc (.cells (wvs m (.slice aL nL kL) L (.slice aT nT kT) T) 38)
  replace hg1 := (hg1.next hb3).alloc (.cells (wvs m (.slice aL nL kL) L (.slice aT nT kT) T) 38)
  have hb4 := bl_alloc (bnext hk hb3) (.cells (wvs m (.slice aL nL kL) L (.slice aT nT kT) T) 38)
  clear hk hb3
  go_upto_region 2 with fail
  generalize w3.alloc _ = w4 at *
  have c0 : w4.cell? ⟨w.heap.size, 0, none⟩ = some (.int .i64 (m.rows : Int)) := hg0.cell 0
  have c1 : w4.cell? ⟨w.heap.size, 1, none⟩ = some (.int .i64 (m.W : Int)) := hg0.cell 1
  have c2 : w4.cell? ⟨w.heap.size, 2, none⟩ = some (uv m.seed) := hg0.cell 2
  have c3 : w4.cell? ⟨w.heap.size, 3, none⟩ = some (.int .i64 (m.long : Int)) := hg0.cell 3
  have c4 : w4.cell? ⟨w.heap.size, 4, none⟩ = some (.int .i64 (m.now : Int)) := hg0.cell 4
  have c5 : w4.cell? ⟨w.heap.size, 5, none⟩ = some ((.slice aL nL kL)) := hg0.cell 5
  have c6 : w4.cell? ⟨w.heap.size, 6, none⟩ = some (.int .i64 (L.W : Int)) := hg0.cell 6
  have c7 : w4.cell? ⟨w.heap.size, 7, none⟩ = some (uv L.seed) := hg0.cell 7
  have c8 : w4.cell? ⟨w.heap.size, 8, none⟩ = some (nv L.total) := hg0.cell 8
  have c9 : w4.cell? ⟨w.heap.size, 9, none⟩ = some ((.slice aT nT kT)) := hg0.cell 9
  have c10 : w4.cell? ⟨w.heap.size, 10, none⟩ = some (.int .i64 (T.W : Int)) := hg0.cell 10
  have c11 : w4.cell? ⟨w.heap.size, 11, none⟩ = some (uv T.seed) := hg0.cell 11
  have c12 : w4.cell? ⟨w.heap.size, 12, none⟩ = some (nv T.total) := hg0.cell 12
  have f0 := hg0.frozen 0
  have f1 := hg0.frozen 1
  have f2 := hg0.frozen 2
  have f3 := hg0.frozen 3
  have f4 := hg0.frozen 4
  have f5 := hg0.frozen 5
  have f6 := hg0.frozen 6
  have f7 := hg0.frozen 7
  have f8 := hg0.frozen 8
  have f9 := hg0.frozen 9
  have f10 := hg0.frozen 10
  have f11 := hg0.frozen 11
  have f12 := hg0.frozen 12
  have z0 : w4.cell? ⟨(w.heap.size + 1), 0, none⟩ = some (.int .i64 0) := hg1.cell 0
  have z1 : w4.cell? ⟨(w.heap.size + 1), 1, none⟩ = some (.int .i64 0) := hg1.cell 1
  have z2 : w4.cell? ⟨(w.heap.size + 1), 2, none⟩ = some (.int .u64 0) := hg1.cell 2
  have z3 : w4.cell? ⟨(w.heap.size + 1), 3, none⟩ = some (.int .i64 0) := hg1.cell 3
  have z4 : w4.cell? ⟨(w.heap.size + 1), 4, none⟩ = some (.int .i64 0) := hg1.cell 4
  have z5 : w4.cell? ⟨(w.heap.size + 1), 5, none⟩ = some (.slice none 0 0) := hg1.cell 5
  have z6 : w4.cell? ⟨(w.heap.size + 1), 6, none⟩ = some (.int .i64 0) := hg1.cell 6
  have z7 : w4.cell? ⟨(w.heap.size + 1), 7, none⟩ = some (.int .u64 0) := hg1.cell 7
  have z8 : w4.cell? ⟨(w.heap.size + 1), 8, none⟩ = some (.int .u64 0) := hg1.cell 8
  have z9 : w4.cell? ⟨(w.heap.size + 1), 9, none⟩ = some (.slice none 0 0) := hg1.cell 9
  have z10 : w4.cell? ⟨(w.heap.size + 1), 10, none⟩ = some (.int .i64 0) := hg1.cell 10
  have z11 : w4.cell? ⟨(w.heap.size + 1), 11, none⟩ = some (.int .u64 0) := hg1.cell 11
  have z12 : w4.cell? ⟨(w.heap.size + 1), 12, none⟩ = some (.int .u64 0) := hg1.cell 12
  have y0 := hg1.frozen 0
  have y1 := hg1.frozen 1
  have y2 := hg1.frozen 2
  have y3 := hg1.frozen 3
  have y4 := hg1.frozen 4
  have y5 := hg1.frozen 5
  have y6 := hg1.frozen 6
  have y7 := hg1.frozen 7
  have y8 := hg1.frozen 8
  have y9 := hg1.frozen 9
  have y10 := hg1.frozen 10
  have y11 := hg1.frozen 11
  have y12 := hg1.frozen 12
  go_wp2
  exact bodyPost_ret (results_row_tmp rfl _ _ (w.heap.size + 1) 38 _ (0, 0) _ rfl (set13 hg1) Try.underlying38 rfl (by kernel_rfl)) rfl ⟨rfl, bchg hb4 ((((((((((((((Chg.refl (fun q => q = w.heap.size ∨ q = w.heap.size + 1) w4).setCell (p := ⟨w.heap.size + 1, 0, none⟩) (.inl (.inr rfl)) _).setCell (p := ⟨w.heap.size + 1, 1, none⟩) (.inl (.inr rfl)) _).setCell (p := ⟨w.heap.size + 1, 2, none⟩) (.inl (.inr rfl)) _).setCell (p := ⟨w.heap.size + 1, 3, none⟩) (.inl (.inr rfl)) _).setCell (p := ⟨w.heap.size + 1, 4, none⟩) (.inl (.inr rfl)) _).setCell (p := ⟨w.heap.size + 1, 5, none⟩) (.inl (.inr rfl)) _).setCell (p := ⟨w.heap.size + 1, 6, none⟩) (.inl (.inr rfl)) _).setCell (p := ⟨w.heap.size + 1, 7, none⟩) (.inl (.inr rfl)) _).setCell (p := ⟨w.heap.size + 1, 8, none⟩) (.inl (.inr rfl)) _).setCell (p := ⟨w.heap.size + 1, 9, none⟩) (.inl (.inr rfl)) _).setCell (p := ⟨w.heap.size + 1, 10, none⟩) (.inl (.inr rfl)) _).setCell (p := ⟨w.heap.size + 1, 11, none⟩) (.inl (.inr rfl)) _).setCell (p := ⟨w.heap.size + 1, 12, none⟩) (.inl (.inr rfl)) _) (by rintro j (rfl | rfl); exact Nat.le_refl _; exact Nat.le_succ _)⟩
set_option maxRecDepth 8000 in
set_option maxHeartbeats 4000000 in
theorem radd_yes (m : Win) (vL : Value) (L : Sk) (vT : Value) (B : Nat) (P : Nat → Prop) (now : Nat) (key : ByteArray) (n : Nat) (w : World) (hm : m.Ok) (hL : RV w B P vL L) (hT : RV w B P vT m.this) (hB : B ≤ w.heap.size) (hl : LastOk m L) (hn1 : m.now ≤ now) (hn2 : now ≤ 1099511627776) (hO : (m.turn now).this.Ok) (hs : key.size ≤ 140737488351232) (hn : n ≤ 18446744073709551615) :
    Calls Try.prog 14 #[wv m vL L vT m.this, .int .i64 (now : Int), .string key, nv n] w fun e w' => ∃ vL' L' vT', e = .returned (.tuple #[wv (m.turn now) vL' L' vT' ((m.turn now).this.add key.data.toList n), .int .i64 0]) ∧ RV w' B (fun q => P q ∨ w.heap.size ≤ q) vL' L' ∧ RV w' B (fun q => P q ∨ w.heap.size ≤ q) vT' ((m.turn now).this.add key.data.toList n) ∧ LastOk (m.turn now) L' ∧ Below w.heap.size w w' := by
  have hL' : RV w B (fun q => P q ∧ q < w.heap.size) vL L := Kd.R_mono (Kd.R_bound hL) fun q hq => ⟨hq.1, hq.2.2.1⟩
  have hT' : RV w B (fun q => P q ∧ q < w.heap.size) vT m.this := Kd.R_mono (Kd.R_bound hT) fun q hq => ⟨hq.1, hq.2.2.1⟩
  have HA := Lib.hid fun W (hb : Below w.heap.size w W) => at_yes m vL L vT B _ now W hm (hL'.next_ hb) (hT'.next_ hb) (Nat.le_trans hB hb.size) hl hn1 hn2
  obtain ⟨aL, kL, rfl⟩ := hL.slice_
  obtain ⟨aT, kT, rfl⟩ := hT.slice_
  obtain ⟨M2, hM2⟩ : ∃ M2, M2 = m.turn now := ⟨_, rfl⟩
  rw [← hM2] at HA hO ⊢
  obtain ⟨T3, hT3⟩ : ∃ T3, T3 = M2.this.add key.data.toList n := ⟨_, rfl⟩
  have HAD := Lib.hid fun (W : World) v (h : RV W B (fun q => (P q ∧ q < w.heap.size) ∨ w.heap.size + 1 + 1 ≤ q) v M2.this) => radd_R key n h hO hs hn
  rw [← hT3] at HAD ⊢
  clear hM2 hT3 hL hT hL' hT' hl hn1 hn2 hm hO
  go_enter Try.func14, Try.ntmps14
  go_wp2_with fail
  have hk : Below w.heap.size w ((w.alloc (.cells (wvs m (.slice aL L.rows kL) L (.slice aT m.this.rows kT) m.this) 38)).alloc (.cells #[.int .i64 0, .int .i64 0, .int .u64 0, .int .i64 0, .int .i64 0, .slice none 0 0, .int .i64 0, .int .u64 0, .int .u64 0, .slice none 0 0, .int .i64 0, .int .u64 0, .int .u64 0] 38)) := bl_alloc (bl_alloc (Below.refl _ _) _) _
  have hg0 : Blk ((w.alloc (.cells (wvs m (.slice aL L.rows kL) L (.slice aT m.this.rows kT) m.this) 38)).alloc (.cells #[.int .i64 0, .int .i64 0, .int .u64 0, .int .i64 0, .int .i64 0, .slice none 0 0, .int .i64 0, .int .u64 0, .int .u64 0, .slice none 0 0, .int .i64 0, .int .u64 0, .int .u64 0] 38)) w.heap.size 38 (wvs m (.slice aL L.rows kL) L (.slice aT m.this.rows kT) m.this) := heap_alloc2_old w _ _
  have hg1 : Blk ((w.alloc (.cells (wvs m (.slice aL L.rows kL) L (.slice aT m.this.rows kT) m.this) 38)).alloc (.cells #[.int .i64 0, .int .i64 0, .int .u64 0, .int .i64 0, .int .i64 0, .slice none 0 0, .int .i64 0, .int .u64 0, .int .u64 0, .slice none 0 0, .int .i64 0, .int .u64 0, .int .u64 0] 38)) (w.heap.size + 1) 38 #[.int .i64 0, .int .i64 0, .int .u64 0, .int .i64 0, .int .i64 0, .slice none 0 0, .int .i64 0, .int .u64 0, .int .u64 0, .slice none 0 0, .int .i64 0, .int .u64 0, .int .u64 0] := heap_alloc2_new w _ _
  have hs0 : (((w.alloc (.cells (wvs m (.slice aL L.rows kL) L (.slice aT m.this.rows kT) m.this) 38)).alloc (.cells #[.int .i64 0, .int .i64 0, .int .u64 0, .int .i64 0, .int .i64 0, .slice none 0 0, .int .i64 0, .int .u64 0, .int .u64 0, .slice none 0 0, .int .i64 0, .int .u64 0, .int .u64 0] 38))).heap.size = w.heap.size + 1 + 1 := by rw [World.size_alloc, World.size_alloc]
  refine (HA.out _ hk).mono ?_
  rintro e w3 ⟨vL2, L2, vT2, rfl, hRL, hRT, hLO, hb3⟩
  rw [hs0] at hRL hRT
  obtain ⟨aL2, kL2, rfl⟩ := hRL.slice_
  obtain ⟨aT2, kT2, rfl⟩ := hRT.slice_
  have hlt : w.heap.size + 1 < w3.heap.size := by have := hb3.size; omega
  have hka := bl_alloc (Below.refl w3.heap.size w3) (.cells (wvs M2 (.slice aL2 L2.rows kL2) L2 (.slice aT2 M2.this.rows kT2) M2.this) 38)
  replace hg1 := (hg1.next hb3).alloc (.cells (wvs M2 (.slice aL2 L2.rows kL2) L2 (.slice aT2 M2.this.rows kT2) M2.this) 38)
  have hg2 := Blk.new w3 38 (wvs M2 (.slice aL2 L2.rows kL2) L2 (.slice aT2 M2.this.rows kT2) M2.this)
  have hb4 := bl_alloc (bnext hk hb3) (.cells (wvs M2 (.slice aL2 L2.rows kL2) L2 (.slice aT2 M2.this.rows kT2) M2.this) 38)
  have hRL4 : RV (w3.alloc (.cells (wvs M2 (.slice aL2 L2.rows kL2) L2 (.slice aT2 M2.this.rows kT2) M2.this) 38)) B (fun q => ((P q ∧ q < w.heap.size) ∨ w.heap.size + 1 + 1 ≤ q) ∧ q < w3.heap.size) (.slice aL2 L2.rows kL2) L2 := Kd.R_below (Kd.R_mono (Kd.R_bound hRL) (fun q hq => ⟨hq.1, hq.2.2.1⟩)) hka
  have HAD2 := Lib.hid (HAD.out _ _ (hRT.next_ hka))
  clear hk hb3 hg0 hs0 hRL hRT hka HAD HA
  go_wp2_with fail
  have hg2l := hg2.lt
  generalize w3.alloc _ = w4 at *
  generalize w3.heap.size = g2 at *
  refine HAD2.out.mono ?_
  rintro e w5 ⟨v5, rfl, hR5, hb5⟩
  replace hg1 := hg1.next hb5
  replace hg2 := hg2.next hb5
  have hRL5 := hRL4.next_ hb5
  have hR6 : RV w5 B (fun q => w4.heap.size ≤ q) v5 T3 := Kd.R_lower hR5 (Nat.le_trans hB hb4.size)
  obtain ⟨a5, k5, rfl⟩ := hR6.slice_
  have h4s := hb4.size
  replace hb4 := bnext hb4 hb5
  clear HAD2 hRL4 hR5 hb5
  have c0 : w5.cell? ⟨g2, 0, none⟩ = some (.int .i64 (M2.rows : Int)) := hg2.cell 0
  have c1 : w5.cell? ⟨g2, 1, none⟩ = some (.int .i64 (M2.W : Int)) := hg2.cell 1
  have c2 : w5.cell? ⟨g2, 2, none⟩ = some (uv M2.seed) := hg2.cell 2
  have c3 : w5.cell? ⟨g2, 3, none⟩ = some (.int .i64 (M2.long : Int)) := hg2.cell 3
  have c4 : w5.cell? ⟨g2, 4, none⟩ = some (.int .i64 (M2.now : Int)) := hg2.cell 4
  have c5 : w5.cell? ⟨g2, 5, none⟩ = some ((.slice aL2 L2.rows kL2)) := hg2.cell 5
  have c6 : w5.cell? ⟨g2, 6, none⟩ = some (.int .i64 (L2.W : Int)) := hg2.cell 6
  have c7 : w5.cell? ⟨g2, 7, none⟩ = some (uv L2.seed) := hg2.cell 7
  have c8 : w5.cell? ⟨g2, 8, none⟩ = some (nv L2.total) := hg2.cell 8
  have c9 : w5.cell? ⟨g2, 9, none⟩ = some ((.slice aT2 M2.this.rows kT2)) := hg2.cell 9
  have c10 : w5.cell? ⟨g2, 10, none⟩ = some (.int .i64 (M2.this.W : Int)) := hg2.cell 10
  have c11 : w5.cell? ⟨g2, 11, none⟩ = some (uv M2.this.seed) := hg2.cell 11
  have c12 : w5.cell? ⟨g2, 12, none⟩ = some (nv M2.this.total) := hg2.cell 12
  have f0 := hg2.frozen 0
  have f1 := hg2.frozen 1
  have f2 := hg2.frozen 2
  have f3 := hg2.frozen 3
  have f4 := hg2.frozen 4
  have f5 := hg2.frozen 5
  have f6 := hg2.frozen 6
  have f7 := hg2.frozen 7
  have f8 := hg2.frozen 8
  have f9 := hg2.frozen 9
  have f10 := hg2.frozen 10
  have f11 := hg2.frozen 11
  have f12 := hg2.frozen 12
  have z0 : w5.cell? ⟨(w.heap.size + 1), 0, none⟩ = some (.int .i64 0) := hg1.cell 0
  have z1 : w5.cell? ⟨(w.heap.size + 1), 1, none⟩ = some (.int .i64 0) := hg1.cell 1
  have z2 : w5.cell? ⟨(w.heap.size + 1), 2, none⟩ = some (.int .u64 0) := hg1.cell 2
  have z3 : w5.cell? ⟨(w.heap.size + 1), 3, none⟩ = some (.int .i64 0) := hg1.cell 3
  have z4 : w5.cell? ⟨(w.heap.size + 1), 4, none⟩ = some (.int .i64 0) := hg1.cell 4
  have z5 : w5.cell? ⟨(w.heap.size + 1), 5, none⟩ = some (.slice none 0 0) := hg1.cell 5
  have z6 : w5.cell? ⟨(w.heap.size + 1), 6, none⟩ = some (.int .i64 0) := hg1.cell 6
  have z7 : w5.cell? ⟨(w.heap.size + 1), 7, none⟩ = some (.int .u64 0) := hg1.cell 7
  have z8 : w5.cell? ⟨(w.heap.size + 1), 8, none⟩ = some (.int .u64 0) := hg1.cell 8
  have z9 : w5.cell? ⟨(w.heap.size + 1), 9, none⟩ = some (.slice none 0 0) := hg1.cell 9
  have z10 : w5.cell? ⟨(w.heap.size + 1), 10, none⟩ = some (.int .i64 0) := hg1.cell 10
  have z11 : w5.cell? ⟨(w.heap.size + 1), 11, none⟩ = some (.int .u64 0) := hg1.cell 11
  have z12 : w5.cell? ⟨(w.heap.size + 1), 12, none⟩ = some (.int .u64 0) := hg1.cell 12
  have y0 := hg1.frozen 0
  have y1 := hg1.frozen 1
  have y2 := hg1.frozen 2
  have y3 := hg1.frozen 3
  have y4 := hg1.frozen 4
  have y5 := hg1.frozen 5
  have y6 := hg1.frozen 6
  have y7 := hg1.frozen 7
  have y8 := hg1.frozen 8
  have y9 := hg1.frozen 9
  have y10 := hg1.frozen 10
  have y11 := hg1.frozen 11
  have y12 := hg1.frozen 12
  have hne1 : ¬ (w.heap.size + 1 = g2) := by omega
  have hne2 : ¬ (g2 = w.heap.size + 1) := by omega
  go_wp2
  refine bodyPost_ret (results_row_tmp rfl _ _ (w.heap.size + 1) 38 _ (0, 0) _ rfl (set13 ((((hg1.far (p := ⟨g2, 9, none⟩) (Nat.ne_of_lt hlt) _).far (p := ⟨g2, 10, none⟩) (Nat.ne_of_lt hlt) _).far (p := ⟨g2, 11, none⟩) (Nat.ne_of_lt hlt) _).far (p := ⟨g2, 12, none⟩) (Nat.ne_of_lt hlt) _)) Try.underlying38 rfl (by kernel_rfl)) rfl ?_
  refine ⟨_, L2, _, rfl, Kd.R_mono (Kd.R_step hRL5 fun q hq hl5 => (Chg.block ((((((((((((((((((Chg.refl (fun q => q = g2 ∨ q = w.heap.size + 1) w5).setCell (p := ⟨g2, 9, none⟩) (.inl (.inl rfl)) _).setCell (p := ⟨g2, 10, none⟩) (.inl (.inl rfl)) _).setCell (p := ⟨g2, 11, none⟩) (.inl (.inl rfl)) _).setCell (p := ⟨g2, 12, none⟩) (.inl (.inl rfl)) _).setCell (p := ⟨w.heap.size + 1, 0, none⟩) (.inl (.inr rfl)) _).setCell (p := ⟨w.heap.size + 1, 1, none⟩) (.inl (.inr rfl)) _).setCell (p := ⟨w.heap.size + 1, 2, none⟩) (.inl (.inr rfl)) _).setCell (p := ⟨w.heap.size + 1, 3, none⟩) (.inl (.inr rfl)) _).setCell (p := ⟨w.heap.size + 1, 4, none⟩) (.inl (.inr rfl)) _).setCell (p := ⟨w.heap.size + 1, 5, none⟩) (.inl (.inr rfl)) _).setCell (p := ⟨w.heap.size + 1, 6, none⟩) (.inl (.inr rfl)) _).setCell (p := ⟨w.heap.size + 1, 7, none⟩) (.inl (.inr rfl)) _).setCell (p := ⟨w.heap.size + 1, 8, none⟩) (.inl (.inr rfl)) _).setCell (p := ⟨w.heap.size + 1, 9, none⟩) (.inl (.inr rfl)) _).setCell (p := ⟨w.heap.size + 1, 10, none⟩) (.inl (.inr rfl)) _).setCell (p := ⟨w.heap.size + 1, 11, none⟩) (.inl (.inr rfl)) _).setCell (p := ⟨w.heap.size + 1, 12, none⟩) (.inl (.inr rfl)) _) q hl5 ?_)) (fun q hq => ?_), Kd.R_mono (Kd.R_step hR6 fun q hq hl5 => (Chg.block ((((((((((((((((((Chg.refl (fun q => q = g2 ∨ q = w.heap.size + 1) w5).setCell (p := ⟨g2, 9, none⟩) (.inl (.inl rfl)) _).setCell (p := ⟨g2, 10, none⟩) (.inl (.inl rfl)) _).setCell (p := ⟨g2, 11, none⟩) (.inl (.inl rfl)) _).setCell (p := ⟨g2, 12, none⟩) (.inl (.inl rfl)) _).setCell (p := ⟨w.heap.size + 1, 0, none⟩) (.inl (.inr rfl)) _).setCell (p := ⟨w.heap.size + 1, 1, none⟩) (.inl (.inr rfl)) _).setCell (p := ⟨w.heap.size + 1, 2, none⟩) (.inl (.inr rfl)) _).setCell (p := ⟨w.heap.size + 1, 3, none⟩) (.inl (.inr rfl)) _).setCell (p := ⟨w.heap.size + 1, 4, none⟩) (.inl (.inr rfl)) _).setCell (p := ⟨w.heap.size + 1, 5, none⟩) (.inl (.inr rfl)) _).setCell (p := ⟨w.heap.size + 1, 6, none⟩) (.inl (.inr rfl)) _).setCell (p := ⟨w.heap.size + 1, 7, none⟩) (.inl (.inr rfl)) _).setCell (p := ⟨w.heap.size + 1, 8, none⟩) (.inl (.inr rfl)) _).setCell (p := ⟨w.heap.size + 1, 9, none⟩) (.inl (.inr rfl)) _).setCell (p := ⟨w.heap.size + 1, 10, none⟩) (.inl (.inr rfl)) _).setCell (p := ⟨w.heap.size + 1, 11, none⟩) (.inl (.inr rfl)) _).setCell (p := ⟨w.heap.size + 1, 12, none⟩) (.inl (.inr rfl)) _) q hl5 ?_)) (fun q hq => .inr ?_), hLO, bchg hb4 ((((((((((((((((((Chg.refl (fun q => q = g2 ∨ q = w.heap.size + 1) w5).setCell (p := ⟨g2, 9, none⟩) (.inl (.inl rfl)) _).setCell (p := ⟨g2, 10, none⟩) (.inl (.inl rfl)) _).setCell (p := ⟨g2, 11, none⟩) (.inl (.inl rfl)) _).setCell (p := ⟨g2, 12, none⟩) (.inl (.inl rfl)) _).setCell (p := ⟨w.heap.size + 1, 0, none⟩) (.inl (.inr rfl)) _).setCell (p := ⟨w.heap.size + 1, 1, none⟩) (.inl (.inr rfl)) _).setCell (p := ⟨w.heap.size + 1, 2, none⟩) (.inl (.inr rfl)) _).setCell (p := ⟨w.heap.size + 1, 3, none⟩) (.inl (.inr rfl)) _).setCell (p := ⟨w.heap.size + 1, 4, none⟩) (.inl (.inr rfl)) _).setCell (p := ⟨w.heap.size + 1, 5, none⟩) (.inl (.inr rfl)) _).setCell (p := ⟨w.heap.size + 1, 6, none⟩) (.inl (.inr rfl)) _).setCell (p := ⟨w.heap.size + 1, 7, none⟩) (.inl (.inr rfl)) _).setCell (p := ⟨w.heap.size + 1, 8, none⟩) (.inl (.inr rfl)) _).setCell (p := ⟨w.heap.size + 1, 9, none⟩) (.inl (.inr rfl)) _).setCell (p := ⟨w.heap.size + 1, 10, none⟩) (.inl (.inr rfl)) _).setCell (p := ⟨w.heap.size + 1, 11, none⟩) (.inl (.inr rfl)) _).setCell (p := ⟨w.heap.size + 1, 12, none⟩) (.inl (.inr rfl)) _) ?_⟩
  · rintro (h | h) <;> omega
  · rcases hq.1 with h | h
    · exact .inl h.1
    · exact .inr (by omega)
  · rintro (h | h) <;> omega
  · omega
  · rintro j (rfl | rfl) <;> omega
end Go.Proofs.Ytiohjmpnkoohjaa.Tele
