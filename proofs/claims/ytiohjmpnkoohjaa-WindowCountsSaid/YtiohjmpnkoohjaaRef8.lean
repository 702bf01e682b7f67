/- The walks of the reference's functions on windows. No conditions. -/
import Derived.Test.YtiohjmpnkoohjaaRVal
import Derived.Test.YtiohjmpnkoohjaaPWin
import Derived.Laws.Rows
import Derived.Laws.ResultCell
namespace Go.Proofs.Ytiohjmpnkoohjaa.Tele
open Go.RowKit Go.Proofs.YtiohjmpnkoohjaaW.PrintWords Go.Proofs.YtiohjmpnkoohjaaW.PrintLast Go.Proofs.YtiohjmpnkoohjaaW.PrintMore Go.Proofs.Ytiohjmpnkoohjaa.PWindowCounts
set_option linter.unusedVariables false
set_option linter.unusedSimpArgs false

/-- The reference's window, as a value. -/
abbrev wvs (m : Win) (vL : Value) (L : Sk) (vT : Value) (T : Sk) : Array Value :=
  #[.int .i64 (m.rows : Int), .int .i64 (m.W : Int), uv m.seed, .int .i64 (m.long : Int), .int .i64 (m.now : Int), vL, .int .i64 (L.W : Int), uv L.seed, nv L.total, vT, .int .i64 (T.W : Int), uv T.seed, nv T.total]
abbrev wv (m : Win) (vL : Value) (L : Sk) (vT : Value) (T : Sk) : Value := .agg (wvs m vL L vT T)
theorem fresh_ref (m : Win) (vL : Value) (L : Sk) (vT : Value) (T : Sk) (B : Nat) (P : Nat → Prop) (n : Nat) (w : World) (hm : m.Ok) (hL : RV w B P vL L) (hT : RV w B P vT T) :
    Calls Try.prog 24 #[wv m vL L vT T, .int .i64 (n : Int)] w fun e w' => ∃ v, e = .returned (rv v (m.fresh n)) ∧ RV w' w.heap.size (fun q => w.heap.size ≤ q) v (m.fresh n) ∧ Below w.heap.size w w' := by
  obtain ⟨aL, kL, rfl⟩ := hL.slice_
  obtain ⟨aT, kT, rfl⟩ := hT.slice_
  obtain ⟨e1, c1⟩ := hL.reads
  obtain ⟨e2, c2⟩ := hT.reads
  have hf : telemeterref08_fresh.f 11 (m.rows : Int) (m.W : Int) (m.seed.toNat : Int) (m.long : Int) (m.now : Int) L.grid (L.W : Int) (L.seed.toNat : Int) (L.total : Int) T.grid (T.W : Int) (T.seed.toNat : Int) (T.total : Int) (n : Int) = some ((m.fresh n).grid, (m.W : Int), ((m.seed + BitVec.ofNat 64 n).toNat : Int), 0) := by
    unfold telemeterref08_fresh.f
    rw [seed_plus, new_f m.rows m.W (m.seed + BitVec.ofNat 64 n) hm.rows1 hm.rows8 hm.W1 hm.Wm 11 (by omega)]
    rfl
  have hh := telemeterref08_fresh.calls 11 m.rows m.W m.seed.toNat m.long m.now aL kL L.grid L.W L.seed.toNat L.total aT kT T.grid T.W T.seed.toNat T.total n _ _ _ _ w c1 e1 c2 e2 hf
  rw [grid_len, grid_len] at hh
  refine hh.mono ?_
  rintro e w' ⟨v', rfl, hR, hb⟩
  exact ⟨v', rfl, Kd.R_mono (Kd.R_bound (Kd.S_R hR)) (fun q hq => hq.2.1), hb⟩
theorem results_row_tmp {P : Program} {fn : Func} {p u : Tmp} {ty : TypeId} (h : fn.results = #[.cell p ty, .tmp u]) (tmps : Array Value) (w : World) (g : Nat) (t : TypeId) (cs : Array Value) (fr : Nat × Nat) (d : TypeDesc)
    (hp : tmps.getD p undef = .pointer (some ⟨g, 0, none⟩)) (hg : w.heap[g]? = some (.cells cs t fr))
    (hu : P.underlying ty = some d) (hd : (match d with | .struct _ | .array _ _ => true | _ => false) = true) (hi : (P.info? ty).map (·.size) = some cs.size) :
    (results fn tmps).run P w = .ok (.tuple #[.agg cs, tmps.getD u undef]) w := by
  rw [results_cell_tmp h, hp]
  simp [asAddr, run_loadVar_row w g t ty cs fr d hg hu hd hi, Result.andThen]
/-- A time that one may not go to. -/
theorem at_no (m : Win) (aL : Option Addr) (nL kL : Nat) (L : Sk) (aT : Option Addr) (nT kT : Nat) (T : Sk) (now : Int) (w : World) (hn : now < (m.now : Int) ∨ 1099511627776 < now) :
    Calls Try.prog 15 #[wv m (.slice aL nL kL) L (.slice aT nT kT) T, .int .i64 now] w fun e w' => e = .returned (.tuple #[wv m (.slice aL nL kL) L (.slice aT nT kT) T, .int .i64 60]) ∧ Below w.heap.size w w' := by
  by_cases h1 : now < (m.now : Int)
  · go_enter Try.func15, Try.ntmps15
    go_wp2
    exact bodyPost_ret (results_row_tmp rfl _ _ (w.heap.size + 1) 38 _ (0, 0) _ rfl (heap_alloc2_new w _ _) Try.underlying38 rfl (by kernel_rfl)) rfl ⟨rfl, bl_alloc (bl_alloc (Below.refl _ _) _) _⟩
  · have h2 : 1099511627776 < now := by omega
    go_enter Try.func15, Try.ntmps15
    go_wp2
    exact bodyPost_ret (results_row_tmp rfl _ _ (w.heap.size + 1) 38 _ (0, 0) _ rfl (heap_alloc2_new w _ _) Try.underlying38 rfl (by kernel_rfl)) rfl ⟨rfl, bl_alloc (bl_alloc (Below.refl _ _) _) _⟩
theorem at_same (m : Win) (aL : Option Addr) (nL kL : Nat) (L : Sk) (aT : Option Addr) (nT kT : Nat) (T : Sk) (now : Nat) (w : World) (hm : m.Ok) (hn1 : m.now ≤ now) (hn2 : now ≤ 1099511627776) (hd : now / m.long = m.now / m.long) :
    Calls Try.prog 15 #[wv m (.slice aL nL kL) L (.slice aT nT kT) T, .int .i64 (now : Int)] w fun e w' => e = .returned (.tuple #[wv { m with now := now } (.slice aL nL kL) L (.slice aT nT kT) T, .int .i64 0]) ∧ Below w.heap.size w w' := by
  have hl1 := hm.long1
  have hlm := hm.longm
  have hnm := hm.nowm
  obtain ⟨rows, W, seed, l, n, last, this⟩ := m
  dsimp only at *
  have ham : now / l ≤ 1099511627776 := Nat.le_trans (Nat.div_le_self _ _) hn2
  have ha : (now : Int) / (l : Int) = ((now / l : Nat) : Int) := by rw [Int.natCast_ediv]
  have hb : (n : Int) / (l : Int) = ((now / l : Nat) : Int) := by rw [hd, Int.natCast_ediv]
  obtain ⟨a, haa⟩ : ∃ a, now / l = a := ⟨_, rfl⟩
  rw [haa] at ham ha hb
  have HM := Lib.hid hm
  clear haa hd hm
  go_enter Try.func15, Try.ntmps15
  go_wp2
  exact bodyPost_ret (results_row_tmp rfl _ _ (w.heap.size + 1) 38 _ (0, 0) _ rfl (heap_alloc2_new w _ _) Try.underlying38 rfl (by kernel_rfl)) rfl ⟨rfl, bl_alloc (bl_alloc (Below.refl _ _) _) _⟩
theorem set13 {w : World} {g : Nat} {t : TypeId} {a0 a1 a2 a3 a4 a5 a6 a7 a8 a9 a10 a11 a12 x0 x1 x2 x3 x4 x5 x6 x7 x8 x9 x10 x11 x12 : Value} (h : Blk w g t #[a0, a1, a2, a3, a4, a5, a6, a7, a8, a9, a10, a11, a12]) : Blk (((((((((((((w.setCell ⟨g, 0, none⟩ x0).setCell ⟨g, 1, none⟩ x1).setCell ⟨g, 2, none⟩ x2).setCell ⟨g, 3, none⟩ x3).setCell ⟨g, 4, none⟩ x4).setCell ⟨g, 5, none⟩ x5).setCell ⟨g, 6, none⟩ x6).setCell ⟨g, 7, none⟩ x7).setCell ⟨g, 8, none⟩ x8).setCell ⟨g, 9, none⟩ x9).setCell ⟨g, 10, none⟩ x10).setCell ⟨g, 11, none⟩ x11).setCell ⟨g, 12, none⟩ x12) g t #[x0, x1, x2, x3, x4, x5, x6, x7, x8, x9, x10, x11, x12] := by
  have h0 : Blk (w.setCell ⟨g, 0, none⟩ x0) g t #[x0, a1, a2, a3, a4, a5, a6, a7, a8, a9, a10, a11, a12] := h.set_ 0 x0
  have h1 : Blk ((w.setCell ⟨g, 0, none⟩ x0).setCell ⟨g, 1, none⟩ x1) g t #[x0, x1, a2, a3, a4, a5, a6, a7, a8, a9, a10, a11, a12] := h0.set_ 1 x1
  have h2 : Blk (((w.setCell ⟨g, 0, none⟩ x0).setCell ⟨g, 1, none⟩ x1).setCell ⟨g, 2, none⟩ x2) g t #[x0, x1, x2, a3, a4, a5, a6, a7, a8, a9, a10, a11, a12] := h1.set_ 2 x2
  have h3 : Blk ((((w.setCell ⟨g, 0, none⟩ x0).setCell ⟨g, 1, none⟩ x1).setCell ⟨g, 2, none⟩ x2).setCell ⟨g, 3, none⟩ x3) g t #[x0, x1, x2, x3, a4, a5, a6, a7, a8, a9, a10, a11, a12] := h2.set_ 3 x3
  have h4 : Blk (((((w.setCell ⟨g, 0, none⟩ x0).setCell ⟨g, 1, none⟩ x1).setCell ⟨g, 2, none⟩ x2).setCell ⟨g, 3, none⟩ x3).setCell ⟨g, 4, none⟩ x4) g t #[x0, x1, x2, x3, x4, a5, a6, a7, a8, a9, a10, a11, a12] := h3.set_ 4 x4
  have h5 : Blk ((((((w.setCell ⟨g, 0, none⟩ x0).setCell ⟨g, 1, none⟩ x1).setCell ⟨g, 2, none⟩ x2).setCell ⟨g, 3, none⟩ x3).setCell ⟨g, 4, none⟩ x4).setCell ⟨g, 5, none⟩ x5) g t #[x0, x1, x2, x3, x4, x5, a6, a7, a8, a9, a10, a11, a12] := h4.set_ 5 x5
  have h6 : Blk (((((((w.setCell ⟨g, 0, none⟩ x0).setCell ⟨g, 1, none⟩ x1).setCell ⟨g, 2, none⟩ x2).setCell ⟨g, 3, none⟩ x3).setCell ⟨g, 4, none⟩ x4).setCell ⟨g, 5, none⟩ x5).setCell ⟨g, 6, none⟩ x6) g t #[x0, x1, x2, x3, x4, x5, x6, a7, a8, a9, a10, a11, a12] := h5.set_ 6 x6
  have h7 : Blk ((((((((w.setCell ⟨g, 0, none⟩ x0).setCell ⟨g, 1, none⟩ x1).setCell ⟨g, 2, none⟩ x2).setCell ⟨g, 3, none⟩ x3).setCell ⟨g, 4, none⟩ x4).setCell ⟨g, 5, none⟩ x5).setCell ⟨g, 6, none⟩ x6).setCell ⟨g, 7, none⟩ x7) g t #[x0, x1, x2, x3, x4, x5, x6, x7, a8, a9, a10, a11, a12] := h6.set_ 7 x7
  have h8 : Blk (((((((((w.setCell ⟨g, 0, none⟩ x0).setCell ⟨g, 1, none⟩ x1).setCell ⟨g, 2, none⟩ x2).setCell ⟨g, 3, none⟩ x3).setCell ⟨g, 4, none⟩ x4).setCell ⟨g, 5, none⟩ x5).setCell ⟨g, 6, none⟩ x6).setCell ⟨g, 7, none⟩ x7).setCell ⟨g, 8, none⟩ x8) g t #[x0, x1, x2, x3, x4, x5, x6, x7, x8, a9, a10, a11, a12] := h7.set_ 8 x8
  have h9 : Blk ((((((((((w.setCell ⟨g, 0, none⟩ x0).setCell ⟨g, 1, none⟩ x1).setCell ⟨g, 2, none⟩ x2).setCell ⟨g, 3, none⟩ x3).setCell ⟨g, 4, none⟩ x4).setCell ⟨g, 5, none⟩ x5).setCell ⟨g, 6, none⟩ x6).setCell ⟨g, 7, none⟩ x7).setCell ⟨g, 8, none⟩ x8).setCell ⟨g, 9, none⟩ x9) g t #[x0, x1, x2, x3, x4, x5, x6, x7, x8, x9, a10, a11, a12] := h8.set_ 9 x9
  have h10 : Blk (((((((((((w.setCell ⟨g, 0, none⟩ x0).setCell ⟨g, 1, none⟩ x1).setCell ⟨g, 2, none⟩ x2).setCell ⟨g, 3, none⟩ x3).setCell ⟨g, 4, none⟩ x4).setCell ⟨g, 5, none⟩ x5).setCell ⟨g, 6, none⟩ x6).setCell ⟨g, 7, none⟩ x7).setCell ⟨g, 8, none⟩ x8).setCell ⟨g, 9, none⟩ x9).setCell ⟨g, 10, none⟩ x10) g t #[x0, x1, x2, x3, x4, x5, x6, x7, x8, x9, x10, a11, a12] := h9.set_ 10 x10
  have h11 : Blk ((((((((((((w.setCell ⟨g, 0, none⟩ x0).setCell ⟨g, 1, none⟩ x1).setCell ⟨g, 2, none⟩ x2).setCell ⟨g, 3, none⟩ x3).setCell ⟨g, 4, none⟩ x4).setCell ⟨g, 5, none⟩ x5).setCell ⟨g, 6, none⟩ x6).setCell ⟨g, 7, none⟩ x7).setCell ⟨g, 8, none⟩ x8).setCell ⟨g, 9, none⟩ x9).setCell ⟨g, 10, none⟩ x10).setCell ⟨g, 11, none⟩ x11) g t #[x0, x1, x2, x3, x4, x5, x6, x7, x8, x9, x10, x11, a12] := h10.set_ 11 x11
  have h12 : Blk (((((((((((((w.setCell ⟨g, 0, none⟩ x0).setCell ⟨g, 1, none⟩ x1).setCell ⟨g, 2, none⟩ x2).setCell ⟨g, 3, none⟩ x3).setCell ⟨g, 4, none⟩ x4).setCell ⟨g, 5, none⟩ x5).setCell ⟨g, 6, none⟩ x6).setCell ⟨g, 7, none⟩ x7).setCell ⟨g, 8, none⟩ x8).setCell ⟨g, 9, none⟩ x9).setCell ⟨g, 10, none⟩ x10).setCell ⟨g, 11, none⟩ x11).setCell ⟨g, 12, none⟩ x12) g t #[x0, x1, x2, x3, x4, x5, x6, x7, x8, x9, x10, x11, x12] := h11.set_ 12 x12
  exact h12
set_option maxRecDepth 8000 in
set_option maxHeartbeats 4000000 in
theorem at_next (m : Win) (aL : Option Addr) (nL kL : Nat) (L : Sk) (aT : Option Addr) (kT : Nat) (T : Sk) (B : Nat) (P : Nat → Prop) (now : Nat) (w : World) (hm : m.Ok) (hT : RV w B P (.slice aT T.rows kT) T) (hn1 : m.now ≤ now) (hn2 : now ≤ 1099511627776) (hd : now / m.long = m.now / m.long + 1) :
    Calls Try.prog 15 #[wv m (.slice aL nL kL) L (.slice aT T.rows kT) T, .int .i64 (now : Int)] w fun e w' => ∃ v, e = .returned (.tuple #[wv { m with now := now } (.slice aT T.rows kT) T v (m.fresh (now / m.long)), .int .i64 0]) ∧ RV w' w.heap.size (fun q => w.heap.size ≤ q) v (m.fresh (now / m.long)) ∧ Below w.heap.size w w' := by
  have hl1 := hm.long1
  have hlm := hm.longm
  have hnm := hm.nowm
  obtain ⟨rows, W, seed, l, n, last, this⟩ := m
  dsimp only at *
  have ham : now / l ≤ 1099511627776 := Nat.le_trans (Nat.div_le_self _ _) hn2
  obtain ⟨b, hbb⟩ : ∃ b, n / l = b := ⟨_, rfl⟩
  have ha : (now : Int) / (l : Int) = (b : Int) + 1 := by rw [← hbb, ← Int.natCast_ediv, hd]; rfl
  have hb : (n : Int) / (l : Int) = (b : Int) := by rw [← hbb, Int.natCast_ediv]
  have hbm : b ≤ 1099511627775 := by omega
  have HB := Lib.hid (show now / l = b + 1 by rw [hd, hbb])
  have HM := Lib.hid hm
  rw [hd, hbb]
  clear hbb hd hm ham
  go_enter Try.func15, Try.ntmps15
  go_wp2_with fail
  rw [show ((b : Int) + 1) = ((b + 1 : Nat) : Int) from rfl]
  have hk : Below w.heap.size w ((w.alloc (.cells (wvs ⟨rows, W, seed, l, n, last, this⟩ (.slice aT T.rows kT) T (.slice aT T.rows kT) T) 38)).alloc (.cells #[.int .i64 0, .int .i64 0, .int .u64 0, .int .i64 0, .int .i64 0, .slice none 0 0, .int .i64 0, .int .u64 0, .int .u64 0, .slice none 0 0, .int .i64 0, .int .u64 0, .int .u64 0] 38)) := bl_alloc (bl_alloc (Below.refl _ _) _) _
  have hg0 : Blk ((w.alloc (.cells (wvs ⟨rows, W, seed, l, n, last, this⟩ (.slice aT T.rows kT) T (.slice aT T.rows kT) T) 38)).alloc (.cells #[.int .i64 0, .int .i64 0, .int .u64 0, .int .i64 0, .int .i64 0, .slice none 0 0, .int .i64 0, .int .u64 0, .int .u64 0, .slice none 0 0, .int .i64 0, .int .u64 0, .int .u64 0] 38)) w.heap.size 38 (wvs ⟨rows, W, seed, l, n, last, this⟩ (.slice aT T.rows kT) T (.slice aT T.rows kT) T) := heap_alloc2_old w _ _
  have hg1 : Blk ((w.alloc (.cells (wvs ⟨rows, W, seed, l, n, last, this⟩ (.slice aT T.rows kT) T (.slice aT T.rows kT) T) 38)).alloc (.cells #[.int .i64 0, .int .i64 0, .int .u64 0, .int .i64 0, .int .i64 0, .slice none 0 0, .int .i64 0, .int .u64 0, .int .u64 0, .slice none 0 0, .int .i64 0, .int .u64 0, .int .u64 0] 38)) (w.heap.size + 1) 38 #[.int .i64 0, .int .i64 0, .int .u64 0, .int .i64 0, .int .i64 0, .slice none 0 0, .int .i64 0, .int .u64 0, .int .u64 0, .slice none 0 0, .int .i64 0, .int .u64 0, .int .u64 0] := heap_alloc2_new w _ _
  refine (fresh_ref ⟨rows, W, seed, l, n, last, this⟩ (.slice aT T.rows kT) T (.slice aT T.rows kT) T B P (b + 1) _ HM.out (hT.next_ hk) (hT.next_ hk)).mono ?_
  rintro e w3 ⟨v, rfl, hR, hb3⟩
  replace hg0 := hg0.next hb3
  replace hg1 := hg1.next hb3
  have hR2 : RV w3 w.heap.size (fun q => w.heap.size ≤ q ∧ q ≠ w.heap.size ∧ q ≠ w.heap.size + 1) v (Win.fresh ⟨rows, W, seed, l, n, last, this⟩ (b + 1)) := Kd.R_mono (Kd.R_lower hR hk.size) fun q hq => by
    have hs : ((w.alloc (.cells (wvs ⟨rows, W, seed, l, n, last, this⟩ (.slice aT T.rows kT) T (.slice aT T.rows kT) T) 38)).alloc (.cells #[.int .i64 0, .int .i64 0, .int .u64 0, .int .i64 0, .int .i64 0, .slice none 0 0, .int .i64 0, .int .u64 0, .int .u64 0, .slice none 0 0, .int .i64 0, .int .u64 0, .int .u64 0] 38)).heap.size = w.heap.size + 1 + 1 := by rw [World.size_alloc, World.size_alloc]
    rw [hs] at hq
    omega
  have hb4 := bnext hk hb3
  obtain ⟨av, kv, rfl⟩ := hR2.slice_
  clear hk hR hb3
  have c0 : w3.cell? ⟨w.heap.size, 0, none⟩ = some (.int .i64 (rows : Int)) := hg0.cell 0
  have c1 : w3.cell? ⟨w.heap.size, 1, none⟩ = some (.int .i64 (W : Int)) := hg0.cell 1
  have c2 : w3.cell? ⟨w.heap.size, 2, none⟩ = some (uv seed) := hg0.cell 2
  have c3 : w3.cell? ⟨w.heap.size, 3, none⟩ = some (.int .i64 (l : Int)) := hg0.cell 3
  have c4 : w3.cell? ⟨w.heap.size, 4, none⟩ = some (.int .i64 (n : Int)) := hg0.cell 4
  have c5 : w3.cell? ⟨w.heap.size, 5, none⟩ = some ((.slice aT T.rows kT)) := hg0.cell 5
  have c6 : w3.cell? ⟨w.heap.size, 6, none⟩ = some (.int .i64 (T.W : Int)) := hg0.cell 6
  have c7 : w3.cell? ⟨w.heap.size, 7, none⟩ = some (uv T.seed) := hg0.cell 7
  have c8 : w3.cell? ⟨w.heap.size, 8, none⟩ = some (nv T.total) := hg0.cell 8
  have c9 : w3.cell? ⟨w.heap.size, 9, none⟩ = some ((.slice aT T.rows kT)) := hg0.cell 9
  have c10 : w3.cell? ⟨w.heap.size, 10, none⟩ = some (.int .i64 (T.W : Int)) := hg0.cell 10
  have c11 : w3.cell? ⟨w.heap.size, 11, none⟩ = some (uv T.seed) := hg0.cell 11
  have c12 : w3.cell? ⟨w.heap.size, 12, none⟩ = some (nv T.total) := hg0.cell 12
  have f0 := hg0.frozen 0
  have f1 := hg0.frozen 1
  have f2 := hg0.frozen 2
  have f3 := hg0.frozen 3
  have f4 := hg0.frozen 4
  have f5 := hg0.frozen 5
  have f6 := hg0.frozen 6
  have f7 := hg0.frozen 7
  have f8 := hg0.frozen 8
  have f9 := hg0.frozen 9
  have f10 := hg0.frozen 10
  have f11 := hg0.frozen 11
  have f12 := hg0.frozen 12
  have z0 : w3.cell? ⟨(w.heap.size + 1), 0, none⟩ = some (.int .i64 0) := hg1.cell 0
  have z1 : w3.cell? ⟨(w.heap.size + 1), 1, none⟩ = some (.int .i64 0) := hg1.cell 1
  have z2 : w3.cell? ⟨(w.heap.size + 1), 2, none⟩ = some (.int .u64 0) := hg1.cell 2
  have z3 : w3.cell? ⟨(w.heap.size + 1), 3, none⟩ = some (.int .i64 0) := hg1.cell 3
  have z4 : w3.cell? ⟨(w.heap.size + 1), 4, none⟩ = some (.int .i64 0) := hg1.cell 4
  have z5 : w3.cell? ⟨(w.heap.size + 1), 5, none⟩ = some (.slice none 0 0) := hg1.cell 5
  have z6 : w3.cell? ⟨(w.heap.size + 1), 6, none⟩ = some (.int .i64 0) := hg1.cell 6
  have z7 : w3.cell? ⟨(w.heap.size + 1), 7, none⟩ = some (.int .u64 0) := hg1.cell 7
  have z8 : w3.cell? ⟨(w.heap.size + 1), 8, none⟩ = some (.int .u64 0) := hg1.cell 8
  have z9 : w3.cell? ⟨(w.heap.size + 1), 9, none⟩ = some (.slice none 0 0) := hg1.cell 9
  have z10 : w3.cell? ⟨(w.heap.size + 1), 10, none⟩ = some (.int .i64 0) := hg1.cell 10
  have z11 : w3.cell? ⟨(w.heap.size + 1), 11, none⟩ = some (.int .u64 0) := hg1.cell 11
  have z12 : w3.cell? ⟨(w.heap.size + 1), 12, none⟩ = some (.int .u64 0) := hg1.cell 12
  have y0 := hg1.frozen 0
  have y1 := hg1.frozen 1
  have y2 := hg1.frozen 2
  have y3 := hg1.frozen 3
  have y4 := hg1.frozen 4
  have y5 := hg1.frozen 5
  have y6 := hg1.frozen 6
  have y7 := hg1.frozen 7
  have y8 := hg1.frozen 8
  have y9 := hg1.frozen 9
  have y10 := hg1.frozen 10
  have y11 := hg1.frozen 11
  have y12 := hg1.frozen 12
  go_wp2
  refine bodyPost_ret (results_row_tmp rfl _ _ (w.heap.size + 1) 38 _ (0, 0) _ rfl (set13 (((((hg1.far (p := ⟨w.heap.size, 9, none⟩) (Nat.succ_ne_self _) _).far (p := ⟨w.heap.size, 10, none⟩) (Nat.succ_ne_self _) _).far (p := ⟨w.heap.size, 11, none⟩) (Nat.succ_ne_self _) _).far (p := ⟨w.heap.size, 12, none⟩) (Nat.succ_ne_self _) _).far (p := ⟨w.heap.size, 4, none⟩) (Nat.succ_ne_self _) _)) Try.underlying38 rfl (by kernel_rfl)) rfl ?_
  refine ⟨_, rfl, Kd.R_mono (Kd.R_step hR2 fun q hq hlt => (Chg.block (((((((((((((((((((Chg.refl (fun q => q = w.heap.size ∨ q = w.heap.size + 1) w3).setCell (p := ⟨w.heap.size, 9, none⟩) (.inl (.inl rfl)) _).setCell (p := ⟨w.heap.size, 10, none⟩) (.inl (.inl rfl)) _).setCell (p := ⟨w.heap.size, 11, none⟩) (.inl (.inl rfl)) _).setCell (p := ⟨w.heap.size, 12, none⟩) (.inl (.inl rfl)) _).setCell (p := ⟨w.heap.size, 4, none⟩) (.inl (.inl rfl)) _).setCell (p := ⟨w.heap.size + 1, 0, none⟩) (.inl (.inr rfl)) _).setCell (p := ⟨w.heap.size + 1, 1, none⟩) (.inl (.inr rfl)) _).setCell (p := ⟨w.heap.size + 1, 2, none⟩) (.inl (.inr rfl)) _).setCell (p := ⟨w.heap.size + 1, 3, none⟩) (.inl (.inr rfl)) _).setCell (p := ⟨w.heap.size + 1, 4, none⟩) (.inl (.inr rfl)) _).setCell (p := ⟨w.heap.size + 1, 5, none⟩) (.inl (.inr rfl)) _).setCell (p := ⟨w.heap.size + 1, 6, none⟩) (.inl (.inr rfl)) _).setCell (p := ⟨w.heap.size + 1, 7, none⟩) (.inl (.inr rfl)) _).setCell (p := ⟨w.heap.size + 1, 8, none⟩) (.inl (.inr rfl)) _).setCell (p := ⟨w.heap.size + 1, 9, none⟩) (.inl (.inr rfl)) _).setCell (p := ⟨w.heap.size + 1, 10, none⟩) (.inl (.inr rfl)) _).setCell (p := ⟨w.heap.size + 1, 11, none⟩) (.inl (.inr rfl)) _).setCell (p := ⟨w.heap.size + 1, 12, none⟩) (.inl (.inr rfl)) _) q hlt ?_)) (fun q hq => hq.1), bchg hb4 (((((((((((((((((((Chg.refl (fun q => q = w.heap.size ∨ q = w.heap.size + 1) w3).setCell (p := ⟨w.heap.size, 9, none⟩) (.inl (.inl rfl)) _).setCell (p := ⟨w.heap.size, 10, none⟩) (.inl (.inl rfl)) _).setCell (p := ⟨w.heap.size, 11, none⟩) (.inl (.inl rfl)) _).setCell (p := ⟨w.heap.size, 12, none⟩) (.inl (.inl rfl)) _).setCell (p := ⟨w.heap.size, 4, none⟩) (.inl (.inl rfl)) _).setCell (p := ⟨w.heap.size + 1, 0, none⟩) (.inl (.inr rfl)) _).setCell (p := ⟨w.heap.size + 1, 1, none⟩) (.inl (.inr rfl)) _).setCell (p := ⟨w.heap.size + 1, 2, none⟩) (.inl (.inr rfl)) _).setCell (p := ⟨w.heap.size + 1, 3, none⟩) (.inl (.inr rfl)) _).setCell (p := ⟨w.heap.size + 1, 4, none⟩) (.inl (.inr rfl)) _).setCell (p := ⟨w.heap.size + 1, 5, none⟩) (.inl (.inr rfl)) _).setCell (p := ⟨w.heap.size + 1, 6, none⟩) (.inl (.inr rfl)) _).setCell (p := ⟨w.heap.size + 1, 7, none⟩) (.inl (.inr rfl)) _).setCell (p := ⟨w.heap.size + 1, 8, none⟩) (.inl (.inr rfl)) _).setCell (p := ⟨w.heap.size + 1, 9, none⟩) (.inl (.inr rfl)) _).setCell (p := ⟨w.heap.size + 1, 10, none⟩) (.inl (.inr rfl)) _).setCell (p := ⟨w.heap.size + 1, 11, none⟩) (.inl (.inr rfl)) _).setCell (p := ⟨w.heap.size + 1, 12, none⟩) (.inl (.inr rfl)) _) ?_⟩
  · rintro (h | h)
    · exact hq.2.1 h
    · exact hq.2.2 h
  · rintro j (rfl | rfl)
    · exact Nat.le_refl _
    · exact Nat.le_succ _
end Go.Proofs.Ytiohjmpnkoohjaa.Tele
