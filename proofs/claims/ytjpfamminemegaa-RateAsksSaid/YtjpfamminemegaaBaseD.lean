/- Merged texts of the walk: Ref8, Ref8b, Ref8c, Ref8d. No conditions. -/
import Derived.Test.YtjpfamminemegaaRVal
import Derived.Test.YtjpfamminemegaaBaseC
import Derived.Laws.Rows
import Derived.Laws.ResultCell
namespace Go.Proofs.Ytjpfamminemegaa.Tele
open Go.RowKit Go.Proofs.YtjpfamminemegaaW.PrintWords Go.Proofs.YtjpfamminemegaaW.PrintLast Go.Proofs.YtjpfamminemegaaW.PrintMore Go.Proofs.Ytjpfamminemegaa.PRateAsks
set_option linter.unusedVariables false
set_option linter.unusedSimpArgs false

/-- The reference's window, as a value. -/
abbrev wvs (m : Win) (vL : Value) (L : Sk) (vT : Value) (T : Sk) : Array Value :=
  #[.int .i64 (m.rows : Int), .int .i64 (m.W : Int), uv m.seed, .int .i64 (m.long : Int), .int .i64 (m.now : Int), vL, .int .i64 (L.W : Int), uv L.seed, nv L.total, vT, .int .i64 (T.W : Int), uv T.seed, nv T.total]
abbrev wv (m : Win) (vL : Value) (L : Sk) (vT : Value) (T : Sk) : Value := .agg (wvs m vL L vT T)
theorem fresh_ref (m : Win) (vL : Value) (L : Sk) (vT : Value) (T : Sk) (B : Nat) (P : Nat → Prop) (n : Nat) (w : World) (hm : m.Ok) (hL : RV w B P vL L) (hT : RV w B P vT T) :
    Calls Try.prog 41 #[wv m vL L vT T, .int .i64 (n : Int)] w fun e w' => ∃ v, e = .returned (rv v (m.fresh n)) ∧ RV w' w.heap.size (fun q => w.heap.size ≤ q) v (m.fresh n) ∧ Below w.heap.size w w' := by
  obtain ⟨aL, kL, rfl⟩ := hL.slice_
  obtain ⟨aT, kT, rfl⟩ := hT.slice_
  obtain ⟨e1, c1⟩ := hL.reads
  obtain ⟨e2, c2⟩ := hT.reads
  have hf : telemeterref08_fresh.f 11 (m.rows : Int) (m.W : Int) (m.seed.toNat : Int) (m.long : Int) (m.now : Int) L.grid (L.W : Int) (L.seed.toNat : Int) (L.total : Int) T.grid (T.W : Int) (T.seed.toNat : Int) (T.total : Int) (n : Int) = some ((m.fresh n).grid, (m.W : Int), ((m.seed + BitVec.ofNat 64 n).toNat : Int), 0) := by
    unfold telemeterref08_fresh.f
    rw [seed_plus, new_f m.rows m.W (m.seed + BitVec.ofNat 64 n) hm.rows1 hm.rows8 hm.W1 hm.Wm 11 (by omega)]
    rfl
  have hh := telemeterref08_fresh.calls 11 m.rows m.W m.seed.toNat m.long m.now aL kL L.grid L.W L.seed.toNat L.total aT kT T.grid T.W T.seed.toNat T.total n _ _ _ _ w c1 e1 c2 e2 hf
  rw [grid_len, grid_len] at hh
  refine hh.mono ?_
  rintro e w' ⟨v', rfl, hR, hb⟩
  exact ⟨v', rfl, Kd.R_mono (Kd.R_bound (Kd.S_R hR)) (fun q hq => hq.2.1), hb⟩
theorem results_row_tmp {P : Program} {fn : Func} {p u : Tmp} {ty : TypeId} (h : fn.results = #[.cell p ty, .tmp u]) (tmps : Array Value) (w : World) (g : Nat) (t : TypeId) (cs : Array Value) (fr : Nat × Nat) (d : TypeDesc)
    (hp : tmps.getD p undef = .pointer (some ⟨g, 0, none⟩)) (hg : w.heap[g]? = some (.cells cs t fr))
    (hu : P.underlying ty = some d) (hd : (match d with | .struct _ | .array _ _ => true | _ => false) = true) (hi : (P.info? ty).map (·.size) = some cs.size) :
    (results fn tmps).run P w = .ok (.tuple #[.agg cs, tmps.getD u undef]) w := by
  rw [results_cell_tmp h, hp]
  simp [asAddr, run_loadVar_row w g t ty cs fr d hg hu hd hi, Result.andThen]
/-- A time that one may not go to. -/
theorem at_no (m : Win) (aL : Option Addr) (nL kL : Nat) (L : Sk) (aT : Option Addr) (nT kT : Nat) (T : Sk) (now : Int) (w : World) (hn : now < (m.now : Int) ∨ 1099511627776 < now) :
    Calls Try.prog 30 #[wv m (.slice aL nL kL) L (.slice aT nT kT) T, .int .i64 now] w fun e w' => e = .returned (.tuple #[wv m (.slice aL nL kL) L (.slice aT nT kT) T, .int .i64 60]) ∧ Below w.heap.size w w' := by
  by_cases h1 : now < (m.now : Int)
  · go_enter Try.func30, Try.ntmps30
    go_wp2
    exact bodyPost_ret (results_row_tmp rfl _ _ (w.heap.size + 1) 40 _ (0, 0) _ rfl (heap_alloc2_new w _ _) Try.underlying40 rfl (by kernel_rfl)) rfl ⟨rfl, bl_alloc (bl_alloc (Below.refl _ _) _) _⟩
  · have h2 : 1099511627776 < now := by omega
    go_enter Try.func30, Try.ntmps30
    go_wp2
    exact bodyPost_ret (results_row_tmp rfl _ _ (w.heap.size + 1) 40 _ (0, 0) _ rfl (heap_alloc2_new w _ _) Try.underlying40 rfl (by kernel_rfl)) rfl ⟨rfl, bl_alloc (bl_alloc (Below.refl _ _) _) _⟩
theorem at_same (m : Win) (aL : Option Addr) (nL kL : Nat) (L : Sk) (aT : Option Addr) (nT kT : Nat) (T : Sk) (now : Nat) (w : World) (hm : m.Ok) (hn1 : m.now ≤ now) (hn2 : now ≤ 1099511627776) (hd : now / m.long = m.now / m.long) :
    Calls Try.prog 30 #[wv m (.slice aL nL kL) L (.slice aT nT kT) T, .int .i64 (now : Int)] w fun e w' => e = .returned (.tuple #[wv { m with now := now } (.slice aL nL kL) L (.slice aT nT kT) T, .int .i64 0]) ∧ Below w.heap.size w w' := by
  have hl1 := hm.long1
  have hlm := hm.longm
  have hnm := hm.nowm
  obtain ⟨rows, W, seed, l, n, last, this⟩ := m
  dsimp only at *
  have ham : now / l ≤ 1099511627776 := Nat.le_trans (Nat.div_le_self _ _) hn2
  have ha : (now : Int) / (l : Int) = ((now / l : Nat) : Int) := by rw [Int.natCast_ediv]
  have hb : (n : Int) / (l : Int) = ((now / l : Nat) : Int) := by rw [hd, Int.natCast_ediv]
  obtain ⟨a, haa⟩ : ∃ a, now / l = a := ⟨_, rfl⟩
  rw [haa] at ham ha hb
  have HM := Lib.hid hm
  clear haa hd hm
  go_enter Try.func30, Try.ntmps30
  go_wp2
  exact bodyPost_ret (results_row_tmp rfl _ _ (w.heap.size + 1) 40 _ (0, 0) _ rfl (heap_alloc2_new w _ _) Try.underlying40 rfl (by kernel_rfl)) rfl ⟨rfl, bl_alloc (bl_alloc (Below.refl _ _) _) _⟩
theorem set13 {w : World} {g : Nat} {t : TypeId} {a0 a1 a2 a3 a4 a5 a6 a7 a8 a9 a10 a11 a12 x0 x1 x2 x3 x4 x5 x6 x7 x8 x9 x10 x11 x12 : Value} (h : Blk w g t #[a0, a1, a2, a3, a4, a5, a6, a7, a8, a9, a10, a11, a12]) : Blk (((((((((((((w.setCell ⟨g, 0, none⟩ x0).setCell ⟨g, 1, none⟩ x1).setCell ⟨g, 2, none⟩ x2).setCell ⟨g, 3, none⟩ x3).setCell ⟨g, 4, none⟩ x4).setCell ⟨g, 5, none⟩ x5).setCell ⟨g, 6, none⟩ x6).setCell ⟨g, 7, none⟩ x7).setCell ⟨g, 8, none⟩ x8).setCell ⟨g, 9, none⟩ x9).setCell ⟨g, 10, none⟩ x10).setCell ⟨g, 11, none⟩ x11).setCell ⟨g, 12, none⟩ x12) g t #[x0, x1, x2, x3, x4, x5, x6, x7, x8, x9, x10, x11, x12] := by
  have h0 : Blk (w.setCell ⟨g, 0, none⟩ x0) g t #[x0, a1, a2, a3, a4, a5, a6, a7, a8, a9, a10, a11, a12] := h.set_ 0 x0
  have h1 : Blk ((w.setCell ⟨g, 0, none⟩ x0).setCell ⟨g, 1, none⟩ x1) g t #[x0, x1, a2, a3, a4, a5, a6, a7, a8, a9, a10, a11, a12] := h0.set_ 1 x1
  have h2 : Blk (((w.setCell ⟨g, 0, none⟩ x0).setCell ⟨g, 1, none⟩ x1).setCell ⟨g, 2, none⟩ x2) g t #[x0, x1, x2, a3, a4, a5, a6, a7, a8, a9, a10, a11, a12] := h1.set_ 2 x2
  have h3 : Blk ((((w.setCell ⟨g, 0, none⟩ x0).setCell ⟨g, 1, none⟩ x1).setCell ⟨g, 2, none⟩ x2).setCell ⟨g, 3, none⟩ x3) g t #[x0, x1, x2, x3, a4, a5, a6, a7, a8, a9, a10, a11, a12] := h2.set_ 3 x3
  have h4 : Blk (((((w.setCell ⟨g, 0, none⟩ x0).setCell ⟨g, 1, none⟩ x1).setCell ⟨g, 2, none⟩ x2).setCell ⟨g, 3, none⟩ x3).setCell ⟨g, 4, none⟩ x4) g t #[x0, x1, x2, x3, x4, a5, a6, a7, a8, a9, a10, a11, a12] := h3.set_ 4 x4
  have h5 : Blk ((((((w.setCell ⟨g, 0, none⟩ x0).setCell ⟨g, 1, none⟩ x1).setCell ⟨g, 2, none⟩ x2).setCell ⟨g, 3, none⟩ x3).setCell ⟨g, 4, none⟩ x4).setCell ⟨g, 5, none⟩ x5) g t #[x0, x1, x2, x3, x4, x5, a6, a7, a8, a9, a10, a11, a12] := h4.set_ 5 x5
  have h6 : Blk (((((((w.setCell ⟨g, 0, none⟩ x0).setCell ⟨g, 1, none⟩ x1).setCell ⟨g, 2, none⟩ x2).setCell ⟨g, 3, none⟩ x3).setCell ⟨g, 4, none⟩ x4).setCell ⟨g, 5, none⟩ x5).setCell ⟨g, 6, none⟩ x6) g t #[x0, x1, x2, x3, x4, x5, x6, a7, a8, a9, a10, a11, a12] := h5.set_ 6 x6
  have h7 : Blk ((((((((w.setCell ⟨g, 0, none⟩ x0).setCell ⟨g, 1, none⟩ x1).setCell ⟨g, 2, none⟩ x2).setCell ⟨g, 3, none⟩ x3).setCell ⟨g, 4, none⟩ x4).setCell ⟨g, 5, none⟩ x5).setCell ⟨g, 6, none⟩ x6).setCell ⟨g, 7, none⟩ x7) g t #[x0, x1, x2, x3, x4, x5, x6, x7, a8, a9, a10, a11, a12] := h6.set_ 7 x7
  have h8 : Blk (((((((((w.setCell ⟨g, 0, none⟩ x0).setCell ⟨g, 1, none⟩ x1).setCell ⟨g, 2, none⟩ x2).setCell ⟨g, 3, none⟩ x3).setCell ⟨g, 4, none⟩ x4).setCell ⟨g, 5, none⟩ x5).setCell ⟨g, 6, none⟩ x6).setCell ⟨g, 7, none⟩ x7).setCell ⟨g, 8, none⟩ x8) g t #[x0, x1, x2, x3, x4, x5, x6, x7, x8, a9, a10, a11, a12] := h7.set_ 8 x8
  have h9 : Blk ((((((((((w.setCell ⟨g, 0, none⟩ x0).setCell ⟨g, 1, none⟩ x1).setCell ⟨g, 2, none⟩ x2).setCell ⟨g, 3, none⟩ x3).setCell ⟨g, 4, none⟩ x4).setCell ⟨g, 5, none⟩ x5).setCell ⟨g, 6, none⟩ x6).setCell ⟨g, 7, none⟩ x7).setCell ⟨g, 8, none⟩ x8).setCell ⟨g, 9, none⟩ x9) g t #[x0, x1, x2, x3, x4, x5, x6, x7, x8, x9, a10, a11, a12] := h8.set_ 9 x9
  have h10 : Blk (((((((((((w.setCell ⟨g, 0, none⟩ x0).setCell ⟨g, 1, none⟩ x1).setCell ⟨g, 2, none⟩ x2).setCell ⟨g, 3, none⟩ x3).setCell ⟨g, 4, none⟩ x4).setCell ⟨g, 5, none⟩ x5).setCell ⟨g, 6, none⟩ x6).setCell ⟨g, 7, none⟩ x7).setCell ⟨g, 8, none⟩ x8).setCell ⟨g, 9, none⟩ x9).setCell ⟨g, 10, none⟩ x10) g t #[x0, x1, x2, x3, x4, x5, x6, x7, x8, x9, x10, a11, a12] := h9.set_ 10 x10
  have h11 : Blk ((((((((((((w.setCell ⟨g, 0, none⟩ x0).setCell ⟨g, 1, none⟩ x1).setCell ⟨g, 2, none⟩ x2).setCell ⟨g, 3, none⟩ x3).setCell ⟨g, 4, none⟩ x4).setCell ⟨g, 5, none⟩ x5).setCell ⟨g, 6, none⟩ x6).setCell ⟨g, 7, none⟩ x7).setCell ⟨g, 8, none⟩ x8).setCell ⟨g, 9, none⟩ x9).setCell ⟨g, 10, none⟩ x10).setCell ⟨g, 11, none⟩ x11) g t #[x0, x1, x2, x3, x4, x5, x6, x7, x8, x9, x10, x11, a12] := h10.set_ 11 x11
  have h12 : Blk (((((((((((((w.setCell ⟨g, 0, none⟩ x0).setCell ⟨g, 1, none⟩ x1).setCell ⟨g, 2, none⟩ x2).setCell ⟨g, 3, none⟩ x3).setCell ⟨g, 4, none⟩ x4).setCell ⟨g, 5, none⟩ x5).setCell ⟨g, 6, none⟩ x6).setCell ⟨g, 7, none⟩ x7).setCell ⟨g, 8, none⟩ x8).setCell ⟨g, 9, none⟩ x9).setCell ⟨g, 10, none⟩ x10).setCell ⟨g, 11, none⟩ x11).setCell ⟨g, 12, none⟩ x12) g t #[x0, x1, x2, x3, x4, x5, x6, x7, x8, x9, x10, x11, x12] := h11.set_ 12 x12
  exact h12
set_option maxRecDepth 8000 in
set_option maxHeartbeats 4000000 in
theorem at_next (m : Win) (aL : Option Addr) (nL kL : Nat) (L : Sk) (aT : Option Addr) (kT : Nat) (T : Sk) (B : Nat) (P : Nat → Prop) (now : Nat) (w : World) (hm : m.Ok) (hT : RV w B P (.slice aT T.rows kT) T) (hn1 : m.now ≤ now) (hn2 : now ≤ 1099511627776) (hd : now / m.long = m.now / m.long + 1) :
    Calls Try.prog 30 #[wv m (.slice aL nL kL) L (.slice aT T.rows kT) T, .int .i64 (now : Int)] w fun e w' => ∃ v, e = .returned (.tuple #[wv { m with now := now } (.slice aT T.rows kT) T v (m.fresh (now / m.long)), .int .i64 0]) ∧ RV w' w.heap.size (fun q => w.heap.size ≤ q) v (m.fresh (now / m.long)) ∧ Below w.heap.size w w' := by
  have hl1 := hm.long1
  have hlm := hm.longm
  have hnm := hm.nowm
  obtain ⟨rows, W, seed, l, n, last, this⟩ := m
  dsimp only at *
  have ham : now / l ≤ 1099511627776 := Nat.le_trans (Nat.div_le_self _ _) hn2
  obtain ⟨b, hbb⟩ : ∃ b, n / l = b := ⟨_, rfl⟩
  have ha : (now : Int) / (l : Int) = (b : Int) + 1 := by rw [← hbb, ← Int.natCast_ediv, hd]; rfl
  have hb : (n : Int) / (l : Int) = (b : Int) := by rw [← hbb, Int.natCast_ediv]
  have hbm : b ≤ 1099511627775 := by omega
  have HB := Lib.hid (show now / l = b + 1 by rw [hd, hbb])
  have HM := Lib.hid hm
  rw [hd, hbb]
  clear hbb hd hm ham
  go_enter Try.func30, Try.ntmps30
  go_wp2_with fail
  rw [show ((b : Int) + 1) = ((b + 1 : Nat) : Int) from rfl]
  have hk : Below w.heap.size w ((w.alloc (.cells (wvs ⟨rows, W, seed, l, n, last, this⟩ (.slice aT T.rows kT) T (.slice aT T.rows kT) T) 40)).alloc (.cells #[.int .i64 0, .int .i64 0, .int .u64 0, .int .i64 0, .int .i64 0, .slice none 0 0, .int .i64 0, .int .u64 0, .int .u64 0, .slice none 0 0, .int .i64 0, .int .u64 0, .int .u64 0] 40)) := bl_alloc (bl_alloc (Below.refl _ _) _) _
  have hg0 : Blk ((w.alloc (.cells (wvs ⟨rows, W, seed, l, n, last, this⟩ (.slice aT T.rows kT) T (.slice aT T.rows kT) T) 40)).alloc (.cells #[.int .i64 0, .int .i64 0, .int .u64 0, .int .i64 0, .int .i64 0, .slice none 0 0, .int .i64 0, .int .u64 0, .int .u64 0, .slice none 0 0, .int .i64 0, .int .u64 0, .int .u64 0] 40)) w.heap.size 40 (wvs ⟨rows, W, seed, l, n, last, this⟩ (.slice aT T.rows kT) T (.slice aT T.rows kT) T) := heap_alloc2_old w _ _
  have hg1 : Blk ((w.alloc (.cells (wvs ⟨rows, W, seed, l, n, last, this⟩ (.slice aT T.rows kT) T (.slice aT T.rows kT) T) 40)).alloc (.cells #[.int .i64 0, .int .i64 0, .int .u64 0, .int .i64 0, .int .i64 0, .slice none 0 0, .int .i64 0, .int .u64 0, .int .u64 0, .slice none 0 0, .int .i64 0, .int .u64 0, .int .u64 0] 40)) (w.heap.size + 1) 40 #[.int .i64 0, .int .i64 0, .int .u64 0, .int .i64 0, .int .i64 0, .slice none 0 0, .int .i64 0, .int .u64 0, .int .u64 0, .slice none 0 0, .int .i64 0, .int .u64 0, .int .u64 0] := heap_alloc2_new w _ _
  refine (fresh_ref ⟨rows, W, seed, l, n, last, this⟩ (.slice aT T.rows kT) T (.slice aT T.rows kT) T B P (b + 1) _ HM.out (hT.next_ hk) (hT.next_ hk)).mono ?_
  rintro e w3 ⟨v, rfl, hR, hb3⟩
  replace hg0 := hg0.next hb3
  replace hg1 := hg1.next hb3
  have hR2 : RV w3 w.heap.size (fun q => w.heap.size ≤ q ∧ q ≠ w.heap.size ∧ q ≠ w.heap.size + 1) v (Win.fresh ⟨rows, W, seed, l, n, last, this⟩ (b + 1)) := Kd.R_mono (Kd.R_lower hR hk.size) fun q hq => by
    have hs : ((w.alloc (.cells (wvs ⟨rows, W, seed, l, n, last, this⟩ (.slice aT T.rows kT) T (.slice aT T.rows kT) T) 40)).alloc (.cells #[.int .i64 0, .int .i64 0, .int .u64 0, .int .i64 0, .int .i64 0, .slice none 0 0, .int .i64 0, .int .u64 0, .int .u64 0, .slice none 0 0, .int .i64 0, .int .u64 0, .int .u64 0] 40)).heap.size = w.heap.size + 1 + 1 := by rw [World.size_alloc, World.size_alloc]
    rw [hs] at hq
    omega
  have hb4 := bnext hk hb3
  obtain ⟨av, kv, rfl⟩ := hR2.slice_
  clear hk hR hb3
  have c0 : w3.cell? ⟨w.heap.size, 0, none⟩ = some (.int .i64 (rows : Int)) := hg0.cell 0
  have c1 : w3.cell? ⟨w.heap.size, 1, none⟩ = some (.int .i64 (W : Int)) := hg0.cell 1
  have c2 : w3.cell? ⟨w.heap.size, 2, none⟩ = some (uv seed) := hg0.cell 2
  have c3 : w3.cell? ⟨w.heap.size, 3, none⟩ = some (.int .i64 (l : Int)) := hg0.cell 3
  have c4 : w3.cell? ⟨w.heap.size, 4, none⟩ = some (.int .i64 (n : Int)) := hg0.cell 4
  have c5 : w3.cell? ⟨w.heap.size, 5, none⟩ = some ((.slice aT T.rows kT)) := hg0.cell 5
  have c6 : w3.cell? ⟨w.heap.size, 6, none⟩ = some (.int .i64 (T.W : Int)) := hg0.cell 6
  have c7 : w3.cell? ⟨w.heap.size, 7, none⟩ = some (uv T.seed) := hg0.cell 7
  have c8 : w3.cell? ⟨w.heap.size, 8, none⟩ = some (nv T.total) := hg0.cell 8
  have c9 : w3.cell? ⟨w.heap.size, 9, none⟩ = some ((.slice aT T.rows kT)) := hg0.cell 9
  have c10 : w3.cell? ⟨w.heap.size, 10, none⟩ = some (.int .i64 (T.W : Int)) := hg0.cell 10
  have c11 : w3.cell? ⟨w.heap.size, 11, none⟩ = some (uv T.seed) := hg0.cell 11
  have c12 : w3.cell? ⟨w.heap.size, 12, none⟩ = some (nv T.total) := hg0.cell 12
  have f0 := hg0.frozen 0
  have f1 := hg0.frozen 1
  have f2 := hg0.frozen 2
  have f3 := hg0.frozen 3
  have f4 := hg0.frozen 4
  have f5 := hg0.frozen 5
  have f6 := hg0.frozen 6
  have f7 := hg0.frozen 7
  have f8 := hg0.frozen 8
  have f9 := hg0.frozen 9
  have f10 := hg0.frozen 10
  have f11 := hg0.frozen 11
  have f12 := hg0.frozen 12
  have z0 : w3.cell? ⟨(w.heap.size + 1), 0, none⟩ = some (.int .i64 0) := hg1.cell 0
  have z1 : w3.cell? ⟨(w.heap.size + 1), 1, none⟩ = some (.int .i64 0) := hg1.cell 1
  have z2 : w3.cell? ⟨(w.heap.size + 1), 2, none⟩ = some (.int .u64 0) := hg1.cell 2
  have z3 : w3.cell? ⟨(w.heap.size + 1), 3, none⟩ = some (.int .i64 0) := hg1.cell 3
  have z4 : w3.cell? ⟨(w.heap.size + 1), 4, none⟩ = some (.int .i64 0) := hg1.cell 4
  have z5 : w3.cell? ⟨(w.heap.size + 1), 5, none⟩ = some (.slice none 0 0) := hg1.cell 5
  have z6 : w3.cell? ⟨(w.heap.size + 1), 6, none⟩ = some (.int .i64 0) := hg1.cell 6
  have z7 : w3.cell? ⟨(w.heap.size + 1), 7, none⟩ = some (.int .u64 0) := hg1.cell 7
  have z8 : w3.cell? ⟨(w.heap.size + 1), 8, none⟩ = some (.int .u64 0) := hg1.cell 8
  have z9 : w3.cell? ⟨(w.heap.size + 1), 9, none⟩ = some (.slice none 0 0) := hg1.cell 9
  have z10 : w3.cell? ⟨(w.heap.size + 1), 10, none⟩ = some (.int .i64 0) := hg1.cell 10
  have z11 : w3.cell? ⟨(w.heap.size + 1), 11, none⟩ = some (.int .u64 0) := hg1.cell 11
  have z12 : w3.cell? ⟨(w.heap.size + 1), 12, none⟩ = some (.int .u64 0) := hg1.cell 12
  have y0 := hg1.frozen 0
  have y1 := hg1.frozen 1
  have y2 := hg1.frozen 2
  have y3 := hg1.frozen 3
  have y4 := hg1.frozen 4
  have y5 := hg1.frozen 5
  have y6 := hg1.frozen 6
  have y7 := hg1.frozen 7
  have y8 := hg1.frozen 8
  have y9 := hg1.frozen 9
  have y10 := hg1.frozen 10
  have y11 := hg1.frozen 11
  have y12 := hg1.frozen 12
  go_wp2
  refine bodyPost_ret (results_row_tmp rfl _ _ (w.heap.size + 1) 40 _ (0, 0) _ rfl (set13 (((((hg1.far (p := ⟨w.heap.size, 9, none⟩) (Nat.succ_ne_self _) _).far (p := ⟨w.heap.size, 10, none⟩) (Nat.succ_ne_self _) _).far (p := ⟨w.heap.size, 11, none⟩) (Nat.succ_ne_self _) _).far (p := ⟨w.heap.size, 12, none⟩) (Nat.succ_ne_self _) _).far (p := ⟨w.heap.size, 4, none⟩) (Nat.succ_ne_self _) _)) Try.underlying40 rfl (by kernel_rfl)) rfl ?_
  refine ⟨_, rfl, Kd.R_mono (Kd.R_step hR2 fun q hq hlt => (Chg.block (((((((((((((((((((Chg.refl (fun q => q = w.heap.size ∨ q = w.heap.size + 1) w3).setCell (p := ⟨w.heap.size, 9, none⟩) (.inl (.inl rfl)) _).setCell (p := ⟨w.heap.size, 10, none⟩) (.inl (.inl rfl)) _).setCell (p := ⟨w.heap.size, 11, none⟩) (.inl (.inl rfl)) _).setCell (p := ⟨w.heap.size, 12, none⟩) (.inl (.inl rfl)) _).setCell (p := ⟨w.heap.size, 4, none⟩) (.inl (.inl rfl)) _).setCell (p := ⟨w.heap.size + 1, 0, none⟩) (.inl (.inr rfl)) _).setCell (p := ⟨w.heap.size + 1, 1, none⟩) (.inl (.inr rfl)) _).setCell (p := ⟨w.heap.size + 1, 2, none⟩) (.inl (.inr rfl)) _).setCell (p := ⟨w.heap.size + 1, 3, none⟩) (.inl (.inr rfl)) _).setCell (p := ⟨w.heap.size + 1, 4, none⟩) (.inl (.inr rfl)) _).setCell (p := ⟨w.heap.size + 1, 5, none⟩) (.inl (.inr rfl)) _).setCell (p := ⟨w.heap.size + 1, 6, none⟩) (.inl (.inr rfl)) _).setCell (p := ⟨w.heap.size + 1, 7, none⟩) (.inl (.inr rfl)) _).setCell (p := ⟨w.heap.size + 1, 8, none⟩) (.inl (.inr rfl)) _).setCell (p := ⟨w.heap.size + 1, 9, none⟩) (.inl (.inr rfl)) _).setCell (p := ⟨w.heap.size + 1, 10, none⟩) (.inl (.inr rfl)) _).setCell (p := ⟨w.heap.size + 1, 11, none⟩) (.inl (.inr rfl)) _).setCell (p := ⟨w.heap.size + 1, 12, none⟩) (.inl (.inr rfl)) _) q hlt ?_)) (fun q hq => hq.1), bchg hb4 (((((((((((((((((((Chg.refl (fun q => q = w.heap.size ∨ q = w.heap.size + 1) w3).setCell (p := ⟨w.heap.size, 9, none⟩) (.inl (.inl rfl)) _).setCell (p := ⟨w.heap.size, 10, none⟩) (.inl (.inl rfl)) _).setCell (p := ⟨w.heap.size, 11, none⟩) (.inl (.inl rfl)) _).setCell (p := ⟨w.heap.size, 12, none⟩) (.inl (.inl rfl)) _).setCell (p := ⟨w.heap.size, 4, none⟩) (.inl (.inl rfl)) _).setCell (p := ⟨w.heap.size + 1, 0, none⟩) (.inl (.inr rfl)) _).setCell (p := ⟨w.heap.size + 1, 1, none⟩) (.inl (.inr rfl)) _).setCell (p := ⟨w.heap.size + 1, 2, none⟩) (.inl (.inr rfl)) _).setCell (p := ⟨w.heap.size + 1, 3, none⟩) (.inl (.inr rfl)) _).setCell (p := ⟨w.heap.size + 1, 4, none⟩) (.inl (.inr rfl)) _).setCell (p := ⟨w.heap.size + 1, 5, none⟩) (.inl (.inr rfl)) _).setCell (p := ⟨w.heap.size + 1, 6, none⟩) (.inl (.inr rfl)) _).setCell (p := ⟨w.heap.size + 1, 7, none⟩) (.inl (.inr rfl)) _).setCell (p := ⟨w.heap.size + 1, 8, none⟩) (.inl (.inr rfl)) _).setCell (p := ⟨w.heap.size + 1, 9, none⟩) (.inl (.inr rfl)) _).setCell (p := ⟨w.heap.size + 1, 10, none⟩) (.inl (.inr rfl)) _).setCell (p := ⟨w.heap.size + 1, 11, none⟩) (.inl (.inr rfl)) _).setCell (p := ⟨w.heap.size + 1, 12, none⟩) (.inl (.inr rfl)) _) ?_⟩
  · rintro (h | h)
    · exact hq.2.1 h
    · exact hq.2.2 h
  · rintro j (rfl | rfl)
    · exact Nat.le_refl _
    · exact Nat.le_succ _
end Go.Proofs.Ytjpfamminemegaa.Tele
namespace Go.Proofs.Ytjpfamminemegaa.Tele
open Go.RowKit Go.Proofs.YtjpfamminemegaaW.PrintWords Go.Proofs.YtjpfamminemegaaW.PrintLast Go.Proofs.YtjpfamminemegaaW.PrintMore Go.Proofs.Ytjpfamminemegaa.PRateAsks
set_option linter.unusedVariables false
set_option linter.unusedSimpArgs false

set_option maxRecDepth 8000 in
set_option maxHeartbeats 4000000 in
theorem at_far (m : Win) (aL : Option Addr) (kL : Nat) (L : Sk) (aT : Option Addr) (kT : Nat) (T : Sk) (B : Nat) (P : Nat → Prop) (now : Nat) (w : World) (hm : m.Ok) (hL : RV w B P (.slice aL L.rows kL) L) (hT : RV w B P (.slice aT T.rows kT) T) (hn1 : m.now ≤ now) (hn2 : now ≤ 1099511627776) (hd : ¬ now / m.long = m.now / m.long) (hd2 : ¬ now / m.long = m.now / m.long + 1) :
    Calls Try.prog 30 #[wv m (.slice aL L.rows kL) L (.slice aT T.rows kT) T, .int .i64 (now : Int)] w fun e w' => ∃ v1 v2, e = .returned (.tuple #[wv { m with now := now } v1 (m.fresh (now / m.long - 1)) v2 (m.fresh (now / m.long)), .int .i64 0]) ∧ RV w' w.heap.size (fun q => w.heap.size ≤ q) v1 (m.fresh (now / m.long - 1)) ∧ RV w' w.heap.size (fun q => w.heap.size ≤ q) v2 (m.fresh (now / m.long)) ∧ Below w.heap.size w w' := by
  have hl1 := hm.long1
  have hlm := hm.longm
  have hnm := hm.nowm
  obtain ⟨rows, W, seed, l, n, last, this⟩ := m
  dsimp only at *
  have ham : now / l ≤ 1099511627776 := Nat.le_trans (Nat.div_le_self _ _) hn2
  have hle : n / l ≤ now / l := Nat.div_le_div_right hn1
  obtain ⟨b, hbb⟩ : ∃ b, n / l = b := ⟨_, rfl⟩
  obtain ⟨a, haa⟩ : ∃ a, now / l = a := ⟨_, rfl⟩
  have ha : (now : Int) / (l : Int) = (a : Int) := by rw [← haa, Int.natCast_ediv]
  have hb : (n : Int) / (l : Int) = (b : Int) := by rw [← hbb, Int.natCast_ediv]
  rw [hbb, haa] at hd hd2 hle
  rw [haa] at ham
  have hab : (b : Int) + 1 < (a : Int) := by omega
  have hq1 : ((a : Int) == (b : Int) + 1) = false := by rw [beq_eq_false_iff_ne]; omega
  have hbm : b ≤ 1099511627775 := by omega
  have hm1 : ((a : Int) - 1) = ((a - 1 : Nat) : Int) := by omega
  have HM1 := Lib.hid hm1
  have HM := Lib.hid hm
  rw [haa]
  obtain ⟨N1, hN1⟩ : ∃ N1, N1 = Win.fresh ⟨rows, W, seed, l, n, last, this⟩ (a - 1) := ⟨_, rfl⟩
  obtain ⟨N2, hN2⟩ : ∃ N2, N2 = Win.fresh ⟨rows, W, seed, l, n, last, this⟩ a := ⟨_, rfl⟩
  rw [← hN1, ← hN2]
  have HN1 := Lib.hid hN1
  have HN2 := Lib.hid hN2
  clear hN1 hN2
  clear hbb haa hd hd2 hle hm hm1
  go_enter Try.func30, Try.ntmps30
  go_wp2_with fail
  rw [HM1.out]
  have hk : Below w.heap.size w ((w.alloc (.cells (wvs ⟨rows, W, seed, l, n, last, this⟩ (.slice aL L.rows kL) L (.slice aT T.rows kT) T) 40)).alloc (.cells #[.int .i64 0, .int .i64 0, .int .u64 0, .int .i64 0, .int .i64 0, .slice none 0 0, .int .i64 0, .int .u64 0, .int .u64 0, .slice none 0 0, .int .i64 0, .int .u64 0, .int .u64 0] 40)) := bl_alloc (bl_alloc (Below.refl _ _) _) _
  have hg0 : Blk ((w.alloc (.cells (wvs ⟨rows, W, seed, l, n, last, this⟩ (.slice aL L.rows kL) L (.slice aT T.rows kT) T) 40)).alloc (.cells #[.int .i64 0, .int .i64 0, .int .u64 0, .int .i64 0, .int .i64 0, .slice none 0 0, .int .i64 0, .int .u64 0, .int .u64 0, .slice none 0 0, .int .i64 0, .int .u64 0, .int .u64 0] 40)) w.heap.size 40 (wvs ⟨rows, W, seed, l, n, last, this⟩ (.slice aL L.rows kL) L (.slice aT T.rows kT) T) := heap_alloc2_old w _ _
  have hg1 : Blk ((w.alloc (.cells (wvs ⟨rows, W, seed, l, n, last, this⟩ (.slice aL L.rows kL) L (.slice aT T.rows kT) T) 40)).alloc (.cells #[.int .i64 0, .int .i64 0, .int .u64 0, .int .i64 0, .int .i64 0, .slice none 0 0, .int .i64 0, .int .u64 0, .int .u64 0, .slice none 0 0, .int .i64 0, .int .u64 0, .int .u64 0] 40)) (w.heap.size + 1) 40 #[.int .i64 0, .int .i64 0, .int .u64 0, .int .i64 0, .int .i64 0, .slice none 0 0, .int .i64 0, .int .u64 0, .int .u64 0, .slice none 0 0, .int .i64 0, .int .u64 0, .int .u64 0] := heap_alloc2_new w _ _
  have hs : (((w.alloc (.cells (wvs ⟨rows, W, seed, l, n, last, this⟩ (.slice aL L.rows kL) L (.slice aT T.rows kT) T) 40)).alloc (.cells #[.int .i64 0, .int .i64 0, .int .u64 0, .int .i64 0, .int .i64 0, .slice none 0 0, .int .i64 0, .int .u64 0, .int .u64 0, .slice none 0 0, .int .i64 0, .int .u64 0, .int .u64 0] 40))).heap.size = w.heap.size + 1 + 1 := by rw [World.size_alloc, World.size_alloc]
  have HF := fresh_ref ⟨rows, W, seed, l, n, last, this⟩ (.slice aL L.rows kL) L (.slice aT T.rows kT) T B P (a - 1) _ HM.out (hL.next_ hk) (hT.next_ hk)
  rw [← HN1.out] at HF
  refine HF.mono ?_
  clear HF
  rintro e w3 ⟨v, rfl, hR, hb3⟩
  replace hg0 := hg0.next hb3
  replace hg1 := hg1.next hb3
  have hT3 := (hT.next_ hk).next_ hb3
  have hT3' : RV w3 B (fun q => q < w.heap.size) (.slice aT T.rows kT) T := Kd.R_mono (Kd.R_below (Kd.R_below (Kd.R_bound hT) hk) hb3) fun q hq => hq.2.2.1
  have hR2 : RV w3 w.heap.size (fun q => w.heap.size ≤ q ∧ q ≠ w.heap.size ∧ q ≠ w.heap.size + 1) v N1 := Kd.R_mono (Kd.R_lower hR hk.size) fun q hq => by
    rw [hs] at hq
    omega
  have hb4 := bnext hk hb3
  obtain ⟨av1, kv1, rfl⟩ := hR2.slice_
  clear hk hR hb3 hs hT3
  have c0 : w3.cell? ⟨w.heap.size, 0, none⟩ = some (.int .i64 (rows : Int)) := hg0.cell 0
  have c1 : w3.cell? ⟨w.heap.size, 1, none⟩ = some (.int .i64 (W : Int)) := hg0.cell 1
  have c2 : w3.cell? ⟨w.heap.size, 2, none⟩ = some (uv seed) := hg0.cell 2
  have c3 : w3.cell? ⟨w.heap.size, 3, none⟩ = some (.int .i64 (l : Int)) := hg0.cell 3
  have c4 : w3.cell? ⟨w.heap.size, 4, none⟩ = some (.int .i64 (n : Int)) := hg0.cell 4
  have c5 : w3.cell? ⟨w.heap.size, 5, none⟩ = some ((.slice aL L.rows kL)) := hg0.cell 5
  have c6 : w3.cell? ⟨w.heap.size, 6, none⟩ = some (.int .i64 (L.W : Int)) := hg0.cell 6
  have c7 : w3.cell? ⟨w.heap.size, 7, none⟩ = some (uv L.seed) := hg0.cell 7
  have c8 : w3.cell? ⟨w.heap.size, 8, none⟩ = some (nv L.total) := hg0.cell 8
  have c9 : w3.cell? ⟨w.heap.size, 9, none⟩ = some ((.slice aT T.rows kT)) := hg0.cell 9
  have c10 : w3.cell? ⟨w.heap.size, 10, none⟩ = some (.int .i64 (T.W : Int)) := hg0.cell 10
  have c11 : w3.cell? ⟨w.heap.size, 11, none⟩ = some (uv T.seed) := hg0.cell 11
  have c12 : w3.cell? ⟨w.heap.size, 12, none⟩ = some (nv T.total) := hg0.cell 12
  have f0 := hg0.frozen 0
  have f1 := hg0.frozen 1
  have f2 := hg0.frozen 2
  have f3 := hg0.frozen 3
  have f4 := hg0.frozen 4
  have f5 := hg0.frozen 5
  have f6 := hg0.frozen 6
  have f7 := hg0.frozen 7
  have f8 := hg0.frozen 8
  have f9 := hg0.frozen 9
  have f10 := hg0.frozen 10
  have f11 := hg0.frozen 11
  have f12 := hg0.frozen 12
  go_wp2_with fail
  clear c0 f0 c1 f1 c2 f2 c3 f3 c4 f4 c5 f5 c6 f6 c7 f7 c8 f8 c9 f9 c10 f10 c11 f11 c12 f12
  have hch4 : Chg (fun q => q = w.heap.size ∨ q = w.heap.size + 1) w3 ((((w3.setCell ⟨w.heap.size, 5, none⟩ (.slice av1 N1.rows kv1)).setCell ⟨w.heap.size, 6, none⟩ (.int .i64 (N1.W : Int))).setCell ⟨w.heap.size, 7, none⟩ (uv N1.seed)).setCell ⟨w.heap.size, 8, none⟩ (nv N1.total)) := (((((Chg.refl (fun q => q = w.heap.size ∨ q = w.heap.size + 1) w3).setCell (p := ⟨w.heap.size, 5, none⟩) (.inl (.inl rfl)) _).setCell (p := ⟨w.heap.size, 6, none⟩) (.inl (.inl rfl)) _).setCell (p := ⟨w.heap.size, 7, none⟩) (.inl (.inl rfl)) _).setCell (p := ⟨w.heap.size, 8, none⟩) (.inl (.inl rfl)) _)
  have h5 := hg0.set_ 5 (.slice av1 N1.rows kv1)
  have h6 := h5.set_ 6 ((.int .i64 (N1.W : Int)))
  have h7 := h6.set_ 7 ((uv N1.seed))
  have h8 : Blk ((((w3.setCell ⟨w.heap.size, 5, none⟩ (.slice av1 N1.rows kv1)).setCell ⟨w.heap.size, 6, none⟩ (.int .i64 (N1.W : Int))).setCell ⟨w.heap.size, 7, none⟩ (uv N1.seed)).setCell ⟨w.heap.size, 8, none⟩ (nv N1.total)) w.heap.size 40 (wvs ⟨rows, W, seed, l, n, last, this⟩ (.slice av1 N1.rows kv1) N1 (.slice aT T.rows kT) T) := h7.set_ 8 ((nv N1.total))
  have h9 : Blk ((((w3.setCell ⟨w.heap.size, 5, none⟩ (.slice av1 N1.rows kv1)).setCell ⟨w.heap.size, 6, none⟩ (.int .i64 (N1.W : Int))).setCell ⟨w.heap.size, 7, none⟩ (uv N1.seed)).setCell ⟨w.heap.size, 8, none⟩ (nv N1.total)) (w.heap.size + 1) 40 #[.int .i64 0, .int .i64 0, .int .u64 0, .int .i64 0, .int .i64 0, .slice none 0 0, .int .i64 0, .int .u64 0, .int .u64 0, .slice none 0 0, .int .i64 0, .int .u64 0, .int .u64 0] := ((((hg1.far (p := ⟨w.heap.size, 5, none⟩) (Nat.succ_ne_self _) _).far (p := ⟨w.heap.size, 6, none⟩) (Nat.succ_ne_self _) _).far (p := ⟨w.heap.size, 7, none⟩) (Nat.succ_ne_self _) _).far (p := ⟨w.heap.size, 8, none⟩) (Nat.succ_ne_self _) _)
  have hb5 : Below w.heap.size w ((((w3.setCell ⟨w.heap.size, 5, none⟩ (.slice av1 N1.rows kv1)).setCell ⟨w.heap.size, 6, none⟩ (.int .i64 (N1.W : Int))).setCell ⟨w.heap.size, 7, none⟩ (uv N1.seed)).setCell ⟨w.heap.size, 8, none⟩ (nv N1.total)) := bchg hb4 hch4 (by rintro j (rfl | rfl); exact Nat.le_refl _; exact Nat.le_succ _)
  have hR4 : RV ((((w3.setCell ⟨w.heap.size, 5, none⟩ (.slice av1 N1.rows kv1)).setCell ⟨w.heap.size, 6, none⟩ (.int .i64 (N1.W : Int))).setCell ⟨w.heap.size, 7, none⟩ (uv N1.seed)).setCell ⟨w.heap.size, 8, none⟩ (nv N1.total)) w.heap.size (fun q => w.heap.size ≤ q ∧ q ≠ w.heap.size ∧ q ≠ w.heap.size + 1) (.slice av1 N1.rows kv1) N1 := Kd.R_step hR2 fun q hq hlt => hch4.block q hlt (by rintro (h | h); exact hq.2.1 h; exact hq.2.2 h)
  have hT4 : RV ((((w3.setCell ⟨w.heap.size, 5, none⟩ (.slice av1 N1.rows kv1)).setCell ⟨w.heap.size, 6, none⟩ (.int .i64 (N1.W : Int))).setCell ⟨w.heap.size, 7, none⟩ (uv N1.seed)).setCell ⟨w.heap.size, 8, none⟩ (nv N1.total)) B (fun q => q < w.heap.size) (.slice aT T.rows kT) T := Kd.R_step hT3' fun q hq hlt => hch4.block q hlt (by rintro (h | h) <;> omega)
  have hsz : w.heap.size + 1 + 1 ≤ (((((w3.setCell ⟨w.heap.size, 5, none⟩ (.slice av1 N1.rows kv1)).setCell ⟨w.heap.size, 6, none⟩ (.int .i64 (N1.W : Int))).setCell ⟨w.heap.size, 7, none⟩ (uv N1.seed)).setCell ⟨w.heap.size, 8, none⟩ (nv N1.total))).heap.size := by have := h9.lt; omega
  clear h5 h6 h7 hg0 hg1 hR2 hT3' hb4 hch4
  generalize ((((w3.setCell ⟨w.heap.size, 5, none⟩ (.slice av1 N1.rows kv1)).setCell ⟨w.heap.size, 6, none⟩ (.int .i64 (N1.W : Int))).setCell ⟨w.heap.size, 7, none⟩ (uv N1.seed)).setCell ⟨w.heap.size, 8, none⟩ (nv N1.total)) = w4 at *
  have HG := fresh_ref ⟨rows, W, seed, l, n, last, this⟩ (.slice av1 N1.rows kv1) N1 (.slice aT T.rows kT) T 0 (fun _ => True) a _ HM.out (Kd.R_mono (Kd.R_lower hR4 (Nat.zero_le _)) fun _ _ => trivial) (Kd.R_mono (Kd.R_lower hT4 (Nat.zero_le _)) fun _ _ => trivial)
  rw [← HN2.out] at HG
  refine HG.mono ?_
  clear HG hT4
  rintro e w5 ⟨v, rfl, hR, hb3⟩
  have hR5 := hR4.next_ hb3
  replace hb5 := bnext hb5 hb3
  have hg0 := h8.next hb3
  have hg1 := h9.next hb3
  have hR6 : RV w5 w.heap.size (fun q => w.heap.size ≤ q ∧ q ≠ w.heap.size ∧ q ≠ w.heap.size + 1) v N2 := Kd.R_mono (Kd.R_lower hR (by omega)) fun q hq => by omega
  obtain ⟨av, kv, rfl⟩ := hR6.slice_
  clear hR hR4 h8 h9 hb3 hsz
  have c0 : w5.cell? ⟨w.heap.size, 0, none⟩ = some (.int .i64 (rows : Int)) := hg0.cell 0
  have c1 : w5.cell? ⟨w.heap.size, 1, none⟩ = some (.int .i64 (W : Int)) := hg0.cell 1
  have c2 : w5.cell? ⟨w.heap.size, 2, none⟩ = some (uv seed) := hg0.cell 2
  have c3 : w5.cell? ⟨w.heap.size, 3, none⟩ = some (.int .i64 (l : Int)) := hg0.cell 3
  have c4 : w5.cell? ⟨w.heap.size, 4, none⟩ = some (.int .i64 (n : Int)) := hg0.cell 4
  have c5 : w5.cell? ⟨w.heap.size, 5, none⟩ = some ((.slice av1 N1.rows kv1)) := hg0.cell 5
  have c6 : w5.cell? ⟨w.heap.size, 6, none⟩ = some ((.int .i64 (N1.W : Int))) := hg0.cell 6
  have c7 : w5.cell? ⟨w.heap.size, 7, none⟩ = some ((uv N1.seed)) := hg0.cell 7
  have c8 : w5.cell? ⟨w.heap.size, 8, none⟩ = some ((nv N1.total)) := hg0.cell 8
  have c9 : w5.cell? ⟨w.heap.size, 9, none⟩ = some ((.slice aT T.rows kT)) := hg0.cell 9
  have c10 : w5.cell? ⟨w.heap.size, 10, none⟩ = some (.int .i64 (T.W : Int)) := hg0.cell 10
  have c11 : w5.cell? ⟨w.heap.size, 11, none⟩ = some (uv T.seed) := hg0.cell 11
  have c12 : w5.cell? ⟨w.heap.size, 12, none⟩ = some (nv T.total) := hg0.cell 12
  have f0 := hg0.frozen 0
  have f1 := hg0.frozen 1
  have f2 := hg0.frozen 2
  have f3 := hg0.frozen 3
  have f4 := hg0.frozen 4
  have f5 := hg0.frozen 5
  have f6 := hg0.frozen 6
  have f7 := hg0.frozen 7
  have f8 := hg0.frozen 8
  have f9 := hg0.frozen 9
  have f10 := hg0.frozen 10
  have f11 := hg0.frozen 11
  have f12 := hg0.frozen 12
  have z0 : w5.cell? ⟨(w.heap.size + 1), 0, none⟩ = some (.int .i64 0) := hg1.cell 0
  have z1 : w5.cell? ⟨(w.heap.size + 1), 1, none⟩ = some (.int .i64 0) := hg1.cell 1
  have z2 : w5.cell? ⟨(w.heap.size + 1), 2, none⟩ = some (.int .u64 0) := hg1.cell 2
  have z3 : w5.cell? ⟨(w.heap.size + 1), 3, none⟩ = some (.int .i64 0) := hg1.cell 3
  have z4 : w5.cell? ⟨(w.heap.size + 1), 4, none⟩ = some (.int .i64 0) := hg1.cell 4
  have z5 : w5.cell? ⟨(w.heap.size + 1), 5, none⟩ = some (.slice none 0 0) := hg1.cell 5
  have z6 : w5.cell? ⟨(w.heap.size + 1), 6, none⟩ = some (.int .i64 0) := hg1.cell 6
  have z7 : w5.cell? ⟨(w.heap.size + 1), 7, none⟩ = some (.int .u64 0) := hg1.cell 7
  have z8 : w5.cell? ⟨(w.heap.size + 1), 8, none⟩ = some (.int .u64 0) := hg1.cell 8
  have z9 : w5.cell? ⟨(w.heap.size + 1), 9, none⟩ = some (.slice none 0 0) := hg1.cell 9
  have z10 : w5.cell? ⟨(w.heap.size + 1), 10, none⟩ = some (.int .i64 0) := hg1.cell 10
  have z11 : w5.cell? ⟨(w.heap.size + 1), 11, none⟩ = some (.int .u64 0) := hg1.cell 11
  have z12 : w5.cell? ⟨(w.heap.size + 1), 12, none⟩ = some (.int .u64 0) := hg1.cell 12
  have y0 := hg1.frozen 0
  have y1 := hg1.frozen 1
  have y2 := hg1.frozen 2
  have y3 := hg1.frozen 3
  have y4 := hg1.frozen 4
  have y5 := hg1.frozen 5
  have y6 := hg1.frozen 6
  have y7 := hg1.frozen 7
  have y8 := hg1.frozen 8
  have y9 := hg1.frozen 9
  have y10 := hg1.frozen 10
  have y11 := hg1.frozen 11
  have y12 := hg1.frozen 12
  go_wp2
  refine bodyPost_ret (results_row_tmp rfl _ _ (w.heap.size + 1) 40 _ (0, 0) _ rfl (set13 (((((hg1.far (p := ⟨w.heap.size, 9, none⟩) (Nat.succ_ne_self _) _).far (p := ⟨w.heap.size, 10, none⟩) (Nat.succ_ne_self _) _).far (p := ⟨w.heap.size, 11, none⟩) (Nat.succ_ne_self _) _).far (p := ⟨w.heap.size, 12, none⟩) (Nat.succ_ne_self _) _).far (p := ⟨w.heap.size, 4, none⟩) (Nat.succ_ne_self _) _)) Try.underlying40 rfl (by kernel_rfl)) rfl ?_
  refine ⟨_, _, rfl, Kd.R_mono (Kd.R_step hR5 fun q hq hlt => (Chg.block (((((((((((((((((((Chg.refl (fun q => q = w.heap.size ∨ q = w.heap.size + 1) w5).setCell (p := ⟨w.heap.size, 9, none⟩) (.inl (.inl rfl)) _).setCell (p := ⟨w.heap.size, 10, none⟩) (.inl (.inl rfl)) _).setCell (p := ⟨w.heap.size, 11, none⟩) (.inl (.inl rfl)) _).setCell (p := ⟨w.heap.size, 12, none⟩) (.inl (.inl rfl)) _).setCell (p := ⟨w.heap.size, 4, none⟩) (.inl (.inl rfl)) _).setCell (p := ⟨w.heap.size + 1, 0, none⟩) (.inl (.inr rfl)) _).setCell (p := ⟨w.heap.size + 1, 1, none⟩) (.inl (.inr rfl)) _).setCell (p := ⟨w.heap.size + 1, 2, none⟩) (.inl (.inr rfl)) _).setCell (p := ⟨w.heap.size + 1, 3, none⟩) (.inl (.inr rfl)) _).setCell (p := ⟨w.heap.size + 1, 4, none⟩) (.inl (.inr rfl)) _).setCell (p := ⟨w.heap.size + 1, 5, none⟩) (.inl (.inr rfl)) _).setCell (p := ⟨w.heap.size + 1, 6, none⟩) (.inl (.inr rfl)) _).setCell (p := ⟨w.heap.size + 1, 7, none⟩) (.inl (.inr rfl)) _).setCell (p := ⟨w.heap.size + 1, 8, none⟩) (.inl (.inr rfl)) _).setCell (p := ⟨w.heap.size + 1, 9, none⟩) (.inl (.inr rfl)) _).setCell (p := ⟨w.heap.size + 1, 10, none⟩) (.inl (.inr rfl)) _).setCell (p := ⟨w.heap.size + 1, 11, none⟩) (.inl (.inr rfl)) _).setCell (p := ⟨w.heap.size + 1, 12, none⟩) (.inl (.inr rfl)) _) q hlt ?_)) (fun q hq => hq.1), Kd.R_mono (Kd.R_step hR6 fun q hq hlt => (Chg.block (((((((((((((((((((Chg.refl (fun q => q = w.heap.size ∨ q = w.heap.size + 1) w5).setCell (p := ⟨w.heap.size, 9, none⟩) (.inl (.inl rfl)) _).setCell (p := ⟨w.heap.size, 10, none⟩) (.inl (.inl rfl)) _).setCell (p := ⟨w.heap.size, 11, none⟩) (.inl (.inl rfl)) _).setCell (p := ⟨w.heap.size, 12, none⟩) (.inl (.inl rfl)) _).setCell (p := ⟨w.heap.size, 4, none⟩) (.inl (.inl rfl)) _).setCell (p := ⟨w.heap.size + 1, 0, none⟩) (.inl (.inr rfl)) _).setCell (p := ⟨w.heap.size + 1, 1, none⟩) (.inl (.inr rfl)) _).setCell (p := ⟨w.heap.size + 1, 2, none⟩) (.inl (.inr rfl)) _).setCell (p := ⟨w.heap.size + 1, 3, none⟩) (.inl (.inr rfl)) _).setCell (p := ⟨w.heap.size + 1, 4, none⟩) (.inl (.inr rfl)) _).setCell (p := ⟨w.heap.size + 1, 5, none⟩) (.inl (.inr rfl)) _).setCell (p := ⟨w.heap.size + 1, 6, none⟩) (.inl (.inr rfl)) _).setCell (p := ⟨w.heap.size + 1, 7, none⟩) (.inl (.inr rfl)) _).setCell (p := ⟨w.heap.size + 1, 8, none⟩) (.inl (.inr rfl)) _).setCell (p := ⟨w.heap.size + 1, 9, none⟩) (.inl (.inr rfl)) _).setCell (p := ⟨w.heap.size + 1, 10, none⟩) (.inl (.inr rfl)) _).setCell (p := ⟨w.heap.size + 1, 11, none⟩) (.inl (.inr rfl)) _).setCell (p := ⟨w.heap.size + 1, 12, none⟩) (.inl (.inr rfl)) _) q hlt ?_)) (fun q hq => hq.1), bchg hb5 (((((((((((((((((((Chg.refl (fun q => q = w.heap.size ∨ q = w.heap.size + 1) w5).setCell (p := ⟨w.heap.size, 9, none⟩) (.inl (.inl rfl)) _).setCell (p := ⟨w.heap.size, 10, none⟩) (.inl (.inl rfl)) _).setCell (p := ⟨w.heap.size, 11, none⟩) (.inl (.inl rfl)) _).setCell (p := ⟨w.heap.size, 12, none⟩) (.inl (.inl rfl)) _).setCell (p := ⟨w.heap.size, 4, none⟩) (.inl (.inl rfl)) _).setCell (p := ⟨w.heap.size + 1, 0, none⟩) (.inl (.inr rfl)) _).setCell (p := ⟨w.heap.size + 1, 1, none⟩) (.inl (.inr rfl)) _).setCell (p := ⟨w.heap.size + 1, 2, none⟩) (.inl (.inr rfl)) _).setCell (p := ⟨w.heap.size + 1, 3, none⟩) (.inl (.inr rfl)) _).setCell (p := ⟨w.heap.size + 1, 4, none⟩) (.inl (.inr rfl)) _).setCell (p := ⟨w.heap.size + 1, 5, none⟩) (.inl (.inr rfl)) _).setCell (p := ⟨w.heap.size + 1, 6, none⟩) (.inl (.inr rfl)) _).setCell (p := ⟨w.heap.size + 1, 7, none⟩) (.inl (.inr rfl)) _).setCell (p := ⟨w.heap.size + 1, 8, none⟩) (.inl (.inr rfl)) _).setCell (p := ⟨w.heap.size + 1, 9, none⟩) (.inl (.inr rfl)) _).setCell (p := ⟨w.heap.size + 1, 10, none⟩) (.inl (.inr rfl)) _).setCell (p := ⟨w.heap.size + 1, 11, none⟩) (.inl (.inr rfl)) _).setCell (p := ⟨w.heap.size + 1, 12, none⟩) (.inl (.inr rfl)) _) ?_⟩
  · rintro (h | h)
    · exact hq.2.1 h
    · exact hq.2.2 h
  · rintro (h | h)
    · exact hq.2.1 h
    · exact hq.2.2 h
  · rintro j (rfl | rfl)
    · exact Nat.le_refl _
    · exact Nat.le_succ _
end Go.Proofs.Ytjpfamminemegaa.Tele
namespace Go.Proofs.Ytjpfamminemegaa.Tele
open Go.RowKit Go.Proofs.YtjpfamminemegaaW.PrintWords Go.Proofs.YtjpfamminemegaaW.PrintLast Go.Proofs.YtjpfamminemegaaW.PrintMore Go.Proofs.Ytjpfamminemegaa.PRateAsks
set_option linter.unusedVariables false
set_option linter.unusedSimpArgs false

/-- The reference's sketch of the while before. -/
def LastOk (m : Win) (L : Sk) : Prop := match m.last with | some s => L = s | none => ∃ seed, L = Sk.new m.rows m.W seed
theorem at_yes (m : Win) (vL : Value) (L : Sk) (vT : Value) (B : Nat) (P : Nat → Prop) (now : Nat) (w : World) (hm : m.Ok) (hL : RV w B P vL L) (hT : RV w B P vT m.this) (hB : B ≤ w.heap.size) (hl : LastOk m L) (hn1 : m.now ≤ now) (hn2 : now ≤ 1099511627776) :
    Calls Try.prog 30 #[wv m vL L vT m.this, .int .i64 (now : Int)] w fun e w' => ∃ vL' L' vT', e = .returned (.tuple #[wv (m.turn now) vL' L' vT' (m.turn now).this, .int .i64 0]) ∧ RV w' B (fun q => P q ∨ w.heap.size ≤ q) vL' L' ∧ RV w' B (fun q => P q ∨ w.heap.size ≤ q) vT' (m.turn now).this ∧ LastOk (m.turn now) L' ∧ Below w.heap.size w w' := by
  obtain ⟨aL, kL, rfl⟩ := hL.slice_
  obtain ⟨aT, kT, rfl⟩ := hT.slice_
  by_cases h1 : now / m.long = m.now / m.long
  · have e1 : m.turn now = { m with now := now } := by unfold Win.turn; rw [if_pos h1]
    rw [e1]
    refine (at_same m aL L.rows kL L aT m.this.rows kT m.this now w hm hn1 hn2 h1).mono ?_
    rintro e w' ⟨rfl, hb⟩
    exact ⟨_, L, _, rfl, (hL.next_ hb).mono_ fun q hq => .inl hq, (hT.next_ hb).mono_ fun q hq => .inl hq, hl, hb⟩
  · by_cases h2 : now / m.long = m.now / m.long + 1
    · have e1 : m.turn now = { m with now := now, last := some m.this, this := m.fresh (now / m.long) } := by unfold Win.turn; rw [if_neg h1, if_pos h2]
      rw [e1]
      refine (at_next m aL L.rows kL L aT kT m.this B P now w hm hT hn1 hn2 h2).mono ?_
      rintro e w' ⟨v, rfl, hR, hb⟩
      exact ⟨_, m.this, _, rfl, (hT.next_ hb).mono_ fun q hq => .inl hq, hR.newer hB, rfl, hb⟩
    · have e1 : m.turn now = { m with now := now, last := none, this := m.fresh (now / m.long) } := by unfold Win.turn; rw [if_neg h1, if_neg h2]
      rw [e1]
      refine (at_far m aL kL L aT kT m.this B P now w hm hL hT hn1 hn2 h1 h2).mono ?_
      rintro e w' ⟨v1, v2, rfl, hR1, hR2, hb⟩
      exact ⟨_, _, _, rfl, hR1.newer hB, hR2.newer hB, ⟨_, rfl⟩, hb⟩
theorem last_count (m : Win) (hm : m.Ok) (L : Sk) (hl : LastOk m L) (key : List UInt8) : L.count key = (match m.last with | some s => s.count key | none => 0) := by
  unfold LastOk at hl
  cases h : m.last with
  | some s => rw [h] at hl; rw [hl]
  | none =>
    rw [h] at hl
    obtain ⟨seed, rfl⟩ := hl
    exact Sk.count_new _ _ _ _ hm.rows1
end Go.Proofs.Ytjpfamminemegaa.Tele
namespace Go.Proofs.Ytjpfamminemegaa.Tele
open Go.RowKit Go.Proofs.YtjpfamminemegaaW.PrintWords Go.Proofs.YtjpfamminemegaaW.PrintLast Go.Proofs.YtjpfamminemegaaW.PrintMore Go.Proofs.Ytjpfamminemegaa.PRateAsks
set_option linter.unusedVariables false
set_option linter.unusedSimpArgs false

set_option maxRecDepth 8000 in
set_option maxHeartbeats 4000000 in
theorem radd_no (m : Win) (aL : Option Addr) (nL kL : Nat) (L : Sk) (aT : Option Addr) (nT kT : Nat) (T : Sk) (now : Int) (key : ByteArray) (n : Nat) (w : World) (hn : now < (m.now : Int) ∨ 1099511627776 < now) :
    Calls Try.prog 32 #[wv m (.slice aL nL kL) L (.slice aT nT kT) T, .int .i64 now, .string key, nv n] w fun e w' => e = .returned (.tuple #[wv m (.slice aL nL kL) L (.slice aT nT kT) T, .int .i64 60]) ∧ Below w.heap.size w w' := by
  have HA := Lib.hid fun w => at_no m aL nL kL L aT nT kT T now w hn
  clear hn
  go_enter Try.func32, Try.ntmps32
  go_wp2_with fail
  have hk : Below w.heap.size w ((w.alloc (.cells (wvs m (.slice aL nL kL) L (.slice aT nT kT) T) 40)).alloc (.cells #[.int .i64 0, .int .i64 0, .int .u64 0, .int .i64 0, .int .i64 0, .slice none 0 0, .int .i64 0, .int .u64 0, .int .u64 0, .slice none 0 0, .int .i64 0, .int .u64 0, .int .u64 0] 40)) := bl_alloc (bl_alloc (Below.refl _ _) _) _
  have hg0 : Blk ((w.alloc (.cells (wvs m (.slice aL nL kL) L (.slice aT nT kT) T) 40)).alloc (.cells #[.int .i64 0, .int .i64 0, .int .u64 0, .int .i64 0, .int .i64 0, .slice none 0 0, .int .i64 0, .int .u64 0, .int .u64 0, .slice none 0 0, .int .i64 0, .int .u64 0, .int .u64 0] 40)) w.heap.size 40 (wvs m (.slice aL nL kL) L (.slice aT nT kT) T) := heap_alloc2_old w _ _
  have hg1 : Blk ((w.alloc (.cells (wvs m (.slice aL nL kL) L (.slice aT nT kT) T) 40)).alloc (.cells #[.int .i64 0, .int .i64 0, .int .u64 0, .int .i64 0, .int .i64 0, .slice none 0 0, .int .i64 0, .int .u64 0, .int .u64 0, .slice none 0 0, .int .i64 0, .int .u64 0, .int .u64 0] 40)) (w.heap.size + 1) 40 #[.int .i64 0, .int .i64 0, .int .u64 0, .int .i64 0, .int .i64 0, .slice none 0 0, .int .i64 0, .int .u64 0, .int .u64 0, .slice none 0 0, .int .i64 0, .int .u64 0, .int .u64 0] := heap_alloc2_new w _ _
  refine (HA.out _).mono ?_
  rintro e w3 ⟨rfl, hb3⟩
  replace hg0 := (hg0.next hb3).alloc (.cells (wvs m (.slice aL nL kL) L (.slice aT nT kT) T) 40)
  replace hg1 := (hg1.next hb3).alloc (.cells (wvs m (.slice aL nL kL) L (.slice aT nT kT) T) 40)
  have hb4 := bl_alloc (bnext hk hb3) (.cells (wvs m (.slice aL nL kL) L (.slice aT nT kT) T) 40)
  clear hk hb3
  go_upto_region 2 with fail
  generalize w3.alloc _ = w4 at *
  have c0 : w4.cell? ⟨w.heap.size, 0, none⟩ = some (.int .i64 (m.rows : Int)) := hg0.cell 0
  have c1 : w4.cell? ⟨w.heap.size, 1, none⟩ = some (.int .i64 (m.W : Int)) := hg0.cell 1
  have c2 : w4.cell? ⟨w.heap.size, 2, none⟩ = some (uv m.seed) := hg0.cell 2
  have c3 : w4.cell? ⟨w.heap.size, 3, none⟩ = some (.int .i64 (m.long : Int)) := hg0.cell 3
  have c4 : w4.cell? ⟨w.heap.size, 4, none⟩ = some (.int .i64 (m.now : Int)) := hg0.cell 4
  have c5 : w4.cell? ⟨w.heap.size, 5, none⟩ = some ((.slice aL nL kL)) := hg0.cell 5
  have c6 : w4.cell? ⟨w.heap.size, 6, none⟩ = some (.int .i64 (L.W : Int)) := hg0.cell 6
  have c7 : w4.cell? ⟨w.heap.size, 7, none⟩ = some (uv L.seed) := hg0.cell 7
  have c8 : w4.cell? ⟨w.heap.size, 8, none⟩ = some (nv L.total) := hg0.cell 8
  have c9 : w4.cell? ⟨w.heap.size, 9, none⟩ = some ((.slice aT nT kT)) := hg0.cell 9
  have c10 : w4.cell? ⟨w.heap.size, 10, none⟩ = some (.int .i64 (T.W : Int)) := hg0.cell 10
  have c11 : w4.cell? ⟨w.heap.size, 11, none⟩ = some (uv T.seed) := hg0.cell 11
  have c12 : w4.cell? ⟨w.heap.size, 12, none⟩ = some (nv T.total) := hg0.cell 12
  have f0 := hg0.frozen 0
  have f1 := hg0.frozen 1
  have f2 := hg0.frozen 2
  have f3 := hg0.frozen 3
  have f4 := hg0.frozen 4
  have f5 := hg0.frozen 5
  have f6 := hg0.frozen 6
  have f7 := hg0.frozen 7
  have f8 := hg0.frozen 8
  have f9 := hg0.frozen 9
  have f10 := hg0.frozen 10
  have f11 := hg0.frozen 11
  have f12 := hg0.frozen 12
  have z0 : w4.cell? ⟨(w.heap.size + 1), 0, none⟩ = some (.int .i64 0) := hg1.cell 0
  have z1 : w4.cell? ⟨(w.heap.size + 1), 1, none⟩ = some (.int .i64 0) := hg1.cell 1
  have z2 : w4.cell? ⟨(w.heap.size + 1), 2, none⟩ = some (.int .u64 0) := hg1.cell 2
  have z3 : w4.cell? ⟨(w.heap.size + 1), 3, none⟩ = some (.int .i64 0) := hg1.cell 3
  have z4 : w4.cell? ⟨(w.heap.size + 1), 4, none⟩ = some (.int .i64 0) := hg1.cell 4
  have z5 : w4.cell? ⟨(w.heap.size + 1), 5, none⟩ = some (.slice none 0 0) := hg1.cell 5
  have z6 : w4.cell? ⟨(w.heap.size + 1), 6, none⟩ = some (.int .i64 0) := hg1.cell 6
  have z7 : w4.cell? ⟨(w.heap.size + 1), 7, none⟩ = some (.int .u64 0) := hg1.cell 7
  have z8 : w4.cell? ⟨(w.heap.size + 1), 8, none⟩ = some (.int .u64 0) := hg1.cell 8
  have z9 : w4.cell? ⟨(w.heap.size + 1), 9, none⟩ = some (.slice none 0 0) := hg1.cell 9
  have z10 : w4.cell? ⟨(w.heap.size + 1), 10, none⟩ = some (.int .i64 0) := hg1.cell 10
  have z11 : w4.cell? ⟨(w.heap.size + 1), 11, none⟩ = some (.int .u64 0) := hg1.cell 11
  have z12 : w4.cell? ⟨(w.heap.size + 1), 12, none⟩ = some (.int .u64 0) := hg1.cell 12
  have y0 := hg1.frozen 0
  have y1 := hg1.frozen 1
  have y2 := hg1.frozen 2
  have y3 := hg1.frozen 3
  have y4 := hg1.frozen 4
  have y5 := hg1.frozen 5
  have y6 := hg1.frozen 6
  have y7 := hg1.frozen 7
  have y8 := hg1.frozen 8
  have y9 := hg1.frozen 9
  have y10 := hg1.frozen 10
  have y11 := hg1.frozen 11
  have y12 := hg1.frozen 12
  go_wp2
  exact bodyPost_ret (results_row_tmp rfl _ _ (w.heap.size + 1) 40 _ (0, 0) _ rfl (set13 hg1) Try.underlying40 rfl (by kernel_rfl)) rfl ⟨rfl, bchg hb4 ((((((((((((((Chg.refl (fun q => q = w.heap.size ∨ q = w.heap.size + 1) w4).setCell (p := ⟨w.heap.size + 1, 0, none⟩) (.inl (.inr rfl)) _).setCell (p := ⟨w.heap.size + 1, 1, none⟩) (.inl (.inr rfl)) _).setCell (p := ⟨w.heap.size + 1, 2, none⟩) (.inl (.inr rfl)) _).setCell (p := ⟨w.heap.size + 1, 3, none⟩) (.inl (.inr rfl)) _).setCell (p := ⟨w.heap.size + 1, 4, none⟩) (.inl (.inr rfl)) _).setCell (p := ⟨w.heap.size + 1, 5, none⟩) (.inl (.inr rfl)) _).setCell (p := ⟨w.heap.size + 1, 6, none⟩) (.inl (.inr rfl)) _).setCell (p := ⟨w.heap.size + 1, 7, none⟩) (.inl (.inr rfl)) _).setCell (p := ⟨w.heap.size + 1, 8, none⟩) (.inl (.inr rfl)) _).setCell (p := ⟨w.heap.size + 1, 9, none⟩) (.inl (.inr rfl)) _).setCell (p := ⟨w.heap.size + 1, 10, none⟩) (.inl (.inr rfl)) _).setCell (p := ⟨w.heap.size + 1, 11, none⟩) (.inl (.inr rfl)) _).setCell (p := ⟨w.heap.size + 1, 12, none⟩) (.inl (.inr rfl)) _) (by rintro j (rfl | rfl); exact Nat.le_refl _; exact Nat.le_succ _)⟩
set_option maxRecDepth 8000 in
set_option maxHeartbeats 4000000 in
theorem radd_yes (m : Win) (vL : Value) (L : Sk) (vT : Value) (B : Nat) (P : Nat → Prop) (now : Nat) (key : ByteArray) (n : Nat) (w : World) (hm : m.Ok) (hL : RV w B P vL L) (hT : RV w B P vT m.this) (hB : B ≤ w.heap.size) (hl : LastOk m L) (hn1 : m.now ≤ now) (hn2 : now ≤ 1099511627776) (hO : (m.turn now).this.Ok) (hs : key.size ≤ 140737488351232) (hn : n ≤ 18446744073709551615) :
    Calls Try.prog 32 #[wv m vL L vT m.this, .int .i64 (now : Int), .string key, nv n] w fun e w' => ∃ vL' L' vT', e = .returned (.tuple #[wv (m.turn now) vL' L' vT' ((m.turn now).this.add key.data.toList n), .int .i64 0]) ∧ RV w' B (fun q => P q ∨ w.heap.size ≤ q) vL' L' ∧ RV w' B (fun q => P q ∨ w.heap.size ≤ q) vT' ((m.turn now).this.add key.data.toList n) ∧ LastOk (m.turn now) L' ∧ Below w.heap.size w w' := by
  have hL' : RV w B (fun q => P q ∧ q < w.heap.size) vL L := Kd.R_mono (Kd.R_bound hL) fun q hq => ⟨hq.1, hq.2.2.1⟩
  have hT' : RV w B (fun q => P q ∧ q < w.heap.size) vT m.this := Kd.R_mono (Kd.R_bound hT) fun q hq => ⟨hq.1, hq.2.2.1⟩
  have HA := Lib.hid fun W (hb : Below w.heap.size w W) => at_yes m vL L vT B _ now W hm (hL'.next_ hb) (hT'.next_ hb) (Nat.le_trans hB hb.size) hl hn1 hn2
  obtain ⟨aL, kL, rfl⟩ := hL.slice_
  obtain ⟨aT, kT, rfl⟩ := hT.slice_
  obtain ⟨M2, hM2⟩ : ∃ M2, M2 = m.turn now := ⟨_, rfl⟩
  rw [← hM2] at HA hO ⊢
  obtain ⟨T3, hT3⟩ : ∃ T3, T3 = M2.this.add key.data.toList n := ⟨_, rfl⟩
  have HAD := Lib.hid fun (W : World) v (h : RV W B (fun q => (P q ∧ q < w.heap.size) ∨ w.heap.size + 1 + 1 ≤ q) v M2.this) => radd_R key n h hO hs hn
  rw [← hT3] at HAD ⊢
  clear hM2 hT3 hL hT hL' hT' hl hn1 hn2 hm hO
  go_enter Try.func32, Try.ntmps32
  go_wp2_with fail
  have hk : Below w.heap.size w ((w.alloc (.cells (wvs m (.slice aL L.rows kL) L (.slice aT m.this.rows kT) m.this) 40)).alloc (.cells #[.int .i64 0, .int .i64 0, .int .u64 0, .int .i64 0, .int .i64 0, .slice none 0 0, .int .i64 0, .int .u64 0, .int .u64 0, .slice none 0 0, .int .i64 0, .int .u64 0, .int .u64 0] 40)) := bl_alloc (bl_alloc (Below.refl _ _) _) _
  have hg0 : Blk ((w.alloc (.cells (wvs m (.slice aL L.rows kL) L (.slice aT m.this.rows kT) m.this) 40)).alloc (.cells #[.int .i64 0, .int .i64 0, .int .u64 0, .int .i64 0, .int .i64 0, .slice none 0 0, .int .i64 0, .int .u64 0, .int .u64 0, .slice none 0 0, .int .i64 0, .int .u64 0, .int .u64 0] 40)) w.heap.size 40 (wvs m (.slice aL L.rows kL) L (.slice aT m.this.rows kT) m.this) := heap_alloc2_old w _ _
  have hg1 : Blk ((w.alloc (.cells (wvs m (.slice aL L.rows kL) L (.slice aT m.this.rows kT) m.this) 40)).alloc (.cells #[.int .i64 0, .int .i64 0, .int .u64 0, .int .i64 0, .int .i64 0, .slice none 0 0, .int .i64 0, .int .u64 0, .int .u64 0, .slice none 0 0, .int .i64 0, .int .u64 0, .int .u64 0] 40)) (w.heap.size + 1) 40 #[.int .i64 0, .int .i64 0, .int .u64 0, .int .i64 0, .int .i64 0, .slice none 0 0, .int .i64 0, .int .u64 0, .int .u64 0, .slice none 0 0, .int .i64 0, .int .u64 0, .int .u64 0] := heap_alloc2_new w _ _
  have hs0 : (((w.alloc (.cells (wvs m (.slice aL L.rows kL) L (.slice aT m.this.rows kT) m.this) 40)).alloc (.cells #[.int .i64 0, .int .i64 0, .int .u64 0, .int .i64 0, .int .i64 0, .slice none 0 0, .int .i64 0, .int .u64 0, .int .u64 0, .slice none 0 0, .int .i64 0, .int .u64 0, .int .u64 0] 40))).heap.size = w.heap.size + 1 + 1 := by rw [World.size_alloc, World.size_alloc]
  refine (HA.out _ hk).mono ?_
  rintro e w3 ⟨vL2, L2, vT2, rfl, hRL, hRT, hLO, hb3⟩
  rw [hs0] at hRL hRT
  obtain ⟨aL2, kL2, rfl⟩ := hRL.slice_
  obtain ⟨aT2, kT2, rfl⟩ := hRT.slice_
  have hlt : w.heap.size + 1 < w3.heap.size := by have := hb3.size; omega
  have hka := bl_alloc (Below.refl w3.heap.size w3) (.cells (wvs M2 (.slice aL2 L2.rows kL2) L2 (.slice aT2 M2.this.rows kT2) M2.this) 40)
  replace hg1 := (hg1.next hb3).alloc (.cells (wvs M2 (.slice aL2 L2.rows kL2) L2 (.slice aT2 M2.this.rows kT2) M2.this) 40)
  have hg2 := Blk.new w3 40 (wvs M2 (.slice aL2 L2.rows kL2) L2 (.slice aT2 M2.this.rows kT2) M2.this)
  have hb4 := bl_alloc (bnext hk hb3) (.cells (wvs M2 (.slice aL2 L2.rows kL2) L2 (.slice aT2 M2.this.rows kT2) M2.this) 40)
  have hRL4 : RV (w3.alloc (.cells (wvs M2 (.slice aL2 L2.rows kL2) L2 (.slice aT2 M2.this.rows kT2) M2.this) 40)) B (fun q => ((P q ∧ q < w.heap.size) ∨ w.heap.size + 1 + 1 ≤ q) ∧ q < w3.heap.size) (.slice aL2 L2.rows kL2) L2 := Kd.R_below (Kd.R_mono (Kd.R_bound hRL) (fun q hq => ⟨hq.1, hq.2.2.1⟩)) hka
  have HAD2 := Lib.hid (HAD.out _ _ (hRT.next_ hka))
  clear hk hb3 hg0 hs0 hRL hRT hka HAD HA
  go_wp2_with fail
  have hg2l := hg2.lt
  generalize w3.alloc _ = w4 at *
  generalize w3.heap.size = g2 at *
  refine HAD2.out.mono ?_
  rintro e w5 ⟨v5, rfl, hR5, hb5⟩
  replace hg1 := hg1.next hb5
  replace hg2 := hg2.next hb5
  have hRL5 := hRL4.next_ hb5
  have hR6 : RV w5 B (fun q => w4.heap.size ≤ q) v5 T3 := Kd.R_lower hR5 (Nat.le_trans hB hb4.size)
  obtain ⟨a5, k5, rfl⟩ := hR6.slice_
  have h4s := hb4.size
  replace hb4 := bnext hb4 hb5
  clear HAD2 hRL4 hR5 hb5
  have c0 : w5.cell? ⟨g2, 0, none⟩ = some (.int .i64 (M2.rows : Int)) := hg2.cell 0
  have c1 : w5.cell? ⟨g2, 1, none⟩ = some (.int .i64 (M2.W : Int)) := hg2.cell 1
  have c2 : w5.cell? ⟨g2, 2, none⟩ = some (uv M2.seed) := hg2.cell 2
  have c3 : w5.cell? ⟨g2, 3, none⟩ = some (.int .i64 (M2.long : Int)) := hg2.cell 3
  have c4 : w5.cell? ⟨g2, 4, none⟩ = some (.int .i64 (M2.now : Int)) := hg2.cell 4
  have c5 : w5.cell? ⟨g2, 5, none⟩ = some ((.slice aL2 L2.rows kL2)) := hg2.cell 5
  have c6 : w5.cell? ⟨g2, 6, none⟩ = some (.int .i64 (L2.W : Int)) := hg2.cell 6
  have c7 : w5.cell? ⟨g2, 7, none⟩ = some (uv L2.seed) := hg2.cell 7
  have c8 : w5.cell? ⟨g2, 8, none⟩ = some (nv L2.total) := hg2.cell 8
  have c9 : w5.cell? ⟨g2, 9, none⟩ = some ((.slice aT2 M2.this.rows kT2)) := hg2.cell 9
  have c10 : w5.cell? ⟨g2, 10, none⟩ = some (.int .i64 (M2.this.W : Int)) := hg2.cell 10
  have c11 : w5.cell? ⟨g2, 11, none⟩ = some (uv M2.this.seed) := hg2.cell 11
  have c12 : w5.cell? ⟨g2, 12, none⟩ = some (nv M2.this.total) := hg2.cell 12
  have f0 := hg2.frozen 0
  have f1 := hg2.frozen 1
  have f2 := hg2.frozen 2
  have f3 := hg2.frozen 3
  have f4 := hg2.frozen 4
  have f5 := hg2.frozen 5
  have f6 := hg2.frozen 6
  have f7 := hg2.frozen 7
  have f8 := hg2.frozen 8
  have f9 := hg2.frozen 9
  have f10 := hg2.frozen 10
  have f11 := hg2.frozen 11
  have f12 := hg2.frozen 12
  have z0 : w5.cell? ⟨(w.heap.size + 1), 0, none⟩ = some (.int .i64 0) := hg1.cell 0
  have z1 : w5.cell? ⟨(w.heap.size + 1), 1, none⟩ = some (.int .i64 0) := hg1.cell 1
  have z2 : w5.cell? ⟨(w.heap.size + 1), 2, none⟩ = some (.int .u64 0) := hg1.cell 2
  have z3 : w5.cell? ⟨(w.heap.size + 1), 3, none⟩ = some (.int .i64 0) := hg1.cell 3
  have z4 : w5.cell? ⟨(w.heap.size + 1), 4, none⟩ = some (.int .i64 0) := hg1.cell 4
  have z5 : w5.cell? ⟨(w.heap.size + 1), 5, none⟩ = some (.slice none 0 0) := hg1.cell 5
  have z6 : w5.cell? ⟨(w.heap.size + 1), 6, none⟩ = some (.int .i64 0) := hg1.cell 6
  have z7 : w5.cell? ⟨(w.heap.size + 1), 7, none⟩ = some (.int .u64 0) := hg1.cell 7
  have z8 : w5.cell? ⟨(w.heap.size + 1), 8, none⟩ = some (.int .u64 0) := hg1.cell 8
  have z9 : w5.cell? ⟨(w.heap.size + 1), 9, none⟩ = some (.slice none 0 0) := hg1.cell 9
  have z10 : w5.cell? ⟨(w.heap.size + 1), 10, none⟩ = some (.int .i64 0) := hg1.cell 10
  have z11 : w5.cell? ⟨(w.heap.size + 1), 11, none⟩ = some (.int .u64 0) := hg1.cell 11
  have z12 : w5.cell? ⟨(w.heap.size + 1), 12, none⟩ = some (.int .u64 0) := hg1.cell 12
  have y0 := hg1.frozen 0
  have y1 := hg1.frozen 1
  have y2 := hg1.frozen 2
  have y3 := hg1.frozen 3
  have y4 := hg1.frozen 4
  have y5 := hg1.frozen 5
  have y6 := hg1.frozen 6
  have y7 := hg1.frozen 7
  have y8 := hg1.frozen 8
  have y9 := hg1.frozen 9
  have y10 := hg1.frozen 10
  have y11 := hg1.frozen 11
  have y12 := hg1.frozen 12
  have hne1 : ¬ (w.heap.size + 1 = g2) := by omega
  have hne2 : ¬ (g2 = w.heap.size + 1) := by omega
  go_wp2
  refine bodyPost_ret (results_row_tmp rfl _ _ (w.heap.size + 1) 40 _ (0, 0) _ rfl (set13 ((((hg1.far (p := ⟨g2, 9, none⟩) (Nat.ne_of_lt hlt) _).far (p := ⟨g2, 10, none⟩) (Nat.ne_of_lt hlt) _).far (p := ⟨g2, 11, none⟩) (Nat.ne_of_lt hlt) _).far (p := ⟨g2, 12, none⟩) (Nat.ne_of_lt hlt) _)) Try.underlying40 rfl (by kernel_rfl)) rfl ?_
  refine ⟨_, L2, _, rfl, Kd.R_mono (Kd.R_step hRL5 fun q hq hl5 => (Chg.block ((((((((((((((((((Chg.refl (fun q => q = g2 ∨ q = w.heap.size + 1) w5).setCell (p := ⟨g2, 9, none⟩) (.inl (.inl rfl)) _).setCell (p := ⟨g2, 10, none⟩) (.inl (.inl rfl)) _).setCell (p := ⟨g2, 11, none⟩) (.inl (.inl rfl)) _).setCell (p := ⟨g2, 12, none⟩) (.inl (.inl rfl)) _).setCell (p := ⟨w.heap.size + 1, 0, none⟩) (.inl (.inr rfl)) _).setCell (p := ⟨w.heap.size + 1, 1, none⟩) (.inl (.inr rfl)) _).setCell (p := ⟨w.heap.size + 1, 2, none⟩) (.inl (.inr rfl)) _).setCell (p := ⟨w.heap.size + 1, 3, none⟩) (.inl (.inr rfl)) _).setCell (p := ⟨w.heap.size + 1, 4, none⟩) (.inl (.inr rfl)) _).setCell (p := ⟨w.heap.size + 1, 5, none⟩) (.inl (.inr rfl)) _).setCell (p := ⟨w.heap.size + 1, 6, none⟩) (.inl (.inr rfl)) _).setCell (p := ⟨w.heap.size + 1, 7, none⟩) (.inl (.inr rfl)) _).setCell (p := ⟨w.heap.size + 1, 8, none⟩) (.inl (.inr rfl)) _).setCell (p := ⟨w.heap.size + 1, 9, none⟩) (.inl (.inr rfl)) _).setCell (p := ⟨w.heap.size + 1, 10, none⟩) (.inl (.inr rfl)) _).setCell (p := ⟨w.heap.size + 1, 11, none⟩) (.inl (.inr rfl)) _).setCell (p := ⟨w.heap.size + 1, 12, none⟩) (.inl (.inr rfl)) _) q hl5 ?_)) (fun q hq => ?_), Kd.R_mono (Kd.R_step hR6 fun q hq hl5 => (Chg.block ((((((((((((((((((Chg.refl (fun q => q = g2 ∨ q = w.heap.size + 1) w5).setCell (p := ⟨g2, 9, none⟩) (.inl (.inl rfl)) _).setCell (p := ⟨g2, 10, none⟩) (.inl (.inl rfl)) _).setCell (p := ⟨g2, 11, none⟩) (.inl (.inl rfl)) _).setCell (p := ⟨g2, 12, none⟩) (.inl (.inl rfl)) _).setCell (p := ⟨w.heap.size + 1, 0, none⟩) (.inl (.inr rfl)) _).setCell (p := ⟨w.heap.size + 1, 1, none⟩) (.inl (.inr rfl)) _).setCell (p := ⟨w.heap.size + 1, 2, none⟩) (.inl (.inr rfl)) _).setCell (p := ⟨w.heap.size + 1, 3, none⟩) (.inl (.inr rfl)) _).setCell (p := ⟨w.heap.size + 1, 4, none⟩) (.inl (.inr rfl)) _).setCell (p := ⟨w.heap.size + 1, 5, none⟩) (.inl (.inr rfl)) _).setCell (p := ⟨w.heap.size + 1, 6, none⟩) (.inl (.inr rfl)) _).setCell (p := ⟨w.heap.size + 1, 7, none⟩) (.inl (.inr rfl)) _).setCell (p := ⟨w.heap.size + 1, 8, none⟩) (.inl (.inr rfl)) _).setCell (p := ⟨w.heap.size + 1, 9, none⟩) (.inl (.inr rfl)) _).setCell (p := ⟨w.heap.size + 1, 10, none⟩) (.inl (.inr rfl)) _).setCell (p := ⟨w.heap.size + 1, 11, none⟩) (.inl (.inr rfl)) _).setCell (p := ⟨w.heap.size + 1, 12, none⟩) (.inl (.inr rfl)) _) q hl5 ?_)) (fun q hq => .inr ?_), hLO, bchg hb4 ((((((((((((((((((Chg.refl (fun q => q = g2 ∨ q = w.heap.size + 1) w5).setCell (p := ⟨g2, 9, none⟩) (.inl (.inl rfl)) _).setCell (p := ⟨g2, 10, none⟩) (.inl (.inl rfl)) _).setCell (p := ⟨g2, 11, none⟩) (.inl (.inl rfl)) _).setCell (p := ⟨g2, 12, none⟩) (.inl (.inl rfl)) _).setCell (p := ⟨w.heap.size + 1, 0, none⟩) (.inl (.inr rfl)) _).setCell (p := ⟨w.heap.size + 1, 1, none⟩) (.inl (.inr rfl)) _).setCell (p := ⟨w.heap.size + 1, 2, none⟩) (.inl (.inr rfl)) _).setCell (p := ⟨w.heap.size + 1, 3, none⟩) (.inl (.inr rfl)) _).setCell (p := ⟨w.heap.size + 1, 4, none⟩) (.inl (.inr rfl)) _).setCell (p := ⟨w.heap.size + 1, 5, none⟩) (.inl (.inr rfl)) _).setCell (p := ⟨w.heap.size + 1, 6, none⟩) (.inl (.inr rfl)) _).setCell (p := ⟨w.heap.size + 1, 7, none⟩) (.inl (.inr rfl)) _).setCell (p := ⟨w.heap.size + 1, 8, none⟩) (.inl (.inr rfl)) _).setCell (p := ⟨w.heap.size + 1, 9, none⟩) (.inl (.inr rfl)) _).setCell (p := ⟨w.heap.size + 1, 10, none⟩) (.inl (.inr rfl)) _).setCell (p := ⟨w.heap.size + 1, 11, none⟩) (.inl (.inr rfl)) _).setCell (p := ⟨w.heap.size + 1, 12, none⟩) (.inl (.inr rfl)) _) ?_⟩
  · rintro (h | h) <;> omega
  · rcases hq.1 with h | h
    · exact .inl h.1
    · exact .inr (by omega)
  · rintro (h | h) <;> omega
  · omega
  · rintro j (rfl | rfl) <;> omega
end Go.Proofs.Ytjpfamminemegaa.Tele
