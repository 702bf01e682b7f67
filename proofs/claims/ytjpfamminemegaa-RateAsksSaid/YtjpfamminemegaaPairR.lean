/- A rate and the reference's beside it. No conditions. -/
import Derived.Test.YtjpfamminemegaaBaseE
import Derived.Test.YtjpfamminemegaaRow9
import Derived.Deep.RegionHeld3
namespace Go.Proofs.Ytjpfamminemegaa.Tele
open Go.RowKit Go.Proofs.YtjpfamminemegaaW.PrintWords Go.Proofs.YtjpfamminemegaaW.PrintLast Go.Proofs.YtjpfamminemegaaW.PrintMore Go.Proofs.Ytjpfamminemegaa.PRateAsks
set_option linter.unusedVariables false
set_option linter.unusedSimpArgs false

/-- The reference's rate, as a value. -/
abbrev rvs (m : Win) (vL : Value) (L : Sk) (vT : Value) (T : Sk) (t : Nat) : Array Value :=
  #[.int .i64 (m.rows : Int), .int .i64 (m.W : Int), uv m.seed, .int .i64 (m.long : Int), .int .i64 (m.now : Int), vL, .int .i64 (L.W : Int), uv L.seed, nv L.total, vT, .int .i64 (T.W : Int), uv T.seed, nv T.total, nv t]
section
variable {w0 w w' : World} {g : Nat} {G : Nat → Prop} {vL vT : Value} {m r : Win} {L : Sk}
theorem PairW.rate (h : PairW w0 w g G vL vT m r L) {rr t : Nat} (hG : G rr) (hB : Blk w rr 63 #[pv g, nv t]) (now : Int) (key : ByteArray) (hk : key.size ≤ 140737488351232) :
    Calls Try.prog 18 #[pv rr, .int .i64 now, .string key] w fun e w' => e = .returned (.tuple #[nv (m.askd t now key.data.toList), .int .u16 (m.err now)]) ∧ PairW w0 w' g G vL vT (m.ask now key.data.toList) r L ∧ KeepG G w w' := by
  obtain ⟨O, P, h1, h2, h3, h4, h5, h6, h7, h8⟩ := h
  refine (ask_calls O rr t m now key w ⟨g, hB, h2, (h8 rr hG).1⟩ hk).mono ?_
  rintro e w' ⟨rfl, hc, g', hB', hw', hO'⟩
  have hB2 := hB.chg hc (h8 rr hG).1
  have eg : g' = g := by
    have e1 := (hB2.symm.trans hB')
    injection e1 with e1
    injection e1 with e1
    have e2 := congrArg (fun a : Array Value => a.getD 0 undef) e1
    injection e2 with e2
    injection e2 with e2
    injection e2 with e2
    exact e2.symm
  subst eg
  exact ⟨rfl, pairw_prog h1 h3 h4 h5 h6 h7 h8 hc hw'⟩
theorem rw_atB (n : Nat) (h : PairW w0 w g G vL vT m r L) (hyes : r.ok (n : Int) = true) (h1' : r.now ≤ n) (h2' : n ≤ 1099511627776) :
    Calls Try.prog 30 #[wv r vL L vT r.this, .int .i64 (n : Int)] w fun e w' => ∃ vL' L' vT', e = .returned (.tuple #[wv (r.turn n) vL' L' vT' (r.turn n).this, .int .i64 0]) ∧ PairW w0 w' g G vL' vT' m (r.turn n) L' ∧ Below w.heap.size w w' := by
  obtain ⟨O, P, h1, h2, h3, h4, h5, ⟨ho1, ho2, ho3, ho4⟩, h7, h8⟩ := h
  refine (at_yes r vL L vT _ P n w ho2 h4 h5 h3.size ho1 h1' h2').mono ?_
  rintro e w' ⟨vL', L', vT', rfl, hL, hT, hl, hb⟩
  exact ⟨vL', L', vT', rfl, (pairw_ref h1 h2 h3 h7 h8 hL hT ⟨hl, Win.turn_ok r ho2 n h2', turn_this_ok r ho2 ho3 n, turn_last_ok r ho2 ho3 n L L' ho1 ho4 hl⟩ hb).1, hb⟩
set_option maxRecDepth 8000 in
set_option maxHeartbeats 4000000 in
theorem rask_no (t : Nat) (now : Int) (key : ByteArray) (h : PairW w0 w g G vL vT m r L) (hno : r.ok now = false) :
    Calls Try.prog 20 #[.agg (rvs r vL L vT r.this t), .int .i64 now, .string key] w fun e w' => e = .returned (.tuple #[.agg (rvs r vL L vT r.this t), nv 0, .int .i64 60]) ∧ Below w.heap.size w w' := by
  obtain ⟨⟨aL, kL, rfl⟩, ⟨aT, kT, rfl⟩⟩ := h.slices
  have HAT := Lib.hid fun W => at_no r aL L.rows kL L aT r.this.rows kT r.this now W (not_ok r now hno)
  clear h hno
  have hk : Below w.heap.size w ((w.alloc (.cells (rvs r (.slice aL L.rows kL) L (.slice aT r.this.rows kT) r.this t) 42)).alloc (.cells #[.int .i64 0, .int .i64 0, .int .u64 0, .int .i64 0, .int .i64 0, .slice none 0 0, .int .i64 0, .int .u64 0, .int .u64 0, .slice none 0 0, .int .i64 0, .int .u64 0, .int .u64 0, .int .u64 0] 42)) := bl_alloc (bl_alloc (Below.refl _ _) _) _
  have hg0 : Blk ((w.alloc (.cells (rvs r (.slice aL L.rows kL) L (.slice aT r.this.rows kT) r.this t) 42)).alloc (.cells #[.int .i64 0, .int .i64 0, .int .u64 0, .int .i64 0, .int .i64 0, .slice none 0 0, .int .i64 0, .int .u64 0, .int .u64 0, .slice none 0 0, .int .i64 0, .int .u64 0, .int .u64 0, .int .u64 0] 42)) w.heap.size 42 (rvs r (.slice aL L.rows kL) L (.slice aT r.this.rows kT) r.this t) := heap_alloc2_old w _ _
  have hg1 : Blk ((w.alloc (.cells (rvs r (.slice aL L.rows kL) L (.slice aT r.this.rows kT) r.this t) 42)).alloc (.cells #[.int .i64 0, .int .i64 0, .int .u64 0, .int .i64 0, .int .i64 0, .slice none 0 0, .int .i64 0, .int .u64 0, .int .u64 0, .slice none 0 0, .int .i64 0, .int .u64 0, .int .u64 0, .int .u64 0] 42)) (w.heap.size + 1) 42 #[.int .i64 0, .int .i64 0, .int .u64 0, .int .i64 0, .int .i64 0, .slice none 0 0, .int .i64 0, .int .u64 0, .int .u64 0, .slice none 0 0, .int .i64 0, .int .u64 0, .int .u64 0, .int .u64 0] := heap_alloc2_new w _ _
  have HK := Lib.hid hk
  have HG0 := Lib.hid hg0
  have HG1 := Lib.hid hg1
  clear hk hg0 hg1
  go_enter Try.func20, Try.ntmps20
  go_wp2_with fail
  refine (HAT.out _).mono ?_
  rintro e w3 ⟨rfl, hb⟩
  have HK3 := Lib.hid (bl_alloc (bnext HK.out hb) (.cells (wvs r (.slice aL L.rows kL) L (.slice aT r.this.rows kT) r.this) 40))
  have HG3 := Lib.hid ((HG0.out.next hb).alloc (.cells (wvs r (.slice aL L.rows kL) L (.slice aT r.this.rows kT) r.this) 40))
  have HG4 := Lib.hid ((HG1.out.next hb).alloc (.cells (wvs r (.slice aL L.rows kL) L (.slice aT r.this.rows kT) r.this) 40))
  clear hb
  go_upto_region 3 with fail
  generalize w3.alloc _ = w4 at *
  generalize w3.heap.size = g3 at *
  go_wp2_with (first | (refine wpList_load_mid rfl 42 (.tmp 3) rfl w.heap.size 0 rfl (rvs r (.slice aL L.rows kL) L (.slice aT r.this.rows kT) r.this t).toList _ HG3.out.range Try.underlying42 rfl (by kernel_rfl) ?_) | (refine wpList_store_row rfl 42 (.tmp 6) (.tmp 21) rfl (w.heap.size + 1) (rvs r (.slice aL L.rows kL) L (.slice aT r.this.rows kT) r.this t) rfl rfl 42 _ HG4.out (by kernel_rfl) rfl (by kernel_rfl) ?_))
  exact bodyPost_ret (results_ctt rfl _ _ (w.heap.size + 1) 42 _ (0, 0) _ rfl (HG4.out.row _) Try.underlying42 rfl (by kernel_rfl)) rfl ⟨rfl, below_setRow HK3.out (Nat.le_succ _) _⟩
set_option maxRecDepth 8000 in
set_option maxHeartbeats 4000000 in
theorem rask_yes (t n : Nat) (key : ByteArray) (h : PairW w0 w g G vL vT m r L) (hs : key.size ≤ 140737488351232) (hyes : r.ok (n : Int) = true) (hn1 : r.now ≤ n) (hn2 : n ≤ 1099511627776) :
    Calls Try.prog 20 #[.agg (rvs r vL L vT r.this t), .int .i64 (n : Int), .string key] w fun e w' => ∃ vL' L' vT', e = .returned (.tuple #[.agg (rvs ((r.turn n).add (n : Int) key.data.toList 1) vL' L' vT' ((r.turn n).add (n : Int) key.data.toList 1).this t), nv (by_ t (r.closed (n : Int) key.data.toList)), .int .i64 0]) ∧ PairW w0 w' g G vL' vT' m ((r.turn n).add (n : Int) key.data.toList 1) L' ∧ Below w.heap.size w w' := by
  obtain ⟨⟨aL, kL, rfl⟩, ⟨aT, kT, rfl⟩⟩ := h.slices
  have hO := h.oks.2.1
  have hP2 := ((h.alloc (.cells (rvs r (.slice aL L.rows kL) L (.slice aT r.this.rows kT) r.this t) 42)).alloc (.cells #[.int .i64 0, .int .i64 0, .int .u64 0, .int .i64 0, .int .i64 0, .slice none 0 0, .int .i64 0, .int .u64 0, .int .u64 0, .slice none 0 0, .int .i64 0, .int .u64 0, .int .u64 0, .int .u64 0] 42)).fewer (G' := fun q => G q ∨ q = w.heap.size ∨ q = w.heap.size + 1) (fun q hq => by
    rw [World.size_alloc]
    rcases hq with hq | hq | hq
    · exact .inl (.inl hq)
    · exact .inl (.inr hq)
    · exact .inr hq)
  have HAT := Lib.hid (rw_atB n hP2 hyes hn1 hn2)
  have HCL := Lib.hid fun L2 hl => closed_eq r hO (n : Int) L2 key.data.toList (by rw [turnAny_yes r _ hyes, Int.toNat_natCast]; exact hl)
  have hE2 : (r.turn n).err (n : Int) = 0 := by
    unfold Win.err Win.ok
    rw [turn_now]
    simp
    omega
  obtain ⟨m1, hm1⟩ : ∃ m1, m1 = r.turn n := ⟨_, rfl⟩
  rw [← hm1] at HAT HCL hE2 ⊢
  have HE2 := Lib.hid hE2
  have hk : Below w.heap.size w ((w.alloc (.cells (rvs r (.slice aL L.rows kL) L (.slice aT r.this.rows kT) r.this t) 42)).alloc (.cells #[.int .i64 0, .int .i64 0, .int .u64 0, .int .i64 0, .int .i64 0, .slice none 0 0, .int .i64 0, .int .u64 0, .int .u64 0, .slice none 0 0, .int .i64 0, .int .u64 0, .int .u64 0, .int .u64 0] 42)) := bl_alloc (bl_alloc (Below.refl _ _) _) _
  have hg0 : Blk ((w.alloc (.cells (rvs r (.slice aL L.rows kL) L (.slice aT r.this.rows kT) r.this t) 42)).alloc (.cells #[.int .i64 0, .int .i64 0, .int .u64 0, .int .i64 0, .int .i64 0, .slice none 0 0, .int .i64 0, .int .u64 0, .int .u64 0, .slice none 0 0, .int .i64 0, .int .u64 0, .int .u64 0, .int .u64 0] 42)) w.heap.size 42 (rvs r (.slice aL L.rows kL) L (.slice aT r.this.rows kT) r.this t) := heap_alloc2_old w _ _
  have hg1 : Blk ((w.alloc (.cells (rvs r (.slice aL L.rows kL) L (.slice aT r.this.rows kT) r.this t) 42)).alloc (.cells #[.int .i64 0, .int .i64 0, .int .u64 0, .int .i64 0, .int .i64 0, .slice none 0 0, .int .i64 0, .int .u64 0, .int .u64 0, .slice none 0 0, .int .i64 0, .int .u64 0, .int .u64 0, .int .u64 0] 42)) (w.heap.size + 1) 42 #[.int .i64 0, .int .i64 0, .int .u64 0, .int .i64 0, .int .i64 0, .slice none 0 0, .int .i64 0, .int .u64 0, .int .u64 0, .slice none 0 0, .int .i64 0, .int .u64 0, .int .u64 0, .int .u64 0] := heap_alloc2_new w _ _
  have HK := Lib.hid hk
  have HG0 := Lib.hid hg0
  have HG1 := Lib.hid hg1
  have HS := Lib.hid hs
  have HY := Lib.hid hyes
  obtain ⟨m2, hm2⟩ : ∃ m2, m2 = m1.add (n : Int) key.data.toList 1 := ⟨_, rfl⟩
  have HM2 := Lib.hid hm2
  rw [← hm2]
  obtain ⟨bc, hbc⟩ : ∃ bc, bc = r.closed (n : Int) key.data.toList := ⟨_, rfl⟩
  have HBC := Lib.hid hbc
  rw [← hbc] at HCL ⊢
  have hbs : bc < 18446744073709551616 := by rw [hbc]; exact closed_small r _ _
  have HBY := Lib.hid fun W => refBy_calls t bc W hbs
  generalize hbt : by_ t bc = bt at *
  clear hk hg0 hg1 hE2 hs hyes hm2 hm1 hbc hO h hP2 hbs hbt
  go_enter Try.func20, Try.ntmps20
  go_wp2_with fail
  refine HAT.out.mono ?_
  rintro e w3 ⟨vL2, L2, vT2, rfl, hp3, hb3⟩
  have hl2 := HCL.out L2 hp3.oks.1
  rw [if_pos HY.out] at hl2
  have HL2 := Lib.hid hl2
  have HP4 := Lib.hid (hp3.alloc (.cells (wvs m1 vL2 L2 vT2 m1.this) 40))
  have HK4 := Lib.hid (bl_alloc (bnext HK.out hb3) (.cells (wvs m1 vL2 L2 vT2 m1.this) 40))
  have HG4 := Lib.hid ((HG0.out.next hb3).alloc (.cells (wvs m1 vL2 L2 vT2 m1.this) 40))
  have HH4 := Lib.hid ((HG1.out.next hb3).alloc (.cells (wvs m1 vL2 L2 vT2 m1.this) 40))
  have HN4 := Lib.hid (Blk.new w3 40 (wvs m1 vL2 L2 vT2 m1.this))
  have hw3 := HK.out.size
  have hw3' := hb3.size
  obtain ⟨⟨aL2, kL2, rfl⟩, ⟨aT2, kT2, rfl⟩⟩ := hp3.slices
  have hg3 : w.heap.size ≤ w3.heap.size := Nat.le_trans hw3 hw3'
  have HGG := Lib.hid hg3
  have hne : w.heap.size ≠ w3.heap.size ∧ w.heap.size + 1 ≠ w3.heap.size := by
    have e1 := HG1.out.lt
    have e2 := hb3.size
    omega
  have HNE := Lib.hid hne
  clear hl2 HCL hp3 hb3 HAT HK HG0 HG1 HY hw3 hw3' hg3 hne
  go_upto_region 4 with fail
  generalize w3.alloc _ = w4 at *
  generalize w3.heap.size = g3 at *
  have HCN := Lib.hid fun W (hW : Below w4.heap.size w4 W) => rw_countL key (HP4.out.next hW).1 HS.out
  rw [← HL2.out] at HCN
  have HC4 : Hid (∀ W, Below w4.heap.size w4 W → W.cell? ⟨w.heap.size, 13, none⟩ = some (nv t) ∧ W.cell? ⟨g3, 5, none⟩ = some ((.slice aL2 L2.rows kL2)) ∧ W.cell? ⟨g3, 6, none⟩ = some (.int .i64 (L2.W : Int)) ∧ W.cell? ⟨g3, 7, none⟩ = some (uv L2.seed) ∧ W.cell? ⟨g3, 8, none⟩ = some (nv L2.total) ∧ Below w4.heap.size w4 W) := Lib.hid fun W hW => ⟨(HG4.out.next hW).cell 13, (HN4.out.next hW).cell 5, (HN4.out.next hW).cell 6, (HN4.out.next hW).cell 7, (HN4.out.next hW).cell 8, hW⟩
  go_region_held3 (fun W => W.cell? ⟨w.heap.size, 13, none⟩ = some (nv t) ∧ W.cell? ⟨g3, 5, none⟩ = some ((.slice aL2 L2.rows kL2)) ∧ W.cell? ⟨g3, 6, none⟩ = some (.int .i64 (L2.W : Int)) ∧ W.cell? ⟨g3, 7, none⟩ = some (uv L2.seed) ∧ W.cell? ⟨g3, 8, none⟩ = some (nv L2.total) ∧ Below w4.heap.size w4 W)
    (first | with_reducible assumption | (refine HC4.out _ ?_; first | with_reducible exact Below.drew (Below.refl _ _) | with_reducible exact bnext hbl hb5))
    (first | (go_at_call 31; obtain ⟨_, _, _, _, _, hbl⟩ := ‹_ ∧ _ ∧ _ ∧ _ ∧ _ ∧ Below w4.heap.size w4 _›; (with_reducible refine (HCN.out _ hbl).mono ?_); rintro e w5 ⟨rfl, hb5⟩) | (go_at_call 13; (with_reducible refine (HBY.out _).mono ?_); rintro e w6 ⟨rfl, rfl⟩))
  have hb5' := bnext hbl hb5
  have HP5 := Lib.hid (HP4.out.next hb5').1
  have HK5 := Lib.hid (bnext HK4.out hb5')
  have HG5 := Lib.hid (HG4.out.next hb5')
  have HH5 := Lib.hid (HH4.out.next hb5')
  have HN5 := Lib.hid (HN4.out.next hb5')
  have HAD := Lib.hid (rw_add (n : Int) key 1 HP5.out HS.out (by omega))
  rw [← HM2.out, HE2.out, show nv 1 = .int .u64 1 from rfl] at HAD
  clear hbl hb5 hb5' HP4 HK4 HG4 HH4 HN4 HCN HC4 HBY
  go_wp2_with (refine wpList_load_mid rfl 40 (.tmp 9) rfl g3 0 rfl (wvs m1 (.slice aL2 L2.rows kL2) L2 (.slice aT2 m1.this.rows kT2) m1.this).toList _ HN5.out.range Try.underlying40 rfl (by kernel_rfl) ?_)
  refine HAD.out.mono ?_
  rintro e w7 ⟨vL3, L3, vT3, rfl, hp7, hk7, hb7⟩
  obtain ⟨⟨aL3, kL3, rfl⟩, ⟨aT3, kT3, rfl⟩⟩ := hp7.slices
  have HK7 := Lib.hid (bnext HK5.out hb7)
  have HG7 := Lib.hid (HG5.out.next hb7)
  have HH7 := Lib.hid (HH5.out.next hb7)
  have HN7 := Lib.hid (HN5.out.next hb7)
  have HP7 := Lib.hid hp7
  clear hp7 hk7 hb7 HAD HP5 HK5 HG5 HH5 HN5
  go_upto_region 6 with (refine wpList_store_row rfl 40 (.tmp 9) (.tmp 35) rfl g3 (wvs m2 (.slice aL3 L3.rows kL3) L3 (.slice aT3 m2.this.rows kT3) m2.this) rfl rfl 40 _ HN7.out (by kernel_rfl) rfl (by kernel_rfl) ?_)
  have HP8 := Lib.hid (HP7.out.chg (chg_row (w := w7) (g := g3) (.inr rfl) (wvs m2 (.slice aL3 L3.rows kL3) L3 (.slice aT3 m2.this.rows kT3) m2.this)))
  have HK8 := Lib.hid (below_setRow HK7.out (Nat.le_trans HGG.out (Nat.le_refl _)) (wvs m2 (.slice aL3 L3.rows kL3) L3 (.slice aT3 m2.this.rows kT3) m2.this))
  have HG8 : Hid (Blk (w7.setRow g3 (wvs m2 (.slice aL3 L3.rows kL3) L3 (.slice aT3 m2.this.rows kT3) m2.this)) w.heap.size 42 (rvs r (.slice aL L.rows kL) L (.slice aT r.this.rows kT) r.this t)) := Lib.hid ((setRow_other w7 g3 w.heap.size (wvs m2 (.slice aL3 L3.rows kL3) L3 (.slice aT3 m2.this.rows kT3) m2.this) HNE.out.1).trans HG7.out)
  have HH8 : Hid (Blk (w7.setRow g3 (wvs m2 (.slice aL3 L3.rows kL3) L3 (.slice aT3 m2.this.rows kT3) m2.this)) (w.heap.size + 1) 42 #[.int .i64 0, .int .i64 0, .int .u64 0, .int .i64 0, .int .i64 0, .slice none 0 0, .int .i64 0, .int .u64 0, .int .u64 0, .slice none 0 0, .int .i64 0, .int .u64 0, .int .u64 0, .int .u64 0]) := Lib.hid ((setRow_other w7 g3 (w.heap.size + 1) (wvs m2 (.slice aL3 L3.rows kL3) L3 (.slice aT3 m2.this.rows kT3) m2.this) HNE.out.2).trans HH7.out)
  have HN8 := Lib.hid (HN7.out.row (wvs m2 (.slice aL3 L3.rows kL3) L3 (.slice aT3 m2.this.rows kT3) m2.this))
  clear HP7 HK7 HG7 HH7 HN7
  generalize w7.setRow g3 _ = w8 at *
  go_upto_region 7 with (first | (refine wpList_load_mid rfl 40 (.tmp 9) rfl g3 0 rfl (wvs m2 (.slice aL3 L3.rows kL3) L3 (.slice aT3 m2.this.rows kT3) m2.this).toList _ HN8.out.range Try.underlying40 rfl (by kernel_rfl) ?_) | (refine wpList_store_mid rfl 40 (.tmp 38) (.tmp 37) rfl w.heap.size 0 (wvs m2 (.slice aL3 L3.rows kL3) L3 (.slice aT3 m2.this.rows kT3) m2.this) rfl rfl (HG8.out.there 13 (Nat.le_of_ble_eq_true rfl)) (by kernel_rfl) (by kernel_rfl) ?_))
  have HP9 := Lib.hid (HP8.out.chg (chg_cells (g := w.heap.size) (.inl (.inr (.inl rfl))) (wvs m2 (.slice aL3 L3.rows kL3) L3 (.slice aT3 m2.this.rows kT3) m2.this).toList 0 w8))
  have HK9 := Lib.hid (bchg HK8.out (chg_cells (g := w.heap.size) (G := fun q => q = w.heap.size) rfl (wvs m2 (.slice aL3 L3.rows kL3) L3 (.slice aT3 m2.this.rows kT3) m2.this).toList 0 w8) fun j hj => by rw [hj]; exact Nat.le_refl _)
  have HG9 : Hid (Blk (w8.setCells w.heap.size 0 (wvs m2 (.slice aL3 L3.rows kL3) L3 (.slice aT3 m2.this.rows kT3) m2.this).toList) w.heap.size 42 (rvs m2 (.slice aL3 L3.rows kL3) L3 (.slice aT3 m2.this.rows kT3) m2.this t)) := Lib.hid (HG8.out.cells13 (.int .i64 (m2.rows : Int)) (.int .i64 (m2.W : Int)) (uv m2.seed) (.int .i64 (m2.long : Int)) (.int .i64 (m2.now : Int)) ((.slice aL3 L3.rows kL3)) (.int .i64 (L3.W : Int)) (uv L3.seed) (nv L3.total) ((.slice aT3 m2.this.rows kT3)) (.int .i64 (m2.this.W : Int)) (uv m2.this.seed) (nv m2.this.total))
  have HH9 : Hid (Blk (w8.setCells w.heap.size 0 (wvs m2 (.slice aL3 L3.rows kL3) L3 (.slice aT3 m2.this.rows kT3) m2.this).toList) (w.heap.size + 1) 42 #[.int .i64 0, .int .i64 0, .int .u64 0, .int .i64 0, .int .i64 0, .slice none 0 0, .int .i64 0, .int .u64 0, .int .u64 0, .slice none 0 0, .int .i64 0, .int .u64 0, .int .u64 0, .int .u64 0]) := Lib.hid (HH8.out.chg (chg_cells (g := w.heap.size) (G := fun q => q = w.heap.size) rfl (wvs m2 (.slice aL3 L3.rows kL3) L3 (.slice aT3 m2.this.rows kT3) m2.this).toList 0 w8) (Nat.succ_ne_self _))
  clear HP8 HK8 HG8 HH8 HN8
  generalize w8.setCells w.heap.size 0 _ = w9 at *
  go_wp2_with (first | (refine wpList_load_mid rfl 42 (.tmp 3) rfl w.heap.size 0 rfl (rvs m2 (.slice aL3 L3.rows kL3) L3 (.slice aT3 m2.this.rows kT3) m2.this t).toList _ HG9.out.range Try.underlying42 rfl (by kernel_rfl) ?_) | (refine wpList_store_row rfl 42 (.tmp 6) (.tmp 39) rfl (w.heap.size + 1) (rvs m2 (.slice aL3 L3.rows kL3) L3 (.slice aT3 m2.this.rows kT3) m2.this t) rfl rfl 42 _ HH9.out (by kernel_rfl) rfl (by kernel_rfl) ?_))
  exact bodyPost_ret (results_ctt rfl _ _ (w.heap.size + 1) 42 _ (0, 0) _ rfl (HH9.out.row _) Try.underlying42 rfl (by kernel_rfl)) rfl ⟨_, L3, _, rfl, (HP9.out.chg (chg_row (w := w9) (g := w.heap.size + 1) (.inl (.inr (.inr rfl))) _)).fewer (fun q hq => .inl (.inl hq)), below_setRow HK9.out (Nat.le_succ _) _⟩
theorem rr_ask (t : Nat) (now : Int) (key : ByteArray) (h : PairW w0 w g G vL vT m r L) (hs : key.size ≤ 140737488351232) :
    Calls Try.prog 20 #[.agg (rvs r vL L vT r.this t), .int .i64 now, .string key] w fun e w' => ∃ vL' L' vT', e = .returned (.tuple #[.agg (rvs (r.ask now key.data.toList) vL' L' vT' (r.ask now key.data.toList).this t), nv (r.askd t now key.data.toList), .int .i64 (r.err now)]) ∧ PairW w0 w' g G vL' vT' m (r.ask now key.data.toList) L' ∧ Below w.heap.size w w' := by
  rcases ok_cases r now with hno | ⟨n, rfl, hn1, hn2, hyes⟩
  · have e1 : r.askd t now key.data.toList = 0 := if_neg (by rw [hno]; decide)
    have e2 : r.ask now key.data.toList = r := if_neg (by rw [hno]; decide)
    have e3 : r.err now = 60 := if_neg (by rw [hno]; decide)
    rw [e1, e2, e3]
    refine (rask_no t now key h hno).mono ?_
    rintro e w' ⟨rfl, hb⟩
    exact ⟨_, L, _, rfl, (h.next hb).1, hb⟩
  · have e1 : r.askd t (n : Int) key.data.toList = by_ t (r.closed (n : Int) key.data.toList) := if_pos hyes
    have e2 : r.ask (n : Int) key.data.toList = (r.turn (n : Int).toNat).add (n : Int) key.data.toList 1 := if_pos hyes
    have e3 : r.err (n : Int) = 0 := if_pos hyes
    rw [e1, e2, e3, Int.toNat_natCast]
    exact rask_yes t n key h hs hyes hn1 hn2
end
theorem rr_new (rows W long t : Nat) (seed : U) (w : World) (h1 : 1 ≤ rows) (hr : rows ≤ 8) (h2 : 1 ≤ W) (hW : W ≤ 1024) (h5 : 1 ≤ long) (h6 : long ≤ 1099511627776) (ht : 1 ≤ t) :
    Calls Try.prog 17 #[.int .i64 (rows : Int), .int .i64 (W : Int), uv seed, .int .i64 (long : Int), nv t] w fun e w' => ∃ vL L vT, e = .returned (.tuple #[.agg (rvs (Win.new rows W seed long) vL L vT (Win.new rows W seed long).this t), .bool true]) ∧ RV w' w.heap.size (fun q => w.heap.size ≤ q) vL L ∧ RV w' w.heap.size (fun q => w.heap.size ≤ q) vT (Win.new rows W seed long).this ∧ LastOk (Win.new rows W seed long) L ∧ L.Ok ∧ Below w.heap.size w w' := by
  have hth : (Win.new rows W seed long).this = Sk.new rows W seed := by show Sk.new rows W (seed + BitVec.ofNat 64 0) = _; rw [show seed + BitVec.ofNat 64 0 = seed by simp]
  have hf : telemeterref08_New.f 11 (rows : Int) (W : Int) (seed.toNat : Int) (long : Int) = some ((rows : Int), (W : Int), (seed.toNat : Int), (long : Int), 0, (Sk.new rows W (BitVec.ofInt 64 ((seed.toNat : Int) - 1))).grid, (W : Int), ((BitVec.ofInt 64 ((seed.toNat : Int) - 1)).toNat : Int), 0, (Sk.new rows W seed).grid, (W : Int), (seed.toNat : Int), 0, true) := by
    unfold telemeterref08_New.f
    rw [new_f rows W seed h1 hr h2 hW 11 (by omega), wrapU ((seed.toNat : Int) - 1), new_f rows W (BitVec.ofInt 64 ((seed.toNat : Int) - 1)) h1 hr h2 hW 11 (by omega)]
    simp only [Option.bind_some]
    rw [if_pos trivial, if_neg (by omega), if_neg (by omega)]
  have hf9 : telemeterref09_New.f 11 (rows : Int) (W : Int) (seed.toNat : Int) (long : Int) (t : Int) = some ((rows : Int), (W : Int), (seed.toNat : Int), (long : Int), 0, (Sk.new rows W (BitVec.ofInt 64 ((seed.toNat : Int) - 1))).grid, (W : Int), ((BitVec.ofInt 64 ((seed.toNat : Int) - 1)).toNat : Int), 0, (Sk.new rows W seed).grid, (W : Int), (seed.toNat : Int), 0, (t : Int), true) := by
    unfold telemeterref09_New.f
    rw [hf]
    simp only [Option.bind_some]
    rw [if_pos trivial, decide_eq_true (show (t : Int) > 0 by omega)]
  rw [hth]
  refine (telemeterref09_New.calls 11 rows W seed.toNat long t _ _ _ _ _ _ _ _ _ _ _ _ _ _ _ w hf9).mono ?_
  rintro e w' ⟨vL, vT, rfl, hR1, hR2, hb⟩
  exact ⟨vL, Sk.new rows W (BitVec.ofInt 64 ((seed.toNat : Int) - 1)), vT, rfl, Kd.R_mono (Kd.R_bound (Kd.S_R hR1)) (fun q hq => hq.2.1), Kd.R_mono (Kd.R_bound (Kd.S_R hR2)) (fun q hq => hq.2.1), ⟨_, rfl⟩, Sk.new_ok _ _ _ h1 hr h2 hW, hb⟩
theorem pairr_start {w0 w1 w2 w3 : World} {g rr t rows W long : Nat} {seed : U} {vL vT : Value} {L : Sk} (h1 : 1 ≤ rows) (hr : rows ≤ 8) (h2 : 1 ≤ W) (hW : W ≤ 1024) (h5 : 1 ≤ long) (h6 : long ≤ 1099511627776) (hb1 : Below w0.heap.size w0 w1) (hb2 : Below w1.heap.size w1 w2) (hrr : w1.heap.size ≤ rr) (hB : Blk w2 rr 63 #[pv g, nv t])
    (hw : IsWin w2 (fun j => w1.heap.size ≤ j ∧ j < rr) g (Win.new rows W seed long))
    (hL : RV w3 w2.heap.size (fun q => w2.heap.size ≤ q) vL L) (hT : RV w3 w2.heap.size (fun q => w2.heap.size ≤ q) vT (Win.new rows W seed long).this) (hl : LastOk (Win.new rows W seed long) L) (hO : L.Ok) (hb3 : Below w2.heap.size w2 w3) :
    PairW w0 w3 g (fun q => q = rr) vL vT (Win.new rows W seed long) (Win.new rows W seed long) L := by
  have hb := bnext hb1 hb2
  have hs1 := hb1.size
  have hs3 := hb3.size
  have hlt := hB.lt
  refine ⟨_, _, fun j hj => ?_, hw.next hb3, bnext hb hb3, Kd.R_lower hL hb.size, Kd.R_lower hT hb.size, ⟨hl, Win.new_ok rows W seed long h1 hr h2 hW h5 h6, Sk.new_ok _ _ _ h1 hr h2 hW, hO⟩, fun q hq => ⟨fun ho => ?_, fun he => ?_⟩, fun q hq => ?_⟩
  · omega
  · omega
  · omega
  · exact ⟨fun ho => by omega, by omega, by omega⟩
end Go.Proofs.Ytjpfamminemegaa.Tele
