/- The walk of a sender's Due. No conditions. -/
import Derived.Test.YtelodofjokmfjaaPDue
import Derived.Maps.AppendAt
import Derived.Deep.RegionHeld3
namespace Go.Proofs.Ytelodofjokmfjaa.Tele
open Go.RowKit
set_option linter.unusedVariables false
set_option linter.unusedSimpArgs false

theorem infoInt : (Try.prog.info? 3).map (fun i => (i.zero, i.size, i.bytes)) = some (some (.int .i64 0), 1, 8) := by kernel_rfl
theorem info_parts {t : TypeId} {z : Value} {n b : Nat} (h : (Try.prog.info? t).map (fun i => (i.zero, i.size, i.bytes)) = some (some z, n, b)) : ∃ i0, Try.prog.info? t = some i0 ∧ i0.zero = some z ∧ i0.size = n ∧ i0.bytes = b := by
  obtain ⟨i0, hi, he⟩ := Option.map_eq_some_iff.1 h
  simp at he
  exact ⟨i0, hi, he.1, he.2.1, he.2.2⟩
theorem Blk.grown {w w' : World} {g : Nat} {t : TypeId} {cs : Array Value} {row : Option Nat} (h : Blk w g t cs) (k : w.grownBy w' row) (hr : some g ≠ row) : Blk w' g t cs := (k.block g h.lt hr).trans h
theorem IsMap.grown {w w' : World} {b : Nat} {m : Ents} {row : Option Nat} (h : IsMap w b m) (k : w.grownBy w' row) (hr : some b ≠ row) : IsMap w' b m := World.ownsMap.kept h k hr
theorem RowOf.far {α : Type} {enc : α → Value} {d : α} {w w' : World} {a : Option Addr} {len cap : Nat} {l : List α} (h : RowOf enc d w a len cap l) (hb : ∀ ad, a = some ad → 0 < len → w.heap.size ≤ w'.heap.size ∧ w'.heap[ad.block]? = w.heap[ad.block]?) : RowOf enc d w' a len cap l :=
  ⟨h.1, h.2.1, h.2.2.1, fun hp => by
    obtain ⟨ad, e, hlt, hc⟩ := h.2.2.2 hp
    obtain ⟨h1, h2⟩ := hb ad e hp
    refine ⟨ad, e, by omega, fun j hj => ?_⟩
    have h3 := hc j hj
    rw [← h3]
    exact World.cell?_of_block (by rw [add_block]; exact h2)⟩
/-- What lies there. -/
def zOf (g : Nat) (W : World) : Value := (W.cell? ⟨g, 2, none⟩).getD undef
theorem zOf_of {g : Nat} {W : World} {v : Value} (h : W.cell? ⟨g, 2, none⟩ = some v) : W.cell? ⟨g, 2, none⟩ = some (zOf g W) := by unfold zOf; rw [h]; rfl
/-- What the reckoning of a batch's next time stands on. -/
abbrev HeldD (w4 : World) (p g base most times : Nat) (W : World) : Prop :=
  W.cell? ⟨p, 2, none⟩ = some (.int .i64 (base : Int)) ∧ W.cell? ⟨p, 3, none⟩ = some (.int .i64 (most : Int)) ∧ W.cell? ⟨g, 1, none⟩ = some (.int .i64 ((times : Int) + 1)) ∧ W.frozen? ⟨g, 2, none⟩ = false ∧ W.cell? ⟨g, 2, none⟩ = some (zOf g W) ∧ (∃ z, Blk W g 61 #[.bool true, .int .i64 ((times : Int) + 1), .int .i64 z]) ∧ Chg (fun j => j = g) w4 W
theorem heldD_of {w4 W : World} {p g b : Nat} {s : St} {times : Nat} {z : Int} (h1 : Blk W p 57 (sndCells b s)) (h2 : Blk W g 61 #[.bool true, .int .i64 ((times : Int) + 1), .int .i64 z]) (h3 : Chg (fun j => j = g) w4 W) : HeldD w4 p g s.base s.most times W :=
  ⟨h1.cell 2, h1.cell 3, h2.cell 1, h2.frozen 2, zOf_of (h2.cell 2), ⟨z, h2⟩, h3⟩
theorem HeldD.next {w4 W W' : World} {p g base most times : Nat} (h : HeldD w4 p g base most times W) (k : Below W.heap.size W W') : HeldD w4 p g base most times W' := by
  obtain ⟨h1, h2, h3, h4, h5, ⟨z, h6⟩, h7⟩ := h
  have e1 : W'.cell? ⟨p, 2, none⟩ = W.cell? ⟨p, 2, none⟩ := k.cell (p := ⟨p, 2, none⟩) (World.block_lt_of_cell? W _ h1)
  have e2 : W'.cell? ⟨p, 3, none⟩ = W.cell? ⟨p, 3, none⟩ := k.cell (p := ⟨p, 3, none⟩) (World.block_lt_of_cell? W _ h2)
  have h6' := h6.next k
  exact ⟨e1.trans h1, e2.trans h2, h6'.cell 1, h6'.frozen 2, zOf_of (h6'.cell 2), ⟨z, h6'⟩, h7.thenB k⟩
theorem HeldD.drewN {w4 W : World} {p g base most times : Nat} (h : HeldD w4 p g base most times W) (n : Nat) : HeldD w4 p g base most times (W.drewN n) := by
  obtain ⟨h1, h2, h3, h4, h5, ⟨z, h6⟩, h7⟩ := h
  exact ⟨h1, h2, h3, h4, h5, ⟨z, h6.drewN n⟩, h7.drewN n⟩
theorem HeldD.drew {w4 W : World} {p g base most times : Nat} (h : HeldD w4 p g base most times W) : HeldD w4 p g base most times W.drew := by
  obtain ⟨h1, h2, h3, h4, h5, ⟨z, h6⟩, h7⟩ := h
  exact ⟨h1, h2, h3, h4, h5, ⟨z, h6.drew⟩, h7.drew⟩
theorem HeldD.store {w4 W : World} {p g base most times : Nat} (h : HeldD w4 p g base most times W) (hne : p ≠ g) (x : Int) : HeldD w4 p g base most times (W.setCell ⟨g, 2, none⟩ (.int .i64 x)) := by
  obtain ⟨h1, h2, h3, h4, h5, ⟨z, h6⟩, h7⟩ := h
  have h6' := h6.set_ 2 (.int .i64 x)
  have e : ∀ i, (W.setCell ⟨g, 2, none⟩ (.int .i64 x)).cell? ⟨p, i, none⟩ = W.cell? ⟨p, i, none⟩ := fun i => World.cell?_of_block (Below.heap_setCell W ⟨g, 2, none⟩ (.int .i64 x) p hne)
  exact ⟨(e 2).trans h1, (e 3).trans h2, h6'.cell 1, h6'.frozen 2, zOf_of (h6'.cell 2), ⟨x, h6'⟩, h7.setCell (.inl rfl) _⟩
theorem ownsRow_chg {w w' : World} {base : Nat} {e : TypeId} {v : Value} {n : Nat} {xs : List Value} {S : Nat → Prop} (h : w.ownsRow base e 1 v n xs) (k : Chg S w w') (hS : ∀ j, S j → j < base) : w'.ownsRow base e 1 v n xs := by
  obtain ⟨h1, h2⟩ := h
  refine ⟨h1, ?_⟩
  rcases h2 with h2 | ⟨g, cap, cur, e1, e2, e3, e4⟩
  · exact .inl h2
  · exact .inr ⟨g, cap, cur, e1, e2, (k.block g (Array.getElem?_eq_some_iff.1 e3).1 (fun hs => by have := hS g hs; omega)).trans e3, e4⟩
theorem own_ge {w : World} {base : Nat} {e : TypeId} {v : Value} {n : Nat} {xs : List Value} (h : w.ownsRow base e 1 v n xs) : ∀ j, v.ownBlock = some j → base ≤ j := by
  intro j hj
  obtain ⟨_, h2⟩ := h
  rcases h2 with ⟨rfl, _⟩ | ⟨g, cap, cur, rfl, e2, _⟩
  · simp [Value.ownBlock] at hj
  · simp [Value.ownBlock] at hj
    omega
/-- What is known when a batch has been sent. -/
theorem due_tail {O : Nat → Prop} {w w2 wr w6 w9 : World} {p b g n cap : Nat} {m : Ents} {F0 F : Nat → Fl} {s s' : St} {y : Fl} {a : Option Addr} {obj : Obj} {row : Option Nat}
    (H : IsS' w O p b m F0 s) (hg : ∃ kk, (kk, g) ∈ m) (hP : Blk w6 p 57 (sndCells b s')) (hG : Blk w6 g 61 (flCells y)) (hM : IsMap wr b m) (hF : ∀ e ∈ m, Blk wr e.2 61 (flCells (F e.2)))
    (hR0 : RowOf (Value.int .i64) 0 w2 a n cap m.keys) (hR : RowOf (Value.int .i64) 0 wr a n cap m.keys) (hba : ∀ ad, a = some ad → w.heap.size ≤ ad.block) (hC : Chg O w wr) (h2 : w2.heap.size ≤ wr.heap.size) (hww : w.heap.size ≤ w2.heap.size)
    (h46 : Chg (fun j => j = p ∨ j = g) wr w6) (hgrow : (w6.alloc obj).grownBy w9 row) (hrow : ∀ j, row = some j → w2.heap.size ≤ j) :
    Blk w9 p 57 (sndCells b s') ∧ IsMap w9 b m ∧ (∀ e ∈ m, Blk w9 e.2 61 (flCells (upd F g y e.2))) ∧ RowOf (Value.int .i64) 0 w9 a n cap m.keys ∧ Chg O w w9 ∧ w2.heap.size ≤ w9.heap.size := by
  obtain ⟨kk, hg⟩ := hg
  have hOp := H.hO p H.hp
  have hOb := H.hO b H.hb
  have hOg := H.hO g (H.hm _ hg)
  have hpb : p ≠ b := map_ne H.mp H.st
  have hgb : g ≠ b := map_ne H.mp (H.fl _ hg)
  have hnr : ∀ j, j < w2.heap.size → some j ≠ row := fun j hj he => by have := hrow j he.symm; omega
  have hs6 := h46.size
  have hs7 : (w6.alloc obj).heap.size = w6.heap.size + 1 := World.size_alloc _ _
  have hs9 := hgrow.size
  -- a block of wr that is neither p nor g nor the row's
  have hkeep : ∀ j, j < w2.heap.size → j ≠ p → j ≠ g → w9.heap[j]? = wr.heap[j]? := fun j hj h1 h3 => by
    have e1 := hgrow.block j (by omega) (hnr j hj)
    have e2 := (Below.heap_alloc w6 obj j (by omega))
    have e3 := h46.block j (by omega) (by simp [h1, h3])
    exact e1.trans (e2.trans e3)
  refine ⟨(hP.alloc obj).grown hgrow (hnr p (by omega)), ?_, ?_, ?_, ?_, by omega⟩
  · obtain ⟨es, clock, hh, r⟩ := hM
    exact ⟨es, clock, (hkeep b (by omega) hpb.symm hgb.symm).trans hh, r⟩
  · intro e he
    have hOe := H.hO e.2 (H.hm e he)
    by_cases heg : e.2 = g
    · rw [heg, upd_same]
      exact (hG.alloc obj).grown hgrow (hnr g (by omega))
    · rw [upd_other _ _ _ heg]
      have hep : e.2 ≠ p := (H.fl e he).ne_ H.st (by decide)
      exact (hkeep e.2 (by omega) hep heg).trans (hF e he)
  · refine hR.far fun ad had hp => ?_
    obtain ⟨ad', had', hlt, _⟩ := hR0.2.2.2 hp
    have : ad' = ad := by rw [had] at had'; exact (Option.some.inj had').symm
    subst this
    have := hba _ had
    exact ⟨by omega, hkeep _ hlt (by omega) (by omega)⟩
  · have c1 : Chg O wr w6 := h46.mono fun j _ hj => by
      rcases hj with rfl | rfl
      · exact H.hp
      · exact H.hm _ hg
    have c2 := (hC.then c1).alloc obj
    exact ⟨hgrow.os.trans c2.os, hgrow.tape.trans c2.tape, hgrow.output.trans c2.output, by have := c2.size; omega, fun j hj hs => (hgrow.block j (by omega) (hnr j (by omega))).trans (c2.block j hj hs)⟩
set_option maxRecDepth 8000 in
set_option maxHeartbeats 2000000 in
theorem due_form (O : Nat → Prop) (p : Nat) (s : St) (now : Nat) (draw : U) (w : World) (h : IsS w O p s) (hnow : (now : Int) ≤ 1099511627776) (htimes : ∀ q ∈ s.l, q.2.times ≤ 1000000) (hfl : s.flying ≤ 1000000) :
    Calls Try.prog 14 #[.pointer (some ⟨p, 0, none⟩), .int .i64 (now : Int), uv draw] w fun e w' => ∃ v, e = .returned v ∧ Ints w' w.heap.size v (s.outs now draw) ∧ IsS w' O p (s.sendAll now draw) ∧ Chg O w w' ∧ (v = .slice none 0 0 ∨ ∃ ad k cap, v = .slice (some ad) k cap) := by
  obtain ⟨b, m, F0, h⟩ := h
  have h0 : w.cell? ⟨p, 0, none⟩ = some (.map (some b)) := h.st.cell 0
  have HK := Lib.hid fun W => keys_calls (some b) W
  have HS := Lib.hid (sorted_calls w b m h.mp h.sorted (by have := h.size; omega))
  have H := Lib.hid h
  have HT := Lib.hid htimes
  obtain ⟨i0, hi, hz0, hz1, hz2⟩ := info_parts infoInt
  have HI := Lib.hid hi
  have HZ0 := Lib.hid hz0
  have HZ1 := Lib.hid hz1
  have HZ2 := Lib.hid hz2
  clear h htimes hi hz0 hz1 hz2
  go_enter Try.func14, Try.ntmps14
  go_wp2_with fail
  refine (HK.out _).mono ?_
  rintro e w1 ⟨rfl, rfl⟩
  go_wp2_with fail
  refine HS.out.mono ?_
  rintro e w2 ⟨v, rfl, ⟨a, cap, rfl, hrow, hbase⟩, hb2⟩
  obtain ⟨n, hn⟩ : ∃ n, n = m.length := ⟨_, rfl⟩
  have hkn : m.keys.length = n := by rw [hn]; simp [Ents.keys]
  rw [hkn] at hrow ⊢
  have hn5 : n ≤ 100000 := by have := H.out.size; omega
  have HN := Lib.hid hn
  have HR0 := Lib.hid hrow
  have HBA := Lib.hid hbase
  have HB2 := Lib.hid hb2
  clear hkn hrow hbase hb2 hn h0 HK HS
  go_wp2_with fail
  go_loopw [7, 18] (fun o i wr => ∃ (k f : Nat) (F : Nat → Fl) (out : List Int), k ≤ n ∧ i = .int .i64 (k : Int) ∧ Hid (wr.ownsRow w2.heap.size 3 1 o out.length (out.map (Value.int .i64))) ∧ Hid (Blk wr p 57 (sndCells b { s with flying := f })) ∧ Hid (IsMap wr b m) ∧ Hid (∀ e ∈ m, Blk wr e.2 61 (flCells (F e.2))) ∧ Hid (RowOf (Value.int .i64) 0 wr a n cap m.keys) ∧ Hid (Mid s m now draw k F f out) ∧ f ≤ s.flying + k ∧ out.length ≤ k ∧ Hid (Chg O w wr) ∧ Hid (w2.heap.size ≤ wr.heap.size)) (fun _ i _ => n - (intOf i).toNat)
  case atStart =>
    exact ⟨0, s.flying, F0, [], by omega, rfl, Lib.hid ⟨rfl, .inl ⟨rfl, rfl⟩⟩, Lib.hid (H.out.st.next HB2.out), Lib.hid (H.out.mp.next HB2.out), Lib.hid (fun e he => (H.out.fl e he).next HB2.out), HR0, Lib.hid (mid_start H.out.abs), by omega, by simp, Lib.hid (Chg.of_below O HB2.out), Lib.hid (Nat.le_refl _)⟩
  case round =>
    obtain ⟨k, f, F, out, hk, rfl, HOW, HP, HM, HF, HR, HMID, hfk, hok, HC, HSZ⟩ := hrel
    by_cases hlt : k < n
    · have hkm : k < m.length := by rw [← HN.out]; exact hlt
      have hkl : k < s.l.length := by rw [H.out.abs, List.length_map]; exact hkm
      have hat := mid_at HMID.out hkm hkl
      have hmem : m[k] ∈ m := List.getElem_mem hkm
      have hgk := H.out.keys _ hmem
      have hget := get_of H.out.sorted (k := m[k].1) (g := m[k].2) hmem
      have hblk := HF.out _ hmem
      have htm := HT.out s.l[k] (List.getElem_mem hkl)
      have hno := mid_no HMID.out hkm hkl
      have hyes := mid_yes HMID.out H.out.nd hkm hkl
      have hix := fun W => HR.out.index Try.prog 31 3 Try.underlying31 (by kernel_rfl) k hlt W
      have hcell := HR.out.cell k hlt
      have hkey : m.keys.getD k 0 = m[k].1 := by
        unfold Ents.keys
        rw [List.getD_eq_getElem?_getD, List.getElem?_map, List.getElem?_eq_getElem hkm]
        rfl
      rw [hkey] at hcell
      rw [hat] at htm
      have hown : O m[k].2 := H.out.hm _ hmem
      generalize m[k] = ent at *
      obtain ⟨kk, g⟩ := ent
      simp only at hgk hget hblk htm hno hyes hcell hown
      generalize hx : F g = x at *
      have hlook := HM.out.look1 (k := kk) 55 58 Try.underlying55 (zeroPtr wr) (wf_i64 (by omega) hgk.2) g hget
      have hp0 : wr.cell? ⟨p, 0, none⟩ = some (.map (some b)) := HP.out.cell 0
      have HD := Lib.hid (due_calls p b g now { s with flying := f } x wr HP.out hblk)
      have HX := Lib.hid hx
      have HOWN := Lib.hid hown
      have HBL := Lib.hid hblk
      have HNO := Lib.hid hno
      have HYES := Lib.hid hyes
      obtain ⟨hk0, hk9⟩ := hgk
      have HMEM := Lib.hid hmem
      clear hat hget hblk hno hyes hkey hx hown hmem
      generalize adr a k = ad at *
      cases hdue : St.due s.fly now x f with
      | false =>
        have HN2 := Lib.hid (HNO.out hdue)
        rw [show St.due ({ s with flying := f } : St).fly now x ({ s with flying := f } : St).flying = false from hdue] at HD
        clear hdue HNO HYES
        go_wp2_with fail
        refine HD.out.mono ?_
        rintro e w3 ⟨rfl, n1, rfl⟩
        go_wp2_with fail
        go_roundw
        case rel => exact ⟨k + 1, f, F, out, by omega, by go_num, HOW, HP, HM, HF, HR, HN2, by omega, by omega, Lib.hid (HC.out.drewN n1), HSZ⟩
        case measure => simp [intOf]; omega
      | true =>
        have HY2 := Lib.hid (HYES.out hdue)
        rw [show St.due ({ s with flying := f } : St).fly now x ({ s with flying := f } : St).flying = true from hdue] at HD
        clear hdue HNO HYES
        go_wp2_with fail
        refine HD.out.mono ?_
        rintro e w3 ⟨rfl, hw3⟩
        have P3 : Blk w3 p 57 (sndCells b { s with flying := f }) := by obtain ⟨n1, rfl⟩ := hw3; exact HP.out.drewN n1
        have G3 : Blk w3 g 61 (flCells x) := by obtain ⟨n1, rfl⟩ := hw3; exact HBL.out.drewN n1
        have C3 : Chg (fun _ => False) wr w3 := by obtain ⟨n1, rfl⟩ := hw3; exact (Chg.refl _ _).drewN n1
        have hpg : p ≠ g := P3.ne_ G3 (by decide)
        have hgp : g ≠ p := hpg.symm
        have g0 : w3.cell? ⟨g, 0, none⟩ = some (.bool x.flies) := G3.cell 0
        have g1 : w3.cell? ⟨g, 1, none⟩ = some (.int .i64 (x.times : Int)) := G3.cell 1
        have p4 : w3.cell? ⟨p, 4, none⟩ = some (.int .i64 (f : Int)) := P3.cell 4
        have z0 := G3.frozen 0
        have z1 := G3.frozen 1
        have z4 := P3.frozen 4
        have hf9 : (f : Int) ≤ 2000000 := by omega
        clear HD hw3 hp0 hlook hcell
        obtain ⟨bo, hbo⟩ : ∃ bo, x.flies = bo := ⟨_, rfl⟩
        rw [hbo] at g0 HY2
        have HBO := Lib.hid hbo
        have HP3 := Lib.hid P3
        have HG3 := Lib.hid G3
        have HC3 := Lib.hid C3
        clear hbo P3 G3 C3
        cases bo
        case' false =>
          go_wp2_with fail
          obtain ⟨f', hf'⟩ : ∃ f', f' = f + 1 := ⟨_, rfl⟩
          have HY3 : Hid (Mid s m now draw (k + 1) (upd F g (s.sent now draw kk x)) f' (out ++ [kk])) := Lib.hid (by rw [hf']; exact HY2.out)
          generalize hw4 : ((w3.setCell ⟨g, 0, none⟩ (.bool true)).setCell ⟨p, 4, none⟩ (.int .i64 ((f : Int) + 1))).setCell ⟨g, 1, none⟩ (.int .i64 ((x.times : Int) + 1)) = w4
          have P4 : Hid (Blk w4 p 57 (sndCells b { s with flying := f' })) := Lib.hid (by
            rw [← hw4, hf']
            exact ((HP3.out.far (p := ⟨g, 0, none⟩) hpg (.bool true)).set_ 4 (.int .i64 ((f : Int) + 1))).far (p := ⟨g, 1, none⟩) hpg (.int .i64 ((x.times : Int) + 1)))
          have G4 : Hid (Blk w4 g 61 #[.bool true, .int .i64 ((x.times : Int) + 1), .int .i64 x.at_]) := Lib.hid (by
            rw [← hw4]
            exact ((HG3.out.set_ 0 (.bool true)).far (p := ⟨p, 4, none⟩) hgp (.int .i64 ((f : Int) + 1))).set_ 1 (.int .i64 ((x.times : Int) + 1)))
          have C4 : Hid (Chg (fun j => j = p ∨ j = g) wr w4) := Lib.hid (by
            rw [← hw4]
            exact (((HC3.out.mono fun _ _ hj => hj.elim).setCell (p := ⟨g, 0, none⟩) (.inl (.inr rfl)) _).setCell (p := ⟨p, 4, none⟩) (.inl (.inl rfl)) _).setCell (p := ⟨g, 1, none⟩) (.inl (.inr rfl)) _)
          have hfk' : f' ≤ s.flying + (k + 1) := by omega
        case' true =>
          go_wp2_with fail
          obtain ⟨f', hf'⟩ : ∃ f', f' = f := ⟨_, rfl⟩
          have HY3 : Hid (Mid s m now draw (k + 1) (upd F g (s.sent now draw kk x)) f' (out ++ [kk])) := Lib.hid (by rw [hf']; exact HY2.out)
          generalize hw4 : w3.setCell ⟨g, 1, none⟩ (.int .i64 ((x.times : Int) + 1)) = w4
          have P4 : Hid (Blk w4 p 57 (sndCells b { s with flying := f' })) := Lib.hid (by
            rw [← hw4, hf']
            exact HP3.out.far (p := ⟨g, 1, none⟩) hpg (.int .i64 ((x.times : Int) + 1)))
          have G4 : Hid (Blk w4 g 61 #[.bool true, .int .i64 ((x.times : Int) + 1), .int .i64 x.at_]) := Lib.hid (by
            rw [← hw4]
            have := HG3.out.set_ 1 (.int .i64 ((x.times : Int) + 1))
            unfold flCells at this
            rw [HBO.out] at this
            exact this)
          have C4 : Hid (Chg (fun j => j = p ∨ j = g) wr w4) := Lib.hid (by
            rw [← hw4]
            exact ((HC3.out.mono fun _ _ hj => hj.elim).setCell (p := ⟨g, 1, none⟩) (.inl (.inr rfl)) _))
          have hfk' : f' ≤ s.flying + (k + 1) := by omega
        all_goals
          clear hw4 hf' HY2 HP3 HG3 HC3 HBO g0 g1 p4 z0 z1 z4
          obtain ⟨X, hX⟩ : ∃ X : U, X = draw + BitVec.ofInt 64 kk := ⟨_, rfl⟩
          have hcv : IntKind.u64.wrap kk = kk := by rw [IntKind.wrap_u64]; omega
          have hadd : IntKind.u64.wrap ((draw.toNat : Int) + kk) = (X.toNat : Int) := by
            rw [hX, BitVec.toNat_add, BitVec.toNat_ofInt, IntKind.wrap_u64]
            omega
          obtain ⟨dl, hdl⟩ : ∃ dl : Nat, dl = dly s.base s.most x.times (mix X).toNat := ⟨_, rfl⟩
          have hdl9 : (dl : Int) ≤ 2147483648 := by
            have h1 := dly_le s.base s.most x.times (mix X).toNat
            have h2 := wait_le s.base s.most x.times
            have h3 := H.out.most2
            omega
          have HDL := Lib.hid fun W => delay_calls s.base s.most x.times (mix X).toNat W ((x.times : Int) + 1) rfl H.out.base1 H.out.base2 H.out.most2 (by omega) (mix X).isLt
          rw [← hdl] at HDL
          have HMX : Hid (∀ W, HeldD w4 p g s.base s.most x.times W → Calls Try.prog 29 #[.int .u64 (X.toNat : Int)] W fun e w' => e = .returned (.int .u64 ((mix X).toNat : Int)) ∧ HeldD w4 p g s.base s.most x.times w') := Lib.hid fun W h => (mix_calls X W).mono fun e w' ⟨h1, h2⟩ => ⟨h1, h.next h2⟩
          have hS : HeldD w4 p g s.base s.most x.times w4 := heldD_of (s := { s with flying := f' }) P4.out G4.out (Chg.refl _ _)
          have HS0 := Lib.hid hS
          have HXX := Lib.hid hX
          have HDD := Lib.hid hdl
          clear hX hdl
          go_region_held3 (fun W => W.cell? ⟨p, 2, none⟩ = some (.int .i64 (s.base : Int)) ∧ W.cell? ⟨p, 3, none⟩ = some (.int .i64 (s.most : Int)) ∧ W.cell? ⟨g, 1, none⟩ = some (.int .i64 ((x.times : Int) + 1)) ∧ W.frozen? ⟨g, 2, none⟩ = false ∧ W.cell? ⟨g, 2, none⟩ = some (zOf g W) ∧ (∃ z, Blk W g 61 #[.bool true, .int .i64 ((x.times : Int) + 1), .int .i64 z]) ∧ Chg (fun j => j = g) w4 W)
            (first | assumption | exact hnew | exact HeldD.drew hS | exact HeldD.store (by assumption) hpg _ | go_keep)
            (first | (go_at_call 29; (with_reducible refine (HMX.out _ (by first | assumption | exact HeldD.drewN HS0.out _)).mono ?_); rintro e w5 ⟨rfl, hnew⟩) | (go_at_call 9; (with_reducible refine (HDL.out _).mono ?_); rintro e w5b ⟨rfl, rfl⟩))
          have hwr : IntKind.i64.wrap ((now : Int) + (dl : Int)) = (now : Int) + (dl : Int) := by rw [IntKind.wrap_i64]; omega
          rw [hwr]
          obtain ⟨_, _, _, _, _, ⟨z, hz⟩, hc5⟩ : HeldD w4 p g s.base s.most x.times w5b := by assumption
          obtain ⟨y, hy⟩ : ∃ y, y = s.sent now draw kk x := ⟨_, rfl⟩
          have hP6 : Blk (w5b.setCell ⟨g, 2, none⟩ (.int .i64 ((now : Int) + (dl : Int)))) p 57 (sndCells b { s with flying := f' }) := (P4.out.chg hc5 hpg).far (p := ⟨g, 2, none⟩) hpg _
          have hG6 : Blk (w5b.setCell ⟨g, 2, none⟩ (.int .i64 ((now : Int) + (dl : Int)))) g 61 (flCells y) := by
            have e : flCells y = #[.bool true, .int .i64 ((x.times : Int) + 1), .int .i64 ((now : Int) + (dl : Int))] := by
              rw [hy, HDD.out, HXX.out]
              rfl
            rw [e]
            exact hz.set_ 2 _
          have hC46 : Chg (fun j => j = p ∨ j = g) wr (w5b.setCell ⟨g, 2, none⟩ (.int .i64 ((now : Int) + (dl : Int)))) := (C4.out.then (hc5.mono fun j _ hj => .inr hj)).setCell (p := ⟨g, 2, none⟩) (.inl (.inr rfl)) _
          generalize w5b.setCell ⟨g, 2, none⟩ (.int .i64 ((now : Int) + (dl : Int))) = w6 at *
          have hww : w.heap.size ≤ w2.heap.size := HB2.out.size
          have hOp := H.out.hO p H.out.hp
          have hOg := H.out.hO g HOWN.out
          have hw6 : w2.heap.size ≤ w6.heap.size := Nat.le_trans HSZ.out hC46.size
          have hown6 := ownsRow_chg (ownsRow_chg HOW.out hC46 (fun j hj => by rcases hj with rfl | rfl <;> omega)) ((Chg.refl (fun _ => False) w6).alloc (.cells #[.int .i64 kk] 3)) (fun j hj => hj.elim)
          have hge := own_ge hown6
          have hnews : ∀ j u, [Value.int .i64 kk][j]? = some u → (w6.alloc (.cells #[.int .i64 kk] 3)).cell? ((⟨w6.heap.size, 0, none⟩ : Addr).add j) = some u := fun j u hj => by
            have e : ((⟨w6.heap.size, 0, none⟩ : Addr).add j) = ⟨w6.heap.size, j, none⟩ := by unfold Addr.add; split <;> simp_all
            rw [e, (Blk.new w6 3 #[.int .i64 kk]).cell]
            simpa using hj
          have hone : ∀ u ∈ [Value.int .i64 kk], u.oneCell' = true := fun u hu => by
            rw [List.mem_singleton.1 hu]
            rfl
          have HP6 := Lib.hid hP6
          have HG6 := Lib.hid hG6
          have HC46 := Lib.hid hC46
          have HGE := Lib.hid hge
          have HY := Lib.hid hy
          have hi := HI.out
          have hz0 := HZ0.out
          have hz1 := HZ1.out
          have hz2 := HZ2.out
          clear hP6 hG6 hC46 hge hy hz hc5 hS HS0 hOp hOg hwr hdl9 hadd hcv HMX HDL hnew
          go_wp2_with (at_builtin; refine wpList_append_own_at _ rfl _ _ _ rfl w2.heap.size 3 i0 _ 1 8 Try.underlying31 hi hz0 hz1 hz2 rfl (by decide) _ out.length _ rfl hown6 ⟨w6.heap.size, 0, none⟩ 1 1 [.int .i64 kk] rfl rfl hnews hone (by show _ ≤ 2 ^ 63 - 1; omega) (by omega) (by rw [World.size_alloc]; omega) ?_; intro v1 w9 hown1 hgrow1 hnil1 hat1)
          go_roundw
          case rel =>
            obtain ⟨r1, r2, r3, r4, r5, r6⟩ := due_tail H.out ⟨kk, HMEM.out⟩ HP6.out HG6.out HM.out HF.out HR0.out HR.out HBA.out HC.out HSZ.out hww HC46.out hgrow1 HGE.out
            rw [HY.out] at r3
            exact ⟨k + 1, f', _, out ++ [kk], by omega, by go_num, Lib.hid (by simpa using hown1), Lib.hid r1, Lib.hid r2, Lib.hid r3, Lib.hid r4, HY3, hfk', by simp; omega, Lib.hid r5, Lib.hid r6⟩
          case measure => simp [intOf]; omega
    · have hkn : k = n := by omega
      subst hkn
      have hle : k = m.length := HN.out
      have hMID := HMID.out
      rw [hle] at hMID
      obtain ⟨q1, q2⟩ := mid_end hMID (by rw [H.out.abs, List.length_map])
      have hfin : IsS wr O p (s.sendAll now draw) := by
        rw [q2]
        have hO : ∀ j, O j → j < wr.heap.size := fun j hj => by
          have h1 := H.out.hO j hj
          have h2 := HC.out.size
          omega
        exact ⟨b, m, F, ⟨HP.out, HM.out, H.out.sorted, HF.out, H.out.nd, rfl, H.out.keys, H.out.hp, H.out.hb, H.out.hm, hO, H.out.fly1, H.out.fly2, H.out.base1, H.out.base2, H.out.most2, H.out.size⟩⟩
      have hints : Ints wr w.heap.size u7 (s.outs now draw) := by
        rw [q1]
        obtain ⟨a', cap', h1, h2, h3⟩ := ints_of rfl HOW.out
        exact ⟨a', cap', h1, h2, fun ad had => by have := h3 ad had; have := HB2.out.size; omega⟩
      have hform : u7 = .slice none 0 0 ∨ ∃ ad k cap, u7 = .slice (some ad) k cap := by
        rcases HOW.out.2 with ⟨h1, _⟩ | ⟨g, cap, cur, h1, _⟩
        · exact .inl h1
        · exact .inr ⟨_, _, _, h1⟩
      have HFORM := Lib.hid hform
      have HFIN := Lib.hid hfin
      have HINTS := Lib.hid hints
      clear hform
      clear hfin hints q1 q2 hMID HMID hle
      go_wp2_with fail
      go_ret
      exact ⟨_, rfl, HINTS.out, HFIN.out, HC.out, HFORM.out⟩
theorem due_all (O : Nat → Prop) (p : Nat) (s : St) (now : Nat) (draw : U) (w : World) (h : IsS w O p s) (hnow : (now : Int) ≤ 1099511627776) (htimes : ∀ q ∈ s.l, q.2.times ≤ 1000000) (hfl : s.flying ≤ 1000000) :
    Calls Try.prog 14 #[.pointer (some ⟨p, 0, none⟩), .int .i64 (now : Int), uv draw] w fun e w' => ∃ v, e = .returned v ∧ Ints w' w.heap.size v (s.outs now draw) ∧ IsS w' O p (s.sendAll now draw) ∧ Chg O w w' :=
  (due_form O p s now draw w h hnow htimes hfl).mono fun e w' ⟨v, h1, h2, h3, h4, _⟩ => ⟨v, h1, h2, h3, h4⟩
end Go.Proofs.Ytelodofjokmfjaa.Tele
