/- The walk of the law DiskNumbers. No conditions. -/
import Derived.Test.YtajkjbhijikggaaPNum
namespace Go.Proofs.Ytajkjbhijikggaa.Tele
open Go.RowKit
set_option linter.unusedVariables false
set_option linter.unusedSimpArgs false

/-- A number as Go's value. -/
def iv (n : Nat) : Value := .int .i64 (n : Int)
theorem zero_there (W : World) : (zeroValue 45).run Try.prog W = .ok (.agg ((mark []).map iv).toArray) W := by kernel_rfl
theorem iv_get (L : List Nat) (i : Nat) (h : i < L.length) : (L.map iv).toArray[i]? = some (iv (L.getD i 0)) := by
  simp [List.getD_eq_getElem?_getD, h]
theorem set_iv (L : List Nat) (i v : Nat) : ((L.map iv).toArray).setIfInBounds i (iv v) = ((L.set i v).map iv).toArray := by
  simp [List.map_set]
/-- A disk, and the array beside it. -/
def MineT (own : Bool) (w0 w : World) (d : Nat) (fs : Fs) (g : Nat) (M : List Nat) : Prop := ∃ O, (∀ j, O j → w0.heap.size ≤ j) ∧ ¬ O g ∧ IsD own w O d fs ∧ Below w0.heap.size w0 w ∧ w0.heap.size ≤ g ∧ Blk w g 45 (M.map iv).toArray
theorem MineT.mine {own : Bool} {w0 w : World} {d g : Nat} {fs : Fs} {M : List Nat} (h : MineT own w0 w d fs g M) : MineD own w0 w d fs := by
  obtain ⟨O, h1, h2, h3, h4, h5, h6⟩ := h
  exact ⟨O, h1, h3, h4⟩
theorem MineT.blk {own : Bool} {w0 w : World} {d g : Nat} {fs : Fs} {M : List Nat} (h : MineT own w0 w d fs g M) : Blk w g 45 (M.map iv).toArray := by
  obtain ⟨O, h1, h2, h3, h4, h5, h6⟩ := h
  exact h6
theorem MineT.next {own : Bool} {w0 w w' : World} {d g : Nat} {fs : Fs} {M : List Nat} (h : MineT own w0 w d fs g M) (k : Below w.heap.size w w') : MineT own w0 w' d fs g M := by
  obtain ⟨O, h1, h2, h3, h4, h5, h6⟩ := h
  exact ⟨O, h1, h2, h3.next k, bnext h4 k, h5, h6.next k⟩
theorem MineT.start {own : Bool} {w0 w : World} {d : Nat} {fs : Fs} (h : MineD own w0 w d fs) (M : List Nat) : MineT own w0 (w.alloc (.cells (M.map iv).toArray 45)) d fs w.heap.size M := by
  obtain ⟨O, h1, h2, h3⟩ := h
  have hO : ∀ j, O j → j < w.heap.size := by obtain ⟨b, m, F, V, hh⟩ := h2; exact hh.hO
  exact ⟨O, h1, fun ho => Nat.lt_irrefl _ (hO _ ho), h2.next (bl_alloc (Below.refl _ _) _), bl_alloc h3 _, h3.size, Blk.new w _ _⟩
theorem MineT.put {own : Bool} {w0 w : World} {d g : Nat} {fs : Fs} {M : List Nat} (h : MineT own w0 w d fs g M) (i v : Nat) : MineT own w0 (w.setCell ⟨g, i, none⟩ (iv v)) d fs g (M.set i v) := by
  obtain ⟨O, h1, h2, h3, h4, h5, h6⟩ := h
  refine ⟨O, h1, h2, ?_, Below.setCell (p := ⟨g, i, none⟩) h4 h5 _, h5, by rw [← set_iv]; exact h6.set_ i _⟩
  obtain ⟨b, m, F, V, hh⟩ := h3
  have hc : Chg (fun j => j = g) w (w.setCell ⟨g, i, none⟩ (iv v)) := Chg.setCell (S := fun j => j = g) (p := ⟨g, i, none⟩) (Chg.refl _ _) (.inl rfl) _
  have hne : ∀ j, O j → ¬ j = g := fun j hj e => h2 (e ▸ hj)
  exact ⟨b, m, F, V, { hh with
    st := hh.st.chg hc (hne _ hh.hd)
    mp := hh.mp.chg hc (hne _ hh.hb)
    fl := fun e he => (hh.fl e he).chg hc (hne _ (hh.hm e he))
    row := fun e he => (hh.row e he).far hc.size fun j hj => hc.block j (hh.hO j (hh.apart e he j hj).1) (hne _ (hh.apart e he j hj).1)
    hO := fun j hj => Nat.lt_of_lt_of_le (hh.hO j hj) hc.size }⟩
theorem MineT.of {own' : Bool} {w0 w w' : World} {d g : Nat} {fs' : Fs} {M : List Nat} {O O' : Nat → Prop} (h1 : ∀ j, O j → w0.heap.size ≤ j) (h2 : ¬ O g) (h4 : Below w0.heap.size w0 w) (h5 : w0.heap.size ≤ g) (h6 : Blk w g 45 (M.map iv).toArray)
    (hD : IsD own' w' O' d fs') (hO : ∀ j, O' j → O j ∨ w.heap.size ≤ j) (hc : Chg O w w') : MineT own' w0 w' d fs' g M :=
  ⟨O', fun j hj => (hO j hj).elim (h1 j) fun hh => Nat.le_trans h4.size hh, fun ho => (hO _ ho).elim h2 fun hh => by have := h6.lt; omega, hD, bchg h4 hc h1, h5, h6.chg hc h2⟩
theorem twrite (w0 : World) (d g : Nat) (fs : Fs) (M : List Nat) (k : Int) (cs : Array Value) (n : Nat) (bs : List UInt8) (w : World) (h : MineT true w0 w d fs g M) (hk0 : 0 ≤ k) (hk1 : k ≤ 1099511627776) (hcs : cs = (bs.map e8).toArray) (hn : n = bs.length)
    (hm : bs.length ≤ 1000000) (hl : fs.length < 100000) (hsz : (((fs.get k).map (·.bytes)).getD []).length + bs.length ≤ 1000000) :
    Calls Try.prog 11 #[.pointer (some ⟨d, 0, none⟩), .int .i64 k, .slice (some ⟨w.heap.size, 0, none⟩) n n] (w.alloc (.cells cs 5)) fun e w' => e = .returned (.int .u16 0) ∧ MineT true w0 w' d (fs.write k bs) g M := by
  subst hn
  obtain ⟨O, h1, h2, h3, h4, h5, h6⟩ := h
  have hA := bl_alloc (Below.refl w.heap.size w) (.cells cs 5)
  have hO : ∀ j, O j → j < w.heap.size := by obtain ⟨b, m, F, V, hh⟩ := h3; exact hh.hO
  refine (write_calls O d fs k _ _ bs _ (h3.next hA) hk0 hk1 (lit_row w bs cs hcs hm) (fun ad had _ ho => by cases had; have := hO _ ho; exact absurd this (Nat.lt_irrefl _)) hl hsz).mono ?_
  rintro e w' ⟨rfl, O', hD, hO', hc⟩
  exact ⟨rfl, .of h1 h2 (bnext h4 hA) h5 (h6.next hA) hD hO' hc⟩
theorem tremove (own : Bool) (w0 : World) (d g : Nat) (fs : Fs) (M : List Nat) (k : Int) (w : World) (h : MineT own w0 w d fs g M) (hk : (Lit.int .i64 k).wf = true) :
    Calls Try.prog 19 #[.pointer (some ⟨d, 0, none⟩), .int .i64 k] w fun e w' => e = .returned (.int .u16 (if (fs.get k).isSome then 0 else 71)) ∧ MineT own w0 w' d (fs.del k) g M := by
  obtain ⟨O, h1, h2, h3, h4, h5, h6⟩ := h
  refine (remove_calls own O d fs k w h3 hk).mono ?_
  rintro e w' ⟨rfl, hD, hc⟩
  exact ⟨rfl, .of h1 h2 h4 h5 h6 hD (fun j hj => .inl hj) hc⟩
/-- What the first loop has made. -/
structure NumRel (fs : Fs) (k : Nat) : Prop where
  len : fs.length ≤ k
  big : ∀ p ∈ fs, p.2.bytes.length ≤ k
  low : ∀ x ∈ fs.keys, 0 ≤ x ∧ x ≤ 255
theorem NumRel.step {fs : Fs} {k : Nat} (h : NumRel fs k) (r : Nat) (hr : r ≤ 255) : NumRel (fs.write r [1]) (k + 1) ∧ (mark fs.keys).set r 1 = mark (fs.write r [1]).keys := by
  refine ⟨⟨by have := Fs.len_write fs r [1]; have := h.len; omega, Fs.big_write fs r [1] k 1 h.big (Nat.le_refl _), fun x hx => ?_⟩, ?_⟩
  · rcases (Fs.keys_write _ _ _ _).1 hx with rfl | hx
    · omega
    · exact h.low x hx
  · refine mark_set _ _ r 1 (by rw [if_pos ((Fs.keys_write _ _ _ _).2 (.inl rfl))]) fun j hj => ?_
    rw [Fs.keys_write]
    exact ⟨fun hh => hh.resolve_left hj, .inr⟩
set_option maxRecDepth 8000 in
set_option maxHeartbeats 2000000 in
theorem diskNumbers_walk (ca : Option Addr) (len cap : Nat) (cs : List Int) (gone : Int) (w : World) (hc : IntRow .u8 w ca len cap cs) (hl : len * 1 ≤ 140737488351232) (hg : (Lit.int .u8 gone).wf = true) :
    Calls Try.prog 7 #[.slice ca len cap, .int .u8 gone] w fun e w' => e = .returned (.bool true) ∧ Below w.heap.size w w' := by
  obtain ⟨hg0, hg1⟩ := u8_of_wf hg
  obtain ⟨G, rfl⟩ : ∃ G : Nat, gone = (G : Int) := ⟨gone.toNat, by omega⟩
  have DN := Lib.hid (dnew w)
  obtain ⟨hrow, hwf⟩ := hc
  have HWF := Lib.hid hwf
  have HLEN := Lib.hid hrow.len_eq
  have HR := Lib.hid hrow
  clear hg hwf hl hrow
  by_cases hlen : 60 < (len : Int)
  · have hz := zero_there
    obtain ⟨Z, hZ⟩ : ∃ Z, Z = ((mark []).map iv).toArray := ⟨_, rfl⟩
    rw [← hZ] at hz
    have HZ := Lib.hid hZ
    clear hZ
    go_enter Try.func7, Try.ntmps7
    go_wp2_with fail
    refine DN.out.mono ?_
    rintro e w1 ⟨dd, rfl, hM⟩
    have HM := Lib.hid hM
    clear hM
    go_wp2_with fail
    refine (known_calls _).mono ?_
    rintro e w2 ⟨rfl, hb⟩
    go_wp2
    go_ret
    exact ⟨rfl, (HM.out.next hb).below⟩
  · have hz := zero_there
    obtain ⟨Z, hZ⟩ : ∃ Z, Z = ((mark []).map iv).toArray := ⟨_, rfl⟩
    rw [← hZ] at hz
    have HZ := Lib.hid hZ
    clear hZ
    go_enter Try.func7, Try.ntmps7
    go_wp2_with fail
    refine DN.out.mono ?_
    rintro e w1 ⟨dd, rfl, hM⟩
    have HM := Lib.hid hM
    clear hM
    go_wp2_with fail
    have hT := MineT.start HM.out (mark [])
    rw [← HZ.out] at hT
    have HT := Lib.hid hT
    clear hT HM
    have HG := Lib.hid HT.out.blk
    generalize w1.heap.size = g at *
    generalize w1.alloc (.cells Z 45) = w2 at *
    go_loopw [7] (fun i wr => ∃ (k : Nat) (fs : Fs), k ≤ len ∧ i = .int .i64 (k : Int) ∧ Hid (MineT true w wr dd fs g (mark fs.keys)) ∧ Hid (NumRel fs k)) (fun i _ => len - (intOf i).toNat)
    case atStart => exact ⟨0, [], by omega, rfl, HT, Lib.hid ⟨by simp, by simp, by simp [Fs.keys]⟩⟩
    case round =>
      clear HT HG hz HZ
      obtain ⟨k, fs, hk, rfl, HT, HN⟩ := hrel
      by_cases hlt : (k : Int) < (len : Int)
      · have hrow := RowOf.below HR.out HT.out.mine.below
        have hix := fun W => hrow.index Try.prog 22 5 Try.underlying22 (by kernel_rfl) k (by omega) W
        have hcell := hrow.cell k (by omega)
        have hkc : k < cs.length := by rw [HLEN.out]; omega
        have hgd : cs.getD k 0 = cs[k] := by rw [List.getD_eq_getElem?_getD, List.getElem?_eq_getElem hkc]; rfl
        obtain ⟨z0, z1⟩ := u8_of_wf (HWF.out _ (List.getElem_mem hkc))
        rw [← hgd] at z0 z1
        clear hgd
        obtain ⟨r, hr⟩ : ∃ r : Nat, cs.getD k 0 = (r : Int) := ⟨(cs.getD k 0).toNat, by omega⟩
        have HCR := Lib.hid hr
        rw [hr] at hcell z0 z1
        have hs := HN.out.step r (by omega)
        have HP := Lib.hid (twrite w dd g fs (mark fs.keys) r #[.int .u8 1] 1 [1] wr HT.out (by omega) (by omega) rfl rfl (by decide) (by have := HN.out.len; omega) (by have := Fs.get_big HN.out.big r; show _ + 1 ≤ _; omega))
        have HS := Lib.hid hs
        generalize hfs' : fs.write r [1] = fs' at *
        obtain ⟨M, hM⟩ : ∃ M, M = mark fs.keys := ⟨_, rfl⟩
        rw [← hM] at HP HT HS
        have hMl : M.length = 256 := by rw [hM, mark_len]
        clear hrow hr hs hkc hfs' HN hM
        generalize hads : adr ca k = ad at *
        have HAD := Lib.hid hads
        clear hads
        go_wp2_with fail
        refine HP.out.mono ?_
        rintro e w3 ⟨rfl, hM⟩
        have HT3 := Lib.hid hM
        have hcell3 := (RowOf.below HR.out HT3.out.mine.below).cell k (by omega)
        rw [HCR.out, HAD.out] at hcell3
        have hgf := HT3.out.blk.frozen r
        have hgc : w3.cell? ⟨g, r, none⟩ = some (iv (M.getD r 0)) := by rw [HT3.out.blk.cell]; exact iv_get M r (by omega)
        have HT4 := Lib.hid (HT3.out.put r 1)
        rw [HS.out.2] at HT4
        clear hM HT hcell
        go_wp2_with fail
        go_roundw
        case rel => exact ⟨k + 1, fs', by omega, by go_num, HT4, Lib.hid HS.out.1⟩
        case measure => simp [intOf]; omega
      · have hM2 : (mark fs.keys).set G 0 = mark (fs.del G).keys := mark_set _ _ G 0 (by rw [if_neg]; rw [Fs.keys_del]; exact fun h => h.1 rfl) (fun j hj => by rw [Fs.keys_del]; exact ⟨fun h => h.2, fun h => ⟨hj, h⟩⟩)
        obtain ⟨b, hb⟩ : ∃ b, b = decide ((G : Int) ∈ fs.keys) := ⟨_, rfl⟩
        have hbg : (mark fs.keys).getD G 0 = if b then 1 else 0 := by rw [mark_get _ _ (by omega), hb]; by_cases hh : (G : Int) ∈ fs.keys <;> simp [hh]
        have HD := Lib.hid fun W h => by have := tremove true w dd g fs (mark fs.keys) G W h (wf_i64 (by omega) (by omega)); rw [Fs.get_isSome, ← hb] at this; exact this
        have hlow : ∀ x ∈ (fs.del G).keys, 0 ≤ x ∧ x ≤ 255 := fun x hx => HN.out.low x ((Fs.keys_del _ _ _).1 hx).2
        obtain ⟨fs2, hfs2⟩ : ∃ fs2, fs2 = fs.del G := ⟨_, rfl⟩
        rw [← hfs2] at HD hM2 hlow
        obtain ⟨M, hM⟩ : ∃ M, M = mark fs.keys := ⟨_, rfl⟩
        rw [← hM] at HD hM2 hbg HT
        have hMl : M.length = 256 := by rw [hM, mark_len]
        clear hb hfs2 hM HN HR HWF HLEN
        go_wp2_with fail
        refine (HD.out _ HT.out).mono ?_
        rintro e w3 ⟨rfl, hM⟩
        have HT3 := Lib.hid hM
        clear hM HT HD
        have hgf := HT3.out.blk.frozen G
        have hgc : w3.cell? ⟨g, G, none⟩ = some (iv (M.getD G 0)) := by rw [HT3.out.blk.cell]; exact iv_get M G (by omega)
        rw [hbg] at hgc
        have HT4 := Lib.hid (HT3.out.put G 0)
        rw [hM2] at HT4
        have HT4' : Hid (MineT true w (w3.setCell ⟨g, G, none⟩ (.int .i64 0)) dd fs2 g (mark fs2.keys)) := HT4
        clear HT4 hM2 HT3 hbg hMl
        have HF := Lib.hid (dfiles true w dd fs2 _ HT4'.out.mine)
        obtain ⟨L, hL⟩ : ∃ L, L = fs2.keys := ⟨_, rfl⟩
        have hsort := HT4'.out.mine.up
        rw [← hL] at HT4' hlow hsort
        have hF : Calls Try.prog 16 #[.pointer (some ⟨dd, 0, none⟩)] (w3.setCell ⟨g, G, none⟩ (.int .i64 0)) fun e w' => ∃ v, e = .returned v ∧ Ints w' (w3.setCell ⟨g, G, none⟩ (.int .i64 0)).heap.size v L ∧ Below (w3.setCell ⟨g, G, none⟩ (.int .i64 0)).heap.size (w3.setCell ⟨g, G, none⟩ (.int .i64 0)) w' := by rw [hL]; exact HF.out
        have HF2 := Lib.hid hF
        have HL := Lib.hid hL
        clear hL HF hF
        cases b with
        | false =>
          rw [if_neg (by decide)] at hgc
          have hgc' : w3.cell? ⟨g, G, none⟩ = some (.int .i64 0) := hgc
          clear hgc
          rw [if_neg (by decide)]
          go_wp2_with fail
          refine HF2.out.mono ?_
          rintro e w4 ⟨v, rfl, hi, hb4⟩
          have HT5 := Lib.hid (HT4'.out.next hb4)
          obtain ⟨fa, fcap, rfl, hfr, _⟩ := hi
          have HFR := Lib.hid hfr
          clear HF2 HT4' hgc' hgf hb4 hfr
          go_wp2_with fail
          go_loopw [11, 12] (fun k i wr => ∃ (j n : Nat), j ≤ 256 ∧ i = .int .i64 (j : Int) ∧ k = .int .i64 (n : Int) ∧ Hid (Upto L j n) ∧ Hid (MineT true w wr dd fs2 g (mark L)) ∧ Hid (RowOf (Value.int .i64) 0 wr fa L.length fcap L)) (fun _ i _ => 256 - (intOf i).toNat)
          case atStart => exact ⟨0, 0, by omega, rfl, rfl, Lib.hid (Upto.start L fun x hx => (hlow x hx).1), HT5, HFR⟩
          case round =>
            clear HT5 HFR
            obtain ⟨j, n, hj, rfl, rfl, HU, HT, HFR⟩ := hrel
            have hnl := HU.out.le
            have hnl9 : L.length ≤ 9223372036854775807 := Nat.le_trans HFR.out.2.1 HFR.out.2.2.1
            by_cases hlt2 : (j : Int) < 256
            · have hgc := HT.out.blk.cell j
              rw [iv_get _ _ (by rw [mark_len]; omega), mark_get _ _ (by omega)] at hgc
              by_cases hin : (j : Int) ∈ L
              · rw [if_pos hin] at hgc
                have hgc1 : wr.cell? ⟨g, j, none⟩ = some (.int .i64 1) := hgc
                obtain ⟨hn, hLn, hU⟩ := Upto.yes hsort HU.out hin
                have hix := fun W => HFR.out.index Try.prog 36 3 Try.underlying36 (by kernel_rfl) n hn W
                have hcl := HFR.out.cell n hn
                rw [List.getD_eq_getElem?_getD, List.getElem?_eq_getElem hn] at hcl
                have hcl2 : wr.cell? (adr fa n) = some (.int .i64 (j : Int)) := by rw [hcl]; exact congrArg (fun z => some (Value.int .i64 z)) hLn
                have HUN := Lib.hid hU
                generalize adr fa n = ad at *
                have t1 : decide ((L.length : Int) ≤ (n : Int)) = false := by simp; omega
                have t2 : ((j : Int) == (j : Int)) = true := by simp
                clear hgc hLn hU hcl
                go_wp2_with fail
                go_roundw
                case rel => exact ⟨j + 1, n + 1, by omega, by go_num, by go_num, HUN, HT, HFR⟩
                case measure => simp [intOf]; omega
              · rw [if_neg hin] at hgc
                have hgc1 : wr.cell? ⟨g, j, none⟩ = some (.int .i64 0) := hgc
                have HUN := Lib.hid (HU.out.no hin)
                clear hgc
                go_wp2_with fail
                go_roundw
                case rel => exact ⟨j + 1, n, by omega, by go_num, rfl, HUN, HT, HFR⟩
                case measure => simp [intOf]; omega
            · have hj256 : (j : Int) = 256 := by omega
              have hn := HU.out.end_ fun x hx => by have := (hlow x hx).2; omega
              have hn2 : (n : Int) = (L.length : Int) := by omega
              have hn3 : ((L.length : Int) == (L.length : Int)) = true := by simp
              have HB := Lib.hid HT.out.mine
              clear hn HU hj256
              go_wp2_with fail
              refine (known_calls _).mono ?_
              rintro e w5 ⟨rfl, hb5⟩
              have HB2 := Lib.hid (HB.out.next hb5).below
              clear hb5
              go_wp2_with fail
              go_ret
              exact ⟨rfl, HB2.out⟩
        | true =>
          rw [if_pos rfl] at hgc
          have hgc' : w3.cell? ⟨g, G, none⟩ = some (.int .i64 1) := hgc
          clear hgc
          rw [if_pos rfl]
          go_wp2_with fail
          refine HF2.out.mono ?_
          rintro e w4 ⟨v, rfl, hi, hb4⟩
          have HT5 := Lib.hid (HT4'.out.next hb4)
          obtain ⟨fa, fcap, rfl, hfr, _⟩ := hi
          have HFR := Lib.hid hfr
          clear HF2 HT4' hgc' hgf hb4 hfr
          go_wp2_with fail
          go_loopw [11, 12] (fun k i wr => ∃ (j n : Nat), j ≤ 256 ∧ i = .int .i64 (j : Int) ∧ k = .int .i64 (n : Int) ∧ Hid (Upto L j n) ∧ Hid (MineT true w wr dd fs2 g (mark L)) ∧ Hid (RowOf (Value.int .i64) 0 wr fa L.length fcap L)) (fun _ i _ => 256 - (intOf i).toNat)
          case atStart => exact ⟨0, 0, by omega, rfl, rfl, Lib.hid (Upto.start L fun x hx => (hlow x hx).1), HT5, HFR⟩
          case round =>
            clear HT5 HFR
            obtain ⟨j, n, hj, rfl, rfl, HU, HT, HFR⟩ := hrel
            have hnl := HU.out.le
            have hnl9 : L.length ≤ 9223372036854775807 := Nat.le_trans HFR.out.2.1 HFR.out.2.2.1
            by_cases hlt2 : (j : Int) < 256
            · have hgc := HT.out.blk.cell j
              rw [iv_get _ _ (by rw [mark_len]; omega), mark_get _ _ (by omega)] at hgc
              by_cases hin : (j : Int) ∈ L
              · rw [if_pos hin] at hgc
                have hgc1 : wr.cell? ⟨g, j, none⟩ = some (.int .i64 1) := hgc
                obtain ⟨hn, hLn, hU⟩ := Upto.yes hsort HU.out hin
                have hix := fun W => HFR.out.index Try.prog 36 3 Try.underlying36 (by kernel_rfl) n hn W
                have hcl := HFR.out.cell n hn
                rw [List.getD_eq_getElem?_getD, List.getElem?_eq_getElem hn] at hcl
                have hcl2 : wr.cell? (adr fa n) = some (.int .i64 (j : Int)) := by rw [hcl]; exact congrArg (fun z => some (Value.int .i64 z)) hLn
                have HUN := Lib.hid hU
                generalize adr fa n = ad at *
                have t1 : decide ((L.length : Int) ≤ (n : Int)) = false := by simp; omega
                have t2 : ((j : Int) == (j : Int)) = true := by simp
                clear hgc hLn hU hcl
                go_wp2_with fail
                go_roundw
                case rel => exact ⟨j + 1, n + 1, by omega, by go_num, by go_num, HUN, HT, HFR⟩
                case measure => simp [intOf]; omega
              · rw [if_neg hin] at hgc
                have hgc1 : wr.cell? ⟨g, j, none⟩ = some (.int .i64 0) := hgc
                have HUN := Lib.hid (HU.out.no hin)
                clear hgc
                go_wp2_with fail
                go_roundw
                case rel => exact ⟨j + 1, n, by omega, by go_num, rfl, HUN, HT, HFR⟩
                case measure => simp [intOf]; omega
            · have hj256 : (j : Int) = 256 := by omega
              have hn := HU.out.end_ fun x hx => by have := (hlow x hx).2; omega
              have hn2 : (n : Int) = (L.length : Int) := by omega
              have hn3 : ((L.length : Int) == (L.length : Int)) = true := by simp
              have HB := Lib.hid HT.out.mine
              clear hn HU hj256
              go_wp2_with fail
              refine (known_calls _).mono ?_
              rintro e w5 ⟨rfl, hb5⟩
              have HB2 := Lib.hid (HB.out.next hb5).below
              clear hb5
              go_wp2_with fail
              go_ret
              exact ⟨rfl, HB2.out⟩
end Go.Proofs.Ytajkjbhijikggaa.Tele
