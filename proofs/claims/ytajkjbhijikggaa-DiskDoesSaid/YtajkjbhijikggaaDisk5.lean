/- The walk of a disk's Crash. No conditions. -/
import Derived.Test.YtajkjbhijikggaaDisk4
import Derived.Deep.RegionHeld3
namespace Go.Proofs.Ytajkjbhijikggaa.Tele
open Go.RowKit
set_option linter.unusedVariables false
set_option linter.unusedSimpArgs false
namespace Fs
/-- How much of a file a draw leaves. -/
def left (f : FileM) (draw : Nat) : Nat := f.sure + draw % (f.bytes.length - f.sure + 1)
/-- One file more has crashed. -/
def cstep (a : Fs × Nat) (p : Int × FileM) : Fs × Nat := (if left p.2 a.2 = 0 then a.1 else a.1 ++ [(p.1, ⟨p.2.bytes.take (left p.2 a.2), left p.2 a.2⟩)], a.2 / (p.2.bytes.length - p.2.sure + 1))
def crashI (l : Fs) (draw i : Nat) : Fs × Nat := (l.take i).foldl cstep ([], draw)
def crash (l : Fs) (draw : Nat) : Fs := (l.crashI draw l.length).1
theorem crashI_succ (l : Fs) (draw i : Nat) (h : i < l.length) : l.crashI draw (i + 1) = cstep (l.crashI draw i) l[i] := by
  unfold crashI
  rw [List.take_succ_eq_append_getElem h, List.foldl_append]
  rfl
theorem left_le (f : FileM) (draw : Nat) (h : f.sure ≤ f.bytes.length) : left f draw ≤ f.bytes.length := by
  have := Nat.mod_lt draw (show 0 < f.bytes.length - f.sure + 1 by omega)
  unfold left
  omega
/-- i files have crashed, the rest not yet. -/
def mid (l : Fs) (draw i : Nat) : Fs := (l.crashI draw i).1 ++ l.drop i
theorem mid_zero (l : Fs) (draw : Nat) : l.mid draw 0 = l := rfl
theorem mid_end (l : Fs) (draw : Nat) : l.mid draw l.length = l.crash draw := by
  unfold mid crash
  rw [List.drop_length, List.append_nil]
theorem mid_split (l : Fs) (draw i : Nat) (h : i < l.length) : l.mid draw i = (l.crashI draw i).1 ++ (l[i].1, l[i].2) :: l.drop (i + 1) := by
  unfold mid
  rw [List.drop_eq_getElem_cons h]
theorem get_split (A B : Fs) (k : Int) (f : FileM) (hA : ∀ q ∈ A, q.1 ≠ k) : (A ++ (k, f) :: B).get k = some f := by
  unfold get
  rw [List.find?_append, List.find?_eq_none.2 (fun q hq => by simpa using hA q hq)]
  simp
theorem turn_split (A B : Fs) (k : Int) (f f' : FileM) (hA : ∀ q ∈ A, q.1 ≠ k) (hB : ∀ q ∈ B, q.1 ≠ k) : (A ++ (k, f) :: B).turn k f' = A ++ (k, f') :: B := by
  have e1 := turn_no k f' A hA
  have e2 := turn_no k f' B hB
  unfold turn at e1 e2 ⊢
  rw [List.map_append, List.map_cons, e1, e2]
  simp
theorem del_split (A B : Fs) (k : Int) (f : FileM) (hA : ∀ q ∈ A, q.1 ≠ k) (hB : ∀ q ∈ B, q.1 ≠ k) : (A ++ (k, f) :: B).del k = A ++ B := by
  unfold del
  rw [List.filter_append, List.filter_cons, List.filter_eq_self.2 (fun q hq => by simpa using hA q hq), List.filter_eq_self.2 (fun q hq => by simpa using hB q hq)]
  simp
theorem mid_next (l : Fs) (draw i : Nat) (h : i < l.length) : l.mid draw (i + 1) = if left l[i].2 (l.crashI draw i).2 = 0 then (l.crashI draw i).1 ++ l.drop (i + 1) else (l.crashI draw i).1 ++ (l[i].1, ⟨l[i].2.bytes.take (left l[i].2 (l.crashI draw i).2), left l[i].2 (l.crashI draw i).2⟩) :: l.drop (i + 1) := by
  unfold mid
  rw [crashI_succ l draw i h]
  unfold cstep
  simp only
  split
  · rfl
  · simp
end Fs
theorem RowOf.cut {w : World} {a : Option Addr} {len cap : Nat} {bs : List UInt8} (h : RowOf e8 0 w a len cap bs) (n : Nat) (hn : n ≤ len) : RowOf e8 0 w a n n (bs.take n) :=
  ⟨by rw [List.length_take, h.len_eq]; omega, Nat.le_refl _, by have := h.2.1; have := h.2.2.1; omega, fun hp => by
    obtain ⟨ad, e, hlt, hc⟩ := h.2.2.2 (by omega)
    refine ⟨ad, e, hlt, fun j hj => ?_⟩
    rw [getD_take _ _ _ _ hj]
    exact hc j (by omega)⟩
theorem addr_add_zero (ad : Addr) : ad.add 0 = ad := by
  unfold Addr.add
  split
  · simp_all
  · rename_i h
    cases ad
    simp_all
theorem cut_run (a : Option Addr) (bl cap lf : Nat) (h : lf ≤ cap) (W : World) : (Instr.slice 22 (.slice a bl cap) none (some (.int .i64 (lf : Int))) (some (.int .i64 (lf : Int)))).run Try.prog W = .ok (.slice a lf lf) W := by
  have hel : Try.prog.elem 22 = 5 := by simp [Program.elem, Try.underlying22]
  obtain ⟨i0, hi, hz0, hz1, hz2⟩ := info_parts infoByte
  rw [run_slice_hm (ht := by rw [hel]; exact Try.underlying22) (h0 := by omega) (h2 := Int.le_refl _) (h3 := by omega), hel]
  have e : a.map (·.add (0 * i0.size)) = a := by
    rw [Nat.zero_mul]
    cases a with
    | none => rfl
    | some ad => simp [addr_add_zero]
  simp [sizeOf, typeInfo, hi, sliced, hz1]
  rw [hz1, Nat.zero_mul] at e
  rw [e]
  intro _
  rfl
set_option maxRecDepth 8000 in
set_option maxHeartbeats 2000000 in
theorem crash_own (own : Bool) (O : Nat → Prop) (d : Nat) (fs : Fs) (draw : Nat) (w : World) (h : IsD own w O d fs) (hd : draw < 18446744073709551616) :
    Calls Try.prog 14 #[.pointer (some ⟨d, 0, none⟩), .int .u64 (draw : Int)] w fun e w' => e = .returned (.tuple #[]) ∧ ∃ O', IsD own w' O' d (fs.crash draw) ∧ (∀ j, O' j → O j ∨ w.heap.size ≤ j) ∧ Chg O w w' := by
  have HFS := Lib.hid (files_calls own O d fs w h)
  have HW := Lib.hid h
  have HUP : Hid (fs.Pairwise fun p q => p.1 < q.1) := Lib.hid (by
    obtain ⟨b, m, F, V, h⟩ := h
    rw [h.abs]
    exact List.pairwise_map.2 h.sorted)
  have HSM : Hid (∀ q ∈ fs, q.2.sure ≤ q.2.bytes.length ∧ q.2.bytes.length ≤ 1000000 ∧ 0 ≤ q.1 ∧ q.1 ≤ 1099511627776) := Lib.hid (by
    obtain ⟨b, m, F, V, h⟩ := h
    intro q hq
    rw [h.abs] at hq
    obtain ⟨e, he, rfl⟩ := List.mem_map.1 hq
    exact ⟨(h.small e he).1, (h.small e he).2, (h.keys e he).1, (h.keys e he).2⟩)
  have HOLT : Hid (∀ j, O j → j < w.heap.size) := Lib.hid (by obtain ⟨b, m, F, V, h⟩ := h; exact h.hO)
  clear h
  go_enter Try.func14, Try.ntmps14
  go_wp2_with fail
  refine HFS.out.mono ?_
  rintro e w2 ⟨v, rfl, ⟨a, cap, rfl, hrow, hbase⟩, hb2⟩
  obtain ⟨n, hn⟩ : ∃ n, n = fs.length := ⟨_, rfl⟩
  rw [show (fs.map (·.1)).length = n by rw [hn, List.length_map]] at hrow ⊢
  have HN := Lib.hid hn
  have hn9 : (n : Int) ≤ 9223372036854775807 := by have := hrow.2.1; have := hrow.2.2.1; omega
  have HR0 := Lib.hid hrow
  have HBA := Lib.hid hbase
  have HB2 := Lib.hid hb2
  clear hn hrow hbase hb2 HFS
  go_wp2_with fail
  go_loopw [1, 11] (fun dd ii wr => ∃ (i x : Nat) (O' : Nat → Prop), i ≤ n ∧ ii = .int .i64 (i : Int) ∧ dd = .int .u64 (x : Int) ∧ x < 18446744073709551616 ∧ Hid (x = (fs.crashI draw i).2) ∧ Hid (IsD own wr O' d (fs.mid draw i)) ∧ Hid (∀ j, O' j → O j ∨ w2.heap.size ≤ j) ∧ Hid (Chg O w2 wr)) (fun _ ii _ => n - (intOf ii).toNat)
  case atStart => exact ⟨0, draw, O, by omega, rfl, rfl, hd, Lib.hid rfl, Lib.hid (HW.out.next HB2.out), Lib.hid (fun j hj => .inl hj), Lib.hid (Chg.refl _ _)⟩
  case round =>
    clear HW
    obtain ⟨i, x, O', hi, rfl, rfl, hx, HX, HD, HO', HC⟩ := hrel
    by_cases hlt : (i : Int) < (n : Int)
    · have hil : i < fs.length := by rw [← HN.out]; omega
      have hmem : fs[i] ∈ fs := List.getElem_mem hil
      obtain ⟨s1, s2, s3, s4⟩ := HSM.out _ hmem
      have hsplit := Fs.mid_split fs draw i hil
      have hnext := Fs.mid_next fs draw i hil
      have hxs : (fs.crashI draw (i + 1)).2 = x / (fs[i].2.bytes.length - fs[i].2.sure + 1) := by rw [Fs.crashI_succ fs draw i hil, HX.out]; rfl
      rw [← HX.out] at hnext
      -- the slice of numbers
      have hrw := HR0.out.far (w' := wr) (fun ad had hp => by
        obtain ⟨ad', had', hlt', _⟩ := HR0.out.2.2.2 hp
        have : ad' = ad := by rw [had] at had'; exact (Option.some.inj had').symm
        subst this
        exact ⟨HC.out.size, HC.out.block _ hlt' (fun ho => by have := HOLT.out _ ho; have := HBA.out _ had; omega)⟩)
      have hix := fun W => hrw.index Try.prog 36 3 Try.underlying36 (by kernel_rfl) i (by omega) W
      have hcell := hrw.cell i (by omega)
      have hkey : (fs.map (·.1)).getD i 0 = fs[i].1 := by rw [List.getD_eq_getElem?_getD, List.getElem?_map, List.getElem?_eq_getElem hil]; rfl
      rw [hkey] at hcell
      obtain ⟨b, m, F, V, hD⟩ := HD.out
      -- its file
      have hup : (fs.mid draw i).Pairwise fun p q => p.1 < q.1 := by rw [hD.abs]; exact List.pairwise_map.2 hD.sorted
      rw [hsplit] at hup
      obtain ⟨u1, u2, u3⟩ := List.pairwise_append.1 hup
      obtain ⟨u4, u5⟩ := List.pairwise_cons.1 u2
      have hA : ∀ q ∈ (fs.crashI draw i).1, q.1 ≠ fs[i].1 := fun q hq => by have := u3 q hq _ List.mem_cons_self; simp only at this; omega
      have hB : ∀ q ∈ fs.drop (i + 1), q.1 ≠ fs[i].1 := fun q hq => by have := u4 q hq; simp only at this; omega
      have hgetf : (fs.mid draw i).get fs[i].1 = some fs[i].2 := by rw [hsplit]; exact Fs.get_split _ _ _ _ hA
      have hgm := fs_get hD.abs fs[i].1
      rw [hgetf] at hgm
      generalize fs[i] = kf at *
      obtain ⟨k, f⟩ := kf
      simp only at s1 s2 s3 s4 hnext hxs hcell hA hB hgm hsplit
      obtain ⟨g, hg, hFg⟩ : ∃ g, m.get k = some g ∧ F g = f := by
        cases hg : m.get k with
        | none => rw [hg] at hgm; simp at hgm
        | some g => rw [hg] at hgm; simp at hgm; exact ⟨g, rfl, hgm.symm⟩
      have hgmem := get_mem hg
      have hblk := hD.fl _ hgmem
      obtain ⟨⟨a2, cap2, hV, hR2⟩, _⟩ := hD.row _ hgmem
      simp only at hblk hV hR2
      rw [hFg] at hblk hV hR2
      rw [hV] at hblk
      have h0 : wr.cell? ⟨d, 0, none⟩ = some (.map (some b)) := hD.st.cell 0
      have hlook := hD.mp.look1 (k := k) 59 62 Try.underlying59 (zeroPtr wr) (wf_i64 (by omega) (by omega)) g hg
      have g0 : wr.cell? ⟨g, 0, none⟩ = some (.slice a2 f.bytes.length cap2) := hblk.cell 0
      have g1 : wr.cell? ⟨g, 1, none⟩ = some (.int .i64 (f.sure : Int)) := hblk.cell 1
      have z0 := hblk.frozen 0
      have z1 := hblk.frozen 1
      have hle := Fs.left_le f x s1
      have hcap := hR2.2.1
      have hcapm := hR2.2.2.1
      generalize adr a i = ad at *
      obtain ⟨bl, hbl⟩ : ∃ bl, bl = f.bytes.length := ⟨_, rfl⟩
      obtain ⟨su, hsu⟩ : ∃ su, su = f.sure := ⟨_, rfl⟩
      obtain ⟨lf, hlf⟩ : ∃ lf, lf = Fs.left f x := ⟨_, rfl⟩
      have hlfe : lf = su + x % (bl - su + 1) := by rw [hlf, hsu, hbl]; rfl
      rw [← hbl] at s1 s2 g0 hle hcap hxs
      rw [← hsu] at s1 g1 hxs
      rw [← hlf] at hle hnext
      obtain ⟨q, hq⟩ : ∃ q : Nat, q = bl - su := ⟨_, rfl⟩
      have hqi : (bl : Int) - (su : Int) = (q : Int) := by omega
      have hxq : (x : Int) % ((q : Int) + 1) = ((x % (q + 1) : Nat) : Int) := by rw [show ((q : Int) + 1) = ((q + 1 : Nat) : Int) by omega]; exact (Int.natCast_emod _ _).symm
      have hxd : (x : Int) / ((q : Int) + 1) = ((x / (q + 1) : Nat) : Int) := by rw [show ((q : Int) + 1) = ((q + 1 : Nat) : Int) by omega]; exact (Int.natCast_ediv _ _).symm
      have hq0 : ((q : Int) + 1 == 0) = false := by rw [beq_eq_false_iff_ne]; omega
      have hq1 : ¬ ((q : Int) + 1) = 0 := by omega
      have hsum : (su : Int) + ((x % (q + 1) : Nat) : Int) = (lf : Int) := by rw [hlfe, hq]; omega
      have hxdlt : x / (q + 1) ≤ x := Nat.div_le_self _ _
      have hmodlt : x % (q + 1) ≤ q := by have := Nat.mod_lt x (show 0 < q + 1 by omega); omega
      rw [← hq] at hxs
      generalize x % (q + 1) = xm at *
      generalize x / (q + 1) = xd at *
      have HBL := Lib.hid hbl
      have HSU := Lib.hid hsu
      have HLF := Lib.hid hlf
      have HNEXT := Lib.hid hnext
      have HXS := Lib.hid hxs
      have HDD := Lib.hid hD
      have HGG := Lib.hid hg
      have HFG := Lib.hid hFg
      have HV := Lib.hid hV
      have HR2 := Lib.hid hR2
      have HBLK := Lib.hid hblk
      have HSPL := Lib.hid hsplit
      have HAA := Lib.hid hA
      have HBB := Lib.hid hB
      have hbl9 : (bl : Int) ≤ 1000000 := by omega
      clear hbl hsu hlf hnext hxs hD hg hFg hV hR2 hblk hsplit hA hB hup u1 u2 u3 u4 u5 hgetf hgm hgmem hrw hkey hmem hil HX HD hq hlfe
      go_wp2_with fail
      go_quiet (fail)
      go_wp2_with fail
      go_region
      generalize hw3 : (wr.drewN (nq + 1)).setCell ⟨g, 1, none⟩ (.int .i64 (lf : Int)) = w3
      have HB3 : Hid (Blk w3 g 65 #[.slice a2 bl cap2, .int .i64 (lf : Int)]) := Lib.hid (by
        rw [← hw3, HBL.out]
        exact (HBLK.out.drewN _).set_ 1 (.int .i64 (lf : Int)))
      have HC3 : Hid (Chg (fun j => j = g) wr w3) := Lib.hid (by
        rw [← hw3]
        exact (show Chg (fun j => j = g) wr _ from Chg.setCell (S := fun j => j = g) (p := ⟨g, 1, none⟩) ((Chg.refl _ _).drewN _) (.inl rfl) _))
      have hgd : ¬ d = g := HDD.out.st.ne_ (HDD.out.fl _ (get_mem HGG.out)) (by decide)
      have hh0 : w3.cell? ⟨d, 0, none⟩ = some (.map (some b)) := (HDD.out.st.chg HC3.out hgd).cell 0
      have c0 := HB3.out.cell 0
      have c1 : w3.cell? ⟨g, 1, none⟩ = some (.int .i64 (lf : Int)) := HB3.out.cell 1
      have zz0 := HB3.out.frozen 0
      have hcut := fun W => cut_run a2 bl cap2 lf (by omega) W
      clear hw3 h0 g0 g1 z0 z1 hlook hix hcell hqi hxq hsum
      go_wp2_with fail
      go_region
      generalize hw4 : (w3.setCell ⟨g, 0, none⟩ (.slice a2 lf lf)).drew = w4
      have hB4 : Blk w4 g 65 #[.slice a2 lf lf, .int .i64 (lf : Int)] := by
        rw [← hw4]
        exact (HB3.out.set_ 0 (.slice a2 lf lf)).drew
      have hC4 : Chg (fun j => j = g) wr w4 := by
        rw [← hw4]
        exact (show Chg (fun j => j = g) wr _ from (Chg.setCell (S := fun j => j = g) (p := ⟨g, 0, none⟩) HC3.out (.inl rfl) _).drew)
      have hgmem := get_mem HGG.out
      have hVo : ∀ j, (Value.slice a2 lf lf).ownBlock = some j → (V g).ownBlock = some j := fun j hj => by
        rw [HV.out]
        cases a2 with
        | none => simp [Value.ownBlock] at hj
        | some ad2 => exact hj
      have hrow4 : Row own w4 (.slice a2 lf lf) (f.bytes.take lf) := by
        have hcutr := HR2.out.cut lf (by rw [← HBL.out]; exact hle)
        have hl : (f.bytes.take lf).length = lf := by rw [List.length_take, ← HBL.out]; omega
        have hlay4 : own = true → Lay w4 (.slice a2 lf lf) (f.bytes.take lf) := fun _ => by
          unfold Lay
          rw [hl]
          cases a2 with
          | some ad2 => exact .inr ⟨ad2, rfl⟩
          | none =>
            obtain rfl : lf = 0 := by
              rcases Nat.eq_zero_or_pos lf with hz | hz
              · exact hz
              · obtain ⟨ad3, had3, _⟩ := hcutr.2.2.2 hz
                cases had3
            exact .inl ⟨by simp, .inl ⟨rfl, rfl⟩⟩
        refine ⟨⟨a2, lf, by rw [hl], ?_⟩, hlay4⟩
        rw [hl]
        refine hcutr.far fun ad2 had hp => ⟨hC4.size, ?_⟩
        obtain ⟨ad3, had3, hlt3, _⟩ := hcutr.2.2.2 hp
        have : ad3 = ad2 := by rw [had] at had3; exact (Option.some.inj had3).symm
        subst this
        exact hC4.block _ hlt3 (((HDD.out.apart _ hgmem _ (hVo _ (ownBlock_slice had))).2.2.2 _ hgmem).1)
      have hT := HDD.out.turn (own' := own) (k := k) (g := g) (v' := .slice a2 lf lf) (f' := ⟨f.bytes.take lf, lf⟩) HGG.out (hC4.mono fun j _ hj => .inl hj) hB4 hrow4 (fun hh => hh) (fun j hj => .inl (hVo j hj)) ⟨by show lf ≤ (f.bytes.take lf).length; rw [List.length_take, ← HBL.out]; omega, by show (f.bytes.take lf).length ≤ _; rw [List.length_take, ← HBL.out]; omega⟩
      rw [HSPL.out, Fs.turn_split _ _ _ _ _ HAA.out HBB.out] at hT
      obtain ⟨⟨b4, m4, F4, V4, hD4⟩, hcO⟩ := hT
      have h04 : w4.cell? ⟨d, 0, none⟩ = some (.map (some b4)) := hD4.st.cell 0
      have k1 : w4.cell? ⟨g, 1, none⟩ = some (.int .i64 (lf : Int)) := hB4.cell 1
      have HPL : Hid (∀ j, Plus O' wr w4 j → O j ∨ w2.heap.size ≤ j) := Lib.hid (fun j hj => by
        rcases hj with hj | hj
        · exact HO'.out j hj
        · have := HC.out.size
          exact .inr (by omega))
      have hOw : ∀ j, j < w2.heap.size → O' j → O j := fun j hj ho => by
        rcases HO'.out j ho with hh | hh
        · exact hh
        · omega
      have HC5 : Hid (Chg O w2 w4) := Lib.hid (HC.out.trans hcO hOw)
      by_cases hl0 : lf = 0
      · obtain ⟨w5, hdel, hm5, hc5, hs5⟩ := hD4.mp.drop (k := k) 59 62 0 Try.underlying59 (wf_i64 (by omega) (by omega))
        obtain ⟨hS5, hcO5⟩ := hD4.del hm5 hc5
        rw [Fs.del_split _ _ _ _ HAA.out HBB.out] at hS5
        have HS5 : Hid (IsD own w5 (Plus O' wr w4) d (fs.mid draw (i + 1))) := Lib.hid (by rw [HNEXT.out, if_pos hl0]; exact hS5)
        have HC6 : Hid (Chg O w2 w5) := Lib.hid (HC5.out.trans hcO5 (fun j hj ho => by
          rcases HPL.out j ho with hh | hh
          · exact hh
          · omega))
        have hli : ((lf : Int) == 0) = true := by rw [hl0]; rfl
        clear hw4 hB4 hC4 hgmem hVo hrow4 hcO hD4 hOw hS5 hcO5 hm5 hc5 hs5 c0 c1 zz0 hh0 hcut hl0
        go_wp2_with fail
        go_roundw
        case rel => exact ⟨i + 1, xd, Plus O' wr w4, by omega, by go_num, by go_num, by omega, Lib.hid HXS.out.symm, HS5, HPL, HC6⟩
        case measure => simp [intOf]; omega
      · have HS5 : Hid (IsD own w4 (Plus O' wr w4) d (fs.mid draw (i + 1))) := Lib.hid (by rw [HNEXT.out, if_neg hl0]; exact ⟨b4, m4, F4, V4, hD4⟩)
        have hli : ((lf : Int) == 0) = false := by rw [beq_eq_false_iff_ne]; omega
        clear hw4 hB4 hC4 hgmem hVo hrow4 hcO hD4 hOw c0 c1 zz0 hh0 hcut hl0
        go_wp2_with fail
        go_roundw
        case rel => exact ⟨i + 1, xd, Plus O' wr w4, by omega, by go_num, by go_num, by omega, Lib.hid HXS.out.symm, HS5, HPL, HC5⟩
        case measure => simp [intOf]; omega
    · have hin : i = fs.length := by rw [← HN.out]; omega
      have hfin : IsD own wr O' d (fs.crash draw) := by rw [← Fs.mid_end, ← hin]; exact HD.out
      have HFIN := Lib.hid hfin
      clear hin hfin HX HD
      go_wp2_with fail
      go_end0
      have hsz := HB2.out.size
      exact ⟨rfl, O', HFIN.out, fun j hj => (HO'.out j hj).elim .inl fun hh => .inr (by omega), (Chg.of_below O HB2.out).trans HC.out (fun j _ hj => hj)⟩
theorem crash_calls (own : Bool) (O : Nat → Prop) (d : Nat) (fs : Fs) (draw : Nat) (w : World) (h : IsD own w O d fs) (hd : draw < 18446744073709551616) :
    Calls Try.prog 14 #[.pointer (some ⟨d, 0, none⟩), .int .u64 (draw : Int)] w fun e w' => e = .returned (.tuple #[]) ∧ ∃ O', IsD false w' O' d (fs.crash draw) ∧ (∀ j, O' j → O j ∨ w.heap.size ≤ j) ∧ Chg O w w' := by
  refine (crash_own own O d fs draw w h hd).mono ?_
  rintro e w' ⟨rfl, O', hD, h1, h2⟩
  exact ⟨rfl, O', hD.weak, h1, h2⟩
end Go.Proofs.Ytajkjbhijikggaa.Tele
