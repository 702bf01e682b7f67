/- The walks of the reference's Write, Sync and Remove. No conditions. -/
import Derived.Test.YtajkjbhijikggaaRPut
namespace Go.Proofs.Ytajkjbhijikggaa.Tele
open Go.RowKit Go.Proofs.YtajkjbhijikggaaW.PrintWords
set_option linter.unusedVariables false
set_option linter.unusedSimpArgs false

theorem bv_row {w : World} {P : Nat → Prop} {a : Option Addr} {n c : Nat} {bs : List UInt8} (h : BV w P (.slice a n c) bs) : n = bs.length ∧ RowOf e8 0 w a bs.length bs.length bs := by
  obtain ⟨hn, hc, hC⟩ := Kd.V_reads' h
  rw [ints_len] at hn
  obtain ⟨hl, hm, hcell⟩ := hC
  rw [ints_len] at hm
  refine ⟨hn, rfl, Nat.le_refl _, by omega, fun hp => ?_⟩
  obtain ⟨ad, rfl, h2⟩ := hcell (by rw [ints_len]; exact hp)
  have hc2 : ∀ j, j < bs.length → w.cell? (ad.add j) = some (e8 (bs.getD j 0)) := fun j hj => by
    obtain ⟨cs, h3, h4, h5⟩ := h2 j ((bs[j].toNat : Int)) (by unfold ints; rw [List.getElem?_map, List.getElem?_eq_getElem hj]; rfl)
    have h6 : cs = [.int .u8 (bs[j].toNat : Int)] := h4
    subst h6
    have h7 := h5 0 _ rfl
    rw [show j * (Kd.int IntKind.u8).sz + 0 = j from Nat.mul_one j] at h7
    rw [h7, List.getD_eq_getElem?_getD, List.getElem?_eq_getElem hj]
    rfl
  refine ⟨ad, rfl, ?_, hc2⟩
  have h8 := World.block_lt_of_cell? w _ (hc2 0 hp)
  rwa [add_block] at h8
theorem bv_of {w : World} {ok : Nat → Prop} {v : Value} {bs : List UInt8} (h : Bytes w v bs) (hok : ∀ j, v.ownBlock = some j → ok j) : BV w ok v bs := by
  obtain ⟨a, cap, rfl, hr⟩ := h
  refine ⟨a, cap, by rw [ints_len], by rw [ints_len]; exact hr.2.1, fun W' hW => ?_⟩
  refine ⟨rfl, by rw [ints_len]; have := hr.2.1; have := hr.2.2.1; omega, fun hp => ?_⟩
  rw [ints_len] at hp
  obtain ⟨ad, rfl, hlt, hc⟩ := hr.2.2.2 hp
  have hb := hW ad.block (hok _ rfl) hlt
  refine ⟨ad, rfl, fun j x hj => ?_⟩
  have hjb : j < bs.length := by have := (List.getElem?_eq_some_iff.1 hj).1; rwa [ints_len] at this
  have hx : x = (bs[j].toNat : Int) := by
    unfold ints at hj
    rw [List.getElem?_map, List.getElem?_eq_getElem hjb] at hj
    exact (Option.some.inj hj).symm
  subst hx
  refine ⟨[.int .u8 (bs[j].toNat : Int)], rfl, rfl, fun q u hq => ?_⟩
  rcases q with _ | q
  · have h1 := hc j hjb
    rw [List.getD_eq_getElem?_getD, List.getElem?_eq_getElem hjb] at h1
    have e : u = .int .u8 (bs[j].toNat : Int) := by simpa using hq.symm
    rw [e, show j * (Kd.int IntKind.u8).sz + 0 = j from Nat.mul_one j]
    exact (World.cell?_of_block (by rw [add_block]; exact hb)).trans h1
  · simp at hq
/-- Bytes of this call's own, that is: of W4's. -/
def NewBytes (W4 W : World) (v : Value) (bs : List UInt8) : Prop := Row true W v bs ∧ (∀ j, v.ownBlock = some j → W4.heap.size ≤ j) ∧ Below W4.heap.size W4 W
theorem append_new {W4 W : World} {v : Value} {bs ns : List UInt8} {xa : Option Addr} {n c : Nat} (ty : TypeId) (h : NewBytes W4 W v bs) (hn : RowOf e8 0 W xa ns.length ns.length ns) (hnn : n = ns.length) (hsz : bs.length + ns.length ≤ 1000000) :
    ∃ v' w', (Builtin.append_ #[22, 22] ty #[v, .slice xa n c]).run Try.prog W = .ok v' w' ∧ NewBytes W4 w' v' (bs ++ ns) := by
  subst hnn
  obtain ⟨h1, h2, h3⟩ := h
  obtain ⟨v', w', hr, p1, p2, p3⟩ := append_lay W v bs ns xa c ty h1 hn hsz
  refine ⟨v', w', hr, p1, fun j hj => ?_, ?_⟩
  · rcases p3 with e | ⟨j', e, e1, _⟩
    · exact h2 j (by rw [← e]; exact hj)
    · rw [e] at hj
      injection hj with hj
      have := h3.size
      omega
  · refine h3.trans ⟨p2.os, p2.tape, p2.output, p2.size, fun k hk => ?_⟩
    have := h3.size
    exact p2.block k (by omega) (fun e => by have := h2 k e.symm; omega)
theorem newBytes_nil (W : World) : NewBytes W W (.slice none 0 0) [] := ⟨⟨⟨none, 0, rfl, ⟨rfl, Nat.le_refl _, by omega, fun hp => absurd hp (by decide)⟩⟩, fun _ => .inl ⟨rfl, .inl ⟨rfl, rfl⟩⟩⟩, fun j hj => by simp [Value.ownBlock] at hj, Below.refl _ _⟩
set_option maxRecDepth 8000 in
set_option maxHeartbeats 2000000 in
theorem rsync_calls (P : Nat → Prop) (v : Value) (fs : Fs) (k : Int) (w : World) (h : FV w P v fs) (hl : fs.length ≤ 100000) :
    Calls Try.prog 21 #[.agg #[v], .int .i64 k] w fun e w' => ∃ v', e = .returned (.tuple #[.agg #[v'], .int .i64 (if (fs.get k).isSome then 0 else 71)]) ∧ FV w' (fun q => P q ∨ w.heap.size ≤ q) v' (match fs.get k with | some f => fs.putL k ⟨f.bytes, f.bytes.length⟩ | none => fs) ∧ Below w.heap.size w w' := by
  obtain ⟨a, c, rfl⟩ := Kd.V_slice h
  obtain ⟨n, hn⟩ : ∃ n, n = fs.length := ⟨_, rfl⟩
  rw [← hn] at h ⊢
  generalize hw3 : (w.alloc (.cells #[.slice a n c] 50)).alloc (.cells #[.slice none 0 0] 50) = w3
  have hb0 := bl_alloc (bl_alloc (Below.refl w.heap.size w) (.cells #[.slice a n c] 50)) (.cells #[.slice none 0 0] 50)
  have k0 := (Blk.new w 50 #[.slice a n c]).alloc (.cells #[.slice none 0 0] 50)
  have k1 := Blk.new (w.alloc (.cells #[.slice a n c] 50)) 50 #[.slice none 0 0]
  rw [hw3] at hb0 k0 k1
  rw [World.size_alloc] at k1
  have hsz : w3.heap.size = w.heap.size + 2 := by rw [← hw3]; simp [World.size_alloc]
  have HPC := Lib.hid (rplace_calls P _ fs k w3 (Kd.V_below h hb0) hl)
  have HW3 := Lib.hid hw3
  have HB0 := Lib.hid hb0
  have HK0 := Lib.hid k0
  have HK1 := Lib.hid k1
  have HV := Lib.hid (Kd.V_bound h)
  have c0 : w3.cell? ⟨w.heap.size, 0, none⟩ = some (.slice a n c) := k0.cell 0
  have hfin : ∀ W vv l, Below w.heap.size w W → FV W (fun q => (P q ∧ q < w.heap.size) ∨ w3.heap.size ≤ q) vv l → FV (W.setCell ⟨w.heap.size + 1, 0, none⟩ vv) (fun q => P q ∨ w.heap.size ≤ q) vv l ∧ Below w.heap.size w (W.setCell ⟨w.heap.size + 1, 0, none⟩ vv) := fun W vv l hB hN => ⟨Kd.V_mono (Kd.V_far (p := ⟨w.heap.size + 1, 0, none⟩) hN (fun q hq => by show q ≠ w.heap.size + 1; rcases hq with hq | hq <;> omega) vv) (fun q hq => hq.elim (fun hh => .inl hh.1) (fun hh => .inr (by omega))), below_set hB (by omega)⟩
  have HFIN := Lib.hid hfin
  rcases place_get (fs := fs) (k := k) with ⟨hp, hg⟩ | ⟨i, hi, hp, hk, hg⟩
  · rw [hg]
    generalize place fs k = pl at *
    clear h hg hn k0 k1 hw3 hb0
    go_enter Try.func21, Try.ntmps21
    go_wp2_with fail
    rw [HW3.out]
    refine HPC.out.mono ?_
    rintro e w1 ⟨rfl, hb⟩
    have hB1 := bnext HB0.out hb
    have k0 := HK0.out.next hb
    have k1 := HK1.out.next hb
    have c0 : w1.cell? ⟨w.heap.size, 0, none⟩ = some (.slice a n c) := k0.cell 0
    have e0 : w1.cell? ⟨w.heap.size + 1, 0, none⟩ = some (.slice none 0 0) := k1.cell 0
    have z1 := k1.frozen 0
    have HF := Lib.hid (HFIN.out w1 (.slice a n c) fs hB1 (Kd.V_mono (Kd.V_below HV.out hB1) (fun q hq => .inl hq)))
    clear hb hB1 HFIN
    go_wp2_with fail
    refine bodyPost_ret (results_ct rfl _ _ (w.heap.size + 1) 50 #[.slice a n c] (0, 0) _ rfl (k1.set_ 0 _) Try.underlying50 rfl (by kernel_rfl)) rfl ?_
    exact ⟨_, rfl, HF.out⟩
  · rw [hg]
    rw [hp] at HPC
    have hib : ¬ (i : Int) < 0 := by omega
    obtain ⟨ad, u, hix, hrc, hbu⟩ := FV.pick (Kd.V_bound h) i hi
    generalize fs[i] = x at *
    obtain ⟨xk, xf⟩ := x
    simp only at hk hrc hbu hg ⊢
    subst hk
    have hu : ∃ a1 c1, u = .slice a1 xf.bytes.length c1 := by
      obtain ⟨a1, c1, rfl⟩ := Kd.V_slice hbu
      exact ⟨a1, c1, by rw [ints_len]⟩
    obtain ⟨a1, c1, rfl⟩ := hu
    have HPU := Lib.hid fun W hB => rput_calls (fun q => (P q ∧ q < w.heap.size) ∨ w3.heap.size ≤ q) (.slice a n c) fs xk (.slice a1 xf.bytes.length c1) ⟨xf.bytes, xf.bytes.length⟩ W (Kd.V_mono (Kd.V_below (w1 := W) (Kd.V_bound h) hB) (fun q hq => .inl hq)) (Kd.V_mono (Kd.V_below (w1 := W) hbu hB) (fun q hq => .inl hq)) hl
    have HRC := Lib.hid hrc
    clear h hg hn k0 k1 hp hi hbu hrc hw3 hb0 hfin
    go_enter Try.func21, Try.ntmps21
    go_wp2_with fail
    rw [HW3.out]
    refine HPC.out.mono ?_
    rintro e w1 ⟨rfl, hb⟩
    have HB3 := Lib.hid hb
    have HB1 := Lib.hid (bnext HB0.out hb)
    have c0 : w1.cell? ⟨w.heap.size, 0, none⟩ = some (.slice a n c) := (HK0.out.next hb).cell 0
    obtain ⟨r0, r1, r2⟩ := HRC.out w1 HB1.out
    have hA := bl_alloc (Below.refl w1.heap.size w1) (.cells #[.int .i64 xk, .slice a1 xf.bytes.length c1, .int .i64 (xf.sure : Int)] 72)
    have hk := Blk.new w1 72 #[.int .i64 xk, .slice a1 xf.bytes.length c1, .int .i64 (xf.sure : Int)]
    generalize hw4 : w1.alloc (.cells #[.int .i64 xk, .slice a1 xf.bytes.length c1, .int .i64 (xf.sure : Int)] 72) = w4 at *
    have HW4 := Lib.hid hw4
    have HB4 := Lib.hid (bnext HB1.out hA)
    have HB34 := Lib.hid (bnext hb hA)
    have f0 : w4.cell? ⟨w.heap.size, 0, none⟩ = some (.slice a n c) := (HK0.out.next HB34.out).cell 0
    have f1 : w4.cell? ⟨w1.heap.size, 1, none⟩ = some (.slice a1 xf.bytes.length c1) := hk.cell 1
    rw [← HW4.out] at f0 f1
    clear hb hA hk hw4
    go_wp2_with fail
    rw [HW4.out]
    refine (HPU.out w4 HB4.out).mono ?_
    rintro e w5 ⟨v', rfl, hv5, hb5⟩
    have hB5 := bnext HB4.out hb5
    have k1 := HK1.out.next (bnext HB34.out hb5)
    have e0 : w5.cell? ⟨w.heap.size + 1, 0, none⟩ = some (.slice none 0 0) := k1.cell 0
    have z1 := k1.frozen 0
    have hs4 := HB34.out.size
    obtain ⟨a5, c5, rfl⟩ := Kd.V_slice hv5
    have HF := Lib.hid (HFIN.out w5 _ _ hB5 (Kd.V_mono hv5 (fun q hq => hq.elim id fun hh => .inr (by omega))))
    clear hv5 hb5 hB5 HFIN HPU
    go_wp2_with fail
    refine bodyPost_ret (results_ct rfl _ _ (w.heap.size + 1) 50 #[.slice a5 (fs.putL xk ⟨xf.bytes, xf.bytes.length⟩).length c5] (0, 0) _ rfl (k1.set_ 0 _) Try.underlying50 rfl (by kernel_rfl)) rfl ?_
    exact ⟨_, rfl, HF.out⟩
set_option maxRecDepth 8000 in
set_option maxHeartbeats 2000000 in
theorem rremove_calls (P : Nat → Prop) (v : Value) (fs : Fs) (k : Int) (w : World) (h : FV w P v fs) (hl : fs.length ≤ 100000) :
    Calls Try.prog 22 #[.agg #[v], .int .i64 k] w fun e w' => ∃ v', e = .returned (.tuple #[.agg #[v'], .int .i64 (if (fs.get k).isSome then 0 else 71)]) ∧ FV w' (fun q => P q ∨ w.heap.size ≤ q) v' (if (fs.get k).isSome = true then fs.del k else fs) ∧ Below w.heap.size w w' := by
  obtain ⟨a, c, rfl⟩ := Kd.V_slice h
  obtain ⟨n, hn⟩ : ∃ n, n = fs.length := ⟨_, rfl⟩
  rw [← hn] at h ⊢
  generalize hw3 : (w.alloc (.cells #[.slice a n c] 50)).alloc (.cells #[.slice none 0 0] 50) = w3
  have hb0 := bl_alloc (bl_alloc (Below.refl w.heap.size w) (.cells #[.slice a n c] 50)) (.cells #[.slice none 0 0] 50)
  have k0 := (Blk.new w 50 #[.slice a n c]).alloc (.cells #[.slice none 0 0] 50)
  have k1 := Blk.new (w.alloc (.cells #[.slice a n c] 50)) 50 #[.slice none 0 0]
  rw [hw3] at hb0 k0 k1
  rw [World.size_alloc] at k1
  have hsz : w3.heap.size = w.heap.size + 2 := by rw [← hw3]; simp [World.size_alloc]
  have HPC := Lib.hid (rplace_calls P _ fs k w3 (Kd.V_below h hb0) hl)
  have HW3 := Lib.hid hw3
  have HB0 := Lib.hid hb0
  have HK0 := Lib.hid k0
  have HK1 := Lib.hid k1
  have HV := Lib.hid (Kd.V_bound h)
  have c0 : w3.cell? ⟨w.heap.size, 0, none⟩ = some (.slice a n c) := k0.cell 0
  have hfin : ∀ W vv l, Below w.heap.size w W → FV W (fun q => (P q ∧ q < w.heap.size) ∨ w3.heap.size ≤ q) vv l → FV (W.setCell ⟨w.heap.size + 1, 0, none⟩ vv) (fun q => P q ∨ w.heap.size ≤ q) vv l ∧ Below w.heap.size w (W.setCell ⟨w.heap.size + 1, 0, none⟩ vv) := fun W vv l hB hN => ⟨Kd.V_mono (Kd.V_far (p := ⟨w.heap.size + 1, 0, none⟩) hN (fun q hq => by show q ≠ w.heap.size + 1; rcases hq with hq | hq <;> omega) vv) (fun q hq => hq.elim (fun hh => .inl hh.1) (fun hh => .inr (by omega))), below_set hB (by omega)⟩
  have HFIN := Lib.hid hfin
  rcases place_get (fs := fs) (k := k) with ⟨hp, hg⟩ | ⟨i, hi, hp, hk, hg⟩
  · rw [hg, if_neg (by simp)]
    generalize place fs k = pl at *
    clear h hg hn k0 k1 hw3 hb0
    go_enter Try.func22, Try.ntmps22
    go_wp2_with fail
    rw [HW3.out]
    refine HPC.out.mono ?_
    rintro e w1 ⟨rfl, hb⟩
    have hB1 := bnext HB0.out hb
    have k0 := HK0.out.next hb
    have k1 := HK1.out.next hb
    have c0 : w1.cell? ⟨w.heap.size, 0, none⟩ = some (.slice a n c) := k0.cell 0
    have e0 : w1.cell? ⟨w.heap.size + 1, 0, none⟩ = some (.slice none 0 0) := k1.cell 0
    have z1 := k1.frozen 0
    have HF := Lib.hid (HFIN.out w1 (.slice a n c) fs hB1 (Kd.V_mono (Kd.V_below HV.out hB1) (fun q hq => .inl hq)))
    clear hb hB1 HFIN
    go_wp2_with fail
    refine bodyPost_ret (results_ct rfl _ _ (w.heap.size + 1) 50 #[.slice a n c] (0, 0) _ rfl (k1.set_ 0 _) Try.underlying50 rfl (by kernel_rfl)) rfl ?_
    exact ⟨_, rfl, HF.out⟩
  · rw [hg]
    rw [hp] at HPC
    have hib : ¬ (i : Int) < 0 := by omega
    rw [if_pos (show (some fs[i].2).isSome = true from rfl), if_pos (show (some fs[i].2).isSome = true from rfl)]
    have HN := Lib.hid hn
    clear h hg k0 k1 hp hk hw3 hb0 hfin hn hi
    go_enter Try.func22, Try.ntmps22
    go_wp2_with fail
    rw [HW3.out]
    refine HPC.out.mono ?_
    rintro e w1 ⟨rfl, hb⟩
    have HB3 := Lib.hid hb
    have HB1 := Lib.hid (bnext HB0.out hb)
    have HV1 := Lib.hid (Kd.V_below HV.out HB1.out)
    have HK0' := Lib.hid (HK0.out.next hb)
    have HK1' := Lib.hid (HK1.out.next hb)
    have hs1 := hb.size
    have hPb : ∀ q, (P q ∧ q < w.heap.size) → ((P q ∧ q < w.heap.size) ∨ w1.heap.size ≤ q) ∧ q < w1.heap.size := fun q hq => ⟨.inl hq, by omega⟩
    have hOk : ∀ q, w1.heap.size ≤ q → ((P q ∧ q < w.heap.size) ∨ w1.heap.size ≤ q) := fun q hq => .inr hq
    have hnl : n ≤ 100000 := by rw [HN.out]; exact hl
    clear hb
    go_wp2_with fail
    go_loopw [6, 7] (fun vo i wr => ∃ (j : Nat) (out : Fs), j ≤ n ∧ i = .int .i64 (j : Int) ∧ out.length ≤ j ∧ Hid (out = Fs.del (fs.take j) k) ∧ Hid (Below w1.heap.size w1 wr) ∧ Hid (Kd.N kF 72 wr w1.heap.size (fun q => (P q ∧ q < w.heap.size) ∨ w1.heap.size ≤ q) vo out)) (fun _ i _ => n - (intOf i).toNat)
    case atStart => exact ⟨0, [], by omega, rfl, by simp, Lib.hid rfl, Lib.hid (Below.refl _ _), Lib.hid (Kd.N_nil _ _ _ _ _)⟩
    case round =>
      obtain ⟨j, out, hj, rfl, hol, HI, HB, HO⟩ := hrel
      have k1 := HK1'.out.next HB.out
      have c0 : wr.cell? ⟨w.heap.size, 0, none⟩ = some (.slice a n c) := (HK0'.out.next HB.out).cell 0
      have e0 : wr.cell? ⟨w.heap.size + 1, 0, none⟩ = some (.slice none 0 0) := k1.cell 0
      have z1 := k1.frozen 0
      by_cases hlt : (j : Int) < (n : Int)
      · have hjf : j < fs.length := by rw [← HN.out]; omega
        obtain ⟨ad, u, hix, hrc, hbu⟩ := FV.pick HV1.out j hjf
        obtain ⟨r0, r1, r2⟩ := hrc wr HB.out
        have hstep : Fs.del (fs.take (j + 1)) k = Fs.del (fs.take j) k ++ Fs.del [fs[j]] k := by
          unfold Fs.del
          rw [List.take_succ_eq_append_getElem hjf, List.filter_append]
        rw [← HI.out] at hstep
        generalize fs[j] = x at r0 r2 hbu hrc hstep
        obtain ⟨xk, xf⟩ := x
        simp only at hbu hrc r0 r1 r2 hstep
        have HBU := Lib.hid hbu
        have HRC := Lib.hid hrc
        clear hbu hrc hjf HI
        by_cases hxk : xk = k
        · have hbeq : (xk != k) = false := by simpa using hxk
          have HST : Hid (out = Fs.del (fs.take (j + 1)) k) := Lib.hid (by rw [hstep]; simp [Fs.del, hxk])
          clear hstep hxk
          go_wp2_with fail
          go_roundw
          case rel => exact ⟨j + 1, out, by omega, by go_num, by omega, HST, HB, HO⟩
          case measure => simp [intOf]; omega
        · have hbeq : (xk != k) = true := by simpa using hxk
          have HST : Hid (out ++ [(xk, xf)] = Fs.del (fs.take (j + 1)) k) := Lib.hid (by rw [hstep]; simp [Fs.del, hxk])
          clear hstep hxk
          go_wp2_with (at_builtin; refine lay_file rfl (.tmp 28) (.tmp 34) rfl _ out xk u (xf.sure : Int) xf (fun q => (P q ∧ q < w.heap.size) ∨ w1.heap.size ≤ q) (fun q => P q ∧ q < w.heap.size) rfl rfl rfl HBU.out hPb hOk (by repeat (first | exact HO.out | refine Kd.N_drewN ?_ _)) (by repeat (first | exact HB.out | refine pw_below_drewN ?_ _)) (by omega) ?_; intro v1 w5 ho1 hb1; have HO1 := Lib.hid ho1; have HB5 := Lib.hid hb1; clear ho1 hb1)
          go_roundw
          case rel => exact ⟨j + 1, out ++ [(xk, xf)], by omega, by go_num, by rw [List.length_append, List.length_singleton]; omega, HST, HB5, HO1⟩
          case measure => simp [intOf]; omega
      · have hfin2 : fs.del k = out := by rw [HI.out, List.take_of_length_le (by rw [← HN.out]; omega)]
        have HE := Lib.hid hfin2
        obtain ⟨A9, c9, rfl⟩ := Kd.N_slice HO.out
        have HF := Lib.hid (HFIN.out wr (.slice A9 out.length c9) out (bnext HB1.out HB.out) (Kd.V_mono (Kd.N_V HO.out) (fun q hq => hq.elim .inl fun hh => .inr (by omega))))
        clear hfin2 HI
        go_wp2_with fail
        refine bodyPost_ret (results_ct rfl _ _ (w.heap.size + 1) 50 #[.slice A9 out.length c9] (0, 0) _ rfl (k1.set_ 0 _) Try.underlying50 rfl (by kernel_rfl)) rfl ?_
        rw [HE.out]
        exact ⟨_, rfl, HF.out⟩
/-- What the reference's Write leaves. -/
def Fs.wr (fs : Fs) (k : Int) (bs : List UInt8) : Fs := fs.putL k ⟨((fs.get k).getD ⟨[], 0⟩).bytes ++ bs, ((fs.get k).getD ⟨[], 0⟩).sure⟩
set_option maxRecDepth 8000 in
theorem rwrite_bad (v : Value) (fs : Fs) (k : Int) (xv : Value) (P : Nat → Prop) (w : World) (h : FV w P v fs) (hk : k < 0 ∨ 1099511627776 < k) :
    Calls Try.prog 20 #[.agg #[v], .int .i64 k, xv] w fun e w' => e = .returned (.tuple #[.agg #[v], .int .i64 1]) ∧ Below w.heap.size w w' := by
  obtain ⟨a, c, rfl⟩ := Kd.V_slice h
  clear h
  generalize fs.length = n
  have hb0 := bl_alloc (bl_alloc (Below.refl w.heap.size w) (.cells #[.slice a n c] 50)) (.cells #[.slice none 0 0] 50)
  have k1 := Blk.new (w.alloc (.cells #[.slice a n c] 50)) 50 #[.slice none 0 0]
  have c0 : ((w.alloc (.cells #[.slice a n c] 50)).alloc (.cells #[.slice none 0 0] 50)).cell? ⟨w.heap.size, 0, none⟩ = some (.slice a n c) := ((Blk.new w 50 #[.slice a n c]).alloc (.cells #[.slice none 0 0] 50)).cell 0
  rw [World.size_alloc] at k1
  have e0 := k1.cell 0
  have z1 := k1.frozen 0
  have HF := Lib.hid (bl_alloc (bl_alloc (Below.refl w.heap.size w) (.cells #[.slice a n c] 50)) (.cells #[.slice a n c] 50))
  have k2 := Blk.new (w.alloc (.cells #[.slice a n c] 50)) 50 #[.slice a n c]
  rw [World.size_alloc] at k2
  have HK1 := Lib.hid k2
  clear k1 k2 hb0
  by_cases h1 : k < 0
  · clear hk
    go_enter Try.func20, Try.ntmps20
    go_wp2_with fail
    refine bodyPost_ret (results_ct rfl _ _ (w.heap.size + 1) 50 #[.slice a n c] (0, 0) _ rfl HK1.out Try.underlying50 rfl (by kernel_rfl)) rfl ?_
    exact ⟨rfl, HF.out⟩
  · have h2 : 1099511627776 < k := hk.resolve_left h1
    clear hk
    go_enter Try.func20, Try.ntmps20
    go_wp2_with fail
    refine bodyPost_ret (results_ct rfl _ _ (w.heap.size + 1) 50 #[.slice a n c] (0, 0) _ rfl HK1.out Try.underlying50 rfl (by kernel_rfl)) rfl ?_
    exact ⟨rfl, HF.out⟩
set_option maxRecDepth 8000 in
set_option maxHeartbeats 2000000 in
theorem rwrite_good (P : Nat → Prop) (v : Value) (fs : Fs) (k : Int) (xa : Option Addr) (xn xc : Nat) (bs : List UInt8) (w : World) (h : FV w P v fs) (hl : fs.length ≤ 100000) (hk0 : 0 ≤ k) (hk1 : k ≤ 1099511627776)
    (hb : RowOf e8 0 w xa bs.length bs.length bs) (hxn : xn = bs.length) (hsz : ((fs.get k).getD ⟨[], 0⟩).bytes.length + bs.length ≤ 1000000) :
    Calls Try.prog 20 #[.agg #[v], .int .i64 k, .slice xa xn xc] w fun e w' => ∃ v', e = .returned (.tuple #[.agg #[v'], .int .i64 0]) ∧ FV w' (fun q => P q ∨ w.heap.size ≤ q) v' (fs.wr k bs) ∧ Below w.heap.size w w' := by
  subst hxn
  obtain ⟨a, c, rfl⟩ := Kd.V_slice h
  obtain ⟨n, hn⟩ : ∃ n, n = fs.length := ⟨_, rfl⟩
  rw [← hn] at h ⊢
  obtain ⟨m, hm⟩ : ∃ m, m = bs.length := ⟨_, rfl⟩
  generalize hw4 : ((w.alloc (.cells #[.slice a n c] 50)).alloc (.cells #[.slice none 0 0] 50)).alloc (.cells #[.int .i64 k, .slice none 0 0, .int .i64 0] 72) = w4
  have hb0 := bl_alloc (bl_alloc (bl_alloc (Below.refl w.heap.size w) (.cells #[.slice a n c] 50)) (.cells #[.slice none 0 0] 50)) (.cells #[.int .i64 k, .slice none 0 0, .int .i64 0] 72)
  have k0 := ((Blk.new w 50 #[.slice a n c]).alloc (.cells #[.slice none 0 0] 50)).alloc (.cells #[.int .i64 k, .slice none 0 0, .int .i64 0] 72)
  have k1 := (Blk.new (w.alloc (.cells #[.slice a n c] 50)) 50 #[.slice none 0 0]).alloc (.cells #[.int .i64 k, .slice none 0 0, .int .i64 0] 72)
  have k2 := Blk.new ((w.alloc (.cells #[.slice a n c] 50)).alloc (.cells #[.slice none 0 0] 50)) 72 #[.int .i64 k, .slice none 0 0, .int .i64 0]
  rw [hw4] at hb0 k0 k1 k2
  rw [World.size_alloc] at k1
  rw [World.size_alloc, World.size_alloc] at k2
  have hz4 : w4.heap.size = w.heap.size + 3 := by rw [← hw4]; simp [World.size_alloc]
  have HPC := Lib.hid (rplace_calls P _ fs k w4 (Kd.V_below h hb0) hl)
  have HW4 := Lib.hid hw4
  have HB0 := Lib.hid hb0
  have HK0 := Lib.hid k0
  have HK1 := Lib.hid k1
  have HK2 := Lib.hid k2
  have HX := Lib.hid fun W hB => hb.below (w' := W) hB
  have c0 : w4.cell? ⟨w.heap.size, 0, none⟩ = some (.slice a n c) := k0.cell 0
  have c2 : w4.cell? ⟨w.heap.size + 1 + 1, 0, none⟩ = some (.int .i64 k) := k2.cell 0
  have h1 : ¬ k < 0 := by omega
  have h2 : ¬ 1099511627776 < k := by omega
  have HFIN : Hid (∀ W vv l, Below w.heap.size w W → FV W (fun q => (P q ∧ q < w.heap.size) ∨ w4.heap.size ≤ q) vv l → FV (W.setCell ⟨w.heap.size + 1, 0, none⟩ vv) (fun q => P q ∨ w.heap.size ≤ q) vv l ∧ Below w.heap.size w (W.setCell ⟨w.heap.size + 1, 0, none⟩ vv)) := Lib.hid fun W vv l hB hN => ⟨Kd.V_mono (Kd.V_far (p := ⟨w.heap.size + 1, 0, none⟩) hN (fun q hq => by show q ≠ w.heap.size + 1; rcases hq with hq | hq <;> omega) vv) (fun q hq => hq.elim (fun hh => .inl hh.1) (fun hh => .inr (by omega))), below_set hB (by omega)⟩
  have HPU := Lib.hid fun W (hB : Below w.heap.size w W) u f (hu : BV W (fun q => (P q ∧ q < w.heap.size) ∨ w4.heap.size ≤ q) u f.bytes) => rput_calls (fun q => (P q ∧ q < w.heap.size) ∨ w4.heap.size ≤ q) (.slice a n c) fs k u f W (Kd.V_mono (Kd.V_below (w1 := W) (Kd.V_bound h) hB) (fun q hq => .inl hq)) hu hl
  unfold Fs.wr
  rcases place_get (fs := fs) (k := k) with ⟨hp, hg⟩ | ⟨i, hi, hp, hk, hg⟩
  · rw [hg] at hsz ⊢
    generalize place fs k = pl at *
    have hib : ¬ 0 ≤ pl := by omega
    have hm0 : bs.length ≤ 1000000 := by simpa using hsz
    clear h hg hn k0 k1 k2 hw4 hb0 hb hsz hk0 hk1 hp
    go_enter Try.func20, Try.ntmps20
    go_wp2_with fail
    rw [HW4.out]
    refine HPC.out.mono ?_
    rintro e w5 ⟨rfl, hb5⟩
    have HB45 := Lib.hid hb5
    have HB5 := Lib.hid (bnext HB0.out hb5)
    have hs5 := hb5.size
    have c3 : w5.cell? ⟨w.heap.size + 1 + 1, 1, none⟩ = some (.slice none 0 0) := (HK2.out.next hb5).cell 1
    clear hb5
    have HX5 := Lib.hid (HX.out w5 HB5.out)
    have HAP := Lib.hid fun ty => append_new (W4 := w5) (W := w5) (v := .slice none 0 0) (bs := []) (ns := bs) (xa := xa) (n := bs.length) (c := xc) ty (newBytes_nil w5) HX5.out rfl (by simpa using hm0)
    simp only [List.nil_append] at HAP
    generalize bs.length = mm at *
    go_wp2_with ((with_reducible refine gate_builtin (b := .append) (xs := #[.tmp 34, .tmp 35]) rfl ?_); at_builtin; refine wpList_append_ex _ rfl _ _ 22 rfl _ _ rfl rfl _ (HAP.out _) ?_; intro v6 w6 hN6; have HN6 := Lib.hid hN6; obtain ⟨⟨⟨a6, c6, rfl, _⟩, _⟩, _, hb6⟩ := hN6; have HB46 := Lib.hid (bnext HB45.out hb6); have HB6 := Lib.hid (bnext HB5.out hb6); clear hb6; have c0 : w6.cell? ⟨w.heap.size, 0, none⟩ = some (.slice a n c) := (HK0.out.next HB46.out).cell 0; have c4 : w6.cell? ⟨w.heap.size + 1 + 1, 2, none⟩ = some (.int .i64 0) := (HK2.out.next HB46.out).cell 2)
    have hbv : BV w6 (fun q => (P q ∧ q < w.heap.size) ∨ w4.heap.size ≤ q) (.slice a6 bs.length c6) bs := bv_of HN6.out.1.1 (fun j hj => .inr (by have := HN6.out.2.1 j hj; omega))
    refine (HPU.out w6 HB6.out _ ⟨bs, 0⟩ hbv).mono ?_
    rintro e w7 ⟨v', rfl, hv7, hb7⟩
    have hB7 := bnext HB6.out hb7
    have k1 := HK1.out.next (bnext HB46.out hb7)
    have e0 : w7.cell? ⟨w.heap.size + 1, 0, none⟩ = some (.slice none 0 0) := k1.cell 0
    have z1 := k1.frozen 0
    have hs6 := HB46.out.size
    obtain ⟨a7, c7, rfl⟩ := Kd.V_slice hv7
    have HF := Lib.hid (HFIN.out w7 _ _ hB7 (Kd.V_mono hv7 (fun q hq => hq.elim id fun hh => .inr (by omega))))
    clear hv7 hb7 hB7 HFIN HPU hbv
    go_wp2_with fail
    refine bodyPost_ret (results_ct rfl _ _ (w.heap.size + 1) 50 #[.slice a7 (fs.putL k ⟨bs, 0⟩).length c7] (0, 0) _ rfl (k1.set_ 0 _) Try.underlying50 rfl (by kernel_rfl)) rfl ?_
    exact ⟨_, rfl, HF.out⟩
  · rw [hg] at hsz ⊢
    rw [hp] at HPC
    have hib : 0 ≤ (i : Int) := by omega
    obtain ⟨ad, u, hix, hrc, hbu⟩ := FV.pick (Kd.V_bound h) i hi
    generalize fs[i] = x at *
    obtain ⟨xk, xf⟩ := x
    simp only at hk hrc hbu hg ⊢
    subst hk
    have hu : ∃ a1 c1, u = .slice a1 xf.bytes.length c1 := by
      obtain ⟨a1, c1, rfl⟩ := Kd.V_slice hbu
      exact ⟨a1, c1, by rw [ints_len]⟩
    obtain ⟨a1, c1, rfl⟩ := hu
    have HRC := Lib.hid hrc
    have HBV := Lib.hid fun W hB => (bv_row (Kd.V_below (w1 := W) hbu hB)).2
    have hm0 : xf.bytes.length + bs.length ≤ 1000000 := by simpa using hsz
    have HN := Lib.hid hn
    clear h hg hn k0 k1 k2 hw4 hb0 hb hsz hk0 hk1 hp hrc hbu hi
    go_enter Try.func20, Try.ntmps20
    go_wp2_with fail
    rw [HW4.out]
    refine HPC.out.mono ?_
    rintro e w5 ⟨rfl, hb5⟩
    have HB45 := Lib.hid hb5
    have HB5 := Lib.hid (bnext HB0.out hb5)
    have hs5 := hb5.size
    have k2 := HK2.out.next hb5
    obtain ⟨r0, r1, r2⟩ := HRC.out w5 HB5.out
    have c0 : w5.cell? ⟨w.heap.size, 0, none⟩ = some (.slice a n c) := (HK0.out.next hb5).cell 0
    have c3 : w5.cell? ⟨w.heap.size + 1 + 1, 0, none⟩ = some (.int .i64 xk) := k2.cell 0
    have c4 : w5.cell? ⟨w.heap.size + 1 + 1, 1, none⟩ = some (.slice none 0 0) := k2.cell 1
    have c5 : w5.cell? ⟨w.heap.size + 1 + 1, 2, none⟩ = some (.int .i64 0) := k2.cell 2
    have z0 := k2.frozen 0
    have z1 := k2.frozen 1
    have z2 := k2.frozen 2
    clear hb5
    go_upto_region 8 with fail
    generalize hw6 : ((w5.setCell ⟨w.heap.size + 1 + 1, 0, none⟩ (.int .i64 xk)).setCell ⟨w.heap.size + 1 + 1, 1, none⟩ (.slice a1 xf.bytes.length c1)).setCell ⟨w.heap.size + 1 + 1, 2, none⟩ (.int .i64 (xf.sure : Int)) = w6
    have hB6 : Below w.heap.size w w6 := by
      rw [← hw6]
      exact below_set (below_set (below_set HB5.out (by omega)) (by omega)) (by omega)
    have hs6 : w5.heap.size = w6.heap.size := by rw [← hw6]; simp [World.size_setCell]
    have k26 : Blk w6 (w.heap.size + 1 + 1) 72 #[.int .i64 xk, .slice a1 xf.bytes.length c1, .int .i64 (xf.sure : Int)] := by
      rw [← hw6]
      exact ((k2.set_ 0 _).set_ 1 _).set_ 2 _
    have k06 : Blk w6 w.heap.size 50 #[.slice a n c] := by
      rw [← hw6]
      have hh := HK0.out.next HB45.out
      exact ((hh.far (p := ⟨w.heap.size + 1 + 1, 0, none⟩) (by show w.heap.size ≠ w.heap.size + 1 + 1; omega) _).far (p := ⟨w.heap.size + 1 + 1, 1, none⟩) (by show w.heap.size ≠ w.heap.size + 1 + 1; omega) _).far (p := ⟨w.heap.size + 1 + 1, 2, none⟩) (by show w.heap.size ≠ w.heap.size + 1 + 1; omega) _
    have k16 : Blk w6 (w.heap.size + 1) 50 #[.slice none 0 0] := by
      rw [← hw6]
      have hh := HK1.out.next HB45.out
      exact ((hh.far (p := ⟨w.heap.size + 1 + 1, 0, none⟩) (by show w.heap.size + 1 ≠ w.heap.size + 1 + 1; omega) _).far (p := ⟨w.heap.size + 1 + 1, 1, none⟩) (by show w.heap.size + 1 ≠ w.heap.size + 1 + 1; omega) _).far (p := ⟨w.heap.size + 1 + 1, 2, none⟩) (by show w.heap.size + 1 ≠ w.heap.size + 1 + 1; omega) _
    have HB6 := Lib.hid hB6
    have HK26 := Lib.hid k26
    have HK06 := Lib.hid k06
    have HK16 := Lib.hid k16
    have d1 : w6.cell? ⟨w.heap.size + 1 + 1, 1, none⟩ = some (.slice a1 xf.bytes.length c1) := k26.cell 1
    have HAP := Lib.hid fun ty => append_new (W4 := w6) (W := w6) (v := .slice none 0 0) (bs := []) (ns := xf.bytes) (xa := a1) (n := xf.bytes.length) (c := c1) ty (newBytes_nil w6) (HBV.out w6 hB6) rfl (by simp; omega)
    simp only [List.nil_append] at HAP
    have HAP2 := Lib.hid fun W v ty (hN : NewBytes w6 W v xf.bytes) => append_new (W4 := w6) (W := W) (v := v) (bs := xf.bytes) (ns := bs) (xa := xa) (n := bs.length) (c := xc) ty hN (HX.out W (bnext hB6 hN.2.2)) rfl hm0
    obtain ⟨mm, hmm⟩ : ∃ mm, mm = bs.length := ⟨_, rfl⟩
    rw [← hmm] at HAP2 ⊢
    clear hw6 hB6 k26 k06 k16 r0 r1 r2 c0 c2 c3 c4 c5 z0 z1 z2 k2 hix hmm hm
    go_wp2_with (first | ((with_reducible refine gate_builtin (b := .append) (xs := #[.tmp 30, .tmp 32]) rfl ?_); at_builtin; refine wpList_append_ex _ rfl _ _ 22 rfl _ _ rfl rfl _ (HAP.out _) ?_; intro v7 w7 hN7; have HN7 := Lib.hid hN7; obtain ⟨⟨⟨a7, c7, rfl, _⟩, _⟩, _, _⟩ := hN7) | ((with_reducible refine gate_builtin (b := .append) (xs := #[.tmp 34, .tmp 35]) rfl ?_); at_builtin; refine wpList_append_ex _ rfl _ _ 22 rfl _ _ rfl rfl _ (HAP2.out _ _ _ HN7.out) ?_; intro v8 w8 hN8; have HN8 := Lib.hid hN8; obtain ⟨⟨⟨a8, c8, rfl, _⟩, _⟩, _, hb8⟩ := hN8; have HB8 := Lib.hid (bnext HB6.out hb8); have c0 : w8.cell? ⟨w.heap.size, 0, none⟩ = some (.slice a n c) := (HK06.out.next hb8).cell 0; have c4 : w8.cell? ⟨w.heap.size + 1 + 1, 2, none⟩ = some (.int .i64 (xf.sure : Int)) := (HK26.out.next hb8).cell 2; have HK18 := Lib.hid (HK16.out.next hb8); have hs8 := hb8.size; clear hb8))
    have hbv : BV w8 (fun q => (P q ∧ q < w.heap.size) ∨ w4.heap.size ≤ q) (.slice a8 (xf.bytes ++ bs).length c8) (xf.bytes ++ bs) := bv_of HN8.out.1.1 (fun j hj => .inr (by have := HN8.out.2.1 j hj; omega))
    have hput := HPU.out w8 HB8.out _ ⟨xf.bytes ++ bs, xf.sure⟩ hbv
    simp only [List.length_append] at hput
    refine hput.mono ?_
    rintro e w9 ⟨v', rfl, hv9, hb9⟩
    have hB9 := bnext HB8.out hb9
    have k1 := HK18.out.next hb9
    have e0 : w9.cell? ⟨w.heap.size + 1, 0, none⟩ = some (.slice none 0 0) := k1.cell 0
    have z1 := k1.frozen 0
    obtain ⟨a9, c9, rfl⟩ := Kd.V_slice hv9
    have HF := Lib.hid (HFIN.out w9 _ _ hB9 (Kd.V_mono hv9 (fun q hq => hq.elim id fun hh => .inr (by omega))))
    clear hv9 hb9 hB9 HFIN HPU hbv hput
    go_wp2_with fail
    refine bodyPost_ret (results_ct rfl _ _ (w.heap.size + 1) 50 #[.slice a9 (fs.putL xk ⟨xf.bytes ++ bs, xf.sure⟩).length c9] (0, 0) _ rfl (k1.set_ 0 _) Try.underlying50 rfl (by kernel_rfl)) rfl ?_
    exact ⟨_, rfl, HF.out⟩
end Go.Proofs.Ytajkjbhijikggaa.Tele
