/- The walk of the law DiskTwice. No conditions. -/
import Derived.Test.YtajkjbhijikggaaBytes
namespace Go.Proofs.Ytajkjbhijikggaa.Tele
open Go.RowKit
set_option linter.unusedVariables false
set_option linter.unusedSimpArgs false

/-- All that is there is sure, and is something. -/
def Firm (l : Fs) : Prop := ∀ p ∈ l, p.2.sure = p.2.bytes.length ∧ 0 < p.2.bytes.length
theorem cstep_firm : ∀ (l : Fs) (a : Fs × Nat), (∀ p ∈ l, p.2.sure ≤ p.2.bytes.length) → Firm a.1 → Firm (l.foldl Fs.cstep a).1
  | [], a, _, h => h
  | p :: r, a, hs, h => by
    rw [List.foldl_cons]
    refine cstep_firm r _ (fun q hq => hs q (List.mem_cons_of_mem _ hq)) ?_
    unfold Fs.cstep
    simp only
    have hle := Fs.left_le p.2 a.2 (hs p List.mem_cons_self)
    split
    · exact h
    · intro q hq
      rcases List.mem_append.1 hq with hq | hq
      · exact h q hq
      · rw [List.mem_singleton.1 hq]
        simp only
        rw [List.length_take]
        omega
theorem firm_crash (l : Fs) (x : Nat) (hs : ∀ p ∈ l, p.2.sure ≤ p.2.bytes.length) : Firm (l.crash x) := by
  unfold Fs.crash Fs.crashI
  rw [List.take_length]
  exact cstep_firm l _ hs (fun p hp => by cases hp)
theorem cstep_same : ∀ (l acc : Fs) (d : Nat), Firm l → l.foldl Fs.cstep (acc, d) = (acc ++ l, d)
  | [], acc, d, _ => by simp
  | p :: r, acc, d, h => by
    obtain ⟨h1, h2⟩ := h p List.mem_cons_self
    rw [List.foldl_cons]
    have e : Fs.cstep (acc, d) p = (acc ++ [p], d) := by
      unfold Fs.cstep Fs.left
      simp only
      rw [h1, Nat.sub_self, Nat.zero_add, Nat.mod_one, Nat.add_zero, Nat.div_one, if_neg (by omega), List.take_length]
      obtain ⟨k, b, s⟩ := p
      simp only at h1
      rw [h1]
    rw [e, cstep_same r _ d (fun q hq => h q (List.mem_cons_of_mem _ hq)), List.append_assoc]
    rfl
theorem crash_firm (l : Fs) (x : Nat) (h : Firm l) : l.crash x = l := by
  unfold Fs.crash Fs.crashI
  rw [List.take_length, cstep_same l [] x h]
  rfl
theorem MineD.small {own : Bool} {w0 w : World} {d : Nat} {fs : Fs} (h : MineD own w0 w d fs) : ∀ p ∈ fs, p.2.sure ≤ p.2.bytes.length := by
  obtain ⟨O, h1, ⟨b, m, F, V, h2⟩, h3⟩ := h
  intro p hp
  rw [h2.abs] at hp
  obtain ⟨e, he, rfl⟩ := List.mem_map.1 hp
  exact (h2.small e he).1
theorem get_at : ∀ {l : Fs}, l.keys.Pairwise (· < ·) → ∀ (j : Nat) (h : j < l.length), l.get l[j].1 = some l[j].2
  | p :: r, hs, 0, _ => by
    rw [Fs.get_cons]
    exact if_pos rfl
  | p :: r, hs, j + 1, h => by
    have hs' := List.pairwise_cons.1 (show (p.1 :: r.map (·.1)).Pairwise (· < ·) from hs)
    have hlt := hs'.1 (r[j]'(by simpa using h)).1 (List.mem_map.2 ⟨_, List.getElem_mem _, rfl⟩)
    rw [Fs.get_cons, if_neg]
    · exact get_at hs'.2 j _
    · show ¬ p.1 = (r[j]'_).1
      omega
theorem MineD.wf {own : Bool} {w0 w : World} {d : Nat} {fs : Fs} (h : MineD own w0 w d fs) : ∀ p ∈ fs, (Lit.int .i64 p.1).wf = true := by
  obtain ⟨O, h1, ⟨b, m, F, V, h2⟩, h3⟩ := h
  intro p hp
  rw [h2.abs] at hp
  obtain ⟨e, he, rfl⟩ := List.mem_map.1 hp
  obtain ⟨k0, k1⟩ := h2.keys e he
  exact wf_i64 (by simp only; omega) (by simp only; omega)
theorem MineD.big {own : Bool} {w0 w : World} {d : Nat} {fs : Fs} (h : MineD own w0 w d fs) : ∀ p ∈ fs, p.2.bytes.length ≤ 1000000 := by
  obtain ⟨O, h1, ⟨b, m, F, V, h2⟩, h3⟩ := h
  intro p hp
  rw [h2.abs] at hp
  obtain ⟨e, he, rfl⟩ := List.mem_map.1 hp
  exact (h2.small e he).2
/-- What the first loop has made. -/
structure TwRel (fs : Fs) (k : Nat) : Prop where
  len : fs.length ≤ k
  big : ∀ p ∈ fs, p.2.bytes.length ≤ k * 8
theorem TwRel.write {fs : Fs} {k : Nat} (h : TwRel fs k) (no : Int) (bs : List UInt8) (hb : bs.length ≤ 8) : TwRel (fs.write no bs) (k + 1) :=
  ⟨by have := Fs.len_write fs no bs; have := h.len; omega, by rw [show (k + 1) * 8 = k * 8 + 8 by omega]; exact Fs.big_write fs no bs _ 8 h.big hb⟩
theorem TwRel.sync {fs : Fs} {k : Nat} (h : TwRel fs k) (no : Int) : TwRel (fs.sync no) k := by
  unfold Fs.sync
  cases hg : fs.get no with
  | none => exact h
  | some f =>
    obtain ⟨k', hf⟩ := Fs.get_mem' hg
    refine ⟨by simp only; rw [Fs.turn, List.length_map]; exact h.len, fun p hp => ?_⟩
    simp only at hp
    unfold Fs.turn at hp
    obtain ⟨q, hq, rfl⟩ := List.mem_map.1 hp
    split
    · exact h.big (k', f) hf
    · exact h.big q hq
/-- Bytes that were just made are written. -/
theorem dwrite_made (w0 : World) (d : Nat) (fs : Fs) (k : Int) (v : Value) (bs : List UInt8) (W W1 : World) (h : MineD true w0 W d fs) (hb : Below W.heap.size W W1) (ho : W1.ownsRow W.heap.size 5 1 v bs.length (bs.map e8)) (hk0 : 0 ≤ k) (hk1 : k ≤ 1099511627776)
    (hl : fs.length < 100000) (hsz : (((fs.get k).map (·.bytes)).getD []).length + bs.length ≤ 1000000) :
    Calls Try.prog 11 #[.pointer (some ⟨d, 0, none⟩), .int .i64 k, v] W1 fun e w' => e = .returned (.int .u16 0) ∧ MineD true w0 w' d (fs.write k bs) := by
  obtain ⟨O, h1, h2, h3⟩ := h
  have hO : ∀ j, O j → j < W.heap.size := by obtain ⟨b, m, F, V, hh⟩ := h2; exact hh.hO
  have hat := own_at ho
  obtain ⟨a, cap, rfl, hr⟩ := bytes_of ho
  refine (write_calls O d fs k a cap bs W1 (h2.next hb) hk0 hk1 hr (fun ad had hp hoo => ?_) hl hsz).mono ?_
  · have := (hat ad.block (by rw [had]; rfl)).1
    have := hO _ hoo
    omega
  · rintro e w' ⟨rfl, O', hD, hO', hc⟩
    exact ⟨rfl, mine_of h1 (bnext h3 hb) hD hO' hc⟩
/-- What holds while a deed is read. -/
abbrev HeldW (w : World) (ad : Addr) (a0 a1 a2 a3 : Int) (W : World) : Prop :=
  W.cell? ad = some (.int .u8 a0) ∧ W.cell? ⟨ad.block, ad.off + 1, none⟩ = some (.int .u8 a1) ∧ W.cell? ⟨ad.block, ad.off + 2, none⟩ = some (.int .u8 a2) ∧ W.cell? ⟨ad.block, ad.off + 3, none⟩ = some (.int .u8 a3) ∧ Below w.heap.size w W
theorem heldW_of {w W : World} {ca : Option Addr} {len cap : Nat} {zs : Nat → Nat → Int} (h : DeedRow [.u8, .u8, .u8, .u8] w ca len cap zs) (k : Nat) (hk : k < len) (hb : Below w.heap.size w W) : HeldW w (adr ca (k * [IntKind.u8, .u8, .u8, .u8].length)) (zs k 0) (zs k 1) (zs k 2) (zs k 3) W :=
  ⟨((h.below hb).field0 k hk _ rfl).1, ((h.below hb).fieldN k hk 1 (by decide) _ rfl).1, ((h.below hb).fieldN k hk 2 (by decide) _ rfl).1, ((h.below hb).fieldN k hk 3 (by decide) _ rfl).1, hb⟩
set_option maxRecDepth 8000 in
set_option maxHeartbeats 2000000 in
theorem diskTwice_walk (ca : Option Addr) (len cap : Nat) (zs : Nat → Nat → Int) (x y : Int) (w : World) (hc : DeedRow [.u8, .u8, .u8, .u8] w ca len cap zs) (hl : len * 4 ≤ 140737488351232) (hx : (Lit.int .u64 x).wf = true) (hy : (Lit.int .u64 y).wf = true) :
    Calls Try.prog 5 #[.slice ca len cap, .int .u64 x, .int .u64 y] w fun e w' => e = .returned (.bool true) ∧ Below w.heap.size w w' := by
  obtain ⟨x0, x1⟩ : 0 ≤ x ∧ x ≤ 18446744073709551615 := by simpa [Lit.wf, IntKind.min, IntKind.max, IntKind.bits, IntKind.signed] using hx
  obtain ⟨y0, y1⟩ : 0 ≤ y ∧ y ≤ 18446744073709551615 := by simpa [Lit.wf, IntKind.min, IntKind.max, IntKind.bits, IntKind.signed] using hy
  obtain ⟨X, rfl⟩ : ∃ X : Nat, x = (X : Int) := ⟨x.toNat, by omega⟩
  obtain ⟨Y, rfl⟩ : ∃ Y : Nat, y = (Y : Int) := ⟨y.toNat, by omega⟩
  have hl9 : (len : Int) ≤ 140737488351232 := by omega
  have DN := Lib.hid (dnew w)
  have HR := Lib.hid hc
  clear hc hl hx hy
  by_cases hlen : 60 < (len : Int)
  · go_enter Try.func5, Try.ntmps5
    go_wp2_with fail
    refine DN.out.mono ?_
    rintro e w1 ⟨dd, rfl, hM⟩
    have HM := Lib.hid hM
    clear hM
    go_wp2_with fail
    refine (known_calls _).mono ?_
    rintro e w2 ⟨rfl, hb⟩
    go_wp2
    go_ret
    exact ⟨rfl, (HM.out.next hb).below⟩
  · go_enter Try.func5, Try.ntmps5
    go_wp2_with fail
    refine DN.out.mono ?_
    rintro e w1 ⟨dd, rfl, hM⟩
    have HM := Lib.hid hM
    clear hM
    go_wp2_with fail
    refine (known_calls _).mono ?_
    rintro e w2 ⟨rfl, hb⟩
    have HM2 := Lib.hid (HM.out.next hb)
    clear hb HM
    go_wp2_with fail
    go_loopw [8] (fun i wr => ∃ (k : Nat) (fs : Fs), k ≤ len ∧ i = .int .i64 (k : Int) ∧ Hid (MineD true w wr dd fs) ∧ Hid (TwRel fs k)) (fun i _ => len - (intOf i).toNat)
    case atStart => exact ⟨0, [], by omega, rfl, HM2, Lib.hid ⟨by simp, by simp⟩⟩
    case round =>
      clear HM2
      obtain ⟨k, fs, hk, rfl, HT, HN⟩ := hrel
      by_cases hlt : (k : Int) < (len : Int)
      · have hrow := DeedRow.below HR.out HT.out.below
        have hix := fun W => hrow.index Try.prog 39 41 Try.underlying39 (by kernel_rfl) k (by omega) W
        have hS := heldW_of HR.out k (by omega) HT.out.below
        have HS := Lib.hid fun W hb => heldW_of (W := W) HR.out k (by omega) hb
        obtain ⟨p0, q0⟩ := u8_of_wf (hrow.field k (by omega) 0 _ rfl).2
        obtain ⟨p1, q1⟩ := u8_of_wf (hrow.field k (by omega) 1 _ rfl).2
        obtain ⟨p2, q2⟩ := u8_of_wf (hrow.field k (by omega) 2 _ rfl).2
        obtain ⟨p3, q3⟩ := u8_of_wf (hrow.field k (by omega) 3 _ rfl).2
        obtain ⟨z0, e0⟩ : ∃ z : Nat, zs k 0 = (z : Int) := ⟨(zs k 0).toNat, by omega⟩
        obtain ⟨z1, e1⟩ : ∃ z : Nat, zs k 1 = (z : Int) := ⟨(zs k 1).toNat, by omega⟩
        obtain ⟨z2, e2⟩ : ∃ z : Nat, zs k 2 = (z : Int) := ⟨(zs k 2).toNat, by omega⟩
        obtain ⟨z3, e3⟩ : ∃ z : Nat, zs k 3 = (z : Int) := ⟨(zs k 3).toNat, by omega⟩
        rw [e0, e1, e2, e3] at hS HS
        rw [e0] at p0 q0
        rw [e1] at p1 q1
        rw [e2] at p2 q2
        rw [e3] at p3 q3
        generalize adr ca (k * [IntKind.u8, .u8, .u8, .u8].length) = ad at *
        obtain ⟨no, hno⟩ : ∃ no : Nat, no = z1 % 4 := ⟨_, rfl⟩
        have hr1 : (z1 : Int).tmod 4 = (no : Int) := by rw [Int.tmod_eq_emod_of_nonneg (by omega)]; omega
        have hr2 : (z1 : Int) % 4 = (no : Int) := by omega
        have hno4 : (no : Int) < 4 := by omega
        have hwno : IntKind.i64.wrap (no : Int) = (no : Int) := IntWalk.i64_in _ (by omega)
        have HBY := Lib.hid fun W => bytes_calls z2 z3 W (by omega) (by omega)
        obtain ⟨bs, hbs⟩ : ∃ bs, bs = bytesM z2 z3 := ⟨_, rfl⟩
        have hbl : bs.length ≤ 8 := by rw [hbs, bytesM_len]; omega
        rw [← hbs] at HBY
        have HWR := Lib.hid fun v W W1 h hb ho => dwrite_made w dd fs (no : Int) v bs W W1 h hb ho (by omega) (by omega) (by have := HN.out.len; omega) (by have := Fs.get_big HN.out.big (no : Int); omega)
        have HN2 := Lib.hid (HN.out.write (no : Int) bs hbl)
        have HB2 : Hid (∀ W, Below wr.heap.size wr W → Calls Try.prog 17 #[.int .u8 (z2 : Int), .int .u8 (z3 : Int)] W fun e w' => ∃ v, e = .returned v ∧ HeldW w ad (z0 : Int) (z1 : Int) (z2 : Int) (z3 : Int) w' ∧ Calls Try.prog 11 #[.pointer (some ⟨dd, 0, none⟩), .int .i64 (no : Int), v] w' fun e w' => e = .returned (.int .u16 0) ∧ MineD true w w' dd (fs.write (no : Int) bs) ∧ HeldW w ad (z0 : Int) (z1 : Int) (z2 : Int) (z3 : Int) w') := Lib.hid fun W hW => by
          refine (HBY.out W).mono ?_
          rintro e w5 ⟨v, rfl, hb5, ho5⟩
          have hm := HT.out.next hW
          refine ⟨v, rfl, HS.out _ (hm.next hb5).below, (HWR.out v _ _ hm hb5 ho5).mono ?_⟩
          rintro e w6 ⟨rfl, hm6⟩
          exact ⟨rfl, hm6, HS.out _ hm6.below⟩
        clear e0 e1 e2 e3 hrow hno hbs
        go_wp2_with fail
        go_region_held3 (fun W => W.cell? ad = some (.int .u8 (z0 : Int)) ∧ W.cell? ⟨ad.block, ad.off + 1, none⟩ = some (.int .u8 (z1 : Int)) ∧ W.cell? ⟨ad.block, ad.off + 2, none⟩ = some (.int .u8 (z2 : Int)) ∧ W.cell? ⟨ad.block, ad.off + 3, none⟩ = some (.int .u8 (z3 : Int)) ∧ Below w.heap.size w W)
          (first | assumption | exact HS.out _ (pw_below_drewN HT.out.below _) | exact HS.out _ (Below.drew HT.out.below) | go_keep)
          (first | (go_at_call 17; (with_reducible refine (HB2.out _ (by repeat (first | exact Below.refl _ _ | refine pw_below_drewN ?_ _ | refine Below.drew ?_))).mono ?_); rintro e w5 ⟨v5, rfl, hs5, hw5⟩) | (go_at_call 11; (with_reducible refine hw5.mono ?_); rintro e w6 ⟨rfl, hm6, hs6⟩))
        have HM6 := Lib.hid hm6
        obtain ⟨fs2, hfs2⟩ : ∃ fs2, fs2 = fs.write (no : Int) bs := ⟨_, rfl⟩
        rw [← hfs2] at HM6 HN2
        obtain ⟨c0, c1, _, _⟩ := hs6
        clear hm6 hfs2 hS hs5 hw5 HWR HBY HB2 HT HN
        by_cases hz : z0 % 3 = 0
        · have hz0 : (z0 : Int) % 3 = 0 := by omega
          have SY := Lib.hid (dsync true w dd fs2 (no : Int) w6 HM6.out (wf_i64 (by omega) (by omega)))
          go_wp2_with fail
          refine SY.out.mono ?_
          rintro e w7 ⟨rfl, hm7⟩
          have HM7 := Lib.hid hm7
          have HN3 := Lib.hid (HN2.out.sync (no : Int))
          generalize (if (fs2.get (no : Int)).isSome = true then (0 : Int) else 71) = ee at *
          clear hm7 SY hz
          go_wp2_with fail
          go_roundw
          case rel => exact ⟨k + 1, _, by omega, by go_num, HM7, HN3⟩
          case measure => simp [intOf]; omega
        · obtain ⟨r, hr⟩ : ∃ r : Nat, (z0 : Int) % 3 = (r : Int) := ⟨z0 % 3, by omega⟩
          have hrz : ((r : Int) == 0) = false := by rw [beq_eq_false_iff_ne]; omega
          clear hz
          go_wp2_with fail
          go_roundw
          case rel => exact ⟨k + 1, fs2, by omega, by go_num, HM6, HN2⟩
          case measure => simp [intOf]; omega
      · have hf1 := firm_crash fs X HT.out.small
        have C1 := Lib.hid (dcrash true w dd fs X wr HT.out (by omega))
        obtain ⟨f1, hff⟩ : ∃ f1, f1 = fs.crash X := ⟨_, rfl⟩
        rw [← hff] at hf1 C1
        have CP := Lib.hid fun W h => two_copy false w dd f1 W h
        have C2 := Lib.hid fun c W h => by have := two_crash false true w dd c f1 f1 Y W h (by omega); rw [crash_firm f1 Y hf1] at this; exact this
        have HF := Lib.hid hf1
        have FL := Lib.hid fun o d W h => dfiles o w d f1 W h
        have RD := Lib.hid fun o d k W h hk => dread o w d f1 k W h hk
        have SU := Lib.hid fun o d k W h hk => dsure o w d f1 k W h hk
        clear hff hf1 HN HT HR
        go_wp2_with fail
        refine C1.out.mono ?_
        rintro e w3 ⟨rfl, hm3⟩
        have HM3 := Lib.hid hm3
        clear hm3 C1
        go_wp2_with fail
        refine (CP.out _ HM3.out).mono ?_
        rintro e w4 ⟨c, rfl, hm4⟩
        have HM4 := Lib.hid hm4
        clear hm4 HM3
        go_wp2_with fail
        refine (C2.out _ _ HM4.out).mono ?_
        rintro e w5 ⟨rfl, hm5⟩
        have HM5 := Lib.hid hm5
        clear hm5 HM4
        go_wp2_with fail
        refine (FL.out _ _ _ HM5.out.one).mono ?_
        rintro e w6 ⟨v, rfl, ⟨a6, c6, rfl, hr6, _⟩, hb6⟩
        obtain ⟨n, hn⟩ : ∃ n, n = (List.map (fun x : Int × FileM => x.1) f1).length := ⟨_, rfl⟩
        rw [← hn] at hr6 ⊢
        have HNN := Lib.hid hn
        clear hn
        have HM6 := Lib.hid (HM5.out.next hb6)
        have HR6 := Lib.hid hr6
        clear hb6 hr6 HM5
        go_wp2_with fail
        refine (FL.out _ _ _ HM6.out.swap.one).mono ?_
        rintro e w7 ⟨v, rfl, ⟨a7, c7, rfl, hr7, _⟩, hb7⟩
        rw [← HNN.out] at hr7 ⊢
        have HM7 := Lib.hid (HM6.out.next hb7)
        have HR67 := Lib.hid (HR6.out.below hb7)
        have HR7 := Lib.hid hr7
        have hn9 : n ≤ 9223372036854775807 := Nat.le_trans HR7.out.2.1 HR7.out.2.2.1
        have hnn : ((n : Int) == (n : Int)) = true := by simp
        clear hb7 hr7 HM6 HR6 FL C2 CP
        have hup : f1.keys.Pairwise (· < ·) := HM7.out.one.up
        have HUP := Lib.hid hup
        clear hup
        go_wp2_with fail
        go_loopw [12] (fun i wr => ∃ j : Nat, j ≤ n ∧ i = .int .i64 (j : Int) ∧ Hid (Two false true w wr dd f1 c f1) ∧ Hid (RowOf (Value.int .i64) 0 wr a6 n c6 (List.map (fun x => x.1) f1)) ∧ Hid (RowOf (Value.int .i64) 0 wr a7 n c7 (List.map (fun x => x.1) f1))) (fun i _ => n - (intOf i).toNat)
        case atStart => exact ⟨0, by omega, rfl, HM7, HR67, HR7⟩
        case round =>
          clear HM7 HR67 HR7
          obtain ⟨j, hj, rfl, HT, HA, HB⟩ := hrel
          by_cases hlt2 : (j : Int) < (n : Int)
          · have hjn : j < n := by omega
            have hjf : j < f1.length := by have := HNN.out; rw [List.length_map] at this; omega
            have hix6 := fun W => HA.out.index Try.prog 36 3 Try.underlying36 (by kernel_rfl) j hjn W
            have hix7 := fun W => HB.out.index Try.prog 36 3 Try.underlying36 (by kernel_rfl) j hjn W
            have hcl6 := HA.out.cell j hjn
            have hcl7 := HB.out.cell j hjn
            have hgd : (List.map (fun x : Int × FileM => x.1) f1).getD j 0 = f1[j].1 := by rw [List.getD_eq_getElem?_getD, List.getElem?_map, List.getElem?_eq_getElem hjf]; rfl
            rw [hgd] at hcl6 hcl7
            obtain ⟨hfs, hfp⟩ := HF.out f1[j] (List.getElem_mem hjf)
            have hgt := get_at HUP.out j hjf
            have hKw : (Lit.int .i64 f1[j].1).wf = true := HT.out.one.wf _ (List.getElem_mem hjf)
            have hfl := HT.out.one.big _ (List.getElem_mem hjf)
            obtain ⟨K, hK⟩ : ∃ K, K = f1[j].1 := ⟨_, rfl⟩
            obtain ⟨f, hf⟩ : ∃ f, f = f1[j].2 := ⟨_, rfl⟩
            rw [← hK, ← hf] at hgt
            rw [← hK] at hcl6 hcl7 hKw
            rw [← hf] at hfs hfl
            have R1 := Lib.hid fun o d W h => by have := RD.out o d K W h hKw; rw [hgt, show (some f).isSome = true from rfl, if_pos rfl] at this; exact this
            have U1 := Lib.hid fun o d W h => by have := SU.out o d K W h hKw; rw [hgt] at this; exact this
            have HFS := Lib.hid hfs
            have HFL := Lib.hid hfl
            generalize hadx : adr a6 j = ad6 at *
            generalize hady : adr a7 j = ad7 at *
            have HADX := Lib.hid hadx
            have HADY := Lib.hid hady
            have HCL : Hid (∀ W, Below wr.heap.size wr W → W.cell? ad6 = some (.int .i64 K) ∧ W.cell? ad7 = some (.int .i64 K)) := Lib.hid fun W hW => by
              have h6 := (HA.out.below hW).cell j hjn
              have h7 := (HB.out.below hW).cell j hjn
              rw [hgd, ← hK, hadx] at h6
              rw [hgd, ← hK, hady] at h7
              exact ⟨h6, h7⟩
            clear hgt hgd hfs hfp hK hf hadx hady hfl hKw
            go_wp2_with fail
            refine (R1.out _ _ _ HT.out.one).mono ?_
            rintro e w8 ⟨v8, rfl, hb8, ho8⟩
            have ho8' : w8.ownsRow _ 5 1 v8 f.bytes.length (f.bytes.map e8) := ho8
            have hby8 := bytes_of ho8'
            obtain ⟨a8, c8, rfl, hr8⟩ := hby8
            have HR8 := Lib.hid hr8
            have HB8 := Lib.hid hb8
            obtain ⟨d6, d7⟩ := HCL.out w8 hb8
            clear ho8 ho8' hr8 hb8 hcl6 hcl7
            go_wp2_with fail
            refine (R1.out _ _ _ (HT.out.next HB8.out).swap.one).mono ?_
            rintro e w9 ⟨v9, rfl, hb9, ho9⟩
            have ho9' : w9.ownsRow _ 5 1 v9 f.bytes.length (f.bytes.map e8) := ho9
            have hby9 := bytes_of ho9'
            obtain ⟨a9, c9, rfl, hr9⟩ := hby9
            have hb89 := bnext HB8.out hb9
            have HT9 := Lib.hid fun m => HT.out.next (pw_below_drewN hb89 m)
            have HA9 := Lib.hid fun m => HA.out.below (pw_below_drewN hb89 m)
            have HB9 := Lib.hid fun m => HB.out.below (pw_below_drewN hb89 m)
            obtain ⟨g6, g7⟩ := HCL.out w9 hb89
            have hs8 := fun m => str_of (w := w9.drewN m) (v := .slice a8 f.bytes.length c8) (bs := f.bytes) ⟨a8, c8, rfl, HR8.out.below (pw_below_drewN hb9 m)⟩
            have hs9 := fun m => str_of (w := w9.drewN m) (v := .slice a9 f.bytes.length c9) (bs := f.bytes) ⟨a9, c9, rfl, hr9⟩
            have U2 := Lib.hid fun m => U1.out _ _ (w9.drewN m) (HT9.out m).one
            have hbl : f.bytes.length ≤ 1000000 := HFL.out
            rw [show ((Option.map (fun x => x.sure) (some f)).getD 0 : Nat) = f.bytes.length from HFS.out] at U2
            generalize (⟨f.bytes.toArray⟩ : ByteArray) = SX at *
            generalize f.bytes.length = nb at *
            have hqq : ((nb : Int) == (nb : Int)) = true := by simp
            have hKK : ((K : Int) == (K : Int)) = true := by simp
            clear hb9 ho9 ho9' hr9 hb89 HT HA HB HB8 HR8 d6 d7
            go_wp2_with fail
            go_quiet ((go_at_call 13; exact Calls.quiet_of_same (U2.out _)))
            go_wp2
            go_roundw
            case rel => exact ⟨j + 1, by omega, by go_num, Lib.hid (HT9.out _), Lib.hid (HA9.out _), Lib.hid (HB9.out _)⟩
            case measure => simp [intOf]; omega
          · go_wp2_with fail
            go_ret
            exact ⟨rfl, HT.out.one.below⟩
end Go.Proofs.Ytajkjbhijikggaa.Tele
