/- The walk of the law SendDoes. No conditions. -/
import Derived.Test.YtelodofjokmfjaaPairS
import Derived.Test.YtelodofjokmfjaaOpenDeeds
import Derived.Deep.RegionHeld3
namespace Go.Proofs.Ytelodofjokmfjaa.Tele
open Go.RowKit Go.Proofs.YtelodofjokmfjaaW.PrintWords
set_option linter.unusedVariables false
set_option linter.unusedSimpArgs false

theorem nat_of_wf {x : Int} (h : (Lit.int .u64 x).wf = true) : ∃ q : Nat, x = (q : Int) ∧ q ≤ 18446744073709551615 := by
  have h' : 0 ≤ x ∧ x ≤ 18446744073709551615 := by simpa [Lit.wf, IntKind.min, IntKind.max, IntKind.bits, IntKind.signed] using h
  exact ⟨x.toNat, by omega, by omega⟩
/-- A deed's cells. -/
abbrev HeldE (ad : Addr) (a0 a1 a2 a3 : Int) (W : World) : Prop :=
  W.cell? ad = some (.int .u8 a0) ∧ W.cell? ⟨ad.block, ad.off + 1, none⟩ = some (.int .u8 a1) ∧ W.cell? ⟨ad.block, ad.off + 2, none⟩ = some (.int .u8 a2) ∧ W.cell? ⟨ad.block, ad.off + 3, none⟩ = some (.int .u64 a3)
theorem heldE_of {w W : World} {ca : Option Addr} {len cap : Nat} {zs : Nat → Nat → Int} (h : DeedRow [.u8, .u8, .u8, .u64] w ca len cap zs) (k : Nat) (hk : k < len) (hb : Below w.heap.size w W) : HeldE (adr ca (k * [IntKind.u8, .u8, .u8, .u64].length)) (zs k 0) (zs k 1) (zs k 2) (zs k 3) W :=
  ⟨((h.below hb).field0 k hk _ rfl).1, ((h.below hb).fieldN k hk 1 (by decide) _ rfl).1, ((h.below hb).fieldN k hk 2 (by decide) _ rfl).1, ((h.below hb).fieldN k hk 3 (by decide) _ rfl).1⟩
theorem set4 {w : World} {g : Nat} {t : TypeId} {v v' : Value} {a b c : Value} (h : Blk w g t #[v, a, b, c]) : Blk ((((w.setCell ⟨g, 0, none⟩ v').setCell ⟨g, 1, none⟩ a).setCell ⟨g, 2, none⟩ b).setCell ⟨g, 3, none⟩ c) g t #[v', a, b, c] :=
  (((h.set_ 0 v').set_ 1 a).set_ 2 b).set_ 3 c
theorem pair_set4 {w0 w : World} {p : Nat} {G : Nat → Prop} {v : Value} {s : St} {L : Bs} (h : PairS w0 w p G v s L) {g : Nat} (hg : G g) (x0 x1 x2 x3 : Value) : PairS w0 ((((w.setCell ⟨g, 0, none⟩ x0).setCell ⟨g, 1, none⟩ x1).setCell ⟨g, 2, none⟩ x2).setCell ⟨g, 3, none⟩ x3) p G v s L :=
  (((h.set hg 0 x0).set hg 1 x1).set hg 2 x2).set hg 3 x3
set_option maxRecDepth 8000 in
set_option maxHeartbeats 40000000 in
theorem sendDoes_walk (fy by_ my : Int) (ca : Option Addr) (len cap : Nat) (zs : Nat → Nat → Int) (raw : Int) (w : World) (hfy : (Lit.int .u8 fy).wf = true) (hby : (Lit.int .u8 by_).wf = true) (hmy : (Lit.int .u8 my).wf = true)
    (hc : DeedRow [.u8, .u8, .u8, .u64] w ca len cap zs) (hl : len * 16 ≤ 140737488351232) (hraw : (Lit.int .i64 raw).wf = true) :
    Calls Try.prog 6 #[.int .u8 fy, .int .u8 by_, .int .u8 my, .slice ca len cap, .int .i64 raw] w fun e w' => e = .returned (.bool true) ∧ Below w.heap.size w w' := by
  obtain ⟨fy0, fy1⟩ := u8_of_wf hfy
  obtain ⟨by0, by1⟩ := u8_of_wf hby
  obtain ⟨my0, my1⟩ := u8_of_wf hmy
  have HR := Lib.hid hc
  have HRAW := Lib.hid hraw
  have hl9 : (len : Int) ≤ 140737488351232 := by omega
  clear hc hl hraw hfy hby hmy
  by_cases hlen : 80 < (len : Int)
  · go_enter Try.func6, Try.ntmps6
    go_wp2_with fail
    refine (known_calls _).mono ?_
    rintro e w2 ⟨rfl, hb⟩
    go_wp2
    go_ret
    exact ⟨rfl, hb⟩
  · obtain ⟨F, hF, hF1, hF2⟩ : ∃ F : Nat, 1 + fy % 6 = (F : Int) ∧ 1 ≤ F ∧ F ≤ 6 := ⟨(1 + fy % 6).toNat, by omega, by omega, by omega⟩
    obtain ⟨B, hB, hB1, hB2⟩ : ∃ B : Nat, 1 + by_ % 5 = (B : Int) ∧ 1 ≤ B ∧ B ≤ 5 := ⟨(1 + by_ % 5).toNat, by omega, by omega, by omega⟩
    obtain ⟨M, hM, hM1, hM2⟩ : ∃ M : Nat, (B : Int) + my % 20 = (M : Int) ∧ B ≤ M ∧ M ≤ 24 := ⟨((B : Int) + my % 20).toNat, by omega, by omega, by omega⟩
    go_enter Try.func6, Try.ntmps6
    go_wp2_with fail
    refine (known_calls _).mono ?_
    rintro e w1 ⟨rfl, hb⟩
    have HB1 := Lib.hid hb
    clear hb
    go_wp2_with fail
    refine (mine_new F B M w1 hF1 (by omega) hB1 hM1 (by omega)).mono ?_
    rintro e w2 ⟨p, rfl, hm⟩
    have HMI := Lib.hid hm
    clear hm
    go_wp2_with fail
    refine (rnew F B M w2 hF1 (by omega) hB1 hM1 (by omega)).mono ?_
    rintro e w3 ⟨v, rfl, hR, hb3⟩
    have hP0 := pairs_start HMI.out hR hb3
    have hP := (hP0.alloc (.cells #[v, .int .i64 (F : Int), .int .i64 (B : Int), .int .i64 (M : Int)] 41)).fewer (G' := fun q => q = w3.heap.size) (fun q hq => .inr hq)
    have HP := Lib.hid hP
    have HG := Lib.hid (Blk.new w3 41 #[v, .int .i64 (F : Int), .int .i64 (B : Int), .int .i64 (M : Int)])
    obtain ⟨a0, c0, rfl⟩ := hP.slice
    clear hP hP0 hR hb3 HMI
    go_wp2_with fail
    generalize w3.heap.size = g at *
    generalize w3.alloc _ = w4 at *
    clear hF hB hM
    go_loopw [14, 15] (fun nv i wr => ∃ (k nw : Nat) (v : Value) (s : St), k ≤ len ∧ i = .int .i64 (k : Int) ∧ nv = .int .i64 (nw : Int) ∧ nw ≤ 4 * k ∧ Hid (PairS w1 wr p (fun q => q = g) v s s.l) ∧ Hid (SRel s F B M k) ∧ Hid (Blk wr g 41 #[v, .int .i64 (F : Int), .int .i64 (B : Int), .int .i64 (M : Int)])) (fun _ i _ => len - (intOf i).toNat)
    case atStart => exact ⟨0, 0, _, ⟨[], F, B, M, 0⟩, by omega, rfl, rfl, by omega, HP, Lib.hid ⟨by simp, by simp, List.Pairwise.nil, rfl, rfl, rfl, rfl⟩, HG⟩
    case round =>
      clear HP HG
      obtain ⟨k, nw, v, s, hk, rfl, rfl, hnw, HT, HN, HG⟩ := hrel
      by_cases hlt : (k : Int) < (len : Int)
      · have hbw := bnext HB1.out HT.out.below
        have hrow := DeedRow.below HR.out hbw
        have hix := fun W => hrow.index Try.prog 38 45 Try.underlying38 (by kernel_rfl) k (by omega) W
        have hS := heldE_of HR.out k (by omega) hbw
        have HS := Lib.hid fun W hb => heldE_of (W := W) HR.out k (by omega) hb
        obtain ⟨p0, q0⟩ := u8_of_wf (hrow.field k (by omega) 0 _ rfl).2
        obtain ⟨p1, q1⟩ := u8_of_wf (hrow.field k (by omega) 1 _ rfl).2
        obtain ⟨p2, q2⟩ := u8_of_wf (hrow.field k (by omega) 2 _ rfl).2
        have hw3 := (hrow.field k (by omega) 3 _ rfl).2
        obtain ⟨z0, e0⟩ : ∃ z : Nat, zs k 0 = (z : Int) := ⟨(zs k 0).toNat, by omega⟩
        obtain ⟨z1, e1⟩ : ∃ z : Nat, zs k 1 = (z : Int) := ⟨(zs k 1).toNat, by omega⟩
        obtain ⟨z2, e2⟩ : ∃ z : Nat, zs k 2 = (z : Int) := ⟨(zs k 2).toNat, by omega⟩
        obtain ⟨D, e3⟩ : ∃ D : U, zs k 3 = (D.toNat : Int) := by
          obtain ⟨d, hd, hd2⟩ := nat_of_wf hw3
          exact ⟨BitVec.ofNat 64 d, by rw [hd, BitVec.toNat_ofNat, Nat.mod_eq_of_lt (by omega)]⟩
        rw [e0, e1, e2, e3] at hS HS
        rw [e0] at p0 q0
        rw [e1] at p1 q1
        rw [e2] at p2 q2
        generalize adr ca (k * [IntKind.u8, .u8, .u8, .u64].length) = ad at *
        clear e0 e1 e2 e3 hrow hw3 hbw
        obtain ⟨hs0, hs1, hs2, hs3⟩ := hS
        have ha5 : (z1 : Int) % 5 = ((z1 % 5 : Nat) : Int) := by omega
        have ha5l : z1 % 5 < 5 := Nat.mod_lt _ (by omega)
        generalize z1 % 5 = a5 at *
        obtain ⟨nw2, hnw2⟩ : ∃ nw2 : Nat, (nw : Int) + (a5 : Int) = (nw2 : Int) := ⟨nw + a5, by omega⟩
        have hnw3 : nw2 ≤ 4 * (k + 1) := by omega
        have hr2 : (z2 : Int) % 14 = ((z2 % 14 : Nat) : Int) := by omega
        have hno4 : z2 % 14 < 14 := Nat.mod_lt _ (by omega)
        generalize z2 % 14 = nm at *
        have hk9 : k ≤ 80 := by omega
        obtain ⟨rr, hrr⟩ : ∃ rr : Nat, rr = z0 % 5 := ⟨_, rfl⟩
        have hr5 : (z0 : Int) % 5 = (rr : Int) := by omega
        have hrl : rr < 5 := by omega
        have hln := HN.out.len
        clear hrr hnw
        by_cases hz : (250 : Int) < (z2 : Int)
        · have HSW : Hid ((Lit.int .i64 raw).wf = true) := HRAW
          match rr, hrl with
          | 0, _ =>
            as_aux_lemma =>
              go_upto_region 15 with fail
              have HC1 := Lib.hid (rput raw s HT.out (by omega))
              rw [HN.out.fly, HN.out.base, HN.out.most] at HC1
              have hg0 := HG.out
              have c0 : wr.cell? ⟨g, 0, none⟩ = some (v) := hg0.cell 0
              have c1 : wr.cell? ⟨g, 1, none⟩ = some (.int .i64 (F : Int)) := hg0.cell 1
              have c2 : wr.cell? ⟨g, 2, none⟩ = some (.int .i64 (B : Int)) := hg0.cell 2
              have c3 : wr.cell? ⟨g, 3, none⟩ = some (.int .i64 (M : Int)) := hg0.cell 3
              have HN2 := Lib.hid (HN.out.put raw)
              obtain ⟨bb, hbb⟩ : ∃ bb : Bool, bb = decide (¬ (s.has raw = true ∨ raw < 0)) := ⟨_, rfl⟩
              have HBB := Lib.hid hbb
              rw [← hbb] at HC1
              obtain ⟨s2, hs2⟩ : ∃ s2, s2 = s.put raw := ⟨_, rfl⟩
              have HS2 := Lib.hid hs2
              rw [← hs2] at HC1 HN2
              clear hs2
              obtain ⟨av, cv, hv⟩ := HT.out.slice
              rw [hv] at c0 HC1
              clear hbb hg0 hv
              go_wp2_with fail
              refine HC1.out.mono ?_
              clear hs0 hs1 hs2 hs3 hix
              rintro e w6 ⟨v6, rfl, hp6, hk6⟩
              have hg6 := HG.out.kept hk6 rfl
              have HP7 := Lib.hid (hp6.alloc (.cells #[v6, .int .i64 (F : Int), .int .i64 (B : Int), .int .i64 (M : Int)] 41))
              have HG7 := Lib.hid (hg6.alloc (.cells #[v6, .int .i64 (F : Int), .int .i64 (B : Int), .int .i64 (M : Int)] 41))
              have HH7 := Lib.hid (Blk.new w6 41 #[v6, .int .i64 (F : Int), .int .i64 (B : Int), .int .i64 (M : Int)])
              obtain ⟨a6, c6, rfl⟩ := hp6.slice
              clear hp6 hk6 hg6 HT HG HC1 c0 c1 c2 c3
              go_wp2_with fail
              have hc2 := sput raw HP7.out HSW.out (by omega)
              rw [show (!decide (s.has raw = true ∨ raw < 0)) = bb by rw [HBB.out, decide_not]] at hc2
              rw [← HS2.out] at hc2
              have HC2 := Lib.hid hc2
              clear hc2
              generalize w6.alloc _ = w7 at *
              generalize w6.heap.size = g2 at *
              refine HC2.out.mono ?_
              rintro e w8 ⟨rfl, hp8, hk8⟩
              have hg8 := HG7.out.kept hk8 (.inl rfl)
              have hh8 := HH7.out.kept hk8 (.inr rfl)
              have hbb2 : (bb == bb) = true := by simp
              have d0 : w8.cell? ⟨g2, 0, none⟩ = some (.slice a6 s2.l.length c6) := hh8.cell 0
              have d1 : w8.cell? ⟨g2, 1, none⟩ = some (.int .i64 (F : Int)) := hh8.cell 1
              have d2 : w8.cell? ⟨g2, 2, none⟩ = some (.int .i64 (B : Int)) := hh8.cell 2
              have d3 : w8.cell? ⟨g2, 3, none⟩ = some (.int .i64 (M : Int)) := hh8.cell 3
              have c0 : w8.cell? ⟨g, 0, none⟩ = some (v) := hg8.cell 0
              have c1 : w8.cell? ⟨g, 1, none⟩ = some (.int .i64 (F : Int)) := hg8.cell 1
              have c2 : w8.cell? ⟨g, 2, none⟩ = some (.int .i64 (B : Int)) := hg8.cell 2
              have c3 : w8.cell? ⟨g, 3, none⟩ = some (.int .i64 (M : Int)) := hg8.cell 3
              have f0 := hg8.frozen 0
              have f1 := hg8.frozen 1
              have f2 := hg8.frozen 2
              have f3 := hg8.frozen 3
              have HPX := Lib.hid ((pair_set4 hp8 (g := g) (.inl rfl) (.slice a6 s2.l.length c6) (.int .i64 (F : Int)) (.int .i64 (B : Int)) (.int .i64 (M : Int))).fewer (G' := fun q => q = g) (fun q hq => .inl hq))
              have HGX := Lib.hid (set4 (v' := .slice a6 s2.l.length c6) hg8)
              clear hp8 hk8 hg8 hh8 HP7 HG7 HH7 HC2 HBB
              have HSN := Lib.hid (snext HPX.out)
              have hlx := HN2.out.len
              go_wp2_with fail
              refine HSN.out.mono ?_
              rintro e w20 ⟨rfl, hp20, hk20⟩
              have hg20 := HGX.out.kept hk20 rfl
              have HRN := Lib.hid (rnext s2 hp20 (by omega))
              rw [HN2.out.fly, HN2.out.base, HN2.out.most] at HRN
              have c0 : w20.cell? ⟨g, 0, none⟩ = some (.slice a6 s2.l.length c6) := hg20.cell 0
              have c1 : w20.cell? ⟨g, 1, none⟩ = some (.int .i64 (F : Int)) := hg20.cell 1
              have c2 : w20.cell? ⟨g, 2, none⟩ = some (.int .i64 (B : Int)) := hg20.cell 2
              have c3 : w20.cell? ⟨g, 3, none⟩ = some (.int .i64 (M : Int)) := hg20.cell 3
              generalize (nxT s2.next).1 = nx1 at *
              generalize (nxT s2.next).2 = nx2 at *
              have HP20 := Lib.hid hp20
              have HG20 := Lib.hid hg20
              have hx1 : (nx1 != nx1) = false := by simp
              have hx2 : (nx2 != nx2) = false := by simp
              clear hp20 hk20 hg20 HSN HPX HGX
              go_wp2_with fail
              refine HRN.out.mono ?_
              rintro e w22 ⟨rfl, hb22⟩
              have HP22 := Lib.hid (HP20.out.next hb22).1
              have HG22 := Lib.hid (HG20.out.next hb22)
              have hg22 := HG22.out
              clear hb22 HP20 HG20 HRN c0 c1 c2 c3
              have c0 : w22.cell? ⟨g, 0, none⟩ = some (.slice a6 s2.l.length c6) := hg22.cell 0
              have c1 : w22.cell? ⟨g, 1, none⟩ = some (.int .i64 (F : Int)) := hg22.cell 1
              have c2 : w22.cell? ⟨g, 2, none⟩ = some (.int .i64 (B : Int)) := hg22.cell 2
              have c3 : w22.cell? ⟨g, 3, none⟩ = some (.int .i64 (M : Int)) := hg22.cell 3
              have HLN := Lib.hid fun W hW => slen (HP22.out.next (w' := W) hW).1
              have HFL := Lib.hid fun W hW => sflying (HP22.out.next (w' := W) hW).1
              have HRF := Lib.hid fun W hW => rflying s2 (HP22.out.next (w' := W) hW).1 (by omega)
              rw [HN2.out.fly, HN2.out.base, HN2.out.most, ← HN2.out.fl] at HRF
              have HC4 : Hid (∀ W, Below w22.heap.size w22 W → W.cell? ⟨g, 0, none⟩ = some (.slice a6 s2.l.length c6) ∧ W.cell? ⟨g, 1, none⟩ = some (.int .i64 (F : Int)) ∧ W.cell? ⟨g, 2, none⟩ = some (.int .i64 (B : Int)) ∧ W.cell? ⟨g, 3, none⟩ = some (.int .i64 (M : Int)) ∧ Below w22.heap.size w22 W) := Lib.hid fun W hW => ⟨(HG22.out.next hW).cell 0, (HG22.out.next hW).cell 1, (HG22.out.next hW).cell 2, (HG22.out.next hW).cell 3, hW⟩
              generalize hfl9 : s2.flying = fl9 at *
              generalize hll9 : s2.l.length = ll9 at *
              have hl1 : ((ll9 : Int) != (ll9 : Int)) = false := by simp
              have hl2 : ((fl9 : Int) != (fl9 : Int)) = false := by simp
              clear hfl9 hg22 hll9
              go_wp2_with fail
              go_region_held3 (fun W => W.cell? ⟨g, 0, none⟩ = some (.slice a6 ll9 c6) ∧ W.cell? ⟨g, 1, none⟩ = some (.int .i64 (F : Int)) ∧ W.cell? ⟨g, 2, none⟩ = some (.int .i64 (B : Int)) ∧ W.cell? ⟨g, 3, none⟩ = some (.int .i64 (M : Int)) ∧ Below w22.heap.size w22 W)
                (first | assumption | exact HC4.out _ (Below.drew (Below.refl _ _)) | exact HC4.out _ (bnext hbl hb23) | go_keep)
                (first | (go_at_call 13; obtain ⟨_, _, _, _, hbl⟩ := ‹_ ∧ _ ∧ _ ∧ _ ∧ Below w22.heap.size w22 _›; (with_reducible refine (HLN.out _ hbl).mono ?_); rintro e w23 ⟨rfl, rfl⟩) | (go_at_call 16; obtain ⟨_, _, _, _, hbl⟩ := ‹_ ∧ _ ∧ _ ∧ _ ∧ Below w22.heap.size w22 _›; (with_reducible refine (HFL.out _ hbl).mono ?_); rintro e w23 ⟨rfl, rfl⟩) | (go_at_call 24; obtain ⟨_, _, _, _, hbl⟩ := ‹_ ∧ _ ∧ _ ∧ _ ∧ Below w22.heap.size w22 _›; (with_reducible refine (HRF.out _ hbl).mono ?_); rintro e w23 ⟨rfl, hb23⟩))
              go_wp2_with fail
              go_roundw
              case rel => exact ⟨k + 1, nw2, _, s2, by omega, by go_num, rfl, hnw3, Lib.hid (HP22.out.next (bnext hbl hb23)).1, HN2, Lib.hid (HG22.out.next (bnext hbl hb23))⟩
              case measure => simp [intOf]; omega
          | 1, _ =>
            as_aux_lemma =>
              go_upto_region 15 with fail
              have HC1 := Lib.hid (rput raw s HT.out (by omega))
              rw [HN.out.fly, HN.out.base, HN.out.most] at HC1
              have hg0 := HG.out
              have c0 : wr.cell? ⟨g, 0, none⟩ = some (v) := hg0.cell 0
              have c1 : wr.cell? ⟨g, 1, none⟩ = some (.int .i64 (F : Int)) := hg0.cell 1
              have c2 : wr.cell? ⟨g, 2, none⟩ = some (.int .i64 (B : Int)) := hg0.cell 2
              have c3 : wr.cell? ⟨g, 3, none⟩ = some (.int .i64 (M : Int)) := hg0.cell 3
              have HN2 := Lib.hid (HN.out.put raw)
              obtain ⟨bb, hbb⟩ : ∃ bb : Bool, bb = decide (¬ (s.has raw = true ∨ raw < 0)) := ⟨_, rfl⟩
              have HBB := Lib.hid hbb
              rw [← hbb] at HC1
              obtain ⟨s2, hs2⟩ : ∃ s2, s2 = s.put raw := ⟨_, rfl⟩
              have HS2 := Lib.hid hs2
              rw [← hs2] at HC1 HN2
              clear hs2
              obtain ⟨av, cv, hv⟩ := HT.out.slice
              rw [hv] at c0 HC1
              clear hbb hg0 hv
              go_wp2_with fail
              refine HC1.out.mono ?_
              clear hs0 hs1 hs2 hs3 hix
              rintro e w6 ⟨v6, rfl, hp6, hk6⟩
              have hg6 := HG.out.kept hk6 rfl
              have HP7 := Lib.hid (hp6.alloc (.cells #[v6, .int .i64 (F : Int), .int .i64 (B : Int), .int .i64 (M : Int)] 41))
              have HG7 := Lib.hid (hg6.alloc (.cells #[v6, .int .i64 (F : Int), .int .i64 (B : Int), .int .i64 (M : Int)] 41))
              have HH7 := Lib.hid (Blk.new w6 41 #[v6, .int .i64 (F : Int), .int .i64 (B : Int), .int .i64 (M : Int)])
              obtain ⟨a6, c6, rfl⟩ := hp6.slice
              clear hp6 hk6 hg6 HT HG HC1 c0 c1 c2 c3
              go_wp2_with fail
              have hc2 := sput raw HP7.out HSW.out (by omega)
              rw [show (!decide (s.has raw = true ∨ raw < 0)) = bb by rw [HBB.out, decide_not]] at hc2
              rw [← HS2.out] at hc2
              have HC2 := Lib.hid hc2
              clear hc2
              generalize w6.alloc _ = w7 at *
              generalize w6.heap.size = g2 at *
              refine HC2.out.mono ?_
              rintro e w8 ⟨rfl, hp8, hk8⟩
              have hg8 := HG7.out.kept hk8 (.inl rfl)
              have hh8 := HH7.out.kept hk8 (.inr rfl)
              have hbb2 : (bb == bb) = true := by simp
              have d0 : w8.cell? ⟨g2, 0, none⟩ = some (.slice a6 s2.l.length c6) := hh8.cell 0
              have d1 : w8.cell? ⟨g2, 1, none⟩ = some (.int .i64 (F : Int)) := hh8.cell 1
              have d2 : w8.cell? ⟨g2, 2, none⟩ = some (.int .i64 (B : Int)) := hh8.cell 2
              have d3 : w8.cell? ⟨g2, 3, none⟩ = some (.int .i64 (M : Int)) := hh8.cell 3
              have c0 : w8.cell? ⟨g, 0, none⟩ = some (v) := hg8.cell 0
              have c1 : w8.cell? ⟨g, 1, none⟩ = some (.int .i64 (F : Int)) := hg8.cell 1
              have c2 : w8.cell? ⟨g, 2, none⟩ = some (.int .i64 (B : Int)) := hg8.cell 2
              have c3 : w8.cell? ⟨g, 3, none⟩ = some (.int .i64 (M : Int)) := hg8.cell 3
              have f0 := hg8.frozen 0
              have f1 := hg8.frozen 1
              have f2 := hg8.frozen 2
              have f3 := hg8.frozen 3
              have HPX := Lib.hid ((pair_set4 hp8 (g := g) (.inl rfl) (.slice a6 s2.l.length c6) (.int .i64 (F : Int)) (.int .i64 (B : Int)) (.int .i64 (M : Int))).fewer (G' := fun q => q = g) (fun q hq => .inl hq))
              have HGX := Lib.hid (set4 (v' := .slice a6 s2.l.length c6) hg8)
              clear hp8 hk8 hg8 hh8 HP7 HG7 HH7 HC2 HBB
              have HSN := Lib.hid (snext HPX.out)
              have hlx := HN2.out.len
              go_wp2_with fail
              refine HSN.out.mono ?_
              rintro e w20 ⟨rfl, hp20, hk20⟩
              have hg20 := HGX.out.kept hk20 rfl
              have HRN := Lib.hid (rnext s2 hp20 (by omega))
              rw [HN2.out.fly, HN2.out.base, HN2.out.most] at HRN
              have c0 : w20.cell? ⟨g, 0, none⟩ = some (.slice a6 s2.l.length c6) := hg20.cell 0
              have c1 : w20.cell? ⟨g, 1, none⟩ = some (.int .i64 (F : Int)) := hg20.cell 1
              have c2 : w20.cell? ⟨g, 2, none⟩ = some (.int .i64 (B : Int)) := hg20.cell 2
              have c3 : w20.cell? ⟨g, 3, none⟩ = some (.int .i64 (M : Int)) := hg20.cell 3
              generalize (nxT s2.next).1 = nx1 at *
              generalize (nxT s2.next).2 = nx2 at *
              have HP20 := Lib.hid hp20
              have HG20 := Lib.hid hg20
              have hx1 : (nx1 != nx1) = false := by simp
              have hx2 : (nx2 != nx2) = false := by simp
              clear hp20 hk20 hg20 HSN HPX HGX
              go_wp2_with fail
              refine HRN.out.mono ?_
              rintro e w22 ⟨rfl, hb22⟩
              have HP22 := Lib.hid (HP20.out.next hb22).1
              have HG22 := Lib.hid (HG20.out.next hb22)
              have hg22 := HG22.out
              clear hb22 HP20 HG20 HRN c0 c1 c2 c3
              have c0 : w22.cell? ⟨g, 0, none⟩ = some (.slice a6 s2.l.length c6) := hg22.cell 0
              have c1 : w22.cell? ⟨g, 1, none⟩ = some (.int .i64 (F : Int)) := hg22.cell 1
              have c2 : w22.cell? ⟨g, 2, none⟩ = some (.int .i64 (B : Int)) := hg22.cell 2
              have c3 : w22.cell? ⟨g, 3, none⟩ = some (.int .i64 (M : Int)) := hg22.cell 3
              have HLN := Lib.hid fun W hW => slen (HP22.out.next (w' := W) hW).1
              have HFL := Lib.hid fun W hW => sflying (HP22.out.next (w' := W) hW).1
              have HRF := Lib.hid fun W hW => rflying s2 (HP22.out.next (w' := W) hW).1 (by omega)
              rw [HN2.out.fly, HN2.out.base, HN2.out.most, ← HN2.out.fl] at HRF
              have HC4 : Hid (∀ W, Below w22.heap.size w22 W → W.cell? ⟨g, 0, none⟩ = some (.slice a6 s2.l.length c6) ∧ W.cell? ⟨g, 1, none⟩ = some (.int .i64 (F : Int)) ∧ W.cell? ⟨g, 2, none⟩ = some (.int .i64 (B : Int)) ∧ W.cell? ⟨g, 3, none⟩ = some (.int .i64 (M : Int)) ∧ Below w22.heap.size w22 W) := Lib.hid fun W hW => ⟨(HG22.out.next hW).cell 0, (HG22.out.next hW).cell 1, (HG22.out.next hW).cell 2, (HG22.out.next hW).cell 3, hW⟩
              generalize hfl9 : s2.flying = fl9 at *
              generalize hll9 : s2.l.length = ll9 at *
              have hl1 : ((ll9 : Int) != (ll9 : Int)) = false := by simp
              have hl2 : ((fl9 : Int) != (fl9 : Int)) = false := by simp
              clear hfl9 hg22 hll9
              go_wp2_with fail
              go_region_held3 (fun W => W.cell? ⟨g, 0, none⟩ = some (.slice a6 ll9 c6) ∧ W.cell? ⟨g, 1, none⟩ = some (.int .i64 (F : Int)) ∧ W.cell? ⟨g, 2, none⟩ = some (.int .i64 (B : Int)) ∧ W.cell? ⟨g, 3, none⟩ = some (.int .i64 (M : Int)) ∧ Below w22.heap.size w22 W)
                (first | assumption | exact HC4.out _ (Below.drew (Below.refl _ _)) | exact HC4.out _ (bnext hbl hb23) | go_keep)
                (first | (go_at_call 13; obtain ⟨_, _, _, _, hbl⟩ := ‹_ ∧ _ ∧ _ ∧ _ ∧ Below w22.heap.size w22 _›; (with_reducible refine (HLN.out _ hbl).mono ?_); rintro e w23 ⟨rfl, rfl⟩) | (go_at_call 16; obtain ⟨_, _, _, _, hbl⟩ := ‹_ ∧ _ ∧ _ ∧ _ ∧ Below w22.heap.size w22 _›; (with_reducible refine (HFL.out _ hbl).mono ?_); rintro e w23 ⟨rfl, rfl⟩) | (go_at_call 24; obtain ⟨_, _, _, _, hbl⟩ := ‹_ ∧ _ ∧ _ ∧ _ ∧ Below w22.heap.size w22 _›; (with_reducible refine (HRF.out _ hbl).mono ?_); rintro e w23 ⟨rfl, hb23⟩))
              go_wp2_with fail
              go_roundw
              case rel => exact ⟨k + 1, nw2, _, s2, by omega, by go_num, rfl, hnw3, Lib.hid (HP22.out.next (bnext hbl hb23)).1, HN2, Lib.hid (HG22.out.next (bnext hbl hb23))⟩
              case measure => simp [intOf]; omega
          | 2, _ =>
            as_aux_lemma =>
              go_upto_region 15 with fail
              have HC1 := Lib.hid fun W G' (h : PairS w1 W p G' v s s.l) => rdueH nw2 D s h HN.out (by omega) hB1 hM1 (by omega) (by omega)
              rw [HN.out.fly, HN.out.base, HN.out.most] at HC1
              have HN2 := Lib.hid (HN.out.send (nw2 : Int) D)
              obtain ⟨s2, hs2⟩ : ∃ s2, s2 = s.sendAll (nw2 : Int) D := ⟨_, rfl⟩
              have HS2 := Lib.hid hs2
              rw [← hs2] at HN2 HC1
              obtain ⟨av, cv, rfl⟩ := HT.out.slice
              have hg0 := HG.out
              have c0 : wr.cell? ⟨g, 0, none⟩ = some (.slice av s.l.length cv) := hg0.cell 0
              have c1 : wr.cell? ⟨g, 1, none⟩ = some (.int .i64 (F : Int)) := hg0.cell 1
              have c2 : wr.cell? ⟨g, 2, none⟩ = some (.int .i64 (B : Int)) := hg0.cell 2
              have c3 : wr.cell? ⟨g, 3, none⟩ = some (.int .i64 (M : Int)) := hg0.cell 3
              have HC4 : Hid (∀ W, Below wr.heap.size wr W → W.cell? ⟨g, 0, none⟩ = some (.slice av s.l.length cv) ∧ W.cell? ⟨g, 1, none⟩ = some (.int .i64 (F : Int)) ∧ W.cell? ⟨g, 2, none⟩ = some (.int .i64 (B : Int)) ∧ W.cell? ⟨g, 3, none⟩ = some (.int .i64 (M : Int)) ∧ W.cell? ⟨ad.block, ad.off + 3, none⟩ = some (.int .u64 (D.toNat : Int)) ∧ Below wr.heap.size wr W) := Lib.hid fun W hW => ⟨(HG.out.next hW).cell 0, (HG.out.next hW).cell 1, (HG.out.next hW).cell 2, (HG.out.next hW).cell 3, (HS.out W (bnext (bnext HB1.out HT.out.below) hW)).2.2.2, hW⟩
              clear hs2 hg0
              have HTA := Lib.hid ((HT.out.alloc (.cells #[.slice none 0 0, .int .i64 0, .int .i64 0, .int .i64 0] 41)).next (Below.drew (Below.refl _ _))).1
              have HZA := Lib.hid (Blk.new wr 41 #[.slice none 0 0, .int .i64 0, .int .i64 0, .int .i64 0]).drew
              go_upto_region 27 with fail
              go_region_held3 (fun W => W.cell? ⟨g, 0, none⟩ = some (.slice av s.l.length cv) ∧ W.cell? ⟨g, 1, none⟩ = some (.int .i64 (F : Int)) ∧ W.cell? ⟨g, 2, none⟩ = some (.int .i64 (B : Int)) ∧ W.cell? ⟨g, 3, none⟩ = some (.int .i64 (M : Int)) ∧ W.cell? ⟨ad.block, ad.off + 3, none⟩ = some (.int .u64 (D.toNat : Int)) ∧ Below wr.heap.size wr W)
                (first | assumption | (refine HC4.out _ ?_; repeat (first | exact Below.refl _ _ | exact bnext hbl hb6 | refine Below.drew ?_ | refine bl_alloc ?_ _ | refine below_set ?_ (Nat.le_refl _))) | go_keep)
                (first | (go_at_call 21; obtain ⟨_, _, _, _, _, hbl⟩ := ‹_ ∧ _ ∧ _ ∧ _ ∧ _ ∧ Below wr.heap.size wr _›; (with_reducible refine (HC1.out _ _ HTA.out).mono ?_); rintro e w6 ⟨v6, u6, rfl, hi6, hp6, hk6, hb6⟩; obtain ⟨a6, c6, rfl⟩ := hp6.slice; have hu6 := hi6; obtain ⟨_, _, rfl, _⟩ := hu6; have hq6 := HZA.out.kept hk6 (.inr rfl); have y0 : w6.cell? ⟨wr.heap.size, 0, none⟩ = some (.slice none 0 0) := hq6.cell 0; have y1 : w6.cell? ⟨wr.heap.size, 1, none⟩ = some (.int .i64 0) := hq6.cell 1; have y2 : w6.cell? ⟨wr.heap.size, 2, none⟩ = some (.int .i64 0) := hq6.cell 2; have y3 : w6.cell? ⟨wr.heap.size, 3, none⟩ = some (.int .i64 0) := hq6.cell 3; have x0 := hq6.frozen 0; have x1 := hq6.frozen 1; have x2 := hq6.frozen 2; have x3 := hq6.frozen 3) | (go_at_call 21; obtain ⟨_, _, _, _, _, hbl⟩ := ‹_ ∧ _ ∧ _ ∧ _ ∧ _ ∧ Below wr.heap.size wr _›; (with_reducible refine (HC1.out _ _ (HT.out.next hbl).1).mono ?_); rintro e w6 ⟨v6, u6, rfl, hi6, hp6, hk6, hb6⟩; obtain ⟨a6, c6, rfl⟩ := hp6.slice; have hu6 := hi6; obtain ⟨_, _, rfl, _⟩ := hu6))
              · have hg6 := (HG.out.drew).kept hk6 rfl
                have HP7 := Lib.hid (hp6.alloc (.cells #[.slice a6 s2.l.length c6, .int .i64 (F : Int), .int .i64 (B : Int), .int .i64 (M : Int)] 41))
                have HG7 := Lib.hid (hg6.alloc (.cells #[.slice a6 s2.l.length c6, .int .i64 (F : Int), .int .i64 (B : Int), .int .i64 (M : Int)] 41))
                have HH7 := Lib.hid (Blk.new w6 41 #[.slice a6 s2.l.length c6, .int .i64 (F : Int), .int .i64 (B : Int), .int .i64 (M : Int)])
                have HKI := Lib.hid fun w8 k hs => hi6.kept (w := w6.alloc (.cells #[.slice a6 s2.l.length c6, .int .i64 (F : Int), .int .i64 (B : Int), .int .i64 (M : Int)] 41)) (w' := w8) (fun q _ hq => Below.heap_alloc w6 _ q hq) (by rw [World.size_alloc]; exact Nat.le_succ _) k hs
                clear hg6 hi6 hp6 hk6 hb6 hbl HC1 HC4 HTA HZA HT HG c0 c1 c2 c3
                have hx7 := (HS.out _ (bnext HB1.out HP7.out.below)).2.2.2
                have HC2 := Lib.hid (sdueH nw2 D HP7.out HN.out (by omega) (by omega))
                rw [← HS2.out] at HC2
                generalize hw7 : w6.alloc (.cells #[.slice a6 s2.l.length c6, .int .i64 (F : Int), .int .i64 (B : Int), .int .i64 (M : Int)] 41) = w7 at *
                generalize w6.heap.size = g2 at *
                clear hw7
                go_wp2_with fail
                refine HC2.out.mono ?_
                rintro e w8 ⟨u8, rfl, hi8, hp8, hk8, hh8, hz8⟩
                have hg8 := HG7.out.kept hk8 (.inl rfl)
                have hq8 := HH7.out.kept hk8 (.inr rfl)
                have HSY := Lib.hid (same_yes _ _ _ _ _ w8 hi8 (HKI.out w8 hh8 hz8))
                have HP8 := Lib.hid hp8
                have HG8 := Lib.hid hg8
                have HQ8 := Lib.hid hq8
                obtain ⟨_, _, rfl, _⟩ := hi8
                clear hh8 hz8 HP7 HG7 HH7 HC2 HKI hp8 hk8 hg8 hq8 hx7
                go_wp2_with fail
                refine HSY.out.mono ?_
                rintro e w9 ⟨rfl, n9, rfl⟩
                have hp9 := HP8.out.next (pw_below_drewN (Below.refl _ _) n9)
                have hh9 := HQ8.out.drewN n9
                have hg9 := HG8.out.drewN n9
                clear HSY
                have d0 : (w8.drewN n9).cell? ⟨g2, 0, none⟩ = some (.slice a6 s2.l.length c6) := hh9.cell 0
                have d1 : (w8.drewN n9).cell? ⟨g2, 1, none⟩ = some (.int .i64 (F : Int)) := hh9.cell 1
                have d2 : (w8.drewN n9).cell? ⟨g2, 2, none⟩ = some (.int .i64 (B : Int)) := hh9.cell 2
                have d3 : (w8.drewN n9).cell? ⟨g2, 3, none⟩ = some (.int .i64 (M : Int)) := hh9.cell 3
                have c0 : (w8.drewN n9).cell? ⟨g, 0, none⟩ = some (.slice av s.l.length cv) := hg9.cell 0
                have c1 : (w8.drewN n9).cell? ⟨g, 1, none⟩ = some (.int .i64 (F : Int)) := hg9.cell 1
                have c2 : (w8.drewN n9).cell? ⟨g, 2, none⟩ = some (.int .i64 (B : Int)) := hg9.cell 2
                have c3 : (w8.drewN n9).cell? ⟨g, 3, none⟩ = some (.int .i64 (M : Int)) := hg9.cell 3
                have f0 := hg9.frozen 0
                have f1 := hg9.frozen 1
                have f2 := hg9.frozen 2
                have f3 := hg9.frozen 3
                have HPX := Lib.hid ((pair_set4 hp9.1 (g := g) (.inl rfl) (.slice a6 s2.l.length c6) (.int .i64 (F : Int)) (.int .i64 (B : Int)) (.int .i64 (M : Int))).fewer (G' := fun q => q = g) (fun q hq => .inl hq))
                have HGX := Lib.hid (set4 (v' := .slice a6 s2.l.length c6) hg9)
                clear hp9 hh9 hg9 HP8 HG8 HQ8
                generalize w8.drewN n9 = w10 at *
                have HSN := Lib.hid (snext HPX.out)
                have hlx := HN2.out.len
                go_wp2_with fail
                refine HSN.out.mono ?_
                rintro e w20 ⟨rfl, hp20, hk20⟩
                have hg20 := HGX.out.kept hk20 rfl
                have HRN := Lib.hid (rnext s2 hp20 (by omega))
                rw [HN2.out.fly, HN2.out.base, HN2.out.most] at HRN
                have c0 : w20.cell? ⟨g, 0, none⟩ = some (.slice a6 s2.l.length c6) := hg20.cell 0
                have c1 : w20.cell? ⟨g, 1, none⟩ = some (.int .i64 (F : Int)) := hg20.cell 1
                have c2 : w20.cell? ⟨g, 2, none⟩ = some (.int .i64 (B : Int)) := hg20.cell 2
                have c3 : w20.cell? ⟨g, 3, none⟩ = some (.int .i64 (M : Int)) := hg20.cell 3
                generalize (nxT s2.next).1 = nx1 at *
                generalize (nxT s2.next).2 = nx2 at *
                have HP20 := Lib.hid hp20
                have HG20 := Lib.hid hg20
                have hx1 : (nx1 != nx1) = false := by simp
                have hx2 : (nx2 != nx2) = false := by simp
                clear hp20 hk20 hg20 HSN HPX HGX
                go_wp2_with fail
                refine HRN.out.mono ?_
                rintro e w22 ⟨rfl, hb22⟩
                have HP22 := Lib.hid (HP20.out.next hb22).1
                have HG22 := Lib.hid (HG20.out.next hb22)
                have hg22 := HG22.out
                clear hb22 HP20 HG20 HRN c0 c1 c2 c3
                have c0 : w22.cell? ⟨g, 0, none⟩ = some (.slice a6 s2.l.length c6) := hg22.cell 0
                have c1 : w22.cell? ⟨g, 1, none⟩ = some (.int .i64 (F : Int)) := hg22.cell 1
                have c2 : w22.cell? ⟨g, 2, none⟩ = some (.int .i64 (B : Int)) := hg22.cell 2
                have c3 : w22.cell? ⟨g, 3, none⟩ = some (.int .i64 (M : Int)) := hg22.cell 3
                have HLN := Lib.hid fun W hW => slen (HP22.out.next (w' := W) hW).1
                have HFL := Lib.hid fun W hW => sflying (HP22.out.next (w' := W) hW).1
                have HRF := Lib.hid fun W hW => rflying s2 (HP22.out.next (w' := W) hW).1 (by omega)
                rw [HN2.out.fly, HN2.out.base, HN2.out.most, ← HN2.out.fl] at HRF
                have HC4 : Hid (∀ W, Below w22.heap.size w22 W → W.cell? ⟨g, 0, none⟩ = some (.slice a6 s2.l.length c6) ∧ W.cell? ⟨g, 1, none⟩ = some (.int .i64 (F : Int)) ∧ W.cell? ⟨g, 2, none⟩ = some (.int .i64 (B : Int)) ∧ W.cell? ⟨g, 3, none⟩ = some (.int .i64 (M : Int)) ∧ Below w22.heap.size w22 W) := Lib.hid fun W hW => ⟨(HG22.out.next hW).cell 0, (HG22.out.next hW).cell 1, (HG22.out.next hW).cell 2, (HG22.out.next hW).cell 3, hW⟩
                generalize hfl9 : s2.flying = fl9 at *
                generalize hll9 : s2.l.length = ll9 at *
                have hl1 : ((ll9 : Int) != (ll9 : Int)) = false := by simp
                have hl2 : ((fl9 : Int) != (fl9 : Int)) = false := by simp
                clear hfl9 hg22 hll9
                go_wp2_with fail
                go_region_held3 (fun W => W.cell? ⟨g, 0, none⟩ = some (.slice a6 ll9 c6) ∧ W.cell? ⟨g, 1, none⟩ = some (.int .i64 (F : Int)) ∧ W.cell? ⟨g, 2, none⟩ = some (.int .i64 (B : Int)) ∧ W.cell? ⟨g, 3, none⟩ = some (.int .i64 (M : Int)) ∧ Below w22.heap.size w22 W)
                  (first | assumption | exact HC4.out _ (Below.drew (Below.refl _ _)) | exact HC4.out _ (bnext hbl hb23) | go_keep)
                  (first | (go_at_call 13; obtain ⟨_, _, _, _, hbl⟩ := ‹_ ∧ _ ∧ _ ∧ _ ∧ Below w22.heap.size w22 _›; (with_reducible refine (HLN.out _ hbl).mono ?_); rintro e w23 ⟨rfl, rfl⟩) | (go_at_call 16; obtain ⟨_, _, _, _, hbl⟩ := ‹_ ∧ _ ∧ _ ∧ _ ∧ Below w22.heap.size w22 _›; (with_reducible refine (HFL.out _ hbl).mono ?_); rintro e w23 ⟨rfl, rfl⟩) | (go_at_call 24; obtain ⟨_, _, _, _, hbl⟩ := ‹_ ∧ _ ∧ _ ∧ _ ∧ Below w22.heap.size w22 _›; (with_reducible refine (HRF.out _ hbl).mono ?_); rintro e w23 ⟨rfl, hb23⟩))
                go_wp2_with fail
                go_roundw
                case rel => exact ⟨k + 1, nw2, _, s2, by omega, by go_num, rfl, hnw3, Lib.hid (HP22.out.next (bnext hbl hb23)).1, HN2, Lib.hid (HG22.out.next (bnext hbl hb23))⟩
                case measure => simp [intOf]; omega
              · have hgl := HG.out.lt
                have hg6 := ((HG.out.alloc (.cells #[.slice none 0 0, .int .i64 0, .int .i64 0, .int .i64 0] 41)).drew).kept hk6 (.inl rfl)
                have HP7 := Lib.hid ((((hp6.set (g := wr.heap.size) (.inr rfl) 0 (.slice a6 s2.l.length c6)).set (g := wr.heap.size) (.inr rfl) 1 (.int .i64 (F : Int))).set (g := wr.heap.size) (.inr rfl) 2 (.int .i64 (B : Int))).set (g := wr.heap.size) (.inr rfl) 3 (.int .i64 (M : Int)))
                have HG7 := Lib.hid ((((hg6.far (p := ⟨wr.heap.size, 0, none⟩) (Nat.ne_of_lt hgl) (.slice a6 s2.l.length c6)).far (p := ⟨wr.heap.size, 1, none⟩) (Nat.ne_of_lt hgl) (.int .i64 (F : Int))).far (p := ⟨wr.heap.size, 2, none⟩) (Nat.ne_of_lt hgl) (.int .i64 (B : Int))).far (p := ⟨wr.heap.size, 3, none⟩) (Nat.ne_of_lt hgl) (.int .i64 (M : Int)))
                have HH7 := Lib.hid (((((hq6.set_ 0 (.slice a6 s2.l.length c6)).set_ 1 (.int .i64 (F : Int))).set_ 2 (.int .i64 (B : Int))).set_ 3 (.int .i64 (M : Int)) : Blk _ wr.heap.size 41 #[.slice a6 s2.l.length c6, .int .i64 (F : Int), .int .i64 (B : Int), .int .i64 (M : Int)]))
                have HKI := Lib.hid fun w8 k hs => hi6.kept (w := (((w6.setCell ⟨wr.heap.size, 0, none⟩ (.slice a6 s2.l.length c6)).setCell ⟨wr.heap.size, 1, none⟩ (.int .i64 (F : Int))).setCell ⟨wr.heap.size, 2, none⟩ (.int .i64 (B : Int))).setCell ⟨wr.heap.size, 3, none⟩ (.int .i64 (M : Int))) (w' := w8) (fun q hq _ => by
                  have hne : q ≠ wr.heap.size := by
                    have e : ((wr.alloc (.cells #[.slice none 0 0, .int .i64 0, .int .i64 0, .int .i64 0] 41)).drew).heap.size = wr.heap.size + 1 := World.size_alloc _ _
                    rw [e] at hq
                    omega
                  exact (Below.heap_setCell _ ⟨wr.heap.size, 3, none⟩ _ q hne).trans ((Below.heap_setCell _ ⟨wr.heap.size, 2, none⟩ _ q hne).trans ((Below.heap_setCell _ ⟨wr.heap.size, 1, none⟩ _ q hne).trans (Below.heap_setCell _ ⟨wr.heap.size, 0, none⟩ _ q hne)))) (by simp only [World.size_setCell]; exact Nat.le_refl _) k hs
                clear hg6 hi6 hp6 hk6 hb6 hbl hq6 hgl HC1 HC4 HTA HZA HT HG c0 c1 c2 c3 y0 y1 y2 y3 x0 x1 x2 x3
                have hx7 := (HS.out _ (bnext HB1.out HP7.out.below)).2.2.2
                have HC2 := Lib.hid (sdueH nw2 D HP7.out HN.out (by omega) (by omega))
                rw [← HS2.out] at HC2
                generalize hw7 : (((w6.setCell ⟨wr.heap.size, 0, none⟩ (.slice a6 s2.l.length c6)).setCell ⟨wr.heap.size, 1, none⟩ (.int .i64 (F : Int))).setCell ⟨wr.heap.size, 2, none⟩ (.int .i64 (B : Int))).setCell ⟨wr.heap.size, 3, none⟩ (.int .i64 (M : Int)) = w7 at *
                generalize wr.heap.size = g2 at *
                clear hw7
                go_wp2_with fail
                refine HC2.out.mono ?_
                rintro e w8 ⟨u8, rfl, hi8, hp8, hk8, hh8, hz8⟩
                have hg8 := HG7.out.kept hk8 (.inl rfl)
                have hq8 := HH7.out.kept hk8 (.inr rfl)
                have HSY := Lib.hid (same_yes _ _ _ _ _ w8 hi8 (HKI.out w8 hh8 hz8))
                have HP8 := Lib.hid hp8
                have HG8 := Lib.hid hg8
                have HQ8 := Lib.hid hq8
                obtain ⟨_, _, rfl, _⟩ := hi8
                clear hh8 hz8 HP7 HG7 HH7 HC2 HKI hp8 hk8 hg8 hq8 hx7
                go_wp2_with fail
                refine HSY.out.mono ?_
                rintro e w9 ⟨rfl, n9, rfl⟩
                have hp9 := HP8.out.next (pw_below_drewN (Below.refl _ _) n9)
                have hh9 := HQ8.out.drewN n9
                have hg9 := HG8.out.drewN n9
                clear HSY
                have d0 : (w8.drewN n9).cell? ⟨g2, 0, none⟩ = some (.slice a6 s2.l.length c6) := hh9.cell 0
                have d1 : (w8.drewN n9).cell? ⟨g2, 1, none⟩ = some (.int .i64 (F : Int)) := hh9.cell 1
                have d2 : (w8.drewN n9).cell? ⟨g2, 2, none⟩ = some (.int .i64 (B : Int)) := hh9.cell 2
                have d3 : (w8.drewN n9).cell? ⟨g2, 3, none⟩ = some (.int .i64 (M : Int)) := hh9.cell 3
                have c0 : (w8.drewN n9).cell? ⟨g, 0, none⟩ = some (.slice av s.l.length cv) := hg9.cell 0
                have c1 : (w8.drewN n9).cell? ⟨g, 1, none⟩ = some (.int .i64 (F : Int)) := hg9.cell 1
                have c2 : (w8.drewN n9).cell? ⟨g, 2, none⟩ = some (.int .i64 (B : Int)) := hg9.cell 2
                have c3 : (w8.drewN n9).cell? ⟨g, 3, none⟩ = some (.int .i64 (M : Int)) := hg9.cell 3
                have f0 := hg9.frozen 0
                have f1 := hg9.frozen 1
                have f2 := hg9.frozen 2
                have f3 := hg9.frozen 3
                have HPX := Lib.hid ((pair_set4 hp9.1 (g := g) (.inl rfl) (.slice a6 s2.l.length c6) (.int .i64 (F : Int)) (.int .i64 (B : Int)) (.int .i64 (M : Int))).fewer (G' := fun q => q = g) (fun q hq => .inl hq))
                have HGX := Lib.hid (set4 (v' := .slice a6 s2.l.length c6) hg9)
                clear hp9 hh9 hg9 HP8 HG8 HQ8
                generalize w8.drewN n9 = w10 at *
                have HSN := Lib.hid (snext HPX.out)
                have hlx := HN2.out.len
                go_wp2_with fail
                refine HSN.out.mono ?_
                rintro e w20 ⟨rfl, hp20, hk20⟩
                have hg20 := HGX.out.kept hk20 rfl
                have HRN := Lib.hid (rnext s2 hp20 (by omega))
                rw [HN2.out.fly, HN2.out.base, HN2.out.most] at HRN
                have c0 : w20.cell? ⟨g, 0, none⟩ = some (.slice a6 s2.l.length c6) := hg20.cell 0
                have c1 : w20.cell? ⟨g, 1, none⟩ = some (.int .i64 (F : Int)) := hg20.cell 1
                have c2 : w20.cell? ⟨g, 2, none⟩ = some (.int .i64 (B : Int)) := hg20.cell 2
                have c3 : w20.cell? ⟨g, 3, none⟩ = some (.int .i64 (M : Int)) := hg20.cell 3
                generalize (nxT s2.next).1 = nx1 at *
                generalize (nxT s2.next).2 = nx2 at *
                have HP20 := Lib.hid hp20
                have HG20 := Lib.hid hg20
                have hx1 : (nx1 != nx1) = false := by simp
                have hx2 : (nx2 != nx2) = false := by simp
                clear hp20 hk20 hg20 HSN HPX HGX
                go_wp2_with fail
                refine HRN.out.mono ?_
                rintro e w22 ⟨rfl, hb22⟩
                have HP22 := Lib.hid (HP20.out.next hb22).1
                have HG22 := Lib.hid (HG20.out.next hb22)
                have hg22 := HG22.out
                clear hb22 HP20 HG20 HRN c0 c1 c2 c3
                have c0 : w22.cell? ⟨g, 0, none⟩ = some (.slice a6 s2.l.length c6) := hg22.cell 0
                have c1 : w22.cell? ⟨g, 1, none⟩ = some (.int .i64 (F : Int)) := hg22.cell 1
                have c2 : w22.cell? ⟨g, 2, none⟩ = some (.int .i64 (B : Int)) := hg22.cell 2
                have c3 : w22.cell? ⟨g, 3, none⟩ = some (.int .i64 (M : Int)) := hg22.cell 3
                have HLN := Lib.hid fun W hW => slen (HP22.out.next (w' := W) hW).1
                have HFL := Lib.hid fun W hW => sflying (HP22.out.next (w' := W) hW).1
                have HRF := Lib.hid fun W hW => rflying s2 (HP22.out.next (w' := W) hW).1 (by omega)
                rw [HN2.out.fly, HN2.out.base, HN2.out.most, ← HN2.out.fl] at HRF
                have HC4 : Hid (∀ W, Below w22.heap.size w22 W → W.cell? ⟨g, 0, none⟩ = some (.slice a6 s2.l.length c6) ∧ W.cell? ⟨g, 1, none⟩ = some (.int .i64 (F : Int)) ∧ W.cell? ⟨g, 2, none⟩ = some (.int .i64 (B : Int)) ∧ W.cell? ⟨g, 3, none⟩ = some (.int .i64 (M : Int)) ∧ Below w22.heap.size w22 W) := Lib.hid fun W hW => ⟨(HG22.out.next hW).cell 0, (HG22.out.next hW).cell 1, (HG22.out.next hW).cell 2, (HG22.out.next hW).cell 3, hW⟩
                generalize hfl9 : s2.flying = fl9 at *
                generalize hll9 : s2.l.length = ll9 at *
                have hl1 : ((ll9 : Int) != (ll9 : Int)) = false := by simp
                have hl2 : ((fl9 : Int) != (fl9 : Int)) = false := by simp
                clear hfl9 hg22 hll9
                go_wp2_with fail
                go_region_held3 (fun W => W.cell? ⟨g, 0, none⟩ = some (.slice a6 ll9 c6) ∧ W.cell? ⟨g, 1, none⟩ = some (.int .i64 (F : Int)) ∧ W.cell? ⟨g, 2, none⟩ = some (.int .i64 (B : Int)) ∧ W.cell? ⟨g, 3, none⟩ = some (.int .i64 (M : Int)) ∧ Below w22.heap.size w22 W)
                  (first | assumption | exact HC4.out _ (Below.drew (Below.refl _ _)) | exact HC4.out _ (bnext hbl hb23) | go_keep)
                  (first | (go_at_call 13; obtain ⟨_, _, _, _, hbl⟩ := ‹_ ∧ _ ∧ _ ∧ _ ∧ Below w22.heap.size w22 _›; (with_reducible refine (HLN.out _ hbl).mono ?_); rintro e w23 ⟨rfl, rfl⟩) | (go_at_call 16; obtain ⟨_, _, _, _, hbl⟩ := ‹_ ∧ _ ∧ _ ∧ _ ∧ Below w22.heap.size w22 _›; (with_reducible refine (HFL.out _ hbl).mono ?_); rintro e w23 ⟨rfl, rfl⟩) | (go_at_call 24; obtain ⟨_, _, _, _, hbl⟩ := ‹_ ∧ _ ∧ _ ∧ _ ∧ Below w22.heap.size w22 _›; (with_reducible refine (HRF.out _ hbl).mono ?_); rintro e w23 ⟨rfl, hb23⟩))
                go_wp2_with fail
                go_roundw
                case rel => exact ⟨k + 1, nw2, _, s2, by omega, by go_num, rfl, hnw3, Lib.hid (HP22.out.next (bnext hbl hb23)).1, HN2, Lib.hid (HG22.out.next (bnext hbl hb23))⟩
                case measure => simp [intOf]; omega
          | 3, _ =>
            as_aux_lemma =>
              go_upto_region 15 with fail
              have HC1 := Lib.hid fun W G' (h : PairS w1 W p G' v s s.l) => rdueH nw2 D s h HN.out (by omega) hB1 hM1 (by omega) (by omega)
              rw [HN.out.fly, HN.out.base, HN.out.most] at HC1
              have HN2 := Lib.hid (HN.out.send (nw2 : Int) D)
              obtain ⟨s2, hs2⟩ : ∃ s2, s2 = s.sendAll (nw2 : Int) D := ⟨_, rfl⟩
              have HS2 := Lib.hid hs2
              rw [← hs2] at HN2 HC1
              obtain ⟨av, cv, rfl⟩ := HT.out.slice
              have hg0 := HG.out
              have c0 : wr.cell? ⟨g, 0, none⟩ = some (.slice av s.l.length cv) := hg0.cell 0
              have c1 : wr.cell? ⟨g, 1, none⟩ = some (.int .i64 (F : Int)) := hg0.cell 1
              have c2 : wr.cell? ⟨g, 2, none⟩ = some (.int .i64 (B : Int)) := hg0.cell 2
              have c3 : wr.cell? ⟨g, 3, none⟩ = some (.int .i64 (M : Int)) := hg0.cell 3
              have HC4 : Hid (∀ W, Below wr.heap.size wr W → W.cell? ⟨g, 0, none⟩ = some (.slice av s.l.length cv) ∧ W.cell? ⟨g, 1, none⟩ = some (.int .i64 (F : Int)) ∧ W.cell? ⟨g, 2, none⟩ = some (.int .i64 (B : Int)) ∧ W.cell? ⟨g, 3, none⟩ = some (.int .i64 (M : Int)) ∧ W.cell? ⟨ad.block, ad.off + 3, none⟩ = some (.int .u64 (D.toNat : Int)) ∧ Below wr.heap.size wr W) := Lib.hid fun W hW => ⟨(HG.out.next hW).cell 0, (HG.out.next hW).cell 1, (HG.out.next hW).cell 2, (HG.out.next hW).cell 3, (HS.out W (bnext (bnext HB1.out HT.out.below) hW)).2.2.2, hW⟩
              clear hs2 hg0
              have HTA := Lib.hid ((HT.out.alloc (.cells #[.slice none 0 0, .int .i64 0, .int .i64 0, .int .i64 0] 41)).next (Below.drew (Below.refl _ _))).1
              have HZA := Lib.hid (Blk.new wr 41 #[.slice none 0 0, .int .i64 0, .int .i64 0, .int .i64 0]).drew
              go_upto_region 27 with fail
              go_region_held3 (fun W => W.cell? ⟨g, 0, none⟩ = some (.slice av s.l.length cv) ∧ W.cell? ⟨g, 1, none⟩ = some (.int .i64 (F : Int)) ∧ W.cell? ⟨g, 2, none⟩ = some (.int .i64 (B : Int)) ∧ W.cell? ⟨g, 3, none⟩ = some (.int .i64 (M : Int)) ∧ W.cell? ⟨ad.block, ad.off + 3, none⟩ = some (.int .u64 (D.toNat : Int)) ∧ Below wr.heap.size wr W)
                (first | assumption | (refine HC4.out _ ?_; repeat (first | exact Below.refl _ _ | exact bnext hbl hb6 | refine Below.drew ?_ | refine bl_alloc ?_ _ | refine below_set ?_ (Nat.le_refl _))) | go_keep)
                (first | (go_at_call 21; obtain ⟨_, _, _, _, _, hbl⟩ := ‹_ ∧ _ ∧ _ ∧ _ ∧ _ ∧ Below wr.heap.size wr _›; (with_reducible refine (HC1.out _ _ HTA.out).mono ?_); rintro e w6 ⟨v6, u6, rfl, hi6, hp6, hk6, hb6⟩; obtain ⟨a6, c6, rfl⟩ := hp6.slice; have hu6 := hi6; obtain ⟨_, _, rfl, _⟩ := hu6; have hq6 := HZA.out.kept hk6 (.inr rfl); have y0 : w6.cell? ⟨wr.heap.size, 0, none⟩ = some (.slice none 0 0) := hq6.cell 0; have y1 : w6.cell? ⟨wr.heap.size, 1, none⟩ = some (.int .i64 0) := hq6.cell 1; have y2 : w6.cell? ⟨wr.heap.size, 2, none⟩ = some (.int .i64 0) := hq6.cell 2; have y3 : w6.cell? ⟨wr.heap.size, 3, none⟩ = some (.int .i64 0) := hq6.cell 3; have x0 := hq6.frozen 0; have x1 := hq6.frozen 1; have x2 := hq6.frozen 2; have x3 := hq6.frozen 3) | (go_at_call 21; obtain ⟨_, _, _, _, _, hbl⟩ := ‹_ ∧ _ ∧ _ ∧ _ ∧ _ ∧ Below wr.heap.size wr _›; (with_reducible refine (HC1.out _ _ (HT.out.next hbl).1).mono ?_); rintro e w6 ⟨v6, u6, rfl, hi6, hp6, hk6, hb6⟩; obtain ⟨a6, c6, rfl⟩ := hp6.slice; have hu6 := hi6; obtain ⟨_, _, rfl, _⟩ := hu6))
              · have hg6 := (HG.out.drew).kept hk6 rfl
                have HP7 := Lib.hid (hp6.alloc (.cells #[.slice a6 s2.l.length c6, .int .i64 (F : Int), .int .i64 (B : Int), .int .i64 (M : Int)] 41))
                have HG7 := Lib.hid (hg6.alloc (.cells #[.slice a6 s2.l.length c6, .int .i64 (F : Int), .int .i64 (B : Int), .int .i64 (M : Int)] 41))
                have HH7 := Lib.hid (Blk.new w6 41 #[.slice a6 s2.l.length c6, .int .i64 (F : Int), .int .i64 (B : Int), .int .i64 (M : Int)])
                have HKI := Lib.hid fun w8 k hs => hi6.kept (w := w6.alloc (.cells #[.slice a6 s2.l.length c6, .int .i64 (F : Int), .int .i64 (B : Int), .int .i64 (M : Int)] 41)) (w' := w8) (fun q _ hq => Below.heap_alloc w6 _ q hq) (by rw [World.size_alloc]; exact Nat.le_succ _) k hs
                clear hg6 hi6 hp6 hk6 hb6 hbl HC1 HC4 HTA HZA HT HG c0 c1 c2 c3
                have hx7 := (HS.out _ (bnext HB1.out HP7.out.below)).2.2.2
                have HC2 := Lib.hid (sdueH nw2 D HP7.out HN.out (by omega) (by omega))
                rw [← HS2.out] at HC2
                generalize hw7 : w6.alloc (.cells #[.slice a6 s2.l.length c6, .int .i64 (F : Int), .int .i64 (B : Int), .int .i64 (M : Int)] 41) = w7 at *
                generalize w6.heap.size = g2 at *
                clear hw7
                go_wp2_with fail
                refine HC2.out.mono ?_
                rintro e w8 ⟨u8, rfl, hi8, hp8, hk8, hh8, hz8⟩
                have hg8 := HG7.out.kept hk8 (.inl rfl)
                have hq8 := HH7.out.kept hk8 (.inr rfl)
                have HSY := Lib.hid (same_yes _ _ _ _ _ w8 hi8 (HKI.out w8 hh8 hz8))
                have HP8 := Lib.hid hp8
                have HG8 := Lib.hid hg8
                have HQ8 := Lib.hid hq8
                obtain ⟨_, _, rfl, _⟩ := hi8
                clear hh8 hz8 HP7 HG7 HH7 HC2 HKI hp8 hk8 hg8 hq8 hx7
                go_wp2_with fail
                refine HSY.out.mono ?_
                rintro e w9 ⟨rfl, n9, rfl⟩
                have hp9 := HP8.out.next (pw_below_drewN (Below.refl _ _) n9)
                have hh9 := HQ8.out.drewN n9
                have hg9 := HG8.out.drewN n9
                clear HSY
                have d0 : (w8.drewN n9).cell? ⟨g2, 0, none⟩ = some (.slice a6 s2.l.length c6) := hh9.cell 0
                have d1 : (w8.drewN n9).cell? ⟨g2, 1, none⟩ = some (.int .i64 (F : Int)) := hh9.cell 1
                have d2 : (w8.drewN n9).cell? ⟨g2, 2, none⟩ = some (.int .i64 (B : Int)) := hh9.cell 2
                have d3 : (w8.drewN n9).cell? ⟨g2, 3, none⟩ = some (.int .i64 (M : Int)) := hh9.cell 3
                have c0 : (w8.drewN n9).cell? ⟨g, 0, none⟩ = some (.slice av s.l.length cv) := hg9.cell 0
                have c1 : (w8.drewN n9).cell? ⟨g, 1, none⟩ = some (.int .i64 (F : Int)) := hg9.cell 1
                have c2 : (w8.drewN n9).cell? ⟨g, 2, none⟩ = some (.int .i64 (B : Int)) := hg9.cell 2
                have c3 : (w8.drewN n9).cell? ⟨g, 3, none⟩ = some (.int .i64 (M : Int)) := hg9.cell 3
                have f0 := hg9.frozen 0
                have f1 := hg9.frozen 1
                have f2 := hg9.frozen 2
                have f3 := hg9.frozen 3
                have HPX := Lib.hid ((pair_set4 hp9.1 (g := g) (.inl rfl) (.slice a6 s2.l.length c6) (.int .i64 (F : Int)) (.int .i64 (B : Int)) (.int .i64 (M : Int))).fewer (G' := fun q => q = g) (fun q hq => .inl hq))
                have HGX := Lib.hid (set4 (v' := .slice a6 s2.l.length c6) hg9)
                clear hp9 hh9 hg9 HP8 HG8 HQ8
                generalize w8.drewN n9 = w10 at *
                have HSN := Lib.hid (snext HPX.out)
                have hlx := HN2.out.len
                go_wp2_with fail
                refine HSN.out.mono ?_
                rintro e w20 ⟨rfl, hp20, hk20⟩
                have hg20 := HGX.out.kept hk20 rfl
                have HRN := Lib.hid (rnext s2 hp20 (by omega))
                rw [HN2.out.fly, HN2.out.base, HN2.out.most] at HRN
                have c0 : w20.cell? ⟨g, 0, none⟩ = some (.slice a6 s2.l.length c6) := hg20.cell 0
                have c1 : w20.cell? ⟨g, 1, none⟩ = some (.int .i64 (F : Int)) := hg20.cell 1
                have c2 : w20.cell? ⟨g, 2, none⟩ = some (.int .i64 (B : Int)) := hg20.cell 2
                have c3 : w20.cell? ⟨g, 3, none⟩ = some (.int .i64 (M : Int)) := hg20.cell 3
                generalize (nxT s2.next).1 = nx1 at *
                generalize (nxT s2.next).2 = nx2 at *
                have HP20 := Lib.hid hp20
                have HG20 := Lib.hid hg20
                have hx1 : (nx1 != nx1) = false := by simp
                have hx2 : (nx2 != nx2) = false := by simp
                clear hp20 hk20 hg20 HSN HPX HGX
                go_wp2_with fail
                refine HRN.out.mono ?_
                rintro e w22 ⟨rfl, hb22⟩
                have HP22 := Lib.hid (HP20.out.next hb22).1
                have HG22 := Lib.hid (HG20.out.next hb22)
                have hg22 := HG22.out
                clear hb22 HP20 HG20 HRN c0 c1 c2 c3
                have c0 : w22.cell? ⟨g, 0, none⟩ = some (.slice a6 s2.l.length c6) := hg22.cell 0
                have c1 : w22.cell? ⟨g, 1, none⟩ = some (.int .i64 (F : Int)) := hg22.cell 1
                have c2 : w22.cell? ⟨g, 2, none⟩ = some (.int .i64 (B : Int)) := hg22.cell 2
                have c3 : w22.cell? ⟨g, 3, none⟩ = some (.int .i64 (M : Int)) := hg22.cell 3
                have HLN := Lib.hid fun W hW => slen (HP22.out.next (w' := W) hW).1
                have HFL := Lib.hid fun W hW => sflying (HP22.out.next (w' := W) hW).1
                have HRF := Lib.hid fun W hW => rflying s2 (HP22.out.next (w' := W) hW).1 (by omega)
                rw [HN2.out.fly, HN2.out.base, HN2.out.most, ← HN2.out.fl] at HRF
                have HC4 : Hid (∀ W, Below w22.heap.size w22 W → W.cell? ⟨g, 0, none⟩ = some (.slice a6 s2.l.length c6) ∧ W.cell? ⟨g, 1, none⟩ = some (.int .i64 (F : Int)) ∧ W.cell? ⟨g, 2, none⟩ = some (.int .i64 (B : Int)) ∧ W.cell? ⟨g, 3, none⟩ = some (.int .i64 (M : Int)) ∧ Below w22.heap.size w22 W) := Lib.hid fun W hW => ⟨(HG22.out.next hW).cell 0, (HG22.out.next hW).cell 1, (HG22.out.next hW).cell 2, (HG22.out.next hW).cell 3, hW⟩
                generalize hfl9 : s2.flying = fl9 at *
                generalize hll9 : s2.l.length = ll9 at *
                have hl1 : ((ll9 : Int) != (ll9 : Int)) = false := by simp
                have hl2 : ((fl9 : Int) != (fl9 : Int)) = false := by simp
                clear hfl9 hg22 hll9
                go_wp2_with fail
                go_region_held3 (fun W => W.cell? ⟨g, 0, none⟩ = some (.slice a6 ll9 c6) ∧ W.cell? ⟨g, 1, none⟩ = some (.int .i64 (F : Int)) ∧ W.cell? ⟨g, 2, none⟩ = some (.int .i64 (B : Int)) ∧ W.cell? ⟨g, 3, none⟩ = some (.int .i64 (M : Int)) ∧ Below w22.heap.size w22 W)
                  (first | assumption | exact HC4.out _ (Below.drew (Below.refl _ _)) | exact HC4.out _ (bnext hbl hb23) | go_keep)
                  (first | (go_at_call 13; obtain ⟨_, _, _, _, hbl⟩ := ‹_ ∧ _ ∧ _ ∧ _ ∧ Below w22.heap.size w22 _›; (with_reducible refine (HLN.out _ hbl).mono ?_); rintro e w23 ⟨rfl, rfl⟩) | (go_at_call 16; obtain ⟨_, _, _, _, hbl⟩ := ‹_ ∧ _ ∧ _ ∧ _ ∧ Below w22.heap.size w22 _›; (with_reducible refine (HFL.out _ hbl).mono ?_); rintro e w23 ⟨rfl, rfl⟩) | (go_at_call 24; obtain ⟨_, _, _, _, hbl⟩ := ‹_ ∧ _ ∧ _ ∧ _ ∧ Below w22.heap.size w22 _›; (with_reducible refine (HRF.out _ hbl).mono ?_); rintro e w23 ⟨rfl, hb23⟩))
                go_wp2_with fail
                go_roundw
                case rel => exact ⟨k + 1, nw2, _, s2, by omega, by go_num, rfl, hnw3, Lib.hid (HP22.out.next (bnext hbl hb23)).1, HN2, Lib.hid (HG22.out.next (bnext hbl hb23))⟩
                case measure => simp [intOf]; omega
              · have hgl := HG.out.lt
                have hg6 := ((HG.out.alloc (.cells #[.slice none 0 0, .int .i64 0, .int .i64 0, .int .i64 0] 41)).drew).kept hk6 (.inl rfl)
                have HP7 := Lib.hid ((((hp6.set (g := wr.heap.size) (.inr rfl) 0 (.slice a6 s2.l.length c6)).set (g := wr.heap.size) (.inr rfl) 1 (.int .i64 (F : Int))).set (g := wr.heap.size) (.inr rfl) 2 (.int .i64 (B : Int))).set (g := wr.heap.size) (.inr rfl) 3 (.int .i64 (M : Int)))
                have HG7 := Lib.hid ((((hg6.far (p := ⟨wr.heap.size, 0, none⟩) (Nat.ne_of_lt hgl) (.slice a6 s2.l.length c6)).far (p := ⟨wr.heap.size, 1, none⟩) (Nat.ne_of_lt hgl) (.int .i64 (F : Int))).far (p := ⟨wr.heap.size, 2, none⟩) (Nat.ne_of_lt hgl) (.int .i64 (B : Int))).far (p := ⟨wr.heap.size, 3, none⟩) (Nat.ne_of_lt hgl) (.int .i64 (M : Int)))
                have HH7 := Lib.hid (((((hq6.set_ 0 (.slice a6 s2.l.length c6)).set_ 1 (.int .i64 (F : Int))).set_ 2 (.int .i64 (B : Int))).set_ 3 (.int .i64 (M : Int)) : Blk _ wr.heap.size 41 #[.slice a6 s2.l.length c6, .int .i64 (F : Int), .int .i64 (B : Int), .int .i64 (M : Int)]))
                have HKI := Lib.hid fun w8 k hs => hi6.kept (w := (((w6.setCell ⟨wr.heap.size, 0, none⟩ (.slice a6 s2.l.length c6)).setCell ⟨wr.heap.size, 1, none⟩ (.int .i64 (F : Int))).setCell ⟨wr.heap.size, 2, none⟩ (.int .i64 (B : Int))).setCell ⟨wr.heap.size, 3, none⟩ (.int .i64 (M : Int))) (w' := w8) (fun q hq _ => by
                  have hne : q ≠ wr.heap.size := by
                    have e : ((wr.alloc (.cells #[.slice none 0 0, .int .i64 0, .int .i64 0, .int .i64 0] 41)).drew).heap.size = wr.heap.size + 1 := World.size_alloc _ _
                    rw [e] at hq
                    omega
                  exact (Below.heap_setCell _ ⟨wr.heap.size, 3, none⟩ _ q hne).trans ((Below.heap_setCell _ ⟨wr.heap.size, 2, none⟩ _ q hne).trans ((Below.heap_setCell _ ⟨wr.heap.size, 1, none⟩ _ q hne).trans (Below.heap_setCell _ ⟨wr.heap.size, 0, none⟩ _ q hne)))) (by simp only [World.size_setCell]; exact Nat.le_refl _) k hs
                clear hg6 hi6 hp6 hk6 hb6 hbl hq6 hgl HC1 HC4 HTA HZA HT HG c0 c1 c2 c3 y0 y1 y2 y3 x0 x1 x2 x3
                have hx7 := (HS.out _ (bnext HB1.out HP7.out.below)).2.2.2
                have HC2 := Lib.hid (sdueH nw2 D HP7.out HN.out (by omega) (by omega))
                rw [← HS2.out] at HC2
                generalize hw7 : (((w6.setCell ⟨wr.heap.size, 0, none⟩ (.slice a6 s2.l.length c6)).setCell ⟨wr.heap.size, 1, none⟩ (.int .i64 (F : Int))).setCell ⟨wr.heap.size, 2, none⟩ (.int .i64 (B : Int))).setCell ⟨wr.heap.size, 3, none⟩ (.int .i64 (M : Int)) = w7 at *
                generalize wr.heap.size = g2 at *
                clear hw7
                go_wp2_with fail
                refine HC2.out.mono ?_
                rintro e w8 ⟨u8, rfl, hi8, hp8, hk8, hh8, hz8⟩
                have hg8 := HG7.out.kept hk8 (.inl rfl)
                have hq8 := HH7.out.kept hk8 (.inr rfl)
                have HSY := Lib.hid (same_yes _ _ _ _ _ w8 hi8 (HKI.out w8 hh8 hz8))
                have HP8 := Lib.hid hp8
                have HG8 := Lib.hid hg8
                have HQ8 := Lib.hid hq8
                obtain ⟨_, _, rfl, _⟩ := hi8
                clear hh8 hz8 HP7 HG7 HH7 HC2 HKI hp8 hk8 hg8 hq8 hx7
                go_wp2_with fail
                refine HSY.out.mono ?_
                rintro e w9 ⟨rfl, n9, rfl⟩
                have hp9 := HP8.out.next (pw_below_drewN (Below.refl _ _) n9)
                have hh9 := HQ8.out.drewN n9
                have hg9 := HG8.out.drewN n9
                clear HSY
                have d0 : (w8.drewN n9).cell? ⟨g2, 0, none⟩ = some (.slice a6 s2.l.length c6) := hh9.cell 0
                have d1 : (w8.drewN n9).cell? ⟨g2, 1, none⟩ = some (.int .i64 (F : Int)) := hh9.cell 1
                have d2 : (w8.drewN n9).cell? ⟨g2, 2, none⟩ = some (.int .i64 (B : Int)) := hh9.cell 2
                have d3 : (w8.drewN n9).cell? ⟨g2, 3, none⟩ = some (.int .i64 (M : Int)) := hh9.cell 3
                have c0 : (w8.drewN n9).cell? ⟨g, 0, none⟩ = some (.slice av s.l.length cv) := hg9.cell 0
                have c1 : (w8.drewN n9).cell? ⟨g, 1, none⟩ = some (.int .i64 (F : Int)) := hg9.cell 1
                have c2 : (w8.drewN n9).cell? ⟨g, 2, none⟩ = some (.int .i64 (B : Int)) := hg9.cell 2
                have c3 : (w8.drewN n9).cell? ⟨g, 3, none⟩ = some (.int .i64 (M : Int)) := hg9.cell 3
                have f0 := hg9.frozen 0
                have f1 := hg9.frozen 1
                have f2 := hg9.frozen 2
                have f3 := hg9.frozen 3
                have HPX := Lib.hid ((pair_set4 hp9.1 (g := g) (.inl rfl) (.slice a6 s2.l.length c6) (.int .i64 (F : Int)) (.int .i64 (B : Int)) (.int .i64 (M : Int))).fewer (G' := fun q => q = g) (fun q hq => .inl hq))
                have HGX := Lib.hid (set4 (v' := .slice a6 s2.l.length c6) hg9)
                clear hp9 hh9 hg9 HP8 HG8 HQ8
                generalize w8.drewN n9 = w10 at *
                have HSN := Lib.hid (snext HPX.out)
                have hlx := HN2.out.len
                go_wp2_with fail
                refine HSN.out.mono ?_
                rintro e w20 ⟨rfl, hp20, hk20⟩
                have hg20 := HGX.out.kept hk20 rfl
                have HRN := Lib.hid (rnext s2 hp20 (by omega))
                rw [HN2.out.fly, HN2.out.base, HN2.out.most] at HRN
                have c0 : w20.cell? ⟨g, 0, none⟩ = some (.slice a6 s2.l.length c6) := hg20.cell 0
                have c1 : w20.cell? ⟨g, 1, none⟩ = some (.int .i64 (F : Int)) := hg20.cell 1
                have c2 : w20.cell? ⟨g, 2, none⟩ = some (.int .i64 (B : Int)) := hg20.cell 2
                have c3 : w20.cell? ⟨g, 3, none⟩ = some (.int .i64 (M : Int)) := hg20.cell 3
                generalize (nxT s2.next).1 = nx1 at *
                generalize (nxT s2.next).2 = nx2 at *
                have HP20 := Lib.hid hp20
                have HG20 := Lib.hid hg20
                have hx1 : (nx1 != nx1) = false := by simp
                have hx2 : (nx2 != nx2) = false := by simp
                clear hp20 hk20 hg20 HSN HPX HGX
                go_wp2_with fail
                refine HRN.out.mono ?_
                rintro e w22 ⟨rfl, hb22⟩
                have HP22 := Lib.hid (HP20.out.next hb22).1
                have HG22 := Lib.hid (HG20.out.next hb22)
                have hg22 := HG22.out
                clear hb22 HP20 HG20 HRN c0 c1 c2 c3
                have c0 : w22.cell? ⟨g, 0, none⟩ = some (.slice a6 s2.l.length c6) := hg22.cell 0
                have c1 : w22.cell? ⟨g, 1, none⟩ = some (.int .i64 (F : Int)) := hg22.cell 1
                have c2 : w22.cell? ⟨g, 2, none⟩ = some (.int .i64 (B : Int)) := hg22.cell 2
                have c3 : w22.cell? ⟨g, 3, none⟩ = some (.int .i64 (M : Int)) := hg22.cell 3
                have HLN := Lib.hid fun W hW => slen (HP22.out.next (w' := W) hW).1
                have HFL := Lib.hid fun W hW => sflying (HP22.out.next (w' := W) hW).1
                have HRF := Lib.hid fun W hW => rflying s2 (HP22.out.next (w' := W) hW).1 (by omega)
                rw [HN2.out.fly, HN2.out.base, HN2.out.most, ← HN2.out.fl] at HRF
                have HC4 : Hid (∀ W, Below w22.heap.size w22 W → W.cell? ⟨g, 0, none⟩ = some (.slice a6 s2.l.length c6) ∧ W.cell? ⟨g, 1, none⟩ = some (.int .i64 (F : Int)) ∧ W.cell? ⟨g, 2, none⟩ = some (.int .i64 (B : Int)) ∧ W.cell? ⟨g, 3, none⟩ = some (.int .i64 (M : Int)) ∧ Below w22.heap.size w22 W) := Lib.hid fun W hW => ⟨(HG22.out.next hW).cell 0, (HG22.out.next hW).cell 1, (HG22.out.next hW).cell 2, (HG22.out.next hW).cell 3, hW⟩
                generalize hfl9 : s2.flying = fl9 at *
                generalize hll9 : s2.l.length = ll9 at *
                have hl1 : ((ll9 : Int) != (ll9 : Int)) = false := by simp
                have hl2 : ((fl9 : Int) != (fl9 : Int)) = false := by simp
                clear hfl9 hg22 hll9
                go_wp2_with fail
                go_region_held3 (fun W => W.cell? ⟨g, 0, none⟩ = some (.slice a6 ll9 c6) ∧ W.cell? ⟨g, 1, none⟩ = some (.int .i64 (F : Int)) ∧ W.cell? ⟨g, 2, none⟩ = some (.int .i64 (B : Int)) ∧ W.cell? ⟨g, 3, none⟩ = some (.int .i64 (M : Int)) ∧ Below w22.heap.size w22 W)
                  (first | assumption | exact HC4.out _ (Below.drew (Below.refl _ _)) | exact HC4.out _ (bnext hbl hb23) | go_keep)
                  (first | (go_at_call 13; obtain ⟨_, _, _, _, hbl⟩ := ‹_ ∧ _ ∧ _ ∧ _ ∧ Below w22.heap.size w22 _›; (with_reducible refine (HLN.out _ hbl).mono ?_); rintro e w23 ⟨rfl, rfl⟩) | (go_at_call 16; obtain ⟨_, _, _, _, hbl⟩ := ‹_ ∧ _ ∧ _ ∧ _ ∧ Below w22.heap.size w22 _›; (with_reducible refine (HFL.out _ hbl).mono ?_); rintro e w23 ⟨rfl, rfl⟩) | (go_at_call 24; obtain ⟨_, _, _, _, hbl⟩ := ‹_ ∧ _ ∧ _ ∧ _ ∧ Below w22.heap.size w22 _›; (with_reducible refine (HRF.out _ hbl).mono ?_); rintro e w23 ⟨rfl, hb23⟩))
                go_wp2_with fail
                go_roundw
                case rel => exact ⟨k + 1, nw2, _, s2, by omega, by go_num, rfl, hnw3, Lib.hid (HP22.out.next (bnext hbl hb23)).1, HN2, Lib.hid (HG22.out.next (bnext hbl hb23))⟩
                case measure => simp [intOf]; omega
          | 4, _ =>
            as_aux_lemma =>
              go_upto_region 15 with fail
              have HC1 := Lib.hid (rdone raw s HT.out (by omega) HN.out.up)
              rw [HN.out.fly, HN.out.base, HN.out.most] at HC1
              have hg0 := HG.out
              have c0 : wr.cell? ⟨g, 0, none⟩ = some (v) := hg0.cell 0
              have c1 : wr.cell? ⟨g, 1, none⟩ = some (.int .i64 (F : Int)) := hg0.cell 1
              have c2 : wr.cell? ⟨g, 2, none⟩ = some (.int .i64 (B : Int)) := hg0.cell 2
              have c3 : wr.cell? ⟨g, 3, none⟩ = some (.int .i64 (M : Int)) := hg0.cell 3
              have HN2 := Lib.hid (HN.out.done raw)
              obtain ⟨bb, hbb⟩ : ∃ bb : Bool, bb = (s.find raw).isSome := ⟨_, rfl⟩
              have HBB := Lib.hid hbb
              rw [← hbb] at HC1
              obtain ⟨s2, hs2⟩ : ∃ s2, s2 = s.done raw := ⟨_, rfl⟩
              have HS2 := Lib.hid hs2
              rw [← hs2] at HC1 HN2
              clear hs2
              obtain ⟨av, cv, hv⟩ := HT.out.slice
              rw [hv] at c0 HC1
              clear hbb hg0 hv
              go_wp2_with fail
              refine HC1.out.mono ?_
              clear hs0 hs1 hs2 hs3 hix
              rintro e w6 ⟨v6, rfl, hp6, hk6⟩
              have hg6 := HG.out.kept hk6 rfl
              have HP7 := Lib.hid (hp6.alloc (.cells #[v6, .int .i64 (F : Int), .int .i64 (B : Int), .int .i64 (M : Int)] 41))
              have HG7 := Lib.hid (hg6.alloc (.cells #[v6, .int .i64 (F : Int), .int .i64 (B : Int), .int .i64 (M : Int)] 41))
              have HH7 := Lib.hid (Blk.new w6 41 #[v6, .int .i64 (F : Int), .int .i64 (B : Int), .int .i64 (M : Int)])
              obtain ⟨a6, c6, rfl⟩ := hp6.slice
              clear hp6 hk6 hg6 HT HG HC1 c0 c1 c2 c3
              go_wp2_with fail
              have hc2 := sdone raw HP7.out HSW.out HN.out (by omega)
              rw [show (s.find raw).isSome = bb from HBB.out.symm] at hc2
              rw [← HS2.out] at hc2
              have HC2 := Lib.hid hc2
              clear hc2
              generalize w6.alloc _ = w7 at *
              generalize w6.heap.size = g2 at *
              refine HC2.out.mono ?_
              rintro e w8 ⟨rfl, hp8, hk8⟩
              have hg8 := HG7.out.kept hk8 (.inl rfl)
              have hh8 := HH7.out.kept hk8 (.inr rfl)
              have hbb2 : (bb == bb) = true := by simp
              have d0 : w8.cell? ⟨g2, 0, none⟩ = some (.slice a6 s2.l.length c6) := hh8.cell 0
              have d1 : w8.cell? ⟨g2, 1, none⟩ = some (.int .i64 (F : Int)) := hh8.cell 1
              have d2 : w8.cell? ⟨g2, 2, none⟩ = some (.int .i64 (B : Int)) := hh8.cell 2
              have d3 : w8.cell? ⟨g2, 3, none⟩ = some (.int .i64 (M : Int)) := hh8.cell 3
              have c0 : w8.cell? ⟨g, 0, none⟩ = some (v) := hg8.cell 0
              have c1 : w8.cell? ⟨g, 1, none⟩ = some (.int .i64 (F : Int)) := hg8.cell 1
              have c2 : w8.cell? ⟨g, 2, none⟩ = some (.int .i64 (B : Int)) := hg8.cell 2
              have c3 : w8.cell? ⟨g, 3, none⟩ = some (.int .i64 (M : Int)) := hg8.cell 3
              have f0 := hg8.frozen 0
              have f1 := hg8.frozen 1
              have f2 := hg8.frozen 2
              have f3 := hg8.frozen 3
              have HPX := Lib.hid ((pair_set4 hp8 (g := g) (.inl rfl) (.slice a6 s2.l.length c6) (.int .i64 (F : Int)) (.int .i64 (B : Int)) (.int .i64 (M : Int))).fewer (G' := fun q => q = g) (fun q hq => .inl hq))
              have HGX := Lib.hid (set4 (v' := .slice a6 s2.l.length c6) hg8)
              clear hp8 hk8 hg8 hh8 HP7 HG7 HH7 HC2 HBB
              have HSN := Lib.hid (snext HPX.out)
              have hlx := HN2.out.len
              go_wp2_with fail
              refine HSN.out.mono ?_
              rintro e w20 ⟨rfl, hp20, hk20⟩
              have hg20 := HGX.out.kept hk20 rfl
              have HRN := Lib.hid (rnext s2 hp20 (by omega))
              rw [HN2.out.fly, HN2.out.base, HN2.out.most] at HRN
              have c0 : w20.cell? ⟨g, 0, none⟩ = some (.slice a6 s2.l.length c6) := hg20.cell 0
              have c1 : w20.cell? ⟨g, 1, none⟩ = some (.int .i64 (F : Int)) := hg20.cell 1
              have c2 : w20.cell? ⟨g, 2, none⟩ = some (.int .i64 (B : Int)) := hg20.cell 2
              have c3 : w20.cell? ⟨g, 3, none⟩ = some (.int .i64 (M : Int)) := hg20.cell 3
              generalize (nxT s2.next).1 = nx1 at *
              generalize (nxT s2.next).2 = nx2 at *
              have HP20 := Lib.hid hp20
              have HG20 := Lib.hid hg20
              have hx1 : (nx1 != nx1) = false := by simp
              have hx2 : (nx2 != nx2) = false := by simp
              clear hp20 hk20 hg20 HSN HPX HGX
              go_wp2_with fail
              refine HRN.out.mono ?_
              rintro e w22 ⟨rfl, hb22⟩
              have HP22 := Lib.hid (HP20.out.next hb22).1
              have HG22 := Lib.hid (HG20.out.next hb22)
              have hg22 := HG22.out
              clear hb22 HP20 HG20 HRN c0 c1 c2 c3
              have c0 : w22.cell? ⟨g, 0, none⟩ = some (.slice a6 s2.l.length c6) := hg22.cell 0
              have c1 : w22.cell? ⟨g, 1, none⟩ = some (.int .i64 (F : Int)) := hg22.cell 1
              have c2 : w22.cell? ⟨g, 2, none⟩ = some (.int .i64 (B : Int)) := hg22.cell 2
              have c3 : w22.cell? ⟨g, 3, none⟩ = some (.int .i64 (M : Int)) := hg22.cell 3
              have HLN := Lib.hid fun W hW => slen (HP22.out.next (w' := W) hW).1
              have HFL := Lib.hid fun W hW => sflying (HP22.out.next (w' := W) hW).1
              have HRF := Lib.hid fun W hW => rflying s2 (HP22.out.next (w' := W) hW).1 (by omega)
              rw [HN2.out.fly, HN2.out.base, HN2.out.most, ← HN2.out.fl] at HRF
              have HC4 : Hid (∀ W, Below w22.heap.size w22 W → W.cell? ⟨g, 0, none⟩ = some (.slice a6 s2.l.length c6) ∧ W.cell? ⟨g, 1, none⟩ = some (.int .i64 (F : Int)) ∧ W.cell? ⟨g, 2, none⟩ = some (.int .i64 (B : Int)) ∧ W.cell? ⟨g, 3, none⟩ = some (.int .i64 (M : Int)) ∧ Below w22.heap.size w22 W) := Lib.hid fun W hW => ⟨(HG22.out.next hW).cell 0, (HG22.out.next hW).cell 1, (HG22.out.next hW).cell 2, (HG22.out.next hW).cell 3, hW⟩
              generalize hfl9 : s2.flying = fl9 at *
              generalize hll9 : s2.l.length = ll9 at *
              have hl1 : ((ll9 : Int) != (ll9 : Int)) = false := by simp
              have hl2 : ((fl9 : Int) != (fl9 : Int)) = false := by simp
              clear hfl9 hg22 hll9
              go_wp2_with fail
              go_region_held3 (fun W => W.cell? ⟨g, 0, none⟩ = some (.slice a6 ll9 c6) ∧ W.cell? ⟨g, 1, none⟩ = some (.int .i64 (F : Int)) ∧ W.cell? ⟨g, 2, none⟩ = some (.int .i64 (B : Int)) ∧ W.cell? ⟨g, 3, none⟩ = some (.int .i64 (M : Int)) ∧ Below w22.heap.size w22 W)
                (first | assumption | exact HC4.out _ (Below.drew (Below.refl _ _)) | exact HC4.out _ (bnext hbl hb23) | go_keep)
                (first | (go_at_call 13; obtain ⟨_, _, _, _, hbl⟩ := ‹_ ∧ _ ∧ _ ∧ _ ∧ Below w22.heap.size w22 _›; (with_reducible refine (HLN.out _ hbl).mono ?_); rintro e w23 ⟨rfl, rfl⟩) | (go_at_call 16; obtain ⟨_, _, _, _, hbl⟩ := ‹_ ∧ _ ∧ _ ∧ _ ∧ Below w22.heap.size w22 _›; (with_reducible refine (HFL.out _ hbl).mono ?_); rintro e w23 ⟨rfl, rfl⟩) | (go_at_call 24; obtain ⟨_, _, _, _, hbl⟩ := ‹_ ∧ _ ∧ _ ∧ _ ∧ Below w22.heap.size w22 _›; (with_reducible refine (HRF.out _ hbl).mono ?_); rintro e w23 ⟨rfl, hb23⟩))
              go_wp2_with fail
              go_roundw
              case rel => exact ⟨k + 1, nw2, _, s2, by omega, by go_num, rfl, hnw3, Lib.hid (HP22.out.next (bnext hbl hb23)).1, HN2, Lib.hid (HG22.out.next (bnext hbl hb23))⟩
              case measure => simp [intOf]; omega
        · obtain ⟨seq, hseq⟩ : ∃ seq : Int, seq = (nm : Int) := ⟨_, rfl⟩
          have HSW : Hid ((Lit.int .i64 seq).wf = true) := Lib.hid (by rw [hseq]; exact wf_i64 (by omega) (by omega))
          have hwsq : IntKind.i64.wrap seq = seq := by rw [hseq]; exact IntWalk.i64_in _ (by omega)
          rw [← hseq] at hr2
          clear hno4 hseq
          match rr, hrl with
          | 0, _ =>
            as_aux_lemma =>
              go_upto_region 15 with fail
              have HC1 := Lib.hid (rput seq s HT.out (by omega))
              rw [HN.out.fly, HN.out.base, HN.out.most] at HC1
              have hg0 := HG.out
              have c0 : wr.cell? ⟨g, 0, none⟩ = some (v) := hg0.cell 0
              have c1 : wr.cell? ⟨g, 1, none⟩ = some (.int .i64 (F : Int)) := hg0.cell 1
              have c2 : wr.cell? ⟨g, 2, none⟩ = some (.int .i64 (B : Int)) := hg0.cell 2
              have c3 : wr.cell? ⟨g, 3, none⟩ = some (.int .i64 (M : Int)) := hg0.cell 3
              have HN2 := Lib.hid (HN.out.put seq)
              obtain ⟨bb, hbb⟩ : ∃ bb : Bool, bb = decide (¬ (s.has seq = true ∨ seq < 0)) := ⟨_, rfl⟩
              have HBB := Lib.hid hbb
              rw [← hbb] at HC1
              obtain ⟨s2, hs2⟩ : ∃ s2, s2 = s.put seq := ⟨_, rfl⟩
              have HS2 := Lib.hid hs2
              rw [← hs2] at HC1 HN2
              clear hs2
              obtain ⟨av, cv, hv⟩ := HT.out.slice
              rw [hv] at c0 HC1
              clear hbb hg0 hv
              go_wp2_with fail
              refine HC1.out.mono ?_
              clear hs0 hs1 hs2 hs3 hix
              rintro e w6 ⟨v6, rfl, hp6, hk6⟩
              have hg6 := HG.out.kept hk6 rfl
              have HP7 := Lib.hid (hp6.alloc (.cells #[v6, .int .i64 (F : Int), .int .i64 (B : Int), .int .i64 (M : Int)] 41))
              have HG7 := Lib.hid (hg6.alloc (.cells #[v6, .int .i64 (F : Int), .int .i64 (B : Int), .int .i64 (M : Int)] 41))
              have HH7 := Lib.hid (Blk.new w6 41 #[v6, .int .i64 (F : Int), .int .i64 (B : Int), .int .i64 (M : Int)])
              obtain ⟨a6, c6, rfl⟩ := hp6.slice
              clear hp6 hk6 hg6 HT HG HC1 c0 c1 c2 c3
              go_wp2_with fail
              have hc2 := sput seq HP7.out HSW.out (by omega)
              rw [show (!decide (s.has seq = true ∨ seq < 0)) = bb by rw [HBB.out, decide_not]] at hc2
              rw [← HS2.out] at hc2
              have HC2 := Lib.hid hc2
              clear hc2
              generalize w6.alloc _ = w7 at *
              generalize w6.heap.size = g2 at *
              refine HC2.out.mono ?_
              rintro e w8 ⟨rfl, hp8, hk8⟩
              have hg8 := HG7.out.kept hk8 (.inl rfl)
              have hh8 := HH7.out.kept hk8 (.inr rfl)
              have hbb2 : (bb == bb) = true := by simp
              have d0 : w8.cell? ⟨g2, 0, none⟩ = some (.slice a6 s2.l.length c6) := hh8.cell 0
              have d1 : w8.cell? ⟨g2, 1, none⟩ = some (.int .i64 (F : Int)) := hh8.cell 1
              have d2 : w8.cell? ⟨g2, 2, none⟩ = some (.int .i64 (B : Int)) := hh8.cell 2
              have d3 : w8.cell? ⟨g2, 3, none⟩ = some (.int .i64 (M : Int)) := hh8.cell 3
              have c0 : w8.cell? ⟨g, 0, none⟩ = some (v) := hg8.cell 0
              have c1 : w8.cell? ⟨g, 1, none⟩ = some (.int .i64 (F : Int)) := hg8.cell 1
              have c2 : w8.cell? ⟨g, 2, none⟩ = some (.int .i64 (B : Int)) := hg8.cell 2
              have c3 : w8.cell? ⟨g, 3, none⟩ = some (.int .i64 (M : Int)) := hg8.cell 3
              have f0 := hg8.frozen 0
              have f1 := hg8.frozen 1
              have f2 := hg8.frozen 2
              have f3 := hg8.frozen 3
              have HPX := Lib.hid ((pair_set4 hp8 (g := g) (.inl rfl) (.slice a6 s2.l.length c6) (.int .i64 (F : Int)) (.int .i64 (B : Int)) (.int .i64 (M : Int))).fewer (G' := fun q => q = g) (fun q hq => .inl hq))
              have HGX := Lib.hid (set4 (v' := .slice a6 s2.l.length c6) hg8)
              clear hp8 hk8 hg8 hh8 HP7 HG7 HH7 HC2 HBB
              have HSN := Lib.hid (snext HPX.out)
              have hlx := HN2.out.len
              go_wp2_with fail
              refine HSN.out.mono ?_
              rintro e w20 ⟨rfl, hp20, hk20⟩
              have hg20 := HGX.out.kept hk20 rfl
              have HRN := Lib.hid (rnext s2 hp20 (by omega))
              rw [HN2.out.fly, HN2.out.base, HN2.out.most] at HRN
              have c0 : w20.cell? ⟨g, 0, none⟩ = some (.slice a6 s2.l.length c6) := hg20.cell 0
              have c1 : w20.cell? ⟨g, 1, none⟩ = some (.int .i64 (F : Int)) := hg20.cell 1
              have c2 : w20.cell? ⟨g, 2, none⟩ = some (.int .i64 (B : Int)) := hg20.cell 2
              have c3 : w20.cell? ⟨g, 3, none⟩ = some (.int .i64 (M : Int)) := hg20.cell 3
              generalize (nxT s2.next).1 = nx1 at *
              generalize (nxT s2.next).2 = nx2 at *
              have HP20 := Lib.hid hp20
              have HG20 := Lib.hid hg20
              have hx1 : (nx1 != nx1) = false := by simp
              have hx2 : (nx2 != nx2) = false := by simp
              clear hp20 hk20 hg20 HSN HPX HGX
              go_wp2_with fail
              refine HRN.out.mono ?_
              rintro e w22 ⟨rfl, hb22⟩
              have HP22 := Lib.hid (HP20.out.next hb22).1
              have HG22 := Lib.hid (HG20.out.next hb22)
              have hg22 := HG22.out
              clear hb22 HP20 HG20 HRN c0 c1 c2 c3
              have c0 : w22.cell? ⟨g, 0, none⟩ = some (.slice a6 s2.l.length c6) := hg22.cell 0
              have c1 : w22.cell? ⟨g, 1, none⟩ = some (.int .i64 (F : Int)) := hg22.cell 1
              have c2 : w22.cell? ⟨g, 2, none⟩ = some (.int .i64 (B : Int)) := hg22.cell 2
              have c3 : w22.cell? ⟨g, 3, none⟩ = some (.int .i64 (M : Int)) := hg22.cell 3
              have HLN := Lib.hid fun W hW => slen (HP22.out.next (w' := W) hW).1
              have HFL := Lib.hid fun W hW => sflying (HP22.out.next (w' := W) hW).1
              have HRF := Lib.hid fun W hW => rflying s2 (HP22.out.next (w' := W) hW).1 (by omega)
              rw [HN2.out.fly, HN2.out.base, HN2.out.most, ← HN2.out.fl] at HRF
              have HC4 : Hid (∀ W, Below w22.heap.size w22 W → W.cell? ⟨g, 0, none⟩ = some (.slice a6 s2.l.length c6) ∧ W.cell? ⟨g, 1, none⟩ = some (.int .i64 (F : Int)) ∧ W.cell? ⟨g, 2, none⟩ = some (.int .i64 (B : Int)) ∧ W.cell? ⟨g, 3, none⟩ = some (.int .i64 (M : Int)) ∧ Below w22.heap.size w22 W) := Lib.hid fun W hW => ⟨(HG22.out.next hW).cell 0, (HG22.out.next hW).cell 1, (HG22.out.next hW).cell 2, (HG22.out.next hW).cell 3, hW⟩
              generalize hfl9 : s2.flying = fl9 at *
              generalize hll9 : s2.l.length = ll9 at *
              have hl1 : ((ll9 : Int) != (ll9 : Int)) = false := by simp
              have hl2 : ((fl9 : Int) != (fl9 : Int)) = false := by simp
              clear hfl9 hg22 hll9
              go_wp2_with fail
              go_region_held3 (fun W => W.cell? ⟨g, 0, none⟩ = some (.slice a6 ll9 c6) ∧ W.cell? ⟨g, 1, none⟩ = some (.int .i64 (F : Int)) ∧ W.cell? ⟨g, 2, none⟩ = some (.int .i64 (B : Int)) ∧ W.cell? ⟨g, 3, none⟩ = some (.int .i64 (M : Int)) ∧ Below w22.heap.size w22 W)
                (first | assumption | exact HC4.out _ (Below.drew (Below.refl _ _)) | exact HC4.out _ (bnext hbl hb23) | go_keep)
                (first | (go_at_call 13; obtain ⟨_, _, _, _, hbl⟩ := ‹_ ∧ _ ∧ _ ∧ _ ∧ Below w22.heap.size w22 _›; (with_reducible refine (HLN.out _ hbl).mono ?_); rintro e w23 ⟨rfl, rfl⟩) | (go_at_call 16; obtain ⟨_, _, _, _, hbl⟩ := ‹_ ∧ _ ∧ _ ∧ _ ∧ Below w22.heap.size w22 _›; (with_reducible refine (HFL.out _ hbl).mono ?_); rintro e w23 ⟨rfl, rfl⟩) | (go_at_call 24; obtain ⟨_, _, _, _, hbl⟩ := ‹_ ∧ _ ∧ _ ∧ _ ∧ Below w22.heap.size w22 _›; (with_reducible refine (HRF.out _ hbl).mono ?_); rintro e w23 ⟨rfl, hb23⟩))
              go_wp2_with fail
              go_roundw
              case rel => exact ⟨k + 1, nw2, _, s2, by omega, by go_num, rfl, hnw3, Lib.hid (HP22.out.next (bnext hbl hb23)).1, HN2, Lib.hid (HG22.out.next (bnext hbl hb23))⟩
              case measure => simp [intOf]; omega
          | 1, _ =>
            as_aux_lemma =>
              go_upto_region 15 with fail
              have HC1 := Lib.hid (rput seq s HT.out (by omega))
              rw [HN.out.fly, HN.out.base, HN.out.most] at HC1
              have hg0 := HG.out
              have c0 : wr.cell? ⟨g, 0, none⟩ = some (v) := hg0.cell 0
              have c1 : wr.cell? ⟨g, 1, none⟩ = some (.int .i64 (F : Int)) := hg0.cell 1
              have c2 : wr.cell? ⟨g, 2, none⟩ = some (.int .i64 (B : Int)) := hg0.cell 2
              have c3 : wr.cell? ⟨g, 3, none⟩ = some (.int .i64 (M : Int)) := hg0.cell 3
              have HN2 := Lib.hid (HN.out.put seq)
              obtain ⟨bb, hbb⟩ : ∃ bb : Bool, bb = decide (¬ (s.has seq = true ∨ seq < 0)) := ⟨_, rfl⟩
              have HBB := Lib.hid hbb
              rw [← hbb] at HC1
              obtain ⟨s2, hs2⟩ : ∃ s2, s2 = s.put seq := ⟨_, rfl⟩
              have HS2 := Lib.hid hs2
              rw [← hs2] at HC1 HN2
              clear hs2
              obtain ⟨av, cv, hv⟩ := HT.out.slice
              rw [hv] at c0 HC1
              clear hbb hg0 hv
              go_wp2_with fail
              refine HC1.out.mono ?_
              clear hs0 hs1 hs2 hs3 hix
              rintro e w6 ⟨v6, rfl, hp6, hk6⟩
              have hg6 := HG.out.kept hk6 rfl
              have HP7 := Lib.hid (hp6.alloc (.cells #[v6, .int .i64 (F : Int), .int .i64 (B : Int), .int .i64 (M : Int)] 41))
              have HG7 := Lib.hid (hg6.alloc (.cells #[v6, .int .i64 (F : Int), .int .i64 (B : Int), .int .i64 (M : Int)] 41))
              have HH7 := Lib.hid (Blk.new w6 41 #[v6, .int .i64 (F : Int), .int .i64 (B : Int), .int .i64 (M : Int)])
              obtain ⟨a6, c6, rfl⟩ := hp6.slice
              clear hp6 hk6 hg6 HT HG HC1 c0 c1 c2 c3
              go_wp2_with fail
              have hc2 := sput seq HP7.out HSW.out (by omega)
              rw [show (!decide (s.has seq = true ∨ seq < 0)) = bb by rw [HBB.out, decide_not]] at hc2
              rw [← HS2.out] at hc2
              have HC2 := Lib.hid hc2
              clear hc2
              generalize w6.alloc _ = w7 at *
              generalize w6.heap.size = g2 at *
              refine HC2.out.mono ?_
              rintro e w8 ⟨rfl, hp8, hk8⟩
              have hg8 := HG7.out.kept hk8 (.inl rfl)
              have hh8 := HH7.out.kept hk8 (.inr rfl)
              have hbb2 : (bb == bb) = true := by simp
              have d0 : w8.cell? ⟨g2, 0, none⟩ = some (.slice a6 s2.l.length c6) := hh8.cell 0
              have d1 : w8.cell? ⟨g2, 1, none⟩ = some (.int .i64 (F : Int)) := hh8.cell 1
              have d2 : w8.cell? ⟨g2, 2, none⟩ = some (.int .i64 (B : Int)) := hh8.cell 2
              have d3 : w8.cell? ⟨g2, 3, none⟩ = some (.int .i64 (M : Int)) := hh8.cell 3
              have c0 : w8.cell? ⟨g, 0, none⟩ = some (v) := hg8.cell 0
              have c1 : w8.cell? ⟨g, 1, none⟩ = some (.int .i64 (F : Int)) := hg8.cell 1
              have c2 : w8.cell? ⟨g, 2, none⟩ = some (.int .i64 (B : Int)) := hg8.cell 2
              have c3 : w8.cell? ⟨g, 3, none⟩ = some (.int .i64 (M : Int)) := hg8.cell 3
              have f0 := hg8.frozen 0
              have f1 := hg8.frozen 1
              have f2 := hg8.frozen 2
              have f3 := hg8.frozen 3
              have HPX := Lib.hid ((pair_set4 hp8 (g := g) (.inl rfl) (.slice a6 s2.l.length c6) (.int .i64 (F : Int)) (.int .i64 (B : Int)) (.int .i64 (M : Int))).fewer (G' := fun q => q = g) (fun q hq => .inl hq))
              have HGX := Lib.hid (set4 (v' := .slice a6 s2.l.length c6) hg8)
              clear hp8 hk8 hg8 hh8 HP7 HG7 HH7 HC2 HBB
              have HSN := Lib.hid (snext HPX.out)
              have hlx := HN2.out.len
              go_wp2_with fail
              refine HSN.out.mono ?_
              rintro e w20 ⟨rfl, hp20, hk20⟩
              have hg20 := HGX.out.kept hk20 rfl
              have HRN := Lib.hid (rnext s2 hp20 (by omega))
              rw [HN2.out.fly, HN2.out.base, HN2.out.most] at HRN
              have c0 : w20.cell? ⟨g, 0, none⟩ = some (.slice a6 s2.l.length c6) := hg20.cell 0
              have c1 : w20.cell? ⟨g, 1, none⟩ = some (.int .i64 (F : Int)) := hg20.cell 1
              have c2 : w20.cell? ⟨g, 2, none⟩ = some (.int .i64 (B : Int)) := hg20.cell 2
              have c3 : w20.cell? ⟨g, 3, none⟩ = some (.int .i64 (M : Int)) := hg20.cell 3
              generalize (nxT s2.next).1 = nx1 at *
              generalize (nxT s2.next).2 = nx2 at *
              have HP20 := Lib.hid hp20
              have HG20 := Lib.hid hg20
              have hx1 : (nx1 != nx1) = false := by simp
              have hx2 : (nx2 != nx2) = false := by simp
              clear hp20 hk20 hg20 HSN HPX HGX
              go_wp2_with fail
              refine HRN.out.mono ?_
              rintro e w22 ⟨rfl, hb22⟩
              have HP22 := Lib.hid (HP20.out.next hb22).1
              have HG22 := Lib.hid (HG20.out.next hb22)
              have hg22 := HG22.out
              clear hb22 HP20 HG20 HRN c0 c1 c2 c3
              have c0 : w22.cell? ⟨g, 0, none⟩ = some (.slice a6 s2.l.length c6) := hg22.cell 0
              have c1 : w22.cell? ⟨g, 1, none⟩ = some (.int .i64 (F : Int)) := hg22.cell 1
              have c2 : w22.cell? ⟨g, 2, none⟩ = some (.int .i64 (B : Int)) := hg22.cell 2
              have c3 : w22.cell? ⟨g, 3, none⟩ = some (.int .i64 (M : Int)) := hg22.cell 3
              have HLN := Lib.hid fun W hW => slen (HP22.out.next (w' := W) hW).1
              have HFL := Lib.hid fun W hW => sflying (HP22.out.next (w' := W) hW).1
              have HRF := Lib.hid fun W hW => rflying s2 (HP22.out.next (w' := W) hW).1 (by omega)
              rw [HN2.out.fly, HN2.out.base, HN2.out.most, ← HN2.out.fl] at HRF
              have HC4 : Hid (∀ W, Below w22.heap.size w22 W → W.cell? ⟨g, 0, none⟩ = some (.slice a6 s2.l.length c6) ∧ W.cell? ⟨g, 1, none⟩ = some (.int .i64 (F : Int)) ∧ W.cell? ⟨g, 2, none⟩ = some (.int .i64 (B : Int)) ∧ W.cell? ⟨g, 3, none⟩ = some (.int .i64 (M : Int)) ∧ Below w22.heap.size w22 W) := Lib.hid fun W hW => ⟨(HG22.out.next hW).cell 0, (HG22.out.next hW).cell 1, (HG22.out.next hW).cell 2, (HG22.out.next hW).cell 3, hW⟩
              generalize hfl9 : s2.flying = fl9 at *
              generalize hll9 : s2.l.length = ll9 at *
              have hl1 : ((ll9 : Int) != (ll9 : Int)) = false := by simp
              have hl2 : ((fl9 : Int) != (fl9 : Int)) = false := by simp
              clear hfl9 hg22 hll9
              go_wp2_with fail
              go_region_held3 (fun W => W.cell? ⟨g, 0, none⟩ = some (.slice a6 ll9 c6) ∧ W.cell? ⟨g, 1, none⟩ = some (.int .i64 (F : Int)) ∧ W.cell? ⟨g, 2, none⟩ = some (.int .i64 (B : Int)) ∧ W.cell? ⟨g, 3, none⟩ = some (.int .i64 (M : Int)) ∧ Below w22.heap.size w22 W)
                (first | assumption | exact HC4.out _ (Below.drew (Below.refl _ _)) | exact HC4.out _ (bnext hbl hb23) | go_keep)
                (first | (go_at_call 13; obtain ⟨_, _, _, _, hbl⟩ := ‹_ ∧ _ ∧ _ ∧ _ ∧ Below w22.heap.size w22 _›; (with_reducible refine (HLN.out _ hbl).mono ?_); rintro e w23 ⟨rfl, rfl⟩) | (go_at_call 16; obtain ⟨_, _, _, _, hbl⟩ := ‹_ ∧ _ ∧ _ ∧ _ ∧ Below w22.heap.size w22 _›; (with_reducible refine (HFL.out _ hbl).mono ?_); rintro e w23 ⟨rfl, rfl⟩) | (go_at_call 24; obtain ⟨_, _, _, _, hbl⟩ := ‹_ ∧ _ ∧ _ ∧ _ ∧ Below w22.heap.size w22 _›; (with_reducible refine (HRF.out _ hbl).mono ?_); rintro e w23 ⟨rfl, hb23⟩))
              go_wp2_with fail
              go_roundw
              case rel => exact ⟨k + 1, nw2, _, s2, by omega, by go_num, rfl, hnw3, Lib.hid (HP22.out.next (bnext hbl hb23)).1, HN2, Lib.hid (HG22.out.next (bnext hbl hb23))⟩
              case measure => simp [intOf]; omega
          | 2, _ =>
            as_aux_lemma =>
              go_upto_region 15 with fail
              have HC1 := Lib.hid fun W G' (h : PairS w1 W p G' v s s.l) => rdueH nw2 D s h HN.out (by omega) hB1 hM1 (by omega) (by omega)
              rw [HN.out.fly, HN.out.base, HN.out.most] at HC1
              have HN2 := Lib.hid (HN.out.send (nw2 : Int) D)
              obtain ⟨s2, hs2⟩ : ∃ s2, s2 = s.sendAll (nw2 : Int) D := ⟨_, rfl⟩
              have HS2 := Lib.hid hs2
              rw [← hs2] at HN2 HC1
              obtain ⟨av, cv, rfl⟩ := HT.out.slice
              have hg0 := HG.out
              have c0 : wr.cell? ⟨g, 0, none⟩ = some (.slice av s.l.length cv) := hg0.cell 0
              have c1 : wr.cell? ⟨g, 1, none⟩ = some (.int .i64 (F : Int)) := hg0.cell 1
              have c2 : wr.cell? ⟨g, 2, none⟩ = some (.int .i64 (B : Int)) := hg0.cell 2
              have c3 : wr.cell? ⟨g, 3, none⟩ = some (.int .i64 (M : Int)) := hg0.cell 3
              have HC4 : Hid (∀ W, Below wr.heap.size wr W → W.cell? ⟨g, 0, none⟩ = some (.slice av s.l.length cv) ∧ W.cell? ⟨g, 1, none⟩ = some (.int .i64 (F : Int)) ∧ W.cell? ⟨g, 2, none⟩ = some (.int .i64 (B : Int)) ∧ W.cell? ⟨g, 3, none⟩ = some (.int .i64 (M : Int)) ∧ W.cell? ⟨ad.block, ad.off + 3, none⟩ = some (.int .u64 (D.toNat : Int)) ∧ Below wr.heap.size wr W) := Lib.hid fun W hW => ⟨(HG.out.next hW).cell 0, (HG.out.next hW).cell 1, (HG.out.next hW).cell 2, (HG.out.next hW).cell 3, (HS.out W (bnext (bnext HB1.out HT.out.below) hW)).2.2.2, hW⟩
              clear hs2 hg0
              have HTA := Lib.hid ((HT.out.alloc (.cells #[.slice none 0 0, .int .i64 0, .int .i64 0, .int .i64 0] 41)).next (Below.drew (Below.refl _ _))).1
              have HZA := Lib.hid (Blk.new wr 41 #[.slice none 0 0, .int .i64 0, .int .i64 0, .int .i64 0]).drew
              go_upto_region 27 with fail
              go_region_held3 (fun W => W.cell? ⟨g, 0, none⟩ = some (.slice av s.l.length cv) ∧ W.cell? ⟨g, 1, none⟩ = some (.int .i64 (F : Int)) ∧ W.cell? ⟨g, 2, none⟩ = some (.int .i64 (B : Int)) ∧ W.cell? ⟨g, 3, none⟩ = some (.int .i64 (M : Int)) ∧ W.cell? ⟨ad.block, ad.off + 3, none⟩ = some (.int .u64 (D.toNat : Int)) ∧ Below wr.heap.size wr W)
                (first | assumption | (refine HC4.out _ ?_; repeat (first | exact Below.refl _ _ | exact bnext hbl hb6 | refine Below.drew ?_ | refine bl_alloc ?_ _ | refine below_set ?_ (Nat.le_refl _))) | go_keep)
                (first | (go_at_call 21; obtain ⟨_, _, _, _, _, hbl⟩ := ‹_ ∧ _ ∧ _ ∧ _ ∧ _ ∧ Below wr.heap.size wr _›; (with_reducible refine (HC1.out _ _ HTA.out).mono ?_); rintro e w6 ⟨v6, u6, rfl, hi6, hp6, hk6, hb6⟩; obtain ⟨a6, c6, rfl⟩ := hp6.slice; have hu6 := hi6; obtain ⟨_, _, rfl, _⟩ := hu6; have hq6 := HZA.out.kept hk6 (.inr rfl); have y0 : w6.cell? ⟨wr.heap.size, 0, none⟩ = some (.slice none 0 0) := hq6.cell 0; have y1 : w6.cell? ⟨wr.heap.size, 1, none⟩ = some (.int .i64 0) := hq6.cell 1; have y2 : w6.cell? ⟨wr.heap.size, 2, none⟩ = some (.int .i64 0) := hq6.cell 2; have y3 : w6.cell? ⟨wr.heap.size, 3, none⟩ = some (.int .i64 0) := hq6.cell 3; have x0 := hq6.frozen 0; have x1 := hq6.frozen 1; have x2 := hq6.frozen 2; have x3 := hq6.frozen 3) | (go_at_call 21; obtain ⟨_, _, _, _, _, hbl⟩ := ‹_ ∧ _ ∧ _ ∧ _ ∧ _ ∧ Below wr.heap.size wr _›; (with_reducible refine (HC1.out _ _ (HT.out.next hbl).1).mono ?_); rintro e w6 ⟨v6, u6, rfl, hi6, hp6, hk6, hb6⟩; obtain ⟨a6, c6, rfl⟩ := hp6.slice; have hu6 := hi6; obtain ⟨_, _, rfl, _⟩ := hu6))
              · have hg6 := (HG.out.drew).kept hk6 rfl
                have HP7 := Lib.hid (hp6.alloc (.cells #[.slice a6 s2.l.length c6, .int .i64 (F : Int), .int .i64 (B : Int), .int .i64 (M : Int)] 41))
                have HG7 := Lib.hid (hg6.alloc (.cells #[.slice a6 s2.l.length c6, .int .i64 (F : Int), .int .i64 (B : Int), .int .i64 (M : Int)] 41))
                have HH7 := Lib.hid (Blk.new w6 41 #[.slice a6 s2.l.length c6, .int .i64 (F : Int), .int .i64 (B : Int), .int .i64 (M : Int)])
                have HKI := Lib.hid fun w8 k hs => hi6.kept (w := w6.alloc (.cells #[.slice a6 s2.l.length c6, .int .i64 (F : Int), .int .i64 (B : Int), .int .i64 (M : Int)] 41)) (w' := w8) (fun q _ hq => Below.heap_alloc w6 _ q hq) (by rw [World.size_alloc]; exact Nat.le_succ _) k hs
                clear hg6 hi6 hp6 hk6 hb6 hbl HC1 HC4 HTA HZA HT HG c0 c1 c2 c3
                have hx7 := (HS.out _ (bnext HB1.out HP7.out.below)).2.2.2
                have HC2 := Lib.hid (sdueH nw2 D HP7.out HN.out (by omega) (by omega))
                rw [← HS2.out] at HC2
                generalize hw7 : w6.alloc (.cells #[.slice a6 s2.l.length c6, .int .i64 (F : Int), .int .i64 (B : Int), .int .i64 (M : Int)] 41) = w7 at *
                generalize w6.heap.size = g2 at *
                clear hw7
                go_wp2_with fail
                refine HC2.out.mono ?_
                rintro e w8 ⟨u8, rfl, hi8, hp8, hk8, hh8, hz8⟩
                have hg8 := HG7.out.kept hk8 (.inl rfl)
                have hq8 := HH7.out.kept hk8 (.inr rfl)
                have HSY := Lib.hid (same_yes _ _ _ _ _ w8 hi8 (HKI.out w8 hh8 hz8))
                have HP8 := Lib.hid hp8
                have HG8 := Lib.hid hg8
                have HQ8 := Lib.hid hq8
                obtain ⟨_, _, rfl, _⟩ := hi8
                clear hh8 hz8 HP7 HG7 HH7 HC2 HKI hp8 hk8 hg8 hq8 hx7
                go_wp2_with fail
                refine HSY.out.mono ?_
                rintro e w9 ⟨rfl, n9, rfl⟩
                have hp9 := HP8.out.next (pw_below_drewN (Below.refl _ _) n9)
                have hh9 := HQ8.out.drewN n9
                have hg9 := HG8.out.drewN n9
                clear HSY
                have d0 : (w8.drewN n9).cell? ⟨g2, 0, none⟩ = some (.slice a6 s2.l.length c6) := hh9.cell 0
                have d1 : (w8.drewN n9).cell? ⟨g2, 1, none⟩ = some (.int .i64 (F : Int)) := hh9.cell 1
                have d2 : (w8.drewN n9).cell? ⟨g2, 2, none⟩ = some (.int .i64 (B : Int)) := hh9.cell 2
                have d3 : (w8.drewN n9).cell? ⟨g2, 3, none⟩ = some (.int .i64 (M : Int)) := hh9.cell 3
                have c0 : (w8.drewN n9).cell? ⟨g, 0, none⟩ = some (.slice av s.l.length cv) := hg9.cell 0
                have c1 : (w8.drewN n9).cell? ⟨g, 1, none⟩ = some (.int .i64 (F : Int)) := hg9.cell 1
                have c2 : (w8.drewN n9).cell? ⟨g, 2, none⟩ = some (.int .i64 (B : Int)) := hg9.cell 2
                have c3 : (w8.drewN n9).cell? ⟨g, 3, none⟩ = some (.int .i64 (M : Int)) := hg9.cell 3
                have f0 := hg9.frozen 0
                have f1 := hg9.frozen 1
                have f2 := hg9.frozen 2
                have f3 := hg9.frozen 3
                have HPX := Lib.hid ((pair_set4 hp9.1 (g := g) (.inl rfl) (.slice a6 s2.l.length c6) (.int .i64 (F : Int)) (.int .i64 (B : Int)) (.int .i64 (M : Int))).fewer (G' := fun q => q = g) (fun q hq => .inl hq))
                have HGX := Lib.hid (set4 (v' := .slice a6 s2.l.length c6) hg9)
                clear hp9 hh9 hg9 HP8 HG8 HQ8
                generalize w8.drewN n9 = w10 at *
                have HSN := Lib.hid (snext HPX.out)
                have hlx := HN2.out.len
                go_wp2_with fail
                refine HSN.out.mono ?_
                rintro e w20 ⟨rfl, hp20, hk20⟩
                have hg20 := HGX.out.kept hk20 rfl
                have HRN := Lib.hid (rnext s2 hp20 (by omega))
                rw [HN2.out.fly, HN2.out.base, HN2.out.most] at HRN
                have c0 : w20.cell? ⟨g, 0, none⟩ = some (.slice a6 s2.l.length c6) := hg20.cell 0
                have c1 : w20.cell? ⟨g, 1, none⟩ = some (.int .i64 (F : Int)) := hg20.cell 1
                have c2 : w20.cell? ⟨g, 2, none⟩ = some (.int .i64 (B : Int)) := hg20.cell 2
                have c3 : w20.cell? ⟨g, 3, none⟩ = some (.int .i64 (M : Int)) := hg20.cell 3
                generalize (nxT s2.next).1 = nx1 at *
                generalize (nxT s2.next).2 = nx2 at *
                have HP20 := Lib.hid hp20
                have HG20 := Lib.hid hg20
                have hx1 : (nx1 != nx1) = false := by simp
                have hx2 : (nx2 != nx2) = false := by simp
                clear hp20 hk20 hg20 HSN HPX HGX
                go_wp2_with fail
                refine HRN.out.mono ?_
                rintro e w22 ⟨rfl, hb22⟩
                have HP22 := Lib.hid (HP20.out.next hb22).1
                have HG22 := Lib.hid (HG20.out.next hb22)
                have hg22 := HG22.out
                clear hb22 HP20 HG20 HRN c0 c1 c2 c3
                have c0 : w22.cell? ⟨g, 0, none⟩ = some (.slice a6 s2.l.length c6) := hg22.cell 0
                have c1 : w22.cell? ⟨g, 1, none⟩ = some (.int .i64 (F : Int)) := hg22.cell 1
                have c2 : w22.cell? ⟨g, 2, none⟩ = some (.int .i64 (B : Int)) := hg22.cell 2
                have c3 : w22.cell? ⟨g, 3, none⟩ = some (.int .i64 (M : Int)) := hg22.cell 3
                have HLN := Lib.hid fun W hW => slen (HP22.out.next (w' := W) hW).1
                have HFL := Lib.hid fun W hW => sflying (HP22.out.next (w' := W) hW).1
                have HRF := Lib.hid fun W hW => rflying s2 (HP22.out.next (w' := W) hW).1 (by omega)
                rw [HN2.out.fly, HN2.out.base, HN2.out.most, ← HN2.out.fl] at HRF
                have HC4 : Hid (∀ W, Below w22.heap.size w22 W → W.cell? ⟨g, 0, none⟩ = some (.slice a6 s2.l.length c6) ∧ W.cell? ⟨g, 1, none⟩ = some (.int .i64 (F : Int)) ∧ W.cell? ⟨g, 2, none⟩ = some (.int .i64 (B : Int)) ∧ W.cell? ⟨g, 3, none⟩ = some (.int .i64 (M : Int)) ∧ Below w22.heap.size w22 W) := Lib.hid fun W hW => ⟨(HG22.out.next hW).cell 0, (HG22.out.next hW).cell 1, (HG22.out.next hW).cell 2, (HG22.out.next hW).cell 3, hW⟩
                generalize hfl9 : s2.flying = fl9 at *
                generalize hll9 : s2.l.length = ll9 at *
                have hl1 : ((ll9 : Int) != (ll9 : Int)) = false := by simp
                have hl2 : ((fl9 : Int) != (fl9 : Int)) = false := by simp
                clear hfl9 hg22 hll9
                go_wp2_with fail
                go_region_held3 (fun W => W.cell? ⟨g, 0, none⟩ = some (.slice a6 ll9 c6) ∧ W.cell? ⟨g, 1, none⟩ = some (.int .i64 (F : Int)) ∧ W.cell? ⟨g, 2, none⟩ = some (.int .i64 (B : Int)) ∧ W.cell? ⟨g, 3, none⟩ = some (.int .i64 (M : Int)) ∧ Below w22.heap.size w22 W)
                  (first | assumption | exact HC4.out _ (Below.drew (Below.refl _ _)) | exact HC4.out _ (bnext hbl hb23) | go_keep)
                  (first | (go_at_call 13; obtain ⟨_, _, _, _, hbl⟩ := ‹_ ∧ _ ∧ _ ∧ _ ∧ Below w22.heap.size w22 _›; (with_reducible refine (HLN.out _ hbl).mono ?_); rintro e w23 ⟨rfl, rfl⟩) | (go_at_call 16; obtain ⟨_, _, _, _, hbl⟩ := ‹_ ∧ _ ∧ _ ∧ _ ∧ Below w22.heap.size w22 _›; (with_reducible refine (HFL.out _ hbl).mono ?_); rintro e w23 ⟨rfl, rfl⟩) | (go_at_call 24; obtain ⟨_, _, _, _, hbl⟩ := ‹_ ∧ _ ∧ _ ∧ _ ∧ Below w22.heap.size w22 _›; (with_reducible refine (HRF.out _ hbl).mono ?_); rintro e w23 ⟨rfl, hb23⟩))
                go_wp2_with fail
                go_roundw
                case rel => exact ⟨k + 1, nw2, _, s2, by omega, by go_num, rfl, hnw3, Lib.hid (HP22.out.next (bnext hbl hb23)).1, HN2, Lib.hid (HG22.out.next (bnext hbl hb23))⟩
                case measure => simp [intOf]; omega
              · have hgl := HG.out.lt
                have hg6 := ((HG.out.alloc (.cells #[.slice none 0 0, .int .i64 0, .int .i64 0, .int .i64 0] 41)).drew).kept hk6 (.inl rfl)
                have HP7 := Lib.hid ((((hp6.set (g := wr.heap.size) (.inr rfl) 0 (.slice a6 s2.l.length c6)).set (g := wr.heap.size) (.inr rfl) 1 (.int .i64 (F : Int))).set (g := wr.heap.size) (.inr rfl) 2 (.int .i64 (B : Int))).set (g := wr.heap.size) (.inr rfl) 3 (.int .i64 (M : Int)))
                have HG7 := Lib.hid ((((hg6.far (p := ⟨wr.heap.size, 0, none⟩) (Nat.ne_of_lt hgl) (.slice a6 s2.l.length c6)).far (p := ⟨wr.heap.size, 1, none⟩) (Nat.ne_of_lt hgl) (.int .i64 (F : Int))).far (p := ⟨wr.heap.size, 2, none⟩) (Nat.ne_of_lt hgl) (.int .i64 (B : Int))).far (p := ⟨wr.heap.size, 3, none⟩) (Nat.ne_of_lt hgl) (.int .i64 (M : Int)))
                have HH7 := Lib.hid (((((hq6.set_ 0 (.slice a6 s2.l.length c6)).set_ 1 (.int .i64 (F : Int))).set_ 2 (.int .i64 (B : Int))).set_ 3 (.int .i64 (M : Int)) : Blk _ wr.heap.size 41 #[.slice a6 s2.l.length c6, .int .i64 (F : Int), .int .i64 (B : Int), .int .i64 (M : Int)]))
                have HKI := Lib.hid fun w8 k hs => hi6.kept (w := (((w6.setCell ⟨wr.heap.size, 0, none⟩ (.slice a6 s2.l.length c6)).setCell ⟨wr.heap.size, 1, none⟩ (.int .i64 (F : Int))).setCell ⟨wr.heap.size, 2, none⟩ (.int .i64 (B : Int))).setCell ⟨wr.heap.size, 3, none⟩ (.int .i64 (M : Int))) (w' := w8) (fun q hq _ => by
                  have hne : q ≠ wr.heap.size := by
                    have e : ((wr.alloc (.cells #[.slice none 0 0, .int .i64 0, .int .i64 0, .int .i64 0] 41)).drew).heap.size = wr.heap.size + 1 := World.size_alloc _ _
                    rw [e] at hq
                    omega
                  exact (Below.heap_setCell _ ⟨wr.heap.size, 3, none⟩ _ q hne).trans ((Below.heap_setCell _ ⟨wr.heap.size, 2, none⟩ _ q hne).trans ((Below.heap_setCell _ ⟨wr.heap.size, 1, none⟩ _ q hne).trans (Below.heap_setCell _ ⟨wr.heap.size, 0, none⟩ _ q hne)))) (by simp only [World.size_setCell]; exact Nat.le_refl _) k hs
                clear hg6 hi6 hp6 hk6 hb6 hbl hq6 hgl HC1 HC4 HTA HZA HT HG c0 c1 c2 c3 y0 y1 y2 y3 x0 x1 x2 x3
                have hx7 := (HS.out _ (bnext HB1.out HP7.out.below)).2.2.2
                have HC2 := Lib.hid (sdueH nw2 D HP7.out HN.out (by omega) (by omega))
                rw [← HS2.out] at HC2
                generalize hw7 : (((w6.setCell ⟨wr.heap.size, 0, none⟩ (.slice a6 s2.l.length c6)).setCell ⟨wr.heap.size, 1, none⟩ (.int .i64 (F : Int))).setCell ⟨wr.heap.size, 2, none⟩ (.int .i64 (B : Int))).setCell ⟨wr.heap.size, 3, none⟩ (.int .i64 (M : Int)) = w7 at *
                generalize wr.heap.size = g2 at *
                clear hw7
                go_wp2_with fail
                refine HC2.out.mono ?_
                rintro e w8 ⟨u8, rfl, hi8, hp8, hk8, hh8, hz8⟩
                have hg8 := HG7.out.kept hk8 (.inl rfl)
                have hq8 := HH7.out.kept hk8 (.inr rfl)
                have HSY := Lib.hid (same_yes _ _ _ _ _ w8 hi8 (HKI.out w8 hh8 hz8))
                have HP8 := Lib.hid hp8
                have HG8 := Lib.hid hg8
                have HQ8 := Lib.hid hq8
                obtain ⟨_, _, rfl, _⟩ := hi8
                clear hh8 hz8 HP7 HG7 HH7 HC2 HKI hp8 hk8 hg8 hq8 hx7
                go_wp2_with fail
                refine HSY.out.mono ?_
                rintro e w9 ⟨rfl, n9, rfl⟩
                have hp9 := HP8.out.next (pw_below_drewN (Below.refl _ _) n9)
                have hh9 := HQ8.out.drewN n9
                have hg9 := HG8.out.drewN n9
                clear HSY
                have d0 : (w8.drewN n9).cell? ⟨g2, 0, none⟩ = some (.slice a6 s2.l.length c6) := hh9.cell 0
                have d1 : (w8.drewN n9).cell? ⟨g2, 1, none⟩ = some (.int .i64 (F : Int)) := hh9.cell 1
                have d2 : (w8.drewN n9).cell? ⟨g2, 2, none⟩ = some (.int .i64 (B : Int)) := hh9.cell 2
                have d3 : (w8.drewN n9).cell? ⟨g2, 3, none⟩ = some (.int .i64 (M : Int)) := hh9.cell 3
                have c0 : (w8.drewN n9).cell? ⟨g, 0, none⟩ = some (.slice av s.l.length cv) := hg9.cell 0
                have c1 : (w8.drewN n9).cell? ⟨g, 1, none⟩ = some (.int .i64 (F : Int)) := hg9.cell 1
                have c2 : (w8.drewN n9).cell? ⟨g, 2, none⟩ = some (.int .i64 (B : Int)) := hg9.cell 2
                have c3 : (w8.drewN n9).cell? ⟨g, 3, none⟩ = some (.int .i64 (M : Int)) := hg9.cell 3
                have f0 := hg9.frozen 0
                have f1 := hg9.frozen 1
                have f2 := hg9.frozen 2
                have f3 := hg9.frozen 3
                have HPX := Lib.hid ((pair_set4 hp9.1 (g := g) (.inl rfl) (.slice a6 s2.l.length c6) (.int .i64 (F : Int)) (.int .i64 (B : Int)) (.int .i64 (M : Int))).fewer (G' := fun q => q = g) (fun q hq => .inl hq))
                have HGX := Lib.hid (set4 (v' := .slice a6 s2.l.length c6) hg9)
                clear hp9 hh9 hg9 HP8 HG8 HQ8
                generalize w8.drewN n9 = w10 at *
                have HSN := Lib.hid (snext HPX.out)
                have hlx := HN2.out.len
                go_wp2_with fail
                refine HSN.out.mono ?_
                rintro e w20 ⟨rfl, hp20, hk20⟩
                have hg20 := HGX.out.kept hk20 rfl
                have HRN := Lib.hid (rnext s2 hp20 (by omega))
                rw [HN2.out.fly, HN2.out.base, HN2.out.most] at HRN
                have c0 : w20.cell? ⟨g, 0, none⟩ = some (.slice a6 s2.l.length c6) := hg20.cell 0
                have c1 : w20.cell? ⟨g, 1, none⟩ = some (.int .i64 (F : Int)) := hg20.cell 1
                have c2 : w20.cell? ⟨g, 2, none⟩ = some (.int .i64 (B : Int)) := hg20.cell 2
                have c3 : w20.cell? ⟨g, 3, none⟩ = some (.int .i64 (M : Int)) := hg20.cell 3
                generalize (nxT s2.next).1 = nx1 at *
                generalize (nxT s2.next).2 = nx2 at *
                have HP20 := Lib.hid hp20
                have HG20 := Lib.hid hg20
                have hx1 : (nx1 != nx1) = false := by simp
                have hx2 : (nx2 != nx2) = false := by simp
                clear hp20 hk20 hg20 HSN HPX HGX
                go_wp2_with fail
                refine HRN.out.mono ?_
                rintro e w22 ⟨rfl, hb22⟩
                have HP22 := Lib.hid (HP20.out.next hb22).1
                have HG22 := Lib.hid (HG20.out.next hb22)
                have hg22 := HG22.out
                clear hb22 HP20 HG20 HRN c0 c1 c2 c3
                have c0 : w22.cell? ⟨g, 0, none⟩ = some (.slice a6 s2.l.length c6) := hg22.cell 0
                have c1 : w22.cell? ⟨g, 1, none⟩ = some (.int .i64 (F : Int)) := hg22.cell 1
                have c2 : w22.cell? ⟨g, 2, none⟩ = some (.int .i64 (B : Int)) := hg22.cell 2
                have c3 : w22.cell? ⟨g, 3, none⟩ = some (.int .i64 (M : Int)) := hg22.cell 3
                have HLN := Lib.hid fun W hW => slen (HP22.out.next (w' := W) hW).1
                have HFL := Lib.hid fun W hW => sflying (HP22.out.next (w' := W) hW).1
                have HRF := Lib.hid fun W hW => rflying s2 (HP22.out.next (w' := W) hW).1 (by omega)
                rw [HN2.out.fly, HN2.out.base, HN2.out.most, ← HN2.out.fl] at HRF
                have HC4 : Hid (∀ W, Below w22.heap.size w22 W → W.cell? ⟨g, 0, none⟩ = some (.slice a6 s2.l.length c6) ∧ W.cell? ⟨g, 1, none⟩ = some (.int .i64 (F : Int)) ∧ W.cell? ⟨g, 2, none⟩ = some (.int .i64 (B : Int)) ∧ W.cell? ⟨g, 3, none⟩ = some (.int .i64 (M : Int)) ∧ Below w22.heap.size w22 W) := Lib.hid fun W hW => ⟨(HG22.out.next hW).cell 0, (HG22.out.next hW).cell 1, (HG22.out.next hW).cell 2, (HG22.out.next hW).cell 3, hW⟩
                generalize hfl9 : s2.flying = fl9 at *
                generalize hll9 : s2.l.length = ll9 at *
                have hl1 : ((ll9 : Int) != (ll9 : Int)) = false := by simp
                have hl2 : ((fl9 : Int) != (fl9 : Int)) = false := by simp
                clear hfl9 hg22 hll9
                go_wp2_with fail
                go_region_held3 (fun W => W.cell? ⟨g, 0, none⟩ = some (.slice a6 ll9 c6) ∧ W.cell? ⟨g, 1, none⟩ = some (.int .i64 (F : Int)) ∧ W.cell? ⟨g, 2, none⟩ = some (.int .i64 (B : Int)) ∧ W.cell? ⟨g, 3, none⟩ = some (.int .i64 (M : Int)) ∧ Below w22.heap.size w22 W)
                  (first | assumption | exact HC4.out _ (Below.drew (Below.refl _ _)) | exact HC4.out _ (bnext hbl hb23) | go_keep)
                  (first | (go_at_call 13; obtain ⟨_, _, _, _, hbl⟩ := ‹_ ∧ _ ∧ _ ∧ _ ∧ Below w22.heap.size w22 _›; (with_reducible refine (HLN.out _ hbl).mono ?_); rintro e w23 ⟨rfl, rfl⟩) | (go_at_call 16; obtain ⟨_, _, _, _, hbl⟩ := ‹_ ∧ _ ∧ _ ∧ _ ∧ Below w22.heap.size w22 _›; (with_reducible refine (HFL.out _ hbl).mono ?_); rintro e w23 ⟨rfl, rfl⟩) | (go_at_call 24; obtain ⟨_, _, _, _, hbl⟩ := ‹_ ∧ _ ∧ _ ∧ _ ∧ Below w22.heap.size w22 _›; (with_reducible refine (HRF.out _ hbl).mono ?_); rintro e w23 ⟨rfl, hb23⟩))
                go_wp2_with fail
                go_roundw
                case rel => exact ⟨k + 1, nw2, _, s2, by omega, by go_num, rfl, hnw3, Lib.hid (HP22.out.next (bnext hbl hb23)).1, HN2, Lib.hid (HG22.out.next (bnext hbl hb23))⟩
                case measure => simp [intOf]; omega
          | 3, _ =>
            as_aux_lemma =>
              go_upto_region 15 with fail
              have HC1 := Lib.hid fun W G' (h : PairS w1 W p G' v s s.l) => rdueH nw2 D s h HN.out (by omega) hB1 hM1 (by omega) (by omega)
              rw [HN.out.fly, HN.out.base, HN.out.most] at HC1
              have HN2 := Lib.hid (HN.out.send (nw2 : Int) D)
              obtain ⟨s2, hs2⟩ : ∃ s2, s2 = s.sendAll (nw2 : Int) D := ⟨_, rfl⟩
              have HS2 := Lib.hid hs2
              rw [← hs2] at HN2 HC1
              obtain ⟨av, cv, rfl⟩ := HT.out.slice
              have hg0 := HG.out
              have c0 : wr.cell? ⟨g, 0, none⟩ = some (.slice av s.l.length cv) := hg0.cell 0
              have c1 : wr.cell? ⟨g, 1, none⟩ = some (.int .i64 (F : Int)) := hg0.cell 1
              have c2 : wr.cell? ⟨g, 2, none⟩ = some (.int .i64 (B : Int)) := hg0.cell 2
              have c3 : wr.cell? ⟨g, 3, none⟩ = some (.int .i64 (M : Int)) := hg0.cell 3
              have HC4 : Hid (∀ W, Below wr.heap.size wr W → W.cell? ⟨g, 0, none⟩ = some (.slice av s.l.length cv) ∧ W.cell? ⟨g, 1, none⟩ = some (.int .i64 (F : Int)) ∧ W.cell? ⟨g, 2, none⟩ = some (.int .i64 (B : Int)) ∧ W.cell? ⟨g, 3, none⟩ = some (.int .i64 (M : Int)) ∧ W.cell? ⟨ad.block, ad.off + 3, none⟩ = some (.int .u64 (D.toNat : Int)) ∧ Below wr.heap.size wr W) := Lib.hid fun W hW => ⟨(HG.out.next hW).cell 0, (HG.out.next hW).cell 1, (HG.out.next hW).cell 2, (HG.out.next hW).cell 3, (HS.out W (bnext (bnext HB1.out HT.out.below) hW)).2.2.2, hW⟩
              clear hs2 hg0
              have HTA := Lib.hid ((HT.out.alloc (.cells #[.slice none 0 0, .int .i64 0, .int .i64 0, .int .i64 0] 41)).next (Below.drew (Below.refl _ _))).1
              have HZA := Lib.hid (Blk.new wr 41 #[.slice none 0 0, .int .i64 0, .int .i64 0, .int .i64 0]).drew
              go_upto_region 27 with fail
              go_region_held3 (fun W => W.cell? ⟨g, 0, none⟩ = some (.slice av s.l.length cv) ∧ W.cell? ⟨g, 1, none⟩ = some (.int .i64 (F : Int)) ∧ W.cell? ⟨g, 2, none⟩ = some (.int .i64 (B : Int)) ∧ W.cell? ⟨g, 3, none⟩ = some (.int .i64 (M : Int)) ∧ W.cell? ⟨ad.block, ad.off + 3, none⟩ = some (.int .u64 (D.toNat : Int)) ∧ Below wr.heap.size wr W)
                (first | assumption | (refine HC4.out _ ?_; repeat (first | exact Below.refl _ _ | exact bnext hbl hb6 | refine Below.drew ?_ | refine bl_alloc ?_ _ | refine below_set ?_ (Nat.le_refl _))) | go_keep)
                (first | (go_at_call 21; obtain ⟨_, _, _, _, _, hbl⟩ := ‹_ ∧ _ ∧ _ ∧ _ ∧ _ ∧ Below wr.heap.size wr _›; (with_reducible refine (HC1.out _ _ HTA.out).mono ?_); rintro e w6 ⟨v6, u6, rfl, hi6, hp6, hk6, hb6⟩; obtain ⟨a6, c6, rfl⟩ := hp6.slice; have hu6 := hi6; obtain ⟨_, _, rfl, _⟩ := hu6; have hq6 := HZA.out.kept hk6 (.inr rfl); have y0 : w6.cell? ⟨wr.heap.size, 0, none⟩ = some (.slice none 0 0) := hq6.cell 0; have y1 : w6.cell? ⟨wr.heap.size, 1, none⟩ = some (.int .i64 0) := hq6.cell 1; have y2 : w6.cell? ⟨wr.heap.size, 2, none⟩ = some (.int .i64 0) := hq6.cell 2; have y3 : w6.cell? ⟨wr.heap.size, 3, none⟩ = some (.int .i64 0) := hq6.cell 3; have x0 := hq6.frozen 0; have x1 := hq6.frozen 1; have x2 := hq6.frozen 2; have x3 := hq6.frozen 3) | (go_at_call 21; obtain ⟨_, _, _, _, _, hbl⟩ := ‹_ ∧ _ ∧ _ ∧ _ ∧ _ ∧ Below wr.heap.size wr _›; (with_reducible refine (HC1.out _ _ (HT.out.next hbl).1).mono ?_); rintro e w6 ⟨v6, u6, rfl, hi6, hp6, hk6, hb6⟩; obtain ⟨a6, c6, rfl⟩ := hp6.slice; have hu6 := hi6; obtain ⟨_, _, rfl, _⟩ := hu6))
              · have hg6 := (HG.out.drew).kept hk6 rfl
                have HP7 := Lib.hid (hp6.alloc (.cells #[.slice a6 s2.l.length c6, .int .i64 (F : Int), .int .i64 (B : Int), .int .i64 (M : Int)] 41))
                have HG7 := Lib.hid (hg6.alloc (.cells #[.slice a6 s2.l.length c6, .int .i64 (F : Int), .int .i64 (B : Int), .int .i64 (M : Int)] 41))
                have HH7 := Lib.hid (Blk.new w6 41 #[.slice a6 s2.l.length c6, .int .i64 (F : Int), .int .i64 (B : Int), .int .i64 (M : Int)])
                have HKI := Lib.hid fun w8 k hs => hi6.kept (w := w6.alloc (.cells #[.slice a6 s2.l.length c6, .int .i64 (F : Int), .int .i64 (B : Int), .int .i64 (M : Int)] 41)) (w' := w8) (fun q _ hq => Below.heap_alloc w6 _ q hq) (by rw [World.size_alloc]; exact Nat.le_succ _) k hs
                clear hg6 hi6 hp6 hk6 hb6 hbl HC1 HC4 HTA HZA HT HG c0 c1 c2 c3
                have hx7 := (HS.out _ (bnext HB1.out HP7.out.below)).2.2.2
                have HC2 := Lib.hid (sdueH nw2 D HP7.out HN.out (by omega) (by omega))
                rw [← HS2.out] at HC2
                generalize hw7 : w6.alloc (.cells #[.slice a6 s2.l.length c6, .int .i64 (F : Int), .int .i64 (B : Int), .int .i64 (M : Int)] 41) = w7 at *
                generalize w6.heap.size = g2 at *
                clear hw7
                go_wp2_with fail
                refine HC2.out.mono ?_
                rintro e w8 ⟨u8, rfl, hi8, hp8, hk8, hh8, hz8⟩
                have hg8 := HG7.out.kept hk8 (.inl rfl)
                have hq8 := HH7.out.kept hk8 (.inr rfl)
                have HSY := Lib.hid (same_yes _ _ _ _ _ w8 hi8 (HKI.out w8 hh8 hz8))
                have HP8 := Lib.hid hp8
                have HG8 := Lib.hid hg8
                have HQ8 := Lib.hid hq8
                obtain ⟨_, _, rfl, _⟩ := hi8
                clear hh8 hz8 HP7 HG7 HH7 HC2 HKI hp8 hk8 hg8 hq8 hx7
                go_wp2_with fail
                refine HSY.out.mono ?_
                rintro e w9 ⟨rfl, n9, rfl⟩
                have hp9 := HP8.out.next (pw_below_drewN (Below.refl _ _) n9)
                have hh9 := HQ8.out.drewN n9
                have hg9 := HG8.out.drewN n9
                clear HSY
                have d0 : (w8.drewN n9).cell? ⟨g2, 0, none⟩ = some (.slice a6 s2.l.length c6) := hh9.cell 0
                have d1 : (w8.drewN n9).cell? ⟨g2, 1, none⟩ = some (.int .i64 (F : Int)) := hh9.cell 1
                have d2 : (w8.drewN n9).cell? ⟨g2, 2, none⟩ = some (.int .i64 (B : Int)) := hh9.cell 2
                have d3 : (w8.drewN n9).cell? ⟨g2, 3, none⟩ = some (.int .i64 (M : Int)) := hh9.cell 3
                have c0 : (w8.drewN n9).cell? ⟨g, 0, none⟩ = some (.slice av s.l.length cv) := hg9.cell 0
                have c1 : (w8.drewN n9).cell? ⟨g, 1, none⟩ = some (.int .i64 (F : Int)) := hg9.cell 1
                have c2 : (w8.drewN n9).cell? ⟨g, 2, none⟩ = some (.int .i64 (B : Int)) := hg9.cell 2
                have c3 : (w8.drewN n9).cell? ⟨g, 3, none⟩ = some (.int .i64 (M : Int)) := hg9.cell 3
                have f0 := hg9.frozen 0
                have f1 := hg9.frozen 1
                have f2 := hg9.frozen 2
                have f3 := hg9.frozen 3
                have HPX := Lib.hid ((pair_set4 hp9.1 (g := g) (.inl rfl) (.slice a6 s2.l.length c6) (.int .i64 (F : Int)) (.int .i64 (B : Int)) (.int .i64 (M : Int))).fewer (G' := fun q => q = g) (fun q hq => .inl hq))
                have HGX := Lib.hid (set4 (v' := .slice a6 s2.l.length c6) hg9)
                clear hp9 hh9 hg9 HP8 HG8 HQ8
                generalize w8.drewN n9 = w10 at *
                have HSN := Lib.hid (snext HPX.out)
                have hlx := HN2.out.len
                go_wp2_with fail
                refine HSN.out.mono ?_
                rintro e w20 ⟨rfl, hp20, hk20⟩
                have hg20 := HGX.out.kept hk20 rfl
                have HRN := Lib.hid (rnext s2 hp20 (by omega))
                rw [HN2.out.fly, HN2.out.base, HN2.out.most] at HRN
                have c0 : w20.cell? ⟨g, 0, none⟩ = some (.slice a6 s2.l.length c6) := hg20.cell 0
                have c1 : w20.cell? ⟨g, 1, none⟩ = some (.int .i64 (F : Int)) := hg20.cell 1
                have c2 : w20.cell? ⟨g, 2, none⟩ = some (.int .i64 (B : Int)) := hg20.cell 2
                have c3 : w20.cell? ⟨g, 3, none⟩ = some (.int .i64 (M : Int)) := hg20.cell 3
                generalize (nxT s2.next).1 = nx1 at *
                generalize (nxT s2.next).2 = nx2 at *
                have HP20 := Lib.hid hp20
                have HG20 := Lib.hid hg20
                have hx1 : (nx1 != nx1) = false := by simp
                have hx2 : (nx2 != nx2) = false := by simp
                clear hp20 hk20 hg20 HSN HPX HGX
                go_wp2_with fail
                refine HRN.out.mono ?_
                rintro e w22 ⟨rfl, hb22⟩
                have HP22 := Lib.hid (HP20.out.next hb22).1
                have HG22 := Lib.hid (HG20.out.next hb22)
                have hg22 := HG22.out
                clear hb22 HP20 HG20 HRN c0 c1 c2 c3
                have c0 : w22.cell? ⟨g, 0, none⟩ = some (.slice a6 s2.l.length c6) := hg22.cell 0
                have c1 : w22.cell? ⟨g, 1, none⟩ = some (.int .i64 (F : Int)) := hg22.cell 1
                have c2 : w22.cell? ⟨g, 2, none⟩ = some (.int .i64 (B : Int)) := hg22.cell 2
                have c3 : w22.cell? ⟨g, 3, none⟩ = some (.int .i64 (M : Int)) := hg22.cell 3
                have HLN := Lib.hid fun W hW => slen (HP22.out.next (w' := W) hW).1
                have HFL := Lib.hid fun W hW => sflying (HP22.out.next (w' := W) hW).1
                have HRF := Lib.hid fun W hW => rflying s2 (HP22.out.next (w' := W) hW).1 (by omega)
                rw [HN2.out.fly, HN2.out.base, HN2.out.most, ← HN2.out.fl] at HRF
                have HC4 : Hid (∀ W, Below w22.heap.size w22 W → W.cell? ⟨g, 0, none⟩ = some (.slice a6 s2.l.length c6) ∧ W.cell? ⟨g, 1, none⟩ = some (.int .i64 (F : Int)) ∧ W.cell? ⟨g, 2, none⟩ = some (.int .i64 (B : Int)) ∧ W.cell? ⟨g, 3, none⟩ = some (.int .i64 (M : Int)) ∧ Below w22.heap.size w22 W) := Lib.hid fun W hW => ⟨(HG22.out.next hW).cell 0, (HG22.out.next hW).cell 1, (HG22.out.next hW).cell 2, (HG22.out.next hW).cell 3, hW⟩
                generalize hfl9 : s2.flying = fl9 at *
                generalize hll9 : s2.l.length = ll9 at *
                have hl1 : ((ll9 : Int) != (ll9 : Int)) = false := by simp
                have hl2 : ((fl9 : Int) != (fl9 : Int)) = false := by simp
                clear hfl9 hg22 hll9
                go_wp2_with fail
                go_region_held3 (fun W => W.cell? ⟨g, 0, none⟩ = some (.slice a6 ll9 c6) ∧ W.cell? ⟨g, 1, none⟩ = some (.int .i64 (F : Int)) ∧ W.cell? ⟨g, 2, none⟩ = some (.int .i64 (B : Int)) ∧ W.cell? ⟨g, 3, none⟩ = some (.int .i64 (M : Int)) ∧ Below w22.heap.size w22 W)
                  (first | assumption | exact HC4.out _ (Below.drew (Below.refl _ _)) | exact HC4.out _ (bnext hbl hb23) | go_keep)
                  (first | (go_at_call 13; obtain ⟨_, _, _, _, hbl⟩ := ‹_ ∧ _ ∧ _ ∧ _ ∧ Below w22.heap.size w22 _›; (with_reducible refine (HLN.out _ hbl).mono ?_); rintro e w23 ⟨rfl, rfl⟩) | (go_at_call 16; obtain ⟨_, _, _, _, hbl⟩ := ‹_ ∧ _ ∧ _ ∧ _ ∧ Below w22.heap.size w22 _›; (with_reducible refine (HFL.out _ hbl).mono ?_); rintro e w23 ⟨rfl, rfl⟩) | (go_at_call 24; obtain ⟨_, _, _, _, hbl⟩ := ‹_ ∧ _ ∧ _ ∧ _ ∧ Below w22.heap.size w22 _›; (with_reducible refine (HRF.out _ hbl).mono ?_); rintro e w23 ⟨rfl, hb23⟩))
                go_wp2_with fail
                go_roundw
                case rel => exact ⟨k + 1, nw2, _, s2, by omega, by go_num, rfl, hnw3, Lib.hid (HP22.out.next (bnext hbl hb23)).1, HN2, Lib.hid (HG22.out.next (bnext hbl hb23))⟩
                case measure => simp [intOf]; omega
              · have hgl := HG.out.lt
                have hg6 := ((HG.out.alloc (.cells #[.slice none 0 0, .int .i64 0, .int .i64 0, .int .i64 0] 41)).drew).kept hk6 (.inl rfl)
                have HP7 := Lib.hid ((((hp6.set (g := wr.heap.size) (.inr rfl) 0 (.slice a6 s2.l.length c6)).set (g := wr.heap.size) (.inr rfl) 1 (.int .i64 (F : Int))).set (g := wr.heap.size) (.inr rfl) 2 (.int .i64 (B : Int))).set (g := wr.heap.size) (.inr rfl) 3 (.int .i64 (M : Int)))
                have HG7 := Lib.hid ((((hg6.far (p := ⟨wr.heap.size, 0, none⟩) (Nat.ne_of_lt hgl) (.slice a6 s2.l.length c6)).far (p := ⟨wr.heap.size, 1, none⟩) (Nat.ne_of_lt hgl) (.int .i64 (F : Int))).far (p := ⟨wr.heap.size, 2, none⟩) (Nat.ne_of_lt hgl) (.int .i64 (B : Int))).far (p := ⟨wr.heap.size, 3, none⟩) (Nat.ne_of_lt hgl) (.int .i64 (M : Int)))
                have HH7 := Lib.hid (((((hq6.set_ 0 (.slice a6 s2.l.length c6)).set_ 1 (.int .i64 (F : Int))).set_ 2 (.int .i64 (B : Int))).set_ 3 (.int .i64 (M : Int)) : Blk _ wr.heap.size 41 #[.slice a6 s2.l.length c6, .int .i64 (F : Int), .int .i64 (B : Int), .int .i64 (M : Int)]))
                have HKI := Lib.hid fun w8 k hs => hi6.kept (w := (((w6.setCell ⟨wr.heap.size, 0, none⟩ (.slice a6 s2.l.length c6)).setCell ⟨wr.heap.size, 1, none⟩ (.int .i64 (F : Int))).setCell ⟨wr.heap.size, 2, none⟩ (.int .i64 (B : Int))).setCell ⟨wr.heap.size, 3, none⟩ (.int .i64 (M : Int))) (w' := w8) (fun q hq _ => by
                  have hne : q ≠ wr.heap.size := by
                    have e : ((wr.alloc (.cells #[.slice none 0 0, .int .i64 0, .int .i64 0, .int .i64 0] 41)).drew).heap.size = wr.heap.size + 1 := World.size_alloc _ _
                    rw [e] at hq
                    omega
                  exact (Below.heap_setCell _ ⟨wr.heap.size, 3, none⟩ _ q hne).trans ((Below.heap_setCell _ ⟨wr.heap.size, 2, none⟩ _ q hne).trans ((Below.heap_setCell _ ⟨wr.heap.size, 1, none⟩ _ q hne).trans (Below.heap_setCell _ ⟨wr.heap.size, 0, none⟩ _ q hne)))) (by simp only [World.size_setCell]; exact Nat.le_refl _) k hs
                clear hg6 hi6 hp6 hk6 hb6 hbl hq6 hgl HC1 HC4 HTA HZA HT HG c0 c1 c2 c3 y0 y1 y2 y3 x0 x1 x2 x3
                have hx7 := (HS.out _ (bnext HB1.out HP7.out.below)).2.2.2
                have HC2 := Lib.hid (sdueH nw2 D HP7.out HN.out (by omega) (by omega))
                rw [← HS2.out] at HC2
                generalize hw7 : (((w6.setCell ⟨wr.heap.size, 0, none⟩ (.slice a6 s2.l.length c6)).setCell ⟨wr.heap.size, 1, none⟩ (.int .i64 (F : Int))).setCell ⟨wr.heap.size, 2, none⟩ (.int .i64 (B : Int))).setCell ⟨wr.heap.size, 3, none⟩ (.int .i64 (M : Int)) = w7 at *
                generalize wr.heap.size = g2 at *
                clear hw7
                go_wp2_with fail
                refine HC2.out.mono ?_
                rintro e w8 ⟨u8, rfl, hi8, hp8, hk8, hh8, hz8⟩
                have hg8 := HG7.out.kept hk8 (.inl rfl)
                have hq8 := HH7.out.kept hk8 (.inr rfl)
                have HSY := Lib.hid (same_yes _ _ _ _ _ w8 hi8 (HKI.out w8 hh8 hz8))
                have HP8 := Lib.hid hp8
                have HG8 := Lib.hid hg8
                have HQ8 := Lib.hid hq8
                obtain ⟨_, _, rfl, _⟩ := hi8
                clear hh8 hz8 HP7 HG7 HH7 HC2 HKI hp8 hk8 hg8 hq8 hx7
                go_wp2_with fail
                refine HSY.out.mono ?_
                rintro e w9 ⟨rfl, n9, rfl⟩
                have hp9 := HP8.out.next (pw_below_drewN (Below.refl _ _) n9)
                have hh9 := HQ8.out.drewN n9
                have hg9 := HG8.out.drewN n9
                clear HSY
                have d0 : (w8.drewN n9).cell? ⟨g2, 0, none⟩ = some (.slice a6 s2.l.length c6) := hh9.cell 0
                have d1 : (w8.drewN n9).cell? ⟨g2, 1, none⟩ = some (.int .i64 (F : Int)) := hh9.cell 1
                have d2 : (w8.drewN n9).cell? ⟨g2, 2, none⟩ = some (.int .i64 (B : Int)) := hh9.cell 2
                have d3 : (w8.drewN n9).cell? ⟨g2, 3, none⟩ = some (.int .i64 (M : Int)) := hh9.cell 3
                have c0 : (w8.drewN n9).cell? ⟨g, 0, none⟩ = some (.slice av s.l.length cv) := hg9.cell 0
                have c1 : (w8.drewN n9).cell? ⟨g, 1, none⟩ = some (.int .i64 (F : Int)) := hg9.cell 1
                have c2 : (w8.drewN n9).cell? ⟨g, 2, none⟩ = some (.int .i64 (B : Int)) := hg9.cell 2
                have c3 : (w8.drewN n9).cell? ⟨g, 3, none⟩ = some (.int .i64 (M : Int)) := hg9.cell 3
                have f0 := hg9.frozen 0
                have f1 := hg9.frozen 1
                have f2 := hg9.frozen 2
                have f3 := hg9.frozen 3
                have HPX := Lib.hid ((pair_set4 hp9.1 (g := g) (.inl rfl) (.slice a6 s2.l.length c6) (.int .i64 (F : Int)) (.int .i64 (B : Int)) (.int .i64 (M : Int))).fewer (G' := fun q => q = g) (fun q hq => .inl hq))
                have HGX := Lib.hid (set4 (v' := .slice a6 s2.l.length c6) hg9)
                clear hp9 hh9 hg9 HP8 HG8 HQ8
                generalize w8.drewN n9 = w10 at *
                have HSN := Lib.hid (snext HPX.out)
                have hlx := HN2.out.len
                go_wp2_with fail
                refine HSN.out.mono ?_
                rintro e w20 ⟨rfl, hp20, hk20⟩
                have hg20 := HGX.out.kept hk20 rfl
                have HRN := Lib.hid (rnext s2 hp20 (by omega))
                rw [HN2.out.fly, HN2.out.base, HN2.out.most] at HRN
                have c0 : w20.cell? ⟨g, 0, none⟩ = some (.slice a6 s2.l.length c6) := hg20.cell 0
                have c1 : w20.cell? ⟨g, 1, none⟩ = some (.int .i64 (F : Int)) := hg20.cell 1
                have c2 : w20.cell? ⟨g, 2, none⟩ = some (.int .i64 (B : Int)) := hg20.cell 2
                have c3 : w20.cell? ⟨g, 3, none⟩ = some (.int .i64 (M : Int)) := hg20.cell 3
                generalize (nxT s2.next).1 = nx1 at *
                generalize (nxT s2.next).2 = nx2 at *
                have HP20 := Lib.hid hp20
                have HG20 := Lib.hid hg20
                have hx1 : (nx1 != nx1) = false := by simp
                have hx2 : (nx2 != nx2) = false := by simp
                clear hp20 hk20 hg20 HSN HPX HGX
                go_wp2_with fail
                refine HRN.out.mono ?_
                rintro e w22 ⟨rfl, hb22⟩
                have HP22 := Lib.hid (HP20.out.next hb22).1
                have HG22 := Lib.hid (HG20.out.next hb22)
                have hg22 := HG22.out
                clear hb22 HP20 HG20 HRN c0 c1 c2 c3
                have c0 : w22.cell? ⟨g, 0, none⟩ = some (.slice a6 s2.l.length c6) := hg22.cell 0
                have c1 : w22.cell? ⟨g, 1, none⟩ = some (.int .i64 (F : Int)) := hg22.cell 1
                have c2 : w22.cell? ⟨g, 2, none⟩ = some (.int .i64 (B : Int)) := hg22.cell 2
                have c3 : w22.cell? ⟨g, 3, none⟩ = some (.int .i64 (M : Int)) := hg22.cell 3
                have HLN := Lib.hid fun W hW => slen (HP22.out.next (w' := W) hW).1
                have HFL := Lib.hid fun W hW => sflying (HP22.out.next (w' := W) hW).1
                have HRF := Lib.hid fun W hW => rflying s2 (HP22.out.next (w' := W) hW).1 (by omega)
                rw [HN2.out.fly, HN2.out.base, HN2.out.most, ← HN2.out.fl] at HRF
                have HC4 : Hid (∀ W, Below w22.heap.size w22 W → W.cell? ⟨g, 0, none⟩ = some (.slice a6 s2.l.length c6) ∧ W.cell? ⟨g, 1, none⟩ = some (.int .i64 (F : Int)) ∧ W.cell? ⟨g, 2, none⟩ = some (.int .i64 (B : Int)) ∧ W.cell? ⟨g, 3, none⟩ = some (.int .i64 (M : Int)) ∧ Below w22.heap.size w22 W) := Lib.hid fun W hW => ⟨(HG22.out.next hW).cell 0, (HG22.out.next hW).cell 1, (HG22.out.next hW).cell 2, (HG22.out.next hW).cell 3, hW⟩
                generalize hfl9 : s2.flying = fl9 at *
                generalize hll9 : s2.l.length = ll9 at *
                have hl1 : ((ll9 : Int) != (ll9 : Int)) = false := by simp
                have hl2 : ((fl9 : Int) != (fl9 : Int)) = false := by simp
                clear hfl9 hg22 hll9
                go_wp2_with fail
                go_region_held3 (fun W => W.cell? ⟨g, 0, none⟩ = some (.slice a6 ll9 c6) ∧ W.cell? ⟨g, 1, none⟩ = some (.int .i64 (F : Int)) ∧ W.cell? ⟨g, 2, none⟩ = some (.int .i64 (B : Int)) ∧ W.cell? ⟨g, 3, none⟩ = some (.int .i64 (M : Int)) ∧ Below w22.heap.size w22 W)
                  (first | assumption | exact HC4.out _ (Below.drew (Below.refl _ _)) | exact HC4.out _ (bnext hbl hb23) | go_keep)
                  (first | (go_at_call 13; obtain ⟨_, _, _, _, hbl⟩ := ‹_ ∧ _ ∧ _ ∧ _ ∧ Below w22.heap.size w22 _›; (with_reducible refine (HLN.out _ hbl).mono ?_); rintro e w23 ⟨rfl, rfl⟩) | (go_at_call 16; obtain ⟨_, _, _, _, hbl⟩ := ‹_ ∧ _ ∧ _ ∧ _ ∧ Below w22.heap.size w22 _›; (with_reducible refine (HFL.out _ hbl).mono ?_); rintro e w23 ⟨rfl, rfl⟩) | (go_at_call 24; obtain ⟨_, _, _, _, hbl⟩ := ‹_ ∧ _ ∧ _ ∧ _ ∧ Below w22.heap.size w22 _›; (with_reducible refine (HRF.out _ hbl).mono ?_); rintro e w23 ⟨rfl, hb23⟩))
                go_wp2_with fail
                go_roundw
                case rel => exact ⟨k + 1, nw2, _, s2, by omega, by go_num, rfl, hnw3, Lib.hid (HP22.out.next (bnext hbl hb23)).1, HN2, Lib.hid (HG22.out.next (bnext hbl hb23))⟩
                case measure => simp [intOf]; omega
          | 4, _ =>
            as_aux_lemma =>
              go_upto_region 15 with fail
              have HC1 := Lib.hid (rdone seq s HT.out (by omega) HN.out.up)
              rw [HN.out.fly, HN.out.base, HN.out.most] at HC1
              have hg0 := HG.out
              have c0 : wr.cell? ⟨g, 0, none⟩ = some (v) := hg0.cell 0
              have c1 : wr.cell? ⟨g, 1, none⟩ = some (.int .i64 (F : Int)) := hg0.cell 1
              have c2 : wr.cell? ⟨g, 2, none⟩ = some (.int .i64 (B : Int)) := hg0.cell 2
              have c3 : wr.cell? ⟨g, 3, none⟩ = some (.int .i64 (M : Int)) := hg0.cell 3
              have HN2 := Lib.hid (HN.out.done seq)
              obtain ⟨bb, hbb⟩ : ∃ bb : Bool, bb = (s.find seq).isSome := ⟨_, rfl⟩
              have HBB := Lib.hid hbb
              rw [← hbb] at HC1
              obtain ⟨s2, hs2⟩ : ∃ s2, s2 = s.done seq := ⟨_, rfl⟩
              have HS2 := Lib.hid hs2
              rw [← hs2] at HC1 HN2
              clear hs2
              obtain ⟨av, cv, hv⟩ := HT.out.slice
              rw [hv] at c0 HC1
              clear hbb hg0 hv
              go_wp2_with fail
              refine HC1.out.mono ?_
              clear hs0 hs1 hs2 hs3 hix
              rintro e w6 ⟨v6, rfl, hp6, hk6⟩
              have hg6 := HG.out.kept hk6 rfl
              have HP7 := Lib.hid (hp6.alloc (.cells #[v6, .int .i64 (F : Int), .int .i64 (B : Int), .int .i64 (M : Int)] 41))
              have HG7 := Lib.hid (hg6.alloc (.cells #[v6, .int .i64 (F : Int), .int .i64 (B : Int), .int .i64 (M : Int)] 41))
              have HH7 := Lib.hid (Blk.new w6 41 #[v6, .int .i64 (F : Int), .int .i64 (B : Int), .int .i64 (M : Int)])
              obtain ⟨a6, c6, rfl⟩ := hp6.slice
              clear hp6 hk6 hg6 HT HG HC1 c0 c1 c2 c3
              go_wp2_with fail
              have hc2 := sdone seq HP7.out HSW.out HN.out (by omega)
              rw [show (s.find seq).isSome = bb from HBB.out.symm] at hc2
              rw [← HS2.out] at hc2
              have HC2 := Lib.hid hc2
              clear hc2
              generalize w6.alloc _ = w7 at *
              generalize w6.heap.size = g2 at *
              refine HC2.out.mono ?_
              rintro e w8 ⟨rfl, hp8, hk8⟩
              have hg8 := HG7.out.kept hk8 (.inl rfl)
              have hh8 := HH7.out.kept hk8 (.inr rfl)
              have hbb2 : (bb == bb) = true := by simp
              have d0 : w8.cell? ⟨g2, 0, none⟩ = some (.slice a6 s2.l.length c6) := hh8.cell 0
              have d1 : w8.cell? ⟨g2, 1, none⟩ = some (.int .i64 (F : Int)) := hh8.cell 1
              have d2 : w8.cell? ⟨g2, 2, none⟩ = some (.int .i64 (B : Int)) := hh8.cell 2
              have d3 : w8.cell? ⟨g2, 3, none⟩ = some (.int .i64 (M : Int)) := hh8.cell 3
              have c0 : w8.cell? ⟨g, 0, none⟩ = some (v) := hg8.cell 0
              have c1 : w8.cell? ⟨g, 1, none⟩ = some (.int .i64 (F : Int)) := hg8.cell 1
              have c2 : w8.cell? ⟨g, 2, none⟩ = some (.int .i64 (B : Int)) := hg8.cell 2
              have c3 : w8.cell? ⟨g, 3, none⟩ = some (.int .i64 (M : Int)) := hg8.cell 3
              have f0 := hg8.frozen 0
              have f1 := hg8.frozen 1
              have f2 := hg8.frozen 2
              have f3 := hg8.frozen 3
              have HPX := Lib.hid ((pair_set4 hp8 (g := g) (.inl rfl) (.slice a6 s2.l.length c6) (.int .i64 (F : Int)) (.int .i64 (B : Int)) (.int .i64 (M : Int))).fewer (G' := fun q => q = g) (fun q hq => .inl hq))
              have HGX := Lib.hid (set4 (v' := .slice a6 s2.l.length c6) hg8)
              clear hp8 hk8 hg8 hh8 HP7 HG7 HH7 HC2 HBB
              have HSN := Lib.hid (snext HPX.out)
              have hlx := HN2.out.len
              go_wp2_with fail
              refine HSN.out.mono ?_
              rintro e w20 ⟨rfl, hp20, hk20⟩
              have hg20 := HGX.out.kept hk20 rfl
              have HRN := Lib.hid (rnext s2 hp20 (by omega))
              rw [HN2.out.fly, HN2.out.base, HN2.out.most] at HRN
              have c0 : w20.cell? ⟨g, 0, none⟩ = some (.slice a6 s2.l.length c6) := hg20.cell 0
              have c1 : w20.cell? ⟨g, 1, none⟩ = some (.int .i64 (F : Int)) := hg20.cell 1
              have c2 : w20.cell? ⟨g, 2, none⟩ = some (.int .i64 (B : Int)) := hg20.cell 2
              have c3 : w20.cell? ⟨g, 3, none⟩ = some (.int .i64 (M : Int)) := hg20.cell 3
              generalize (nxT s2.next).1 = nx1 at *
              generalize (nxT s2.next).2 = nx2 at *
              have HP20 := Lib.hid hp20
              have HG20 := Lib.hid hg20
              have hx1 : (nx1 != nx1) = false := by simp
              have hx2 : (nx2 != nx2) = false := by simp
              clear hp20 hk20 hg20 HSN HPX HGX
              go_wp2_with fail
              refine HRN.out.mono ?_
              rintro e w22 ⟨rfl, hb22⟩
              have HP22 := Lib.hid (HP20.out.next hb22).1
              have HG22 := Lib.hid (HG20.out.next hb22)
              have hg22 := HG22.out
              clear hb22 HP20 HG20 HRN c0 c1 c2 c3
              have c0 : w22.cell? ⟨g, 0, none⟩ = some (.slice a6 s2.l.length c6) := hg22.cell 0
              have c1 : w22.cell? ⟨g, 1, none⟩ = some (.int .i64 (F : Int)) := hg22.cell 1
              have c2 : w22.cell? ⟨g, 2, none⟩ = some (.int .i64 (B : Int)) := hg22.cell 2
              have c3 : w22.cell? ⟨g, 3, none⟩ = some (.int .i64 (M : Int)) := hg22.cell 3
              have HLN := Lib.hid fun W hW => slen (HP22.out.next (w' := W) hW).1
              have HFL := Lib.hid fun W hW => sflying (HP22.out.next (w' := W) hW).1
              have HRF := Lib.hid fun W hW => rflying s2 (HP22.out.next (w' := W) hW).1 (by omega)
              rw [HN2.out.fly, HN2.out.base, HN2.out.most, ← HN2.out.fl] at HRF
              have HC4 : Hid (∀ W, Below w22.heap.size w22 W → W.cell? ⟨g, 0, none⟩ = some (.slice a6 s2.l.length c6) ∧ W.cell? ⟨g, 1, none⟩ = some (.int .i64 (F : Int)) ∧ W.cell? ⟨g, 2, none⟩ = some (.int .i64 (B : Int)) ∧ W.cell? ⟨g, 3, none⟩ = some (.int .i64 (M : Int)) ∧ Below w22.heap.size w22 W) := Lib.hid fun W hW => ⟨(HG22.out.next hW).cell 0, (HG22.out.next hW).cell 1, (HG22.out.next hW).cell 2, (HG22.out.next hW).cell 3, hW⟩
              generalize hfl9 : s2.flying = fl9 at *
              generalize hll9 : s2.l.length = ll9 at *
              have hl1 : ((ll9 : Int) != (ll9 : Int)) = false := by simp
              have hl2 : ((fl9 : Int) != (fl9 : Int)) = false := by simp
              clear hfl9 hg22 hll9
              go_wp2_with fail
              go_region_held3 (fun W => W.cell? ⟨g, 0, none⟩ = some (.slice a6 ll9 c6) ∧ W.cell? ⟨g, 1, none⟩ = some (.int .i64 (F : Int)) ∧ W.cell? ⟨g, 2, none⟩ = some (.int .i64 (B : Int)) ∧ W.cell? ⟨g, 3, none⟩ = some (.int .i64 (M : Int)) ∧ Below w22.heap.size w22 W)
                (first | assumption | exact HC4.out _ (Below.drew (Below.refl _ _)) | exact HC4.out _ (bnext hbl hb23) | go_keep)
                (first | (go_at_call 13; obtain ⟨_, _, _, _, hbl⟩ := ‹_ ∧ _ ∧ _ ∧ _ ∧ Below w22.heap.size w22 _›; (with_reducible refine (HLN.out _ hbl).mono ?_); rintro e w23 ⟨rfl, rfl⟩) | (go_at_call 16; obtain ⟨_, _, _, _, hbl⟩ := ‹_ ∧ _ ∧ _ ∧ _ ∧ Below w22.heap.size w22 _›; (with_reducible refine (HFL.out _ hbl).mono ?_); rintro e w23 ⟨rfl, rfl⟩) | (go_at_call 24; obtain ⟨_, _, _, _, hbl⟩ := ‹_ ∧ _ ∧ _ ∧ _ ∧ Below w22.heap.size w22 _›; (with_reducible refine (HRF.out _ hbl).mono ?_); rintro e w23 ⟨rfl, hb23⟩))
              go_wp2_with fail
              go_roundw
              case rel => exact ⟨k + 1, nw2, _, s2, by omega, by go_num, rfl, hnw3, Lib.hid (HP22.out.next (bnext hbl hb23)).1, HN2, Lib.hid (HG22.out.next (bnext hbl hb23))⟩
              case measure => simp [intOf]; omega
      · have HBB := Lib.hid (bnext HB1.out HT.out.below)
        clear HT HN HG
        go_wp2_with fail
        go_ret
        exact ⟨rfl, HBB.out⟩
end Go.Proofs.Ytelodofjokmfjaa.Tele
