/- The walk of the law SendNext. No conditions. -/
import Derived.Test.YtelodofjokmfjaaPNext
namespace Go.Proofs.Ytelodofjokmfjaa.Tele
open Go.RowKit
set_option linter.unusedVariables false
set_option linter.unusedSimpArgs false

theorem mine_next2 (w0 : World) (p : Nat) (s : St) (w : World) (h : Mine w0 w p s) :
    Calls Try.prog 17 #[.pointer (some ⟨p, 0, none⟩)] w fun e w' => ∃ o : Option Int, e = .returned (.tuple #[.int .i64 (o.getD 0), .bool o.isSome]) ∧ Best s.l (fun _ => True) o ∧ Mine w0 w' p s ∧ Below w.heap.size w w' := by
  have h' := h
  obtain ⟨O, h1, h2, h3⟩ := h
  refine (next_calls O p s w h2).mono ?_
  rintro e w' ⟨o, rfl, hb, hw⟩
  exact ⟨o, rfl, hb, h'.next hw, hw⟩
theorem mine_len (w0 : World) (p : Nat) (s : St) (w : World) (h : Mine w0 w p s) :
    Calls Try.prog 13 #[.pointer (some ⟨p, 0, none⟩)] w fun e w' => e = .returned (.int .i64 (s.l.length : Int)) ∧ w' = w := by
  obtain ⟨O, h1, h2, h3⟩ := h
  exact len_calls O p s w h2
set_option maxRecDepth 8000 in
set_option maxHeartbeats 2000000 in
theorem sendNext_walk (y : Int) (ca : Option Addr) (len cap : Nat) (cs : List Int) (g : Int) (w : World) (hy : (Lit.int .u8 y).wf = true) (hc : IntRow .u8 w ca len cap cs) (hl : len * 1 ≤ 140737488351232) (hg : (Lit.int .u8 g).wf = true) :
    Calls Try.prog 5 #[.int .u8 y, .slice ca len cap, .int .u8 g] w fun e w' => e = .returned (.bool true) ∧ Below w.heap.size w w' := by
  obtain ⟨hy0, hy1⟩ := u8_of_wf hy
  obtain ⟨gk, rfl, hg1⟩ := nat8_of_wf hg
  obtain ⟨fly, hfly, hf1, hf2⟩ : ∃ fly : Nat, 1 + y % 5 = (fly : Int) ∧ 1 ≤ fly ∧ fly ≤ 5 := ⟨(1 + y % 5).toNat, by omega, by omega, by omega⟩
  have HN := Lib.hid fun w => mine_new fly 4 4 w hf1 (by omega) (by omega) (by omega) (by omega)
  obtain ⟨hrow, hwf⟩ := hc
  have HWF := Lib.hid hwf
  have HLEN := Lib.hid hrow.len_eq
  have HR := Lib.hid hrow
  clear hy hg hwf hl hrow
  by_cases hlen : 60 < (len : Int)
  · go_enter Try.func5, Try.ntmps5
    go_wp2_with fail
    refine (HN.out _).mono ?_
    rintro e w1 ⟨p, rfl, hM⟩
    have HM := Lib.hid hM
    clear hM
    go_wp2_with fail
    refine (known_calls _).mono ?_
    rintro e w2 ⟨rfl, hb⟩
    go_wp2
    go_ret
    obtain ⟨O, h1, h2, h3⟩ := HM.out
    exact ⟨rfl, bnext h3 hb⟩
  · go_enter Try.func5, Try.ntmps5
    go_wp2_with fail
    refine (HN.out _).mono ?_
    rintro e w1 ⟨p, rfl, hM⟩
    obtain ⟨s0, hs0⟩ : ∃ s0 : St, s0 = ⟨[], fly, 4, 4, 0⟩ := ⟨_, rfl⟩
    rw [← hs0] at hM
    have HM := Lib.hid hM
    have HS0 := Lib.hid hs0
    clear hM hs0
    go_wp2_with fail
    go_loopw [9] (fun i wr => ∃ k : Nat, k ≤ len ∧ i = .int .i64 (k : Int) ∧ Hid (Mine w wr p (s0.puts (cs.take k)))) (fun i _ => len - (intOf i).toNat)
    case atStart => exact ⟨0, by omega, rfl, HM⟩
    case round =>
      clear HM
      obtain ⟨k, hk, rfl, HM⟩ := hrel
      have HBW : Hid (Below w.heap.size w wr) := Lib.hid (by obtain ⟨O, _, _, h3⟩ := HM.out; exact h3)
      have hpl := St.puts_len (cs.take k) s0
      rw [show s0.l.length = 0 by rw [HS0.out]; rfl, List.length_take] at hpl
      have hpl2 : (s0.puts (cs.take k)).l.length ≤ 60 := by omega
      clear hpl
      by_cases hlt : (k : Int) < (len : Int)
      · have hrow := RowOf.below HR.out HBW.out
        have hix := fun W => hrow.index Try.prog 26 5 Try.underlying26 (by kernel_rfl) k (by omega) W
        have hcell := hrow.cell k (by omega)
        have hkc : k < cs.length := by rw [HLEN.out]; omega
        have hgd : cs.getD k 0 = cs[k] := by rw [List.getD_eq_getElem?_getD, List.getElem?_eq_getElem hkc]; rfl
        rw [hgd] at hcell
        obtain ⟨z0, z1⟩ := u8_of_wf (HWF.out _ (List.getElem_mem hkc))
        have HSN := Lib.hid (St.puts_snoc s0 cs k hkc)
        generalize cs[k] = z at *
        have HP := Lib.hid (mine_put w p (s0.puts (cs.take k)) z wr HM.out (wf_i64 (by omega) (by omega)) (by omega))
        generalize adr ca k = ad at *
        clear hrow hgd hkc
        go_wp2_with fail
        refine HP.out.mono ?_
        rintro e w3 ⟨rfl, hM⟩
        rw [← HSN.out] at hM
        have HM2 := Lib.hid hM
        clear hM
        go_wp2_with fail
        go_roundw
        case rel => exact ⟨k + 1, by omega, by go_num, HM2⟩
        case measure => simp [intOf]; omega
      · have hkl : k = len := by omega
        have hall : cs.take k = cs := List.take_of_length_le (by rw [HLEN.out]; omega)
        rw [hall] at HM hpl2
        have hfr := St.puts_fresh cs s0 (by rw [HS0.out]; exact ⟨by simp, List.Pairwise.nil, rfl⟩)
        obtain ⟨e1, e2, e3, e4⟩ := St.puts_same cs s0
        rw [HS0.out] at e1 e2 e3 e4
        simp only at e1 e2 e3 e4
        rw [← HS0.out] at e1 e2 e3 e4
        obtain ⟨s, hs⟩ : ∃ s, s = s0.puts cs := ⟨_, rfl⟩
        have HSC := Lib.hid hs
        rw [← hs] at HM hpl2 hfr e1 e2 e3 e4
        clear hs
        clear hall hkl HBW
        have t0 : ∀ q ∈ s.l, q.2.times ≤ 0 := fun q hq => by rw [hfr.fl q hq]; exact Nat.le_refl _
        by_cases hcs : cs = []
        · have hsl : s.l = [] := by rw [HSC.out, hcs, HS0.out]; rfl
          have hlen0 : (len : Int) = 0 := by rw [← HLEN.out, hcs]; rfl
          have hout : s.outs 10 0#64 = [] := by rw [St.outs_go, hsl]; rfl
          have hsa : (s.sendAll 10 0#64).l = [] := by rw [St.sendAll_go, hsl]; rfl
          have D1 := Lib.hid (by
            have := mine_due w p s 10 0#64 wr HM.out (by omega) (fun q hq => by have := t0 q hq; omega) (by rw [e4]; omega)
            rw [show s.outs ((10 : Nat) : Int) 0#64 = [] from hout] at this
            exact this)
          have N1 := Lib.hid fun W h => mine_next w p (s.sendAll 10 0#64) W h
          have HSA := Lib.hid hsa
          clear HM hout hsl t0 hfr e1 e2 e3 e4 hsa hcs hpl2
          go_wp2_with fail
          refine D1.out.mono ?_
          rintro e w3 ⟨v, O, rfl, ⟨a, cap2, rfl, _, _⟩, hM, _⟩
          rw [show ([] : List Int).length = 0 from rfl]
          have HM3 := Lib.hid hM
          clear hM
          go_wp2_with fail
          refine (N1.out _ HM3.out).mono ?_
          rintro e w4 ⟨o, rfl, hbest, hM⟩
          have ho : o = none := by
            cases o with
            | none => rfl
            | some a' =>
              obtain ⟨q, hq, _⟩ := hbest.2 a' rfl
              rw [HSA.out] at hq
              simp at hq
          rw [ho, show (none : Option Int).getD 0 = 0 from rfl, show (none : Option Int).isSome = false from rfl]
          have HM4 := Lib.hid hM
          clear hM hbest ho
          go_wp2_with fail
          refine (known_calls _).mono ?_
          rintro e w5 ⟨rfl, hb⟩
          go_wp2
          go_ret
          obtain ⟨O, h1, h2, h3⟩ := HM4.out
          exact ⟨rfl, bnext h3 hb⟩
        · have hne : s.l ≠ [] := by
            rw [HSC.out]
            exact St.puts_nonempty cs (fun z hz => (u8_of_wf (HWF.out z hz)).1) hcs s0
          obtain ⟨n1, n2, n3, n4⟩ := St.next_law s 0#64 hfr e2 e3 (by rw [e1]; exact hf1) hne
          obtain ⟨L, hL⟩ : ∃ L, L = s.outs 10 0#64 := ⟨_, rfl⟩
          obtain ⟨t, ht⟩ : ∃ t, t = s.sendAll 10 0#64 := ⟨_, rfl⟩
          rw [← hL, ← ht] at n4
          rw [← hL] at n1
          rw [← ht] at n2 n3
          obtain ⟨nl, hnl⟩ : ∃ nl, nl = L.length := ⟨_, rfl⟩
          obtain ⟨n, hn⟩ : ∃ n, n = s.l.length := ⟨_, rfl⟩
          have hn9 : (n : Int) ≤ 60 := by omega
          have hn1 : 1 ≤ n := by rw [hn]; exact List.length_pos_iff.2 hne
          have hnl1 : 1 ≤ nl ∧ nl ≤ 60 := by rw [hnl, n1, e1]; omega
          obtain ⟨i, hi⟩ : ∃ i, i = gk % nl := ⟨_, rfl⟩
          have hinl : i < nl := by rw [hi]; exact Nat.mod_lt _ (by omega)
          have hii : (gk : Int) % (nl : Int) = (i : Int) := by rw [hi]; exact (Int.natCast_emod _ _).symm
          obtain ⟨f, m1, m2, m3, m4, m5, m6, m7⟩ := n4 i (by rw [← hnl]; exact hinl)
          obtain ⟨gone, hgone⟩ : ∃ gone, gone = L.getD i 0 := ⟨_, rfl⟩
          rw [← hgone] at m1 m4 m5 m6 m7
          obtain ⟨u, hu⟩ : ∃ u, u = t.done gone := ⟨_, rfl⟩
          rw [← hu] at m4 m5 m6 m7
          rw [e1] at m3 m4 m7
          rw [← hn] at m4 m5 n3
          have hwg : (Lit.int .i64 gone).wf = true := by
            -- a key of the sender's
            obtain ⟨O, _, hS, _⟩ := HM.out
            obtain ⟨b, m, F, h⟩ := hS
            have hgk : gone ∈ s.l.map (·.1) := by
              obtain ⟨f1, _⟩ := St.first_look s 10 0#64 hfr
              have hsub : ∀ x ∈ L, x ∈ s.l.map (·.1) := fun x hx => by rw [hL, f1] at hx; exact List.mem_of_mem_take hx
              rw [hgone, List.getD_eq_getElem?_getD, List.getElem?_eq_getElem (by rw [← hnl]; exact hinl)]
              exact hsub _ (List.getElem_mem _)
            rw [h.abs, List.map_map] at hgk
            obtain ⟨e, he, hek⟩ := List.mem_map.1 hgk
            have hk := h.keys e he
            have hek' : e.1 = gone := hek
            exact wf_i64 (by omega) (by omega)
          have D1 := Lib.hid (by
            have := mine_due w p s 10 0#64 wr HM.out (by omega) (fun q hq => by have := t0 q hq; omega) (by rw [e4]; omega)
            rw [show s.outs ((10 : Nat) : Int) 0#64 = L from hL.symm, show s.sendAll ((10 : Nat) : Int) 0#64 = t from ht.symm] at this
            exact this)
          have N1 := Lib.hid fun W h => mine_next2 w p t W h
          have LN := Lib.hid fun W h => by have := mine_len w p t W h; rw [n3] at this; exact this
          obtain ⟨r, hr⟩ : ∃ r, r = u.sendAll 11 0#64 := ⟨_, rfl⟩
          have m5r := m5
          rw [← hr] at m5r
          obtain ⟨nr, hnr⟩ : ∃ nr, nr = r.l.length := ⟨_, rfl⟩
          rw [← hnr] at m5r
          have hnr1 : (n : Int) - 1 = (nr : Int) := by omega
          have LN2 := Lib.hid fun W h => by have := mine_len w p r W h; rw [← hnr] at this; exact this
          obtain ⟨M2, hM2⟩ : ∃ M2, M2 = u.outs 11 0#64 := ⟨_, rfl⟩
          rw [← hM2] at m4
          have DN := Lib.hid fun W h => by have := mine_done w p t gone f W h hwg m1 m2 (by omega); rw [← hu] at this; exact this
          have D2 := Lib.hid fun W h => by
            have := mine_due w p u 11 0#64 W h (by omega) (fun q hq => by have := m6 q hq; omega) (by omega)
            rw [show u.outs ((11 : Nat) : Int) 0#64 = M2 from hM2.symm, show u.sendAll ((11 : Nat) : Int) 0#64 = r from hr.symm] at this
            exact this
          have HM4 := Lib.hid m4
          have HM5 := Lib.hid m5
          have HN2 := Lib.hid n2
          have HNL := Lib.hid hnl
          have HGONE := Lib.hid hgone
          have HM0 := Lib.hid HM.out
          clear HM n1 n2 n3 n4 m1 m2 m3 m4 m5 m6 m7 t0 hL ht hn hi hnl hgone hu hwg e1 e2 e3 e4 hfr hne hcs hr hnr hM2 m5r
          go_wp2_with fail
          refine D1.out.mono ?_
          rintro e w3 ⟨v, O, rfl, hi1, hM, hc, hOl, hOg, hS⟩
          have HM3 := Lib.hid hM
          have HI1 := Lib.hid hi1
          obtain ⟨a1, cap1, hv1, hr1, _⟩ := HI1.out
          rw [← HNL.out] at hv1 hr1
          rw [hv1]
          have HR1 := Lib.hid hr1
          have hz : ((nl : Int) == 0) = false := by rw [beq_eq_false_iff_ne]; omega
          clear hM hi1 hc hOl hOg hS hv1 hr1
          go_wp2_with fail
          refine (N1.out _ HM3.out).mono ?_
          rintro e w4 ⟨o, rfl, hbest, hM, hbn⟩
          obtain ⟨at_, rfl, ha1, ha2⟩ := HN2.out o hbest
          rw [show (some at_ : Option Int).getD 0 = at_ from rfl, show (some at_ : Option Int).isSome = true from rfl]
          have HM4' := Lib.hid hM
          have hrow := RowOf.below HR1.out hbn
          have hix := fun W => hrow.index Try.prog 31 3 Try.underlying31 (by kernel_rfl) i hinl W
          have hcell := hrow.cell i hinl
          rw [← HGONE.out] at hcell
          generalize adr a1 i = ad at *
          clear hM hbest hbn hrow hpl2
          go_wp2_with fail
          refine (LN.out _ HM4'.out).mono ?_
          rintro e w5 ⟨rfl, rfl⟩
          go_wp2_with fail
          refine (DN.out _ HM4'.out).mono ?_
          rintro e w6 ⟨rfl, hM⟩
          have HM6 := Lib.hid hM
          clear hM
          go_wp2_with fail
          refine (D2.out _ HM6.out).mono ?_
          rintro e w7 ⟨v2, O2, rfl, ⟨a2, cap3, rfl, _, _⟩, hM, _⟩
          have HM7 := Lib.hid hM
          clear hM
          by_cases hw : fly < n
          · have hm2 : M2.length = 1 := by rw [HM4.out, if_pos hw]
            have hwi : (fly : Int) < (n : Int) := by omega
            rw [hm2]
            clear hw hm2
            go_wp2_with fail
            refine (known_calls _).mono ?_
            rintro e w8 ⟨rfl, hb⟩
            have HM8 := Lib.hid (HM7.out.next hb)
            clear hb
            go_wp2_with fail
            refine (LN2.out _ HM8.out).mono ?_
            rintro e w9 ⟨rfl, rfl⟩
            go_wp2
            go_ret
            obtain ⟨O, h1, h2, h3⟩ := HM8.out
            exact ⟨rfl, h3⟩
          · have hm2 : M2.length = 0 := by rw [HM4.out, if_neg hw]
            have hwi : ¬ (fly : Int) < (n : Int) := by omega
            rw [hm2]
            clear hw hm2
            go_wp2_with fail
            refine (known_calls _).mono ?_
            rintro e w8 ⟨rfl, hb⟩
            have HM8 := Lib.hid (HM7.out.next hb)
            clear hb
            go_wp2_with fail
            refine (LN2.out _ HM8.out).mono ?_
            rintro e w9 ⟨rfl, rfl⟩
            go_wp2
            go_ret
            obtain ⟨O, h1, h2, h3⟩ := HM8.out
            exact ⟨rfl, h3⟩
end Go.Proofs.Ytelodofjokmfjaa.Tele
