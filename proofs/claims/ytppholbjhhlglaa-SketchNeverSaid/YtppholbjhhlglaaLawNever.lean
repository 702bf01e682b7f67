/- The walk of the law SketchNever. No conditions. -/
import Derived.Test.YtppholbjhhlglaaLawAlone
import Derived.Test.YtppholbjhhlglaaPNever
namespace Go.Proofs.Ytppholbjhhlglaa.Tele
open Go.RowKit
set_option linter.unusedVariables false
set_option linter.unusedSimpArgs false

theorem sketchNever_walk (x a b : Int) (ca : Option Addr) (len cap : Nat) (cs : List Int) (na : Option Addr) (nlen ncap : Nat) (ns : List Int) (w : World) (hx : (Lit.int .u64 x).wf = true) (ha : (Lit.int .u8 a).wf = true) (hb : (Lit.int .u8 b).wf = true) (hc : IntRow .u8 w ca len cap cs) (hl : len * 1 ≤ 140737488351232) (hn : IntRow .u8 w na nlen ncap ns) (hnl : nlen * 1 ≤ 140737488351232) :
    Calls Try.prog 5 #[.int .u64 x, .int .u8 a, .int .u8 b, .slice ca len cap, .slice na nlen ncap] w fun e w' => e = .returned (.bool true) ∧ Below w.heap.size w w' := by
  obtain ⟨X, rfl⟩ := u_of_wf hx
  obtain ⟨ha0, ha1⟩ := u8_of_wf ha
  obtain ⟨hb0, hb1⟩ := u8_of_wf hb
  clear hx ha hb
  have hA : ∃ A : Nat, (A : Int) = 1 + a % 5 ∧ 1 ≤ A ∧ A ≤ 8 := ⟨(1 + a % 5).toNat, by omega, by omega, by omega⟩
  have hB : ∃ B : Nat, (B : Int) = 1 + b % 30 ∧ 1 ≤ B ∧ B ≤ 1024 := ⟨(1 + b % 30).toNat, by omega, by omega, by omega⟩
  obtain ⟨A, hA, hA1, hA2⟩ := hA
  obtain ⟨B, hB, hB1, hB2⟩ := hB
  have HA := Lib.hid hA
  have HB := Lib.hid hB
  clear hA hB
  by_cases hlen : len ≤ 60
  · go_enter Try.func5, Try.ntmps5
    go_wp2_with fail
    rw [← HA.out, ← HB.out]
    refine (new_any A B X _ hA1 hA2 hB1 hB2).mono ?_
    rintro e w1 ⟨p, c, rfl, hbw, hs, hp, hcc⟩
    go_wp2_with fail
    refine (known_calls _).mono ?_
    rintro e w_ ⟨rfl, hb2⟩
    replace hs := hs.next hb2
    replace hbw := bnext hbw hb2
    clear hb2
    go_wp2
    obtain ⟨g, hg⟩ : ∃ g, g = w_.heap.size := ⟨_, rfl⟩
    have hblk : Blk (w_.alloc (.cells (zeros.map nv).toArray 44)) g 44 (zeros.map nv).toArray := by rw [hg]; exact Blk.new w_ 44 _
    have hgw : w.heap.size ≤ g := by rw [hg]; exact hbw.size
    have hpg : p < g := by rw [hg]; exact hs.st.lt
    have hcg : c < g := by rw [hg]; exact hs.cl.lt
    replace hs : IsSk (w_.alloc (.cells (zeros.map nv).toArray 44)) p c (Sk.new A B X) := hs.next (bl_alloc (Below.refl _ _) _)
    replace hbw : Below w.heap.size w (w_.alloc (.cells (zeros.map nv).toArray 44)) := bl_alloc hbw _
    rw [← hg]
    clear hg
    have hrel0 := never_start A B X
    go_loopw [13, 14] (fun t i wr => ∃ (k v : Nat) (is : List Nat), k ≤ len ∧ i = .int .i64 k ∧ t = nv v ∧ Blk wr g 44 (is.map nv).toArray ∧ (∃ s, IsSk wr p c s ∧ NeverRel s k v is) ∧ Below w.heap.size w wr) (fun _ i _ => len - (intOf i).toNat)
    case atStart => exact ⟨0, 0, zeros, by omega, rfl, rfl, hblk, ⟨_, hs, hrel0⟩, hbw⟩
    case round =>
      clear hs hblk hrel0 hbw
      obtain ⟨k, v, is, hk, rfl, rfl, hblk, ⟨s, hs, hnr⟩, hbw⟩ := hrel
      by_cases hlt : k < len
      · have hr := hc.1.below hbw
        have hcell := hr.cell k hlt
        have hidx := fun W => hr.index Try.prog 23 5 Try.underlying23 (by kernel_rfl) k hlt W
        obtain ⟨hx0, hx1⟩ := u8_of_wf (hc.2 _ (getD_mem_or (j := k) (by rw [hc.1.1]; exact hlt)))
        obtain ⟨x, hx⟩ : ∃ x, cs.getD k 0 = x := ⟨_, rfl⟩
        rw [hx] at hcell hx0 hx1
        have hQ := Lib.hid hx
        clear hx hr
        obtain ⟨r, hr, hr12⟩ : ∃ r : Nat, x % 12 = (r : Int) ∧ r < 12 := ⟨(x % 12).toNat, by omega, by omega⟩
        have hy : is.getD r 0 ≤ 15300 := Nat.le_trans (hnr.isle r) (by omega)
        have hv : v ≤ 15300 := Nat.le_trans hnr.vle (by omega)
        have hgc : wr.cell? ⟨g, r, none⟩ = some (nv (is.getD r 0)) := by rw [hblk.cell]; exact nv_get is r (by rw [hnr.len]; exact hr12)
        have hgf := hblk.frozen r
        obtain ⟨y, hyy⟩ : ∃ y, is.getD r 0 = y := ⟨_, rfl⟩
        rw [hyy] at hy hgc
        have HY := Lib.hid hyy
        clear hyy
        by_cases hkn : k < nlen
        · have hr2 := hn.1.below hbw
          have hcelln := hr2.cell k hkn
          have hidxn := fun W => hr2.index Try.prog 23 5 Try.underlying23 (by kernel_rfl) k hkn W
          obtain ⟨hm0, hm1⟩ := u8_of_wf (hn.2 _ (getD_mem_or (j := k) (by rw [hn.1.1]; exact hkn)))
          obtain ⟨m, hm⟩ : ∃ m : Nat, ns.getD k 0 = (m : Int) := ⟨(ns.getD k 0).toNat, by omega⟩
          rw [hm] at hcelln hm0 hm1
          clear hm hr2
          have hblk2 : Blk (wr.setCell ⟨g, r, none⟩ (.int .u64 ((y : Int) + (m : Int)))) g 44 ((is.set r (y + m)).map nv).toArray := by
            rw [← set_nv]
            exact hblk.set_ r _
          have hbw2 : Below w.heap.size w (wr.setCell ⟨g, r, none⟩ (.int .u64 ((y : Int) + (m : Int)))) := hbw.setCell (p := ⟨g, r, none⟩) hgw _
          have hs2 : IsSk (wr.setCell ⟨g, r, none⟩ (.int .u64 ((y : Int) + (m : Int)))) p c s := ⟨hs.ok, hs.st.far (p := ⟨g, r, none⟩) (by show p ≠ g; omega) _, hs.cl.far (p := ⟨g, r, none⟩) (by show c ≠ g; omega) _⟩
          have hcell2 := (hc.1.below hbw2).cell k hlt
          rw [hQ.out] at hcell2
          have HR := Lib.hid (never_step s hs.ok k v is x r m hnr hr hr12 (by omega) (by omega))
          rw [HY.out] at HR
          clear hs hnr hblk hbw
          go_wp2_with fail
          refine (key_calls x _ hx0 hx1).mono ?_
          rintro e w_ ⟨rfl, hb2⟩
          replace hs2 := hs2.next hb2
          replace hbw2 := bnext hbw2 hb2
          replace hblk2 := hblk2.next hb2
          clear hb2
          go_wp2_with fail
          refine (add_calls p c _ (keyS x) m _ hs2 (keyS_size x) (by omega)).mono ?_
          rintro e w_ ⟨rfl, hgg, hs3⟩
          replace hbw2 := bsk hbw2 hgg hp hcc
          replace hblk2 := hblk2.chg hgg (by rintro (rfl | rfl) <;> omega)
          clear hgg hs2
          go_wp2
          go_roundw
          case rel => exact ⟨k + 1, v + m, _, by omega, by go_num, rfl, hblk2, ⟨_, hs3, HR.out⟩, hbw2⟩
          case measure => simp [intOf]; omega
        · have hblk2 : Blk (wr.setCell ⟨g, r, none⟩ (.int .u64 ((y : Int) + 1))) g 44 ((is.set r (y + 1)).map nv).toArray := by
            rw [← set_nv]
            exact hblk.set_ r _
          have hbw2 : Below w.heap.size w (wr.setCell ⟨g, r, none⟩ (.int .u64 ((y : Int) + 1))) := hbw.setCell (p := ⟨g, r, none⟩) hgw _
          have hs2 : IsSk (wr.setCell ⟨g, r, none⟩ (.int .u64 ((y : Int) + 1))) p c s := ⟨hs.ok, hs.st.far (p := ⟨g, r, none⟩) (by show p ≠ g; omega) _, hs.cl.far (p := ⟨g, r, none⟩) (by show c ≠ g; omega) _⟩
          have hcell2 := (hc.1.below hbw2).cell k hlt
          rw [hQ.out] at hcell2
          have HR := Lib.hid (never_step s hs.ok k v is x r 1 hnr hr hr12 (by omega) (by omega))
          rw [HY.out] at HR
          clear hs hnr hblk hbw
          go_wp2_with fail
          refine (key_calls x _ hx0 hx1).mono ?_
          rintro e w_ ⟨rfl, hb2⟩
          replace hs2 := hs2.next hb2
          replace hbw2 := bnext hbw2 hb2
          replace hblk2 := hblk2.next hb2
          clear hb2
          go_wp2_with fail
          refine (add_calls p c _ (keyS x) 1 _ hs2 (keyS_size x) (by omega)).mono ?_
          rintro e w_ ⟨rfl, hgg, hs3⟩
          replace hbw2 := bsk hbw2 hgg hp hcc
          replace hblk2 := hblk2.chg hgg (by rintro (rfl | rfl) <;> omega)
          clear hgg hs2
          go_wp2
          go_roundw
          case rel => exact ⟨k + 1, v + 1, _, by omega, by go_num, rfl, hblk2, ⟨_, hs3, HR.out⟩, hbw2⟩
          case measure => simp [intOf]; omega
      · go_wp2
        have hv : v ≤ 15300 := Nat.le_trans hnr.vle (by omega)
        go_loopw [16] (fun i wr => ∃ (j : Nat), j ≤ 12 ∧ i = .int .i64 j ∧ Blk wr g 44 (is.map nv).toArray ∧ IsSk wr p c s ∧ Below w.heap.size w wr) (fun i _ => 12 - (intOf i).toNat)
        case atStart => exact ⟨0, by omega, rfl, hblk, hs, hbw⟩
        case round =>
          clear hs hblk hbw
          obtain ⟨j, hj, rfl, hblk, hs, hbw⟩ := hrel
          by_cases hlt : j < 12
          · have hle : is.getD j 0 ≤ s.count (keyS j).data.toList := Sk.atLeast_count s _ _ (Nat.le_trans (hnr.isle j) (by omega)) (hnr.least j hlt)
            have hge : s.count (keyS j).data.toList ≤ v := by rw [← hnr.tot]; exact Sk.count_low s hs.ok hnr.low _
            have hjl : j < is.length := by rw [hnr.len]; exact hlt
            go_wp2_with fail
            refine (key_calls j _ (by omega) (by omega)).mono ?_
            rintro e w_ ⟨rfl, hb2⟩
            replace hs := hs.next hb2
            replace hblk := hblk.next hb2
            replace hbw := bnext hbw hb2
            clear hb2
            go_wp2_with fail
            refine (count_calls p c _ (keyS j) _ hs (keyS_size _)).mono ?_
            rintro e w_ ⟨rfl, hb2⟩
            replace hs := hs.next hb2
            replace hblk := hblk.next hb2
            replace hbw := bnext hbw hb2
            clear hb2
            have hgc : w_.cell? ⟨g, j, none⟩ = some (nv (is.getD j 0)) := by rw [hblk.cell]; exact nv_get is j hjl
            generalize s.count (keyS j).data.toList = m at *
            generalize is.getD j 0 = n at *
            have t1 : decide (m < n) = false := by simp; omega
            have t2 : decide (v < m) = false := by simp; omega
            go_wp2
            go_roundw
            case rel => exact ⟨j + 1, by omega, by go_num, hblk, hs, hbw⟩
            case measure => simp [intOf]; omega
          · have HT := Lib.hid hnr.tot
            clear hnr
            go_wp2_with fail
            refine (total_calls p c _ _ hs).mono ?_
            rintro e w_ ⟨rfl, rfl⟩
            rw [HT.out]
            go_wp2
            go_ret
            exact ⟨rfl, hbw⟩
  · go_enter Try.func5, Try.ntmps5
    go_wp2_with fail
    rw [← HA.out, ← HB.out]
    refine (new_any A B X _ hA1 hA2 hB1 hB2).mono ?_
    rintro e w1 ⟨p, c, rfl, hbw, hs, hp, hcc⟩
    go_wp2_with fail
    refine (known_calls _).mono ?_
    rintro e w_ ⟨rfl, hb2⟩
    replace hs := hs.next hb2
    replace hbw := bnext hbw hb2
    clear hb2
    go_wp2
    go_ret
    exact ⟨rfl, hbw⟩
end Go.Proofs.Ytppholbjhhlglaa.Tele
