/- The walk of the law SketchCopies. No conditions. -/
import Derived.Test.YtppholbjhhlglaaLawZero
import Derived.Test.YtppholbjhhlglaaPNever
import Derived.Test.YtppholbjhhlglaaSkD
namespace Go.Proofs.Ytppholbjhhlglaa.Tele
open Go.RowKit
set_option linter.unusedVariables false
set_option linter.unusedSimpArgs false

set_option maxHeartbeats 1000000 in
theorem sketchCopies_walk (x : Int) (ca : Option Addr) (len cap : Nat) (cs : List Int) (da : Option Addr) (dlen dcap : Nat) (ds : List Int) (w : World) (hx : (Lit.int .u64 x).wf = true) (hc : IntRow .u8 w ca len cap cs) (hl : len * 1 ≤ 140737488351232) (hd : IntRow .u8 w da dlen dcap ds) (hdl : dlen * 1 ≤ 140737488351232) :
    Calls Try.prog 8 #[.int .u64 x, .slice ca len cap, .slice da dlen dcap] w fun e w' => e = .returned (.bool true) ∧ Below w.heap.size w w' := by
  obtain ⟨X, rfl⟩ := u_of_wf hx
  clear hx
  by_cases hlen : len + dlen ≤ 100
  · go_enter Try.func8, Try.ntmps8
    go_wp2_with fail
    refine (new_any 3 7 X _ (by omega) (by omega) (by omega) (by omega)).mono ?_
    rintro e w1 ⟨p, pc, rfl, hbw, hs, hp, hpc⟩
    go_wp2_with fail
    refine (new_any 3 7 X _ (by omega) (by omega) (by omega) (by omega)).mono ?_
    rintro e w2 ⟨q, qc, rfl, hb2, hu, hq, hqc⟩
    have hpl := hs.st.lt
    have hcl := hs.cl.lt
    have hsz := hbw.size
    replace hs := hs.next hb2
    replace hbw := bnext hbw hb2
    clear hb2
    have htt0 : (Sk.new 3 7 X).total ≤ 0 := Nat.le_refl _
    go_wp2
    go_loopw [9] (fun i wr => ∃ (k : Nat), k ≤ len ∧ i = .int .i64 k ∧ (∃ s, IsSk wr p pc s ∧ IsSk wr q qc s ∧ s.total ≤ k) ∧ Below w.heap.size w wr) (fun i _ => len - (intOf i).toNat)
    case atStart => exact ⟨0, by omega, rfl, ⟨_, hs, hu, htt0⟩, hbw⟩
    case round =>
      clear hs hu htt0 hbw
      obtain ⟨k, hk, rfl, ⟨s, hs, hu, hst⟩, hbw⟩ := hrel
      by_cases hlt : k < len
      · have hr := hc.1.below hbw
        have hcell := hr.cell k hlt
        have hidx := fun W => hr.index Try.prog 23 5 Try.underlying23 (by kernel_rfl) k hlt W
        obtain ⟨hx0, hx1⟩ := u8_of_wf (hc.2 _ (getD_mem_or (j := k) (by rw [hc.1.1]; exact hlt)))
        obtain ⟨x, hx⟩ : ∃ x, cs.getD k 0 = x := ⟨_, rfl⟩
        rw [hx] at hcell hx0 hx1
        have hQ := Lib.hid hx
        clear hx hr
        go_wp2_with fail
        refine (key_calls x _ hx0 hx1).mono ?_
        rintro e w_ ⟨rfl, hb2⟩
        replace hs := hs.next hb2
        replace hu := hu.next hb2
        replace hbw := bnext hbw hb2
        clear hb2
        go_wp2_with fail
        refine (add_calls p pc _ (keyS x) 1 _ hs (keyS_size x) (by omega)).mono ?_
        rintro e w_ ⟨rfl, hg, hs2⟩
        replace hu := hu.chg hg (by rintro (rfl | rfl) <;> omega) (by rintro (rfl | rfl) <;> omega)
        replace hbw := bsk hbw hg (by omega) (by omega)
        clear hg
        have hcell2 := (hc.1.below hbw).cell k hlt
        rw [hQ.out] at hcell2
        clear hcell
        go_wp2_with fail
        refine (key_calls x _ hx0 hx1).mono ?_
        rintro e w_ ⟨rfl, hb2⟩
        replace hs2 := hs2.next hb2
        replace hu := hu.next hb2
        replace hbw := bnext hbw hb2
        clear hb2
        go_wp2_with fail
        refine (add_calls q qc _ (keyS x) 1 _ hu (keyS_size x) (by omega)).mono ?_
        rintro e w_ ⟨rfl, hg, hu2⟩
        replace hs2 := hs2.chg hg (by rintro (rfl | rfl) <;> omega) (by rintro (rfl | rfl) <;> omega)
        replace hbw := bsk hbw hg (by omega) (by omega)
        clear hg
        have ht2 : (s.add (keyS x).data.toList 1).total ≤ k + 1 := by
          rw [Sk.total_add _ _ _ (by omega)]; omega
        go_wp2
        go_roundw
        case rel => exact ⟨k + 1, by omega, by go_num, ⟨_, hs2, hu2, ht2⟩, hbw⟩
        case measure => simp [intOf]; omega
      · have hsp := hs.st.lt
        have hsc := hs.cl.lt
        have hup := hu.st.lt
        have huc := hu.cl.lt
        go_wp2_with fail
        refine (copy_calls p pc s _ hs).mono ?_
        rintro e w_ ⟨r, rc, cp, rest, rfl, hb2, ht, hr, hrc⟩
        have hsz2 := hbw.size
        replace hs := hs.next hb2
        replace hu := hu.next hb2
        replace hbw := bnext hbw hb2
        clear hb2
        have hab := above_refl s
        have htt : Hid (s.total = s.total + 5 * 0) := Lib.hid rfl
        go_wp2
        go_loopw [11] (fun i wr => ∃ (k : Nat), k ≤ dlen ∧ i = .int .i64 k ∧ (∃ t, IsSk wr p pc s ∧ IsSk wr q qc s ∧ IsSkC wr r rc t cp rest ∧ Above s t ∧ Hid (t.total = s.total + 5 * k)) ∧ Below w.heap.size w wr) (fun i _ => dlen - (intOf i).toNat)
        case atStart => exact ⟨0, by omega, rfl, ⟨_, hs, hu, ht, hab, htt⟩, hbw⟩
        case round =>
          clear hs hu ht hab htt hbw
          obtain ⟨k, hk, rfl, ⟨t, hs, hu, ht, hab, htt⟩, hbw⟩ := hrel
          by_cases hlt : k < dlen
          · have hr := hd.1.below hbw
            have hcell := hr.cell k hlt
            have hidx := fun W => hr.index Try.prog 23 5 Try.underlying23 (by kernel_rfl) k hlt W
            obtain ⟨hx0, hx1⟩ := u8_of_wf (hd.2 _ (getD_mem_or (j := k) (by rw [hd.1.1]; exact hlt)))
            obtain ⟨x, hx⟩ : ∃ x, ds.getD k 0 = x := ⟨_, rfl⟩
            rw [hx] at hcell hx0 hx1
            have hQ := Lib.hid hx
            clear hx hr
            go_wp2_with fail
            refine (key_calls x _ hx0 hx1).mono ?_
            rintro e w_ ⟨rfl, hb2⟩
            replace hs := hs.next hb2
            replace hu := hu.next hb2
            replace ht := ht.next hb2
            replace hbw := bnext hbw hb2
            clear hb2
            go_wp2_with fail
            refine (add_callsC r rc _ cp rest (keyS x) 5 _ ht (keyS_size x) (by omega)).mono ?_
            rintro e w_ ⟨rfl, hg, ht2⟩
            replace hs := hs.chg hg (by rintro (rfl | rfl) <;> omega) (by rintro (rfl | rfl) <;> omega)
            replace hu := hu.chg hg (by rintro (rfl | rfl) <;> omega) (by rintro (rfl | rfl) <;> omega)
            replace hbw := bsk hbw hg (by omega) (by omega)
            clear hg
            have hab2 := above_add s t ht.ok hab (keyS x).data.toList 5
            have htt2 := Sk.total_add t (keyS x).data.toList 5 (by rw [htt.out]; omega)
            rw [htt.out] at htt2
            have HT2 := Lib.hid htt2
            clear htt2
            go_wp2
            go_roundw
            case rel => exact ⟨k + 1, by omega, by go_num, ⟨_, hs, hu, ht2, hab2, Lib.hid (by rw [HT2.out]; omega)⟩, hbw⟩
            case measure => simp [intOf]; omega
          · obtain rfl : k = dlen := by omega
            go_wp2
            go_loopw [12] (fun i wr => ∃ (k : Nat), k ≤ 12 ∧ i = .int .i64 k ∧ IsSk wr p pc s ∧ IsSk wr q qc s ∧ IsSkC wr r rc t cp rest ∧ Below w.heap.size w wr) (fun i _ => 12 - (intOf i).toNat)
            case atStart => exact ⟨0, by omega, rfl, hs, hu, ht, hbw⟩
            case round =>
              clear hs hu ht hbw
              obtain ⟨k, hk, rfl, hs, hu, ht, hbw⟩ := hrel
              by_cases hlt : k < 12
              · have hle := above_count s t hs.ok hab (keyS k).data.toList
                go_wp2_with fail
                refine (key_calls k _ (by omega) (by omega)).mono ?_
                rintro e w_ ⟨rfl, hb2⟩
                replace hs := hs.next hb2
                replace hu := hu.next hb2
                replace ht := ht.next hb2
                replace hbw := bnext hbw hb2
                clear hb2
                go_wp2_with fail
                refine (count_calls p pc _ (keyS k) _ hs (keyS_size _)).mono ?_
                rintro e w_ ⟨rfl, hb2⟩
                replace hs := hs.next hb2
                replace hu := hu.next hb2
                replace ht := ht.next hb2
                replace hbw := bnext hbw hb2
                clear hb2
                go_wp2_with fail
                refine (key_calls k _ (by omega) (by omega)).mono ?_
                rintro e w_ ⟨rfl, hb2⟩
                replace hs := hs.next hb2
                replace hu := hu.next hb2
                replace ht := ht.next hb2
                replace hbw := bnext hbw hb2
                clear hb2
                go_wp2_with fail
                refine (count_calls q qc _ (keyS k) _ hu (keyS_size _)).mono ?_
                rintro e w_ ⟨rfl, hb2⟩
                replace hs := hs.next hb2
                replace hu := hu.next hb2
                replace ht := ht.next hb2
                replace hbw := bnext hbw hb2
                clear hb2
                go_wp2_with fail
                refine (key_calls k _ (by omega) (by omega)).mono ?_
                rintro e w_ ⟨rfl, hb2⟩
                replace hs := hs.next hb2
                replace hu := hu.next hb2
                replace ht := ht.next hb2
                replace hbw := bnext hbw hb2
                clear hb2
                go_wp2_with fail
                refine (count_callsC r rc _ cp rest (keyS k) _ ht (keyS_size _)).mono ?_
                rintro e w_ ⟨rfl, hb2⟩
                replace hs := hs.next hb2
                replace hu := hu.next hb2
                replace ht := ht.next hb2
                replace hbw := bnext hbw hb2
                clear hb2
                go_wp2_with fail
                refine (key_calls k _ (by omega) (by omega)).mono ?_
                rintro e w_ ⟨rfl, hb2⟩
                replace hs := hs.next hb2
                replace hu := hu.next hb2
                replace ht := ht.next hb2
                replace hbw := bnext hbw hb2
                clear hb2
                go_wp2_with fail
                refine (count_calls p pc _ (keyS k) _ hs (keyS_size _)).mono ?_
                rintro e w_ ⟨rfl, hb2⟩
                replace hs := hs.next hb2
                replace hu := hu.next hb2
                replace ht := ht.next hb2
                replace hbw := bnext hbw hb2
                clear hb2
                generalize s.count (keyS k).data.toList = m at *
                generalize t.count (keyS k).data.toList = n at *
                have hgt : decide (n < m) = false := by simp; omega
                go_wp2
                go_roundw
                case rel => exact ⟨k + 1, by omega, by go_num, hs, hu, ht, hbw⟩
                case measure => simp [intOf]; omega
              · go_wp2_with fail
                refine (known_calls _).mono ?_
                rintro e w_ ⟨rfl, hb2⟩
                replace hs := hs.next hb2
                replace hu := hu.next hb2
                replace ht := ht.next hb2
                replace hbw := bnext hbw hb2
                clear hb2
                go_wp2_with fail
                refine (total_calls p pc _ _ hs).mono ?_
                rintro e w_ ⟨rfl, rfl⟩
                go_wp2_with fail
                refine (total_calls q qc _ _ hu).mono ?_
                rintro e w_ ⟨rfl, rfl⟩
                go_wp2_with fail
                refine (total_callsC r rc _ cp rest _ ht).mono ?_
                rintro e w_ ⟨rfl, rfl⟩
                go_wp2_with fail
                refine (total_calls p pc _ _ hs).mono ?_
                rintro e w_ ⟨rfl, rfl⟩
                rw [htt.out]
                generalize s.total = T at *
                go_wp2
                go_ret
                exact ⟨by simp, hbw⟩
  · go_enter Try.func8, Try.ntmps8
    go_wp2_with fail
    refine (new_any 3 7 X _ (by omega) (by omega) (by omega) (by omega)).mono ?_
    rintro e w1 ⟨p, pc, rfl, hbw, hs, hp, hpc⟩
    go_wp2_with fail
    refine (new_any 3 7 X _ (by omega) (by omega) (by omega) (by omega)).mono ?_
    rintro e w2 ⟨q, qc, rfl, hb2, hu, hq, hqc⟩
    have hpl := hs.st.lt
    have hcl := hs.cl.lt
    have hsz := hbw.size
    replace hs := hs.next hb2
    replace hbw := bnext hbw hb2
    clear hb2
    go_wp2_with fail
    refine (known_calls _).mono ?_
    rintro e w_ ⟨rfl, hb2⟩
    replace hs := hs.next hb2
    replace hbw := bnext hbw hb2
    clear hb2
    go_wp2
    go_ret
    exact ⟨rfl, hbw⟩
end Go.Proofs.Ytppholbjhhlglaa.Tele
