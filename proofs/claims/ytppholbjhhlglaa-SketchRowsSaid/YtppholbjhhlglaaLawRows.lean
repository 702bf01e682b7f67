/- The walk of the law SketchRows. No conditions. -/
import Derived.Test.YtppholbjhhlglaaLawZero
namespace Go.Proofs.Ytppholbjhhlglaa.Tele
open Go.RowKit
set_option linter.unusedVariables false
set_option linter.unusedSimpArgs false

theorem sketchRows_walk (x a b : Int) (ca : Option Addr) (len cap : Nat) (cs : List Int) (w : World) (hx : (Lit.int .u64 x).wf = true) (ha : (Lit.int .u8 a).wf = true) (hb : (Lit.int .u8 b).wf = true) (hc : IntRow .u8 w ca len cap cs) (hl : len * 1 ≤ 140737488351232) :
    Calls Try.prog 6 #[.int .u64 x, .int .u8 a, .int .u8 b, .slice ca len cap] w fun e w' => e = .returned (.bool true) ∧ Below w.heap.size w w' := by
  obtain ⟨X, rfl⟩ := u_of_wf hx
  obtain ⟨ha0, ha1⟩ := u8_of_wf ha
  obtain ⟨hb0, hb1⟩ := u8_of_wf hb
  clear hx ha hb
  have hA : ∃ A : Nat, (A : Int) = 1 + a % 4 ∧ 1 ≤ A ∧ A ≤ 8 := ⟨(1 + a % 4).toNat, by omega, by omega, by omega⟩
  have hB : ∃ B : Nat, (B : Int) = 1 + b % 10 ∧ 1 ≤ B ∧ B ≤ 1024 := ⟨(1 + b % 10).toNat, by omega, by omega, by omega⟩
  obtain ⟨A, hA, hA1, hA2⟩ := hA
  obtain ⟨B, hB, hB1, hB2⟩ := hB
  have HA := Lib.hid hA
  have HB := Lib.hid hB
  clear hA hB
  by_cases hlen : len ≤ 60
  · go_enter Try.func6, Try.ntmps6
    go_wp2_with fail
    rw [← HA.out, ← HB.out]
    refine (new_any A B X _ hA1 hA2 hB1 hB2).mono ?_
    rintro e w1 ⟨p, c, rfl, hbw, hs, hp, hcc⟩
    go_wp2_with fail
    rw [← HB.out]
    refine (new_any 1 B X _ (by omega) (by omega) hB1 hB2).mono ?_
    rintro e w2 ⟨q, d, rfl, hb2, ht, hq, hd⟩
    have hpl := hs.st.lt
    have hcl := hs.cl.lt
    have hsz := hbw.size
    replace hs := hs.next hb2
    replace hbw := bnext hbw hb2
    clear hb2
    go_wp2_with fail
    refine (known_calls _).mono ?_
    rintro e w_ ⟨rfl, hb2⟩
    replace hs := hs.next hb2
    replace ht := ht.next hb2
    replace hbw := bnext hbw hb2
    clear hb2
    have hu := Sk.under_new A B X
    go_wp2
    go_loopw [12] (fun i wr => ∃ (k : Nat), k ≤ len ∧ i = .int .i64 k ∧ (∃ s t, IsSk wr p c s ∧ IsSk wr q d t ∧ s.Under t) ∧ Below w.heap.size w wr) (fun i _ => len - (intOf i).toNat)
    case atStart => exact ⟨0, by omega, rfl, ⟨_, _, hs, ht, hu⟩, hbw⟩
    case round =>
      clear hs ht hu hbw
      obtain ⟨k, hk, rfl, ⟨s, t, hs, ht, hu⟩, hbw⟩ := hrel
      by_cases hlt : k < len
      · have hr := hc.1.below hbw
        have hcell := hr.cell k hlt
        have hidx := fun W => hr.index Try.prog 23 5 Try.underlying23 (by kernel_rfl) k hlt W
        obtain ⟨hx0, hx1⟩ := u8_of_wf (hc.2 _ (getD_mem_or (j := k) (by rw [hc.1.1]; exact hlt)))
        obtain ⟨x, hx⟩ : ∃ x, cs.getD k 0 = x := ⟨_, rfl⟩
        rw [hx] at hcell hx0 hx1
        have hQ := Lib.hid hx
        clear hx hr
        go_wp2_with fail
        refine (key_calls x _ hx0 hx1).mono ?_
        rintro e w_ ⟨rfl, hb2⟩
        replace hs := hs.next hb2
        replace ht := ht.next hb2
        replace hbw := bnext hbw hb2
        clear hb2
        go_wp2_with fail
        refine (add_calls p c _ (keyS x) 1 _ hs (keyS_size x) (by omega)).mono ?_
        rintro e w_ ⟨rfl, hg, hs2⟩
        replace ht := ht.chg hg (by rintro (rfl | rfl) <;> omega) (by rintro (rfl | rfl) <;> omega)
        replace hbw := bsk hbw hg (by omega) (by omega)
        clear hg
        have hcell2 := (hc.1.below hbw).cell k hlt
        rw [hQ.out] at hcell2
        clear hcell
        go_wp2_with fail
        refine (key_calls x _ hx0 hx1).mono ?_
        rintro e w_ ⟨rfl, hb2⟩
        replace hs2 := hs2.next hb2
        replace ht := ht.next hb2
        replace hbw := bnext hbw hb2
        clear hb2
        go_wp2_with fail
        refine (add_calls q d _ (keyS x) 1 _ ht (keyS_size x) (by omega)).mono ?_
        rintro e w_ ⟨rfl, hg, ht2⟩
        replace hs2 := hs2.chg hg (by rintro (rfl | rfl) <;> omega) (by rintro (rfl | rfl) <;> omega)
        replace hbw := bsk hbw hg (by omega) (by omega)
        clear hg
        have hu2 := Sk.under_add s t hs.ok ht.ok hu (keyS x).data.toList 1
        go_wp2
        go_roundw
        case rel => exact ⟨k + 1, by omega, by go_num, ⟨_, _, hs2, ht2, hu2⟩, hbw⟩
        case measure => simp [intOf]; omega
      · go_wp2
        go_loopw [13] (fun i wr => ∃ (k : Nat), k ≤ 12 ∧ i = .int .i64 k ∧ (∃ s t, IsSk wr p c s ∧ IsSk wr q d t ∧ s.Under t) ∧ Below w.heap.size w wr) (fun i _ => 12 - (intOf i).toNat)
        case atStart => exact ⟨0, by omega, rfl, ⟨_, _, hs, ht, hu⟩, hbw⟩
        case round =>
          clear hs ht hu hbw
          obtain ⟨k, hk, rfl, ⟨s, t, hs, ht, hu⟩, hbw⟩ := hrel
          by_cases hlt : k < 12
          · have hle := Sk.under_count s t hs.ok ht.ok hu (keyS k).data.toList
            go_wp2_with fail
            refine (key_calls k _ (by omega) (by omega)).mono ?_
            rintro e w_ ⟨rfl, hb2⟩
            replace hs := hs.next hb2
            replace ht := ht.next hb2
            replace hbw := bnext hbw hb2
            clear hb2
            go_wp2_with fail
            refine (count_calls p c _ (keyS k) _ hs (keyS_size _)).mono ?_
            rintro e w_ ⟨rfl, hb2⟩
            replace hs := hs.next hb2
            replace ht := ht.next hb2
            replace hbw := bnext hbw hb2
            clear hb2
            go_wp2_with fail
            refine (key_calls k _ (by omega) (by omega)).mono ?_
            rintro e w_ ⟨rfl, hb2⟩
            replace hs := hs.next hb2
            replace ht := ht.next hb2
            replace hbw := bnext hbw hb2
            clear hb2
            go_wp2_with fail
            refine (count_calls q d _ (keyS k) _ ht (keyS_size _)).mono ?_
            rintro e w_ ⟨rfl, hb2⟩
            replace hs := hs.next hb2
            replace ht := ht.next hb2
            replace hbw := bnext hbw hb2
            clear hb2
            generalize s.count (keyS k).data.toList = m at *
            generalize t.count (keyS k).data.toList = n at *
            have hgt : decide (n < m) = false := by simp; omega
            go_wp2
            go_roundw
            case rel => exact ⟨k + 1, by omega, by go_num, ⟨_, _, hs, ht, hu⟩, hbw⟩
            case measure => simp [intOf]; omega
          · go_wp2
            go_ret
            exact ⟨rfl, hbw⟩
  · go_enter Try.func6, Try.ntmps6
    go_wp2_with fail
    rw [← HA.out, ← HB.out]
    refine (new_any A B X _ hA1 hA2 hB1 hB2).mono ?_
    rintro e w1 ⟨p, c, rfl, hbw, hs, hp, hcc⟩
    go_wp2_with fail
    rw [← HB.out]
    refine (new_any 1 B X _ (by omega) (by omega) hB1 hB2).mono ?_
    rintro e w2 ⟨q, d, rfl, hb2, ht, hq, hd⟩
    have hpl := hs.st.lt
    have hcl := hs.cl.lt
    have hsz := hbw.size
    replace hs := hs.next hb2
    replace hbw := bnext hbw hb2
    clear hb2
    go_wp2_with fail
    refine (known_calls _).mono ?_
    rintro e w_ ⟨rfl, hb2⟩
    replace hs := hs.next hb2
    replace hbw := bnext hbw hb2
    clear hb2
    go_wp2
    go_ret
    exact ⟨rfl, hbw⟩
end Go.Proofs.Ytppholbjhhlglaa.Tele
