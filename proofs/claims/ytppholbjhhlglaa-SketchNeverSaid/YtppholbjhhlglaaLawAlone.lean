/- The walk of the law SketchAlone. No conditions. -/
import Derived.Test.YtppholbjhhlglaaLawZero
namespace Go.Proofs.Ytppholbjhhlglaa.Tele
open Go.RowKit
set_option linter.unusedVariables false
set_option linter.unusedSimpArgs false

theorem nat_of_wf {x : Int} (h : (Lit.int .u64 x).wf = true) : ∃ q : Nat, x = (q : Int) ∧ q ≤ 18446744073709551615 := by
  have h' : 0 ≤ x ∧ x ≤ 18446744073709551615 := by simpa [Lit.wf, IntKind.min, IntKind.max, IntKind.bits, IntKind.signed] using h
  exact ⟨x.toNat, by omega, by omega⟩
theorem sketchAlone_walk (x a b : Int) (ca : Option Addr) (len cap : Nat) (cs : List Int) (w : World) (hx : (Lit.int .u64 x).wf = true) (ha : (Lit.int .u8 a).wf = true) (hb : (Lit.int .u8 b).wf = true) (hc : IntRow .u64 w ca len cap cs) (hl : len * 8 ≤ 140737488351232) :
    Calls Try.prog 7 #[.int .u64 x, .int .u8 a, .int .u8 b, .slice ca len cap] w fun e w' => e = .returned (.bool true) ∧ Below w.heap.size w w' := by
  obtain ⟨X, rfl⟩ := u_of_wf hx
  obtain ⟨ha0, ha1⟩ := u8_of_wf ha
  obtain ⟨hb0, hb1⟩ := u8_of_wf hb
  clear hx ha hb
  have hA : ∃ A : Nat, (A : Int) = 1 + a % 8 ∧ 1 ≤ A ∧ A ≤ 8 := ⟨(1 + a % 8).toNat, by omega, by omega, by omega⟩
  have hB : ∃ B : Nat, (B : Int) = 1 + b ∧ 1 ≤ B ∧ B ≤ 1024 := ⟨(1 + b).toNat, by omega, by omega, by omega⟩
  obtain ⟨A, hA, hA1, hA2⟩ := hA
  obtain ⟨B, hB, hB1, hB2⟩ := hB
  have HA := Lib.hid hA
  have HB := Lib.hid hB
  clear hA hB
  by_cases hlen : len ≤ 40
  · go_enter Try.func7, Try.ntmps7
    go_wp2_with fail
    rw [← HA.out, ← HB.out]
    refine (new_any A B X _ hA1 hA2 hB1 hB2).mono ?_
    rintro e w1 ⟨p, c, rfl, hbw, hs, hp, hcc⟩
    have hal := Sk.alone_new A B X xS.data.toList
    go_wp2
    go_loopw [10, 11] (fun t i wr => ∃ (k v : Nat), k ≤ len ∧ i = .int .i64 k ∧ t = nv v ∧ v ≤ 18446744073709551615 ∧ (∃ s, IsSk wr p c s ∧ s.Alone xS.data.toList v) ∧ Below w.heap.size w wr) (fun _ i _ => len - (intOf i).toNat)
    case atStart => exact ⟨0, 0, by omega, rfl, rfl, by omega, ⟨_, hs, hal⟩, hbw⟩
    case round =>
      clear hs hal hbw
      obtain ⟨k, v, hk, rfl, rfl, hv, ⟨s, hs, hal⟩, hbw⟩ := hrel
      by_cases hlt : k < len
      · have hr := hc.1.below hbw
        have hcell := hr.cell k hlt
        have hidx := fun W => hr.index Try.prog 32 22 Try.underlying32 (by kernel_rfl) k hlt W
        obtain ⟨q, hq', hq⟩ := nat_of_wf (hc.2 _ (getD_mem_or (j := k) (by rw [hc.1.1]; exact hlt)))
        have hQ := Lib.hid hq'
        rw [hq'] at hcell
        clear hq' hr
        by_cases hov : v + q ≤ 18446744073709551615
        · go_wp2_with fail
          refine (add_calls p c _ xS q _ hs (by decide) hq).mono ?_
          rintro e w_ ⟨rfl, hg, hs2⟩
          replace hbw := bsk hbw hg hp hcc
          clear hg
          have hal2 := Sk.alone_add s hs.ok xS.data.toList v q hal
          have hcell2 := (hc.1.below hbw).cell k hlt
          rw [hQ.out] at hcell2
          clear hs hal hcell
          have hs1 : sat v q = v + q := if_pos hov
          have hw : IntKind.u64.wrap ((v : Int) + (q : Int)) = ((v + q : Nat) : Int) := by rw [wrapU, BitVec.toNat_ofInt]; omega
          rw [hs1] at hal2
          obtain ⟨z, hz⟩ : ∃ z, z = v + q := ⟨_, rfl⟩
          rw [← hz] at hw hal2
          have ht : decide (z < v) = false := by simp; omega
          have hzm : z ≤ 18446744073709551615 := by omega
          clear hz hs1 hov
          go_wp2
          go_roundw
          case rel => exact ⟨k + 1, z, by omega, by go_num, rfl, hzm, ⟨_, hs2, hal2⟩, hbw⟩
          case measure => simp [intOf]; omega
        · go_wp2_with fail
          refine (add_calls p c _ xS q _ hs (by decide) hq).mono ?_
          rintro e w_ ⟨rfl, hg, hs2⟩
          replace hbw := bsk hbw hg hp hcc
          clear hg
          have hal2 := Sk.alone_add s hs.ok xS.data.toList v q hal
          have hcell2 := (hc.1.below hbw).cell k hlt
          rw [hQ.out] at hcell2
          clear hs hal hcell
          have hs1 : sat v q = 18446744073709551615 := if_neg hov
          obtain ⟨z, hw, hz⟩ : ∃ z : Nat, IntKind.u64.wrap ((v : Int) + (q : Int)) = (z : Int) ∧ z < v := ⟨v + q - 18446744073709551616, by rw [wrapU, BitVec.toNat_ofInt]; omega, by omega⟩
          rw [hs1] at hal2
          have ht : decide (z < v) = true := by simp; omega
          clear hz hs1 hov
          go_wp2
          go_roundw
          case rel => exact ⟨k + 1, 18446744073709551615, by omega, by go_num, rfl, Nat.le_refl _, ⟨_, hs2, hal2⟩, hbw⟩
          case measure => simp [intOf]; omega
      · have HC := Lib.hid (Sk.alone_count s hs.ok xS.data.toList v hal)
        have HT := Lib.hid hal.1
        clear hal
        go_wp2_with fail
        refine (known_calls _).mono ?_
        rintro e w_ ⟨rfl, hb2⟩
        replace hs := hs.next hb2
        replace hbw := bnext hbw hb2
        clear hb2
        go_wp2_with fail
        refine (count_calls p c _ xS _ hs (by decide)).mono ?_
        rintro e w_ ⟨rfl, hb2⟩
        replace hs := hs.next hb2
        replace hbw := bnext hbw hb2
        clear hb2
        rw [HC.out]
        go_wp2_with fail
        refine (total_calls p c _ _ hs).mono ?_
        rintro e w_ ⟨rfl, rfl⟩
        rw [HT.out]
        go_wp2
        go_ret
        exact ⟨rfl, hbw⟩
  · go_enter Try.func7, Try.ntmps7
    go_wp2_with fail
    rw [← HA.out, ← HB.out]
    refine (new_any A B X _ hA1 hA2 hB1 hB2).mono ?_
    rintro e w1 ⟨p, c, rfl, hbw, hs, hp, hcc⟩
    go_wp2_with fail
    refine (known_calls _).mono ?_
    rintro e w_ ⟨rfl, hb2⟩
    replace hs := hs.next hb2
    replace hbw := bnext hbw hb2
    clear hb2
    go_wp2
    go_ret
    exact ⟨rfl, hbw⟩
end Go.Proofs.Ytppholbjhhlglaa.Tele
