/- The walk of the law SketchZero. No conditions. -/
import Derived.Test.YtppholbjhhlglaaSk2
import Derived.Test.YtppholbjhhlglaaPSk2
import Derived.Test.YtppholbjhhlglaaOpenRows
namespace Go.Proofs.Ytppholbjhhlglaa.Tele
open Go.RowKit
set_option linter.unusedVariables false
set_option linter.unusedSimpArgs false

theorem u_of_wf {x : Int} (h : (Lit.int .u64 x).wf = true) : ∃ X : U, x = (X.toNat : Int) := by
  have h' : 0 ≤ x ∧ x ≤ 18446744073709551615 := by simpa [Lit.wf, IntKind.min, IntKind.max, IntKind.bits, IntKind.signed] using h
  exact u_eq x h'.1 h'.2
theorem u8_of_wf {x : Int} (h : (Lit.int .u8 x).wf = true) : 0 ≤ x ∧ x ≤ 255 := by
  simpa [Lit.wf, IntKind.min, IntKind.max, IntKind.bits, IntKind.signed] using h
theorem getD_mem_or {l : List Int} {j : Nat} (h : j < l.length) : l.getD j 0 ∈ l := by
  rw [List.getD_eq_getElem?_getD, List.getElem?_eq_getElem h]
  exact List.getElem_mem h
def neverS : ByteArray := ⟨#[110, 101, 118, 101, 114]⟩
def xS : ByteArray := ⟨#[120]⟩
theorem sketchZero_walk (x a b : Int) (ca : Option Addr) (len cap : Nat) (cs : List Int) (w : World) (hx : (Lit.int .u64 x).wf = true) (ha : (Lit.int .u8 a).wf = true) (hb : (Lit.int .u8 b).wf = true) (hc : IntRow .u8 w ca len cap cs) (hl : len * 1 ≤ 140737488351232) :
    Calls Try.prog 3 #[.int .u64 x, .int .u8 a, .int .u8 b, .slice ca len cap] w fun e w' => e = .returned (.bool true) ∧ Below w.heap.size w w' := by
  obtain ⟨X, rfl⟩ := u_of_wf hx
  obtain ⟨ha0, ha1⟩ := u8_of_wf ha
  obtain ⟨hb0, hb1⟩ := u8_of_wf hb
  clear hx ha hb
  have hA : ∃ A : Nat, (A : Int) = 1 + a % 5 ∧ 1 ≤ A ∧ A ≤ 8 := ⟨(1 + a % 5).toNat, by omega, by omega, by omega⟩
  have hB : ∃ B : Nat, (B : Int) = 1 + b % 30 ∧ 1 ≤ B ∧ B ≤ 1024 := ⟨(1 + b % 30).toNat, by omega, by omega, by omega⟩
  obtain ⟨A, hA, hA1, hA2⟩ := hA
  obtain ⟨B, hB, hB1, hB2⟩ := hB
  have HA := Lib.hid hA
  have HB := Lib.hid hB
  clear hA hB
  by_cases hlen : len ≤ 60
  · have hn0 := Lib.hid (Sk.count_new A B X neverS.data.toList hA1)
    go_enter Try.func3, Try.ntmps3
    go_wp2_with fail
    rw [← HA.out, ← HB.out]
    refine (new_any A B X _ hA1 hA2 hB1 hB2).mono ?_
    rintro e w1 ⟨p, c, rfl, hbw, hs, hp, hcc⟩
    go_wp2_with fail
    refine (count_calls p c _ neverS _ hs (by decide)).mono ?_
    rintro e w2 ⟨rfl, hb2⟩
    replace hs := hs.next hb2
    replace hbw := bnext hbw hb2
    clear hb2
    rw [hn0.out]
    go_wp2_with fail
    refine (total_calls p c _ _ hs).mono ?_
    rintro e w_ ⟨rfl, rfl⟩
    have hlow := Sk.low_new A B X
    have htot : (Sk.new A B X).total = 0 := rfl
    obtain ⟨s, hse⟩ : ∃ s, s = Sk.new A B X := ⟨_, rfl⟩
    rw [← hse] at hs hlow htot ⊢
    clear hse
    have HT := Lib.hid htot
    rw [htot]
    clear htot
    go_wp2
    go_loopw [10] (fun i wr => ∃ k : Nat, k ≤ len ∧ i = .int .i64 k ∧ (∃ s, IsSk wr p c s ∧ s.Low ∧ Hid (s.total = 2 * k)) ∧ Below w.heap.size w wr) (fun i _ => len - (intOf i).toNat)
    case atStart => exact ⟨0, by omega, rfl, ⟨s, hs, hlow, HT⟩, hbw⟩
    case round =>
      clear hs hlow HT hbw
      obtain ⟨k, hk, rfl, ⟨s, hs, hlow, HT⟩, hbw⟩ := hrel
      by_cases hlt : k < len
      · have hr := hc.1.below hbw
        have hcell := hr.cell k hlt
        have hidx := fun W => hr.index Try.prog 23 5 Try.underlying23 (by kernel_rfl) k hlt W
        obtain ⟨hq0, hq1⟩ := u8_of_wf (hc.2 _ (getD_mem_or (j := k) (by rw [hc.1.1]; exact hlt)))
        generalize cs.getD k 0 = q at *
        go_wp2_with fail
        refine (key_calls q _ hq0 hq1).mono ?_
        rintro e w_ ⟨rfl, hb2⟩
        replace hs := hs.next hb2
        replace hbw := bnext hbw hb2
        clear hb2
        go_wp2_with fail
        refine (add_calls p c _ (keyS q) 2 _ hs (keyS_size q) (by omega)).mono ?_
        rintro e w_ ⟨rfl, hg, hs2⟩
        replace hbw := bsk hbw hg hp hcc
        clear hg
        have hlow2 := Sk.low_add s hs.ok hlow (keyS q).data.toList 2
        have ht2 := Sk.total_add s (keyS q).data.toList 2 (by rw [HT.out]; omega)
        rw [HT.out] at ht2
        have hle := Sk.count_low _ hs2.ok hlow2 xS.data.toList
        have hz := Sk.add_zero _ hs2.ok xS.data.toList
        clear hs hlow HT
        have HZ := Lib.hid hz
        have HT2 := Lib.hid ht2
        clear hz ht2
        generalize s.add (keyS q).data.toList 2 = s2 at *
        go_wp2_with fail
        refine (count_calls p c _ xS _ hs2 (by decide)).mono ?_
        rintro e w_ ⟨rfl, hb2⟩
        replace hs2 := hs2.next hb2
        replace hbw := bnext hbw hb2
        clear hb2
        go_wp2_with fail
        refine (add_calls p c _ xS 0 _ hs2 (by decide) (by omega)).mono ?_
        rintro e w_ ⟨rfl, hg, hs3⟩
        replace hbw := bsk hbw hg hp hcc
        clear hg hs2
        rw [HZ.out] at hs3
        go_wp2_with fail
        refine (count_calls p c _ xS _ hs3 (by decide)).mono ?_
        rintro e w_ ⟨rfl, hb2⟩
        replace hs3 := hs3.next hb2
        replace hbw := bnext hbw hb2
        clear hb2
        generalize s2.count xS.data.toList = n at *
        have hgt : decide (s2.total < n) = false := by simp; omega
        go_wp2_with fail
        refine (total_calls p c _ _ hs3).mono ?_
        rintro e w_ ⟨rfl, rfl⟩
        go_wp2
        go_roundw
        case rel => exact ⟨k + 1, by omega, by go_num, ⟨s2, hs3, hlow2, Lib.hid (by rw [HT2.out]; omega)⟩, hbw⟩
        case measure => simp [intOf]; omega
      · go_wp2_with fail
        refine (known_calls _).mono ?_
        rintro e w_ ⟨rfl, hb2⟩
        replace hs := hs.next hb2
        replace hbw := bnext hbw hb2
        clear hb2
        go_wp2_with fail
        refine (total_calls p c _ _ hs).mono ?_
        rintro e w_ ⟨rfl, rfl⟩
        rw [HT.out]
        obtain rfl : k = len := by omega
        go_wp2
        go_ret
        exact ⟨rfl, hbw⟩
  · go_enter Try.func3, Try.ntmps3
    go_wp2_with fail
    rw [← HA.out, ← HB.out]
    refine (new_any A B X _ hA1 hA2 hB1 hB2).mono ?_
    rintro e w1 ⟨p, c, rfl, hbw, hs, hp, hcc⟩
    go_wp2_with fail
    refine (known_calls _).mono ?_
    rintro e w_ ⟨rfl, hb2⟩
    replace hs := hs.next hb2
    replace hbw := bnext hbw hb2
    clear hb2
    go_wp2
    go_ret
    exact ⟨rfl, hbw⟩
end Go.Proofs.Ytppholbjhhlglaa.Tele
