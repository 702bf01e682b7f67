/- The walk of the law DiskApart. No conditions. -/
import Derived.Test.YtajkjbhijikggaaLawSure
namespace Go.Proofs.Ytajkjbhijikggaa.Tele
open Go.RowKit
set_option linter.unusedVariables false
set_option linter.unusedSimpArgs false

/-- The law in plain words. -/
theorem apart_law (A B : List UInt8) (x : Int) :
    let s1 := Fs.write [] x A
    let s2 := Fs.write s1 (x + 1) B
    let s3 := Fs.sync s2 x
    s1.get (x + 1) = none ∧ s1.length = 1 ∧ (s2.get x).isSome = true ∧ s3.get x = some ⟨A, A.length⟩ ∧ s3.get (x + 1) = some ⟨B, 0⟩ ∧ (s3.crash 0).get (x + 1) = none ∧ (s3.crash 0).get x = (if A.length = 0 then none else some ⟨A, A.length⟩) := by
  intro s1 s2 s3
  have h1 : ¬ x = x + 1 := by omega
  have h2 : ¬ x + 1 = x := by omega
  have e1 : s1 = [(x, ⟨A, 0⟩)] := rfl
  have g1 : s1.get (x + 1) = none := by rw [e1]; simp [Fs.get, h1]
  have e2 : s2 = [(x, ⟨A, 0⟩), (x + 1, ⟨B, 0⟩)] := by
    show Fs.write s1 (x + 1) B = _
    unfold Fs.write
    rw [g1, e1]
    simp [Fs.ins]
    omega
  have e3 : s3 = [(x, ⟨A, A.length⟩), (x + 1, ⟨B, 0⟩)] := by
    show Fs.sync s2 x = _
    unfold Fs.sync
    rw [e2]
    simp [Fs.get, Fs.turn, h2]
  have l1 : Fs.left ⟨A, A.length⟩ 0 = A.length := by unfold Fs.left; simp
  have l2 : Fs.left ⟨B, 0⟩ 0 = 0 := by unfold Fs.left; simp
  have e4 : s3.crash 0 = if A.length = 0 then [] else [(x, ⟨A, A.length⟩)] := by
    rw [e3]
    show (Fs.cstep (Fs.cstep ([], 0) (x, ⟨A, A.length⟩)) (x + 1, ⟨B, 0⟩)).1 = _
    unfold Fs.cstep
    simp only [l1, Nat.zero_div, l2, if_true, List.take_length]
    split <;> simp
  refine ⟨g1, by rw [e1]; rfl, by rw [e2]; simp [Fs.get], by rw [e3]; simp [Fs.get], by rw [e3]; simp [Fs.get, h1], ?_, ?_⟩
  · rw [e4]
    split
    · rfl
    · simp [Fs.get, h1]
  · rw [e4]
    split
    · rfl
    · simp [Fs.get]
set_option maxRecDepth 8000 in
set_option maxHeartbeats 2000000 in
theorem diskApart_walk (a : Option Addr) (la ca : Nat) (za : List Int) (b : Option Addr) (lb cb : Nat) (zb : List Int) (x : Int) (w : World) (ha : IntRow .u8 w a la ca za) (hla : la * 1 ≤ 140737488351232) (hb : IntRow .u8 w b lb cb zb) (hlb : lb * 1 ≤ 140737488351232) (hx : (Lit.int .u8 x).wf = true) :
    Calls Try.prog 3 #[.slice a la ca, .slice b lb cb, .int .u8 x] w fun e w' => e = .returned (.bool true) ∧ Below w.heap.size w w' := by
  obtain ⟨hx0, hx1⟩ := u8_of_wf hx
  have hra := row8 ha
  have hrb := row8 hb
  obtain ⟨A, hA⟩ : ∃ A, A = b8 za := ⟨_, rfl⟩
  obtain ⟨B, hB⟩ : ∃ B, B = b8 zb := ⟨_, rfl⟩
  rw [← hA] at hra
  rw [← hB] at hrb
  have hAl : la = A.length := hra.len_eq.symm
  have hBl : lb = B.length := hrb.len_eq.symm
  have DN := Lib.hid (dnew w)
  have HRA := Lib.hid hra
  have HRB := Lib.hid hrb
  have HAL := Lib.hid hAl
  have HBL := Lib.hid hBl
  have hla9 : (la : Int) ≤ 140737488351232 := by omega
  have hlb9 : (lb : Int) ≤ 140737488351232 := by omega
  clear ha hb hx hra hrb hA hB hAl hBl hla hlb
  by_cases hlen : 200 < (la : Int) + (lb : Int)
  · go_enter Try.func3, Try.ntmps3
    go_wp2_with fail
    refine DN.out.mono ?_
    rintro e w1 ⟨dd, rfl, hM⟩
    have HM := Lib.hid hM
    clear hM
    go_wp2_with fail
    refine (known_calls _).mono ?_
    rintro e w2 ⟨rfl, hb⟩
    go_wp2
    go_ret
    exact ⟨rfl, (HM.out.next hb).below⟩
  · obtain ⟨q1, q2, q7, q3, q4, q5, q6⟩ := apart_law A B x
    have hwx := wf_i64 (x := x) (by omega) (by omega)
    have hwy := wf_i64 (x := x + 1) (by omega) (by omega)
    have W1 := Lib.hid fun dd W h hra' => dwrite w dd [] x a la ca A W h (by omega) (by omega) HAL.out hra' (fun ad had hp => rowlt HRA.out hp ad had) (by decide) (by show 0 + A.length ≤ _; have := HAL.out; omega)
    obtain ⟨s1, hs1⟩ : ∃ s1, s1 = Fs.write [] x A := ⟨_, rfl⟩
    rw [← hs1] at q1 q2 q7 q3 q4 q5 q6 W1
    have W2 := Lib.hid fun dd W h hrb' => dwrite w dd s1 (x + 1) b lb cb B W h (by omega) (by omega) HBL.out hrb' (fun ad had hp => rowlt HRB.out hp ad had) (by rw [q2]; decide) (by rw [q1]; show 0 + B.length ≤ _; have := HBL.out; omega)
    obtain ⟨s2, hs2⟩ : ∃ s2, s2 = Fs.write s1 (x + 1) B := ⟨_, rfl⟩
    rw [← hs2] at q7 q3 q4 q5 q6 W2
    have S1 := Lib.hid fun dd W h => by have := dsync true w dd s2 x W h hwx; rw [q7, if_pos rfl] at this; exact this
    obtain ⟨s3, hs3⟩ : ∃ s3, s3 = Fs.sync s2 x := ⟨_, rfl⟩
    rw [← hs3] at q3 q4 q5 q6 S1
    have U1 := Lib.hid fun dd W h => by have := dsure true w dd s3 x W h hwx; rw [q3] at this; exact this
    have U2 := Lib.hid fun dd W h => by have := dsure true w dd s3 (x + 1) W h hwy; rw [q4] at this; exact this
    have C1 := Lib.hid fun dd W h => dcrash true w dd s3 0 W h (by omega)
    obtain ⟨s4, hs4⟩ : ∃ s4, s4 = s3.crash 0 := ⟨_, rfl⟩
    rw [← hs4] at q5 q6 C1
    have R1 := Lib.hid fun dd W h => by have := dread false w dd s4 (x + 1) W h hwy; rw [q5, show (none : Option FileM).isSome = false from rfl, if_neg (by decide)] at this; exact this
    have R2 := Lib.hid fun dd W h => dread false w dd s4 x W h hwx
    have HQ6 := Lib.hid q6
    have hlA : (A.length : Int) = (la : Int) := by rw [HAL.out]
    have hqa : ((la : Int) == (la : Int)) = true := by simp
    clear q1 q2 q7 q3 q4 q5 q6 hs1 hs2 hs3 hs4 hwx hwy
    go_enter Try.func3, Try.ntmps3
    go_wp2_with fail
    refine DN.out.mono ?_
    rintro e w1 ⟨dd, rfl, hM⟩
    have HM := Lib.hid hM
    clear hM
    go_wp2_with fail
    refine (W1.out _ _ HM.out (HRA.out.below HM.out.below)).mono ?_
    rintro e w3 ⟨rfl, hM⟩
    have HM3 := Lib.hid hM
    clear hM HM
    go_wp2_with fail
    refine (W2.out _ _ HM3.out (HRB.out.below HM3.out.below)).mono ?_
    rintro e w4 ⟨rfl, hM⟩
    have HM4 := Lib.hid hM
    clear hM HM3
    go_wp2_with fail
    refine (S1.out _ _ HM4.out).mono ?_
    rintro e w5 ⟨rfl, hM⟩
    have HM5 := Lib.hid hM
    clear hM HM4
    go_wp2_with fail
    refine (U1.out _ _ HM5.out).mono ?_
    rintro e w6 ⟨rfl, rfl⟩
    rw [show (((Option.map (fun x => x.sure) (some (⟨A, A.length⟩ : FileM))).getD 0 : Nat) : Int) = (la : Int) from hlA]
    go_wp2_with fail
    refine (U2.out _ _ HM5.out).mono ?_
    rintro e w6 ⟨rfl, rfl⟩
    rw [show (((Option.map (fun x => x.sure) (some (⟨B, 0⟩ : FileM))).getD 0 : Nat) : Int) = 0 from rfl]
    go_wp2_with fail
    refine (C1.out _ _ HM5.out).mono ?_
    rintro e w7 ⟨rfl, hM⟩
    have HM7 := Lib.hid hM
    clear hM HM5
    go_wp2_with fail
    refine (R1.out _ _ HM7.out).mono ?_
    rintro e w8 ⟨v8, rfl, hb8, ho8⟩
    obtain ⟨a8, l8, c8, rfl⟩ := own_slice ho8
    have HM8 := Lib.hid (HM7.out.next hb8)
    clear hb8 ho8 HM7
    go_wp2_with fail
    refine (R2.out _ _ HM8.out).mono ?_
    rintro e w9 ⟨v9, rfl, hb9, ho9⟩
    have HM9 := Lib.hid (HM8.out.next hb9)
    rw [HQ6.out] at ho9 ⊢
    clear hb9 HM8
    by_cases hl0 : A.length = 0
    · rw [if_pos hl0] at ho9 ⊢
      rw [show (none : Option FileM).isSome = false from rfl, if_neg (by decide)]
      obtain ⟨a9, l9, c9, rfl⟩ := own_slice ho9
      have hla0 : la = 0 := by rw [HAL.out]; exact hl0
      clear ho9 hl0 hlA
      subst hla0
      go_wp2_with fail
      refine (known_calls _).mono ?_
      rintro e w10 ⟨rfl, hb⟩
      go_wp2
      go_ret
      exact ⟨rfl, (HM9.out.next hb).below⟩
    · rw [if_neg hl0] at ho9 ⊢
      rw [show (some (⟨A, A.length⟩ : FileM)).isSome = true from rfl, if_pos rfl]
      have ho' : w9.ownsRow w8.heap.size 5 1 v9 A.length (A.map e8) := ho9
      have hby := bytes_of ho'
      have HBY := Lib.hid hby
      obtain ⟨a9, l9, c9, hv9⟩ := own_slice ho'
      have hlaz : ((la : Int) == 0) = false := by rw [beq_eq_false_iff_ne]; have := HAL.out; omega
      rw [hv9]
      clear ho9 hl0 ho' hby hlA
      go_wp2_with fail
      refine (known_calls _).mono ?_
      rintro e w10 ⟨rfl, hb⟩
      have hM10 := HM9.out.next hb
      have hsa := str_of (w := w10) (v := .slice a la ca) (bs := A) ⟨a, ca, by rw [HAL.out], by rw [← HAL.out]; exact HRA.out.below hM10.below⟩
      have hsc : (convert 22 9 (.slice a9 l9 c9)).run Try.prog w10 = .ok (.string ⟨A.toArray⟩) w10 := by
        obtain ⟨a', c', e1, e2⟩ := HBY.out
        rw [← hv9]
        exact str_of ⟨a', c', e1, e2.below hb⟩
      have HM10 := Lib.hid hM10
      generalize (⟨A.toArray⟩ : ByteArray) = SA at *
      clear hb hM10 hv9
      go_wp2
      go_ret
      exact ⟨rfl, HM10.out.below⟩
end Go.Proofs.Ytajkjbhijikggaa.Tele
