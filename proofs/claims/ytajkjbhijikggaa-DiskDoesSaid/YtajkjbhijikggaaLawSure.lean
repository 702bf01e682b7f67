/- The walk of the law DiskSure. No conditions. -/
import Derived.Test.YtajkjbhijikggaaKnown14
import Derived.Laws.Concat
namespace Go.Proofs.Ytajkjbhijikggaa.Tele
open Go.RowKit
set_option linter.unusedVariables false
set_option linter.unusedSimpArgs false

/-- Numbers as bytes. -/
def b8 (zs : List Int) : List UInt8 := zs.map fun z => UInt8.ofNat z.toNat
theorem b8_len (zs : List Int) : (b8 zs).length = zs.length := by simp [b8]
theorem row8 {w : World} {a : Option Addr} {len cap : Nat} {zs : List Int} (h : IntRow .u8 w a len cap zs) : RowOf e8 0 w a len cap (b8 zs) := by
  obtain ⟨h, hw⟩ := h
  refine ⟨by rw [b8_len]; exact h.1, h.2.1, h.2.2.1, fun hp => ?_⟩
  obtain ⟨ad, e, hlt, hc⟩ := h.2.2.2 hp
  refine ⟨ad, e, hlt, fun j hj => ?_⟩
  have hjz : j < zs.length := by rw [h.1]; exact hj
  have h1 := hc j hj
  rw [List.getD_eq_getElem?_getD, List.getElem?_eq_getElem hjz] at h1
  obtain ⟨z0, z1⟩ := u8_of_wf (hw _ (List.getElem_mem hjz))
  rw [h1]
  have e2 : (b8 zs).getD j 0 = UInt8.ofNat zs[j].toNat := by
    unfold b8
    rw [List.getD_eq_getElem?_getD, List.getElem?_map, List.getElem?_eq_getElem hjz]
    rfl
  rw [e2]
  show some (Value.int .u8 zs[j]) = some (Value.int .u8 (((UInt8.ofNat zs[j].toNat).toNat : Nat) : Int))
  have e3 : (UInt8.ofNat zs[j].toNat).toNat = zs[j].toNat := by
    rw [UInt8.toNat_ofNat']
    omega
  rw [e3]
  congr 2
  omega
theorem rowlt {α : Type} {enc : α → Value} {d : α} {w : World} {a : Option Addr} {len cap : Nat} {l : List α} (h : RowOf enc d w a len cap l) (hp : 0 < len) : ∀ ad, a = some ad → ad.block < w.heap.size := fun ad had => by
  obtain ⟨ad', had', hlt, _⟩ := h.2.2.2 hp
  have : ad' = ad := by rw [had] at had'; exact (Option.some.inj had').symm
  subst this
  exact hlt
/-- The law in plain words. -/
theorem sure_law (A B : List UInt8) (draw : Nat) :
    let s2 := Fs.sync (Fs.write [] 3 A) 3
    let s3 := Fs.write s2 3 B
    let n := A.length + draw % (B.length + 1)
    s2.get 3 = some ⟨A, A.length⟩ ∧ s2.length = 1 ∧ (s3.crash draw).get 3 = (if n = 0 then none else some ⟨(A ++ B).take n, n⟩) ∧ (n = 0 → s3.crash draw = []) ∧ n ≤ (A ++ B).length := by
  intro s2 s3 n
  have e1 : Fs.write [] 3 A = [(3, ⟨A, 0⟩)] := rfl
  have e2 : s2 = [(3, ⟨A, A.length⟩)] := rfl
  have e3 : s3 = [(3, ⟨A ++ B, A.length⟩)] := rfl
  have hle : n ≤ (A ++ B).length := by
    have := Nat.mod_lt draw (show 0 < B.length + 1 by omega)
    rw [List.length_append]
    omega
  have hleft : Fs.left ⟨A ++ B, A.length⟩ draw = n := by
    show A.length + draw % ((A ++ B).length - A.length + 1) = _
    rw [List.length_append, show A.length + B.length - A.length = B.length by omega]
  have e4 : s3.crash draw = if n = 0 then [] else [(3, ⟨(A ++ B).take n, n⟩)] := by
    rw [e3]
    show (Fs.cstep ([], draw) (3, ⟨A ++ B, A.length⟩)).1 = _
    unfold Fs.cstep
    simp only
    rw [hleft]
    split <;> simp
  refine ⟨by rw [e2]; rfl, by rw [e2]; rfl, ?_, ?_, hle⟩
  · rw [e4]
    split <;> rfl
  · intro h0
    rw [e4, if_pos h0]
set_option maxRecDepth 8000 in
set_option maxHeartbeats 4000000 in
theorem diskSure_walk (a : Option Addr) (la ca : Nat) (za : List Int) (b : Option Addr) (lb cb : Nat) (zb : List Int) (d : Int) (w : World) (ha : IntRow .u8 w a la ca za) (hla : la * 1 ≤ 140737488351232) (hb : IntRow .u8 w b lb cb zb) (hlb : lb * 1 ≤ 140737488351232) (hd : (Lit.int .u64 d).wf = true) :
    Calls Try.prog 4 #[.slice a la ca, .slice b lb cb, .int .u64 d] w fun e w' => e = .returned (.bool true) ∧ Below w.heap.size w w' := by
  obtain ⟨draw, rfl, hdr⟩ := nat_of_wf hd
  have hra := row8 ha
  have hrb := row8 hb
  obtain ⟨A, hA⟩ : ∃ A, A = b8 za := ⟨_, rfl⟩
  obtain ⟨B, hB⟩ : ∃ B, B = b8 zb := ⟨_, rfl⟩
  rw [← hA] at hra
  rw [← hB] at hrb
  have hAl : la = A.length := hra.len_eq.symm
  have hBl : lb = B.length := hrb.len_eq.symm
  have DN := Lib.hid (dnew w)
  have HRA := Lib.hid hra
  have HRB := Lib.hid hrb
  have HAL := Lib.hid hAl
  have HBL := Lib.hid hBl
  have hla9 : (la : Int) ≤ 140737488351232 := by omega
  have hlb9 : (lb : Int) ≤ 140737488351232 := by omega
  clear ha hb hd hra hrb hA hB hAl hBl hla hlb
  by_cases hlen : 300 < (la : Int) + (lb : Int)
  · go_enter Try.func4, Try.ntmps4
    go_wp2_with fail
    refine DN.out.mono ?_
    rintro e w1 ⟨dd, rfl, hM⟩
    have HM := Lib.hid hM
    clear hM
    go_wp2_with fail
    refine (known_calls _).mono ?_
    rintro e w2 ⟨rfl, hb⟩
    go_wp2
    go_ret
    exact ⟨rfl, (HM.out.next hb).below⟩
  · obtain ⟨q1, q2, q3, q4, q5⟩ := sure_law A B draw
    have s1l : (Fs.write [] 3 A).get 3 = some ⟨A, 0⟩ := rfl
    have W1 := Lib.hid fun dd W h hra' => dwrite w dd [] 3 a la ca A W h (by omega) (by omega) HAL.out hra' (fun ad had hp => rowlt HRA.out hp ad had) (by decide) (by show 0 + A.length ≤ _; have := HAL.out; omega)
    have S1 := Lib.hid fun dd W h => dsync true w dd (Fs.write [] 3 A) 3 W h (by decide)
    have W2 := Lib.hid fun dd W h hrb' => dwrite w dd (Fs.sync (Fs.write [] 3 A) 3) 3 b lb cb B W h (by omega) (by omega) HBL.out hrb' (fun ad had hp => rowlt HRB.out hp ad had) (by rw [q2]; decide) (by rw [q1]; show A.length + B.length ≤ _; have := HAL.out; have := HBL.out; omega)
    have C1 := Lib.hid fun dd W h => dcrash true w dd (Fs.write (Fs.sync (Fs.write [] 3 A) 3) 3 B) draw W h (by omega)
    obtain ⟨s4, hs4⟩ : ∃ s4, s4 = (Fs.write (Fs.sync (Fs.write [] 3 A) 3) 3 B).crash draw := ⟨_, rfl⟩
    rw [← hs4] at q3 q4 C1
    have R1 := Lib.hid fun dd W h => dread false w dd s4 3 W h (by decide)
    have U1 := Lib.hid fun dd W h => dsure false w dd s4 3 W h (by decide)
    have F1 := Lib.hid fun dd W h => dfiles false w dd s4 W h
    obtain ⟨n, hn⟩ : ∃ n, n = A.length + draw % (B.length + 1) := ⟨_, rfl⟩
    rw [← hn] at q3 q4 q5
    have HQ5 := Lib.hid q5
    have HQ3 := Lib.hid q3
    have HQ4 := Lib.hid q4
    have HNN := Lib.hid hn
    have hmod : (draw : Int) % ((lb : Int) + 1) = ((draw % (lb + 1) : Nat) : Int) := by rw [show ((lb : Int) + 1) = ((lb + 1 : Nat) : Int) by omega]; exact (Int.natCast_emod _ _).symm
    obtain ⟨r, hr⟩ : ∃ r, r = draw % (lb + 1) := ⟨_, rfl⟩
    rw [← hr] at hmod
    have hnr : n = la + r := by rw [hn, hr, HAL.out, HBL.out]
    have hrl : r ≤ lb := by have := Nat.mod_lt draw (show 0 < lb + 1 by omega); omega
    have hz : ((lb : Int) + 1 == 0) = false := by rw [beq_eq_false_iff_ne]; omega
    have hz2 : ¬ ((lb : Int) + 1) = 0 := by omega
    clear q1 q2 q3 q4 q5 hs4 s1l hn hr
    go_enter Try.func4, Try.ntmps4
    go_wp2_with fail
    refine DN.out.mono ?_
    rintro e w1 ⟨dd, rfl, hM⟩
    have HM := Lib.hid hM
    clear hM
    go_wp2_with fail
    refine (known_calls _).mono ?_
    rintro e w2 ⟨rfl, hb⟩
    have HM2 := Lib.hid (HM.out.next hb)
    clear hb HM
    go_wp2_with fail
    refine (W1.out _ _ HM2.out (HRA.out.below HM2.out.below)).mono ?_
    rintro e w3 ⟨rfl, hM⟩
    have HM3 := Lib.hid hM
    clear hM HM2
    go_wp2_with fail
    refine (S1.out _ _ HM3.out).mono ?_
    rintro e w4 ⟨rfl, hM⟩
    have HM4 := Lib.hid hM
    clear hM HM3
    go_wp2_with fail
    refine (W2.out _ _ HM4.out (HRB.out.below HM4.out.below)).mono ?_
    rintro e w5 ⟨rfl, hM⟩
    have HM5 := Lib.hid hM
    clear hM HM4
    go_wp2_with fail
    refine (C1.out _ _ HM5.out).mono ?_
    rintro e w6 ⟨rfl, hM⟩
    have HM6 := Lib.hid hM
    clear hM HM5
    go_wp2_with fail
    refine (R1.out _ _ HM6.out).mono ?_
    rintro e w7 ⟨v, rfl, hb, ho⟩
    have HM7 := Lib.hid (HM6.out.next hb)
    have hsa := str_of (w := w7) (v := .slice a la ca) (bs := A) ⟨a, ca, by rw [HAL.out], by rw [← HAL.out]; exact HRA.out.below HM7.out.below⟩
    have hsb := str_of (w := w7) (v := .slice b lb cb) (bs := B) ⟨b, cb, by rw [HBL.out], by rw [← HBL.out]; exact HRB.out.below HM7.out.below⟩
    obtain ⟨SA, hSA⟩ : ∃ SA : ByteArray, SA = ⟨A.toArray⟩ := ⟨_, rfl⟩
    obtain ⟨SB, hSB⟩ : ∃ SB : ByteArray, SB = ⟨B.toArray⟩ := ⟨_, rfl⟩
    rw [← hSA] at hsa
    rw [← hSB] at hsb
    have hsaz : (SA.size : Int) = (la : Int) := by rw [hSA, HAL.out]; show (A.toArray.size : Int) = _; simp
    have hsbz : (SB.size : Int) = (lb : Int) := by rw [hSB, HBL.out]; show (B.toArray.size : Int) = _; simp
    have hla3 : (la : Int) ≤ 300 := by omega
    have hlb3 : (lb : Int) ≤ 300 := by omega
    have HSA := Lib.hid hSA
    have HSB := Lib.hid hSB
    clear hSA hSB hb HM6
    by_cases hn0 : n = 0
    · have hs4 := HQ4.out hn0
      have hla0 : (la : Int) = 0 := by omega
      have hla00 : la = 0 := by omega
      have hg : (s4.get 3).isSome = false := by rw [HQ3.out, if_pos hn0]; rfl
      rw [hg, if_neg (by decide)]
      have F2 := Lib.hid (fun W h => by have := F1.out dd W h; rw [hs4] at this; exact this)
      clear hs4 hg hn0 ho
      subst hla00
      go_wp2_with fail
      refine (F2.out _ HM7.out).mono ?_
      rintro e w8 ⟨v8, rfl, ⟨a8, c8, rfl, _, _⟩, hb8⟩
      rw [show (List.map (·.1) ([] : Fs)).length = 0 from rfl]
      have HM8 := Lib.hid (HM7.out.next hb8)
      clear hb8
      go_wp2
      go_ret
      exact ⟨rfl, HM8.out.below⟩
    · have hg : s4.get 3 = some ⟨(A ++ B).take n, n⟩ := by rw [HQ3.out, if_neg hn0]
      have hlenx : ((A ++ B).take n).length = n := by rw [List.length_take]; have := HQ5.out; omega
      rw [hg] at ho ⊢
      rw [show (some (⟨(A ++ B).take n, n⟩ : FileM)).isSome = true from rfl, if_pos rfl]
      have ho' : w7.ownsRow w6.heap.size 5 1 v ((A ++ B).take n).length (((A ++ B).take n).map e8) := ho
      have hby := bytes_of ho'
      have hsx := fun m => str_of (w := w7.drewN m) (v := v) (bs := (A ++ B).take n) hby
      obtain ⟨ax, cx, hv, _⟩ := hby
      rw [hlenx] at hv
      rw [hv] at hsx ⊢
      obtain ⟨SX, hSX⟩ : ∃ SX : ByteArray, SX = ⟨((A ++ B).take n).toArray⟩ := ⟨_, rfl⟩
      rw [← hSX] at hsx
      have U2 : Hid (∀ m, Calls Try.prog 13 #[.pointer (some ⟨dd, 0, none⟩), .int .i64 3] (w7.drewN m) fun e w' => e = .returned (.int .i64 (n : Int)) ∧ w' = w7.drewN m) := Lib.hid fun m => by
        have := U1.out dd (w7.drewN m) (HM7.out.next (pw_below_drewN (Below.refl _ _) m))
        rw [hg] at this
        exact this
      have hcat : ∀ W, (Instr.slice 9 (.string (SA ++ SB)) none (some (.int .i64 (n : Int))) none).run Try.prog W = .ok (.string SX) W := fun W => by
        have hss : (SA ++ SB).size = la + lb := by rw [ByteArray.size_append]; omega
        rw [run_slice_string_h (ht := Try.underlying9) (h0 := by omega) (h2 := by rw [hss]; have := HQ5.out; rw [List.length_append, ← HAL.out, ← HBL.out] at this; omega)]
        congr 2
        rw [hSX, HSA.out, HSB.out, Int.toNat_natCast]
        apply ByteArray.ext
        simp
      have hsz : ((SA ++ SB).size : Int) = (la : Int) + (lb : Int) := by rw [ByteArray.size_append]; omega
      have hni : (la : Int) + (r : Int) = (n : Int) := by omega
      have hnle : (n : Int) ≤ (la : Int) + (lb : Int) := by omega
      have hqq : ((n : Int) == (n : Int)) = true := by simp
      have hge : (la : Int) ≤ (n : Int) := by omega
      have hged : decide (la ≤ n) = true := by rw [decide_eq_true_eq]; omega
      have hgei : decide ((la : Int) ≤ (n : Int)) = true := by rw [decide_eq_true_eq]; omega
      clear hg ho ho' hv hSX hlenx hn0 F1 U1 HQ3 HQ4 HQ5 R1 C1 S1 W1 W2 hnr HNN
      go_wp2_with fail
      go_quiet ((go_at_call 13; exact Calls.quiet_of_same (U2.out _)))
      go_wp2
      go_ret
      exact ⟨rfl, (HM7.out.next (pw_below_drewN (Below.refl _ _) nq)).below⟩
end Go.Proofs.Ytajkjbhijikggaa.Tele
