/- The walk of the law's same: a disk and the reference's files that are alike. No conditions. -/
import Derived.Test.YtajkjbhijikggaaPair
namespace Go.Proofs.Ytajkjbhijikggaa.Tele
open Go.RowKit Go.Proofs.YtajkjbhijikggaaW.PrintWords
set_option linter.unusedVariables false
set_option linter.unusedSimpArgs false

theorem str_bv {w : World} {P : Nat → Prop} {v : Value} {bs : List UInt8} (h : BV w P v bs) : (convert 22 9 v).run Try.prog w = .ok (.string ⟨bs.toArray⟩) w := by
  obtain ⟨a, c, rfl⟩ := Kd.V_slice h
  obtain ⟨hn, hr⟩ := bv_row h
  rw [hn]
  cases a with
  | none =>
    have hb0 : bs.length = 0 := by
      rcases Nat.eq_zero_or_pos bs.length with h0 | h0
      · exact h0
      · obtain ⟨ad, had, _⟩ := hr.2.2.2 h0
        cases had
    have hbs : bs = [] := List.length_eq_zero_iff.1 hb0
    subst hbs
    rfl
  | some ad =>
    have hcells : ∀ j (hj : j < bs.length), w.cell? (ad.add j) = some (.int .u8 (bs[j].toNat : Int)) := fun j hj => by
      have h1 := hr.cell j hj
      rw [List.getD_eq_getElem?_getD, List.getElem?_eq_getElem hj] at h1
      exact h1
    exact run_convert_bytes_back w 22 9 5 ad c bs Try.underlying22 Try.underlying5 Try.underlying9 hcells
theorem Pair.pick {w0 w : World} {d g : Nat} {vc : Value} {a : Option Addr} {n c : Nat} {fs fr : Fs} (h : Pair w0 w d g vc (.slice a n c) fs fr) (i : Nat) (hi : i < fr.length) :
    ∃ ad u, (∀ W, (Instr.indexAt 48 (.slice a n c) (.int .i64 (i : Int))).run Try.prog W = .ok (.pointer (some ad)) W) ∧ (∀ W, Below w.heap.size w W → Rec W ad fr[i].1 u fr[i].2.sure ∧ (convert 22 9 u).run Try.prog W = .ok (.string ⟨fr[i].2.bytes.toArray⟩) W) := by
  obtain ⟨O, P, h1, h2, h3, h4, _⟩ := h
  obtain ⟨ad, u, hix, hrc, hbv⟩ := FV.pick h4 i hi
  exact ⟨ad, u, hix, fun W hW => ⟨hrc W hW, str_bv (Kd.V_below hbv hW)⟩⟩
set_option maxRecDepth 8000 in
set_option maxHeartbeats 2000000 in
theorem psame {w0 w : World} {d g : Nat} {v : Value} {fs : Fs} (h : Pair w0 w d g v v fs fs) (hl : fs.length ≤ 100000) :
    Calls Try.prog 24 #[.pointer (some ⟨d, 0, none⟩), .agg #[v]] w fun e w' => e = .returned (.bool true) ∧ Pair w0 w' d g v v fs fs := by
  obtain ⟨a, c, rfl⟩ := h.slice
  obtain ⟨n, hn⟩ : ∃ n, n = fs.length := ⟨_, rfl⟩
  rw [← hn] at h ⊢
  have hb0 := bl_alloc (Below.refl w.heap.size w) (.cells #[.slice a n c] 50)
  have k0 := Blk.new w 50 #[.slice a n c]
  have HW1 := Lib.hid (h.next hb0)
  generalize hw1 : w.alloc (.cells #[.slice a n c] 50) = w1 at *
  have HE1 := Lib.hid hw1
  have HK0 := Lib.hid k0
  have HN := Lib.hid hn
  have FL := Lib.hid (dfiles true w0 d fs w1 HW1.out.mine)
  have HGT := Lib.hid fun j hj => get_at (l := fs) (List.pairwise_map.2 HW1.out.sorted) j hj
  have HSM := Lib.hid HW1.out.small
  clear h hn hb0 k0 hw1
  go_enter Try.func24, Try.ntmps24
  go_wp2_with fail
  rw [HE1.out]
  refine FL.out.mono ?_
  rintro e w6 ⟨v6, rfl, ⟨a6, c6, rfl, hr6, _⟩, hb6⟩
  have hnn : (List.map (fun x : Int × FileM => x.1) fs).length = n := by rw [List.length_map]; exact HN.out.symm
  rw [hnn] at hr6 ⊢
  have HM6 := Lib.hid (HW1.out.next hb6)
  have HR6 := Lib.hid hr6
  have HK6 := Lib.hid (HK0.out.next hb6)
  have c0 : w6.cell? ⟨w.heap.size, 0, none⟩ = some (.slice a n c) := (HK0.out.next hb6).cell 0
  have hn9 : n ≤ 9223372036854775807 := Nat.le_trans HR6.out.2.1 HR6.out.2.2.1
  have hne : ((n : Int) != (n : Int)) = false := by simp
  clear hb6 hr6 hnn FL HW1
  go_wp2_with fail
  go_loopw [6] (fun i wr => ∃ j : Nat, j ≤ n ∧ i = .int .i64 (j : Int) ∧ Hid (Pair w0 wr d g (.slice a n c) (.slice a n c) fs fs) ∧ Hid (RowOf (Value.int .i64) 0 wr a6 n c6 (List.map (fun x => x.1) fs)) ∧ Hid (Blk wr w.heap.size 50 #[.slice a n c])) (fun i _ => n - (intOf i).toNat)
  case atStart => exact ⟨0, by omega, rfl, HM6, HR6, HK6⟩
  case round =>
    clear HM6 HR6 HK6 HK0 c0
    obtain ⟨j, hj, rfl, HT, HA, HK⟩ := hrel
    by_cases hlt2 : (j : Int) < (n : Int)
    · have hjn : j < n := by omega
      have hjf : j < fs.length := by rw [← HN.out]; exact hjn
      have hix6 := fun W => HA.out.index Try.prog 36 3 Try.underlying36 (by kernel_rfl) j hjn W
      have hcl6 := HA.out.cell j hjn
      have hgd : (List.map (fun x : Int × FileM => x.1) fs).getD j 0 = fs[j].1 := by rw [List.getD_eq_getElem?_getD, List.getElem?_map, List.getElem?_eq_getElem hjf]; rfl
      rw [hgd] at hcl6
      obtain ⟨ad, u, hix, hrc⟩ := HT.out.pick j hjf
      have hgt := HGT.out j hjf
      obtain ⟨_, hfl, hKw⟩ := HSM.out _ (List.getElem_mem hjf)
      have HCL : Hid (∀ W, Below wr.heap.size wr W → W.cell? (adr a6 j) = some (.int .i64 fs[j].1)) := Lib.hid fun W hW => by
        have h6 := (HA.out.below hW).cell j hjn
        rw [hgd] at h6
        exact h6
      generalize fs[j] = x at *
      obtain ⟨K, f⟩ := x
      simp only at hcl6 hrc hgt hfl hKw HCL
      have R1 := Lib.hid fun W h => by have := dread true w0 d fs K W h hKw; rw [hgt, show (some f).isSome = true from rfl, if_pos rfl] at this; exact this
      have U1 := Lib.hid fun W h => by have := dsure true w0 d fs K W h hKw; rw [hgt] at this; exact this
      have HRC := Lib.hid hrc
      generalize adr a6 j = ad6 at *
      clear hgt hgd hfl hKw hrc hjf
      go_wp2_with fail
      refine (R1.out _ HT.out.mine).mono ?_
      rintro e w8 ⟨v8, rfl, hb8, ho8⟩
      have ho8' : w8.ownsRow _ 5 1 v8 f.bytes.length (f.bytes.map e8) := ho8
      have hby8 := bytes_of ho8'
      have hs8 := fun m => str_of (w := w8.drewN m) (v := v8) (bs := f.bytes) (by
        obtain ⟨a8, c8, rfl, hr8⟩ := hby8
        exact ⟨a8, c8, rfl, hr8.below (pw_below_drewN (Below.refl _ _) m)⟩)
      obtain ⟨a8, c8, rfl, _⟩ := hby8
      have d6 := HCL.out w8 hb8
      obtain ⟨⟨r0, r1, r2⟩, _⟩ := HRC.out w8 hb8
      have hsu := fun m => (HRC.out (w8.drewN m) (pw_below_drewN hb8 m)).2
      have e0 : w8.cell? ⟨w.heap.size, 0, none⟩ = some (.slice a n c) := (HK.out.next hb8).cell 0
      have HT8 := Lib.hid fun m => HT.out.next (pw_below_drewN hb8 m)
      have HA8 := Lib.hid fun m => HA.out.below (pw_below_drewN hb8 m)
      have HK8 := Lib.hid fun m => HK.out.next (pw_below_drewN hb8 m)
      have U2 := Lib.hid fun m => U1.out (w8.drewN m) (HT8.out m).mine
      generalize (⟨f.bytes.toArray⟩ : ByteArray) = SX at *
      generalize f.bytes.length = nb at *
      rw [show ((Option.map (fun x => x.sure) (some f)).getD 0 : Nat) = f.sure from rfl] at U2
      have hKK : ((K : Int) != (K : Int)) = false := by simp
      have hSS : ((f.sure : Int) != (f.sure : Int)) = false := by simp
      clear ho8 ho8' hb8 HT HA HK hcl6
      go_wp2_with fail
      go_quiet ((go_at_call 13; exact Calls.quiet_of_same (U2.out _)))
      go_wp2_with fail
      go_roundw
      case rel => exact ⟨j + 1, by omega, by go_num, Lib.hid (HT8.out _), Lib.hid (HA8.out _), Lib.hid (HK8.out _)⟩
      case measure => simp [intOf]; omega
    · go_wp2_with fail
      go_ret
      exact ⟨rfl, HT.out⟩
end Go.Proofs.Ytajkjbhijikggaa.Tele
