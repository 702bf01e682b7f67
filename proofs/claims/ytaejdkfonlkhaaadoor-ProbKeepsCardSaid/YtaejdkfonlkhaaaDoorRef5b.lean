/- The walks of the reference's weights and digits. No conditions. -/
import Derived.Test.YtaejdkfonlkhaaaDoorPCtz
import Derived.Test.YtaejdkfonlkhaaaDoorPDigs
import Derived.Test.YtaejdkfonlkhaaaDoorRef5
import Derived.Laws.IdiomStrings
namespace Go.Proofs.YtaejdkfonlkhaaaDoor.Tele
open Go.RowKit
set_option linter.unusedVariables false
set_option linter.unusedSimpArgs false

theorem divisor_calls (a b : Nat) (w : World) (ha : a < 18446744073709551616) (hb : b < 18446744073709551616) :
    Calls Tryd.prog 33 #[.int .u64 (a : Int), .int .u64 (b : Int)] w fun e w' => e = .returned (.int .u64 (Nat.gcd a b : Int)) ∧ w' = w := by
  obtain ⟨g, hg⟩ : ∃ g, g = Nat.gcd a b := ⟨_, rfl⟩
  rw [← hg]
  have HG := Lib.hid hg
  clear hg
  go_enter Tryd.func33, Tryd.ntmps33
  go_wp2_with fail
  go_loopw [0, 1, 5, 6, 7, 8, 9, 10, 11, 12] (fun p q _ _ _ _ _ _ _ _ wr => ∃ x y : Nat, p = .int .u64 (x : Int) ∧ q = .int .u64 (y : Int) ∧ Hid (Nat.gcd x y = g) ∧ x < 18446744073709551616 ∧ y < 18446744073709551616 ∧ wr = w) (fun _ q _ _ _ _ _ _ _ _ _ => (intOf q).toNat)
  case atStart => exact ⟨a, b, rfl, rfl, Lib.hid HG.out.symm, ha, hb, rfl⟩
  case round =>
    clear ha hb HG
    obtain ⟨x, y, rfl, rfl, HG, hx, hy, rfl⟩ := hrel
    by_cases h0 : 0 < y
    · obtain ⟨z, hz⟩ : ∃ z : Nat, (x : Int) % (y : Int) = (z : Int) := ⟨x % y, (Int.natCast_emod _ _).symm⟩
      have hzn : z = x % y := by have := Int.natCast_emod x y; omega
      have hzy : z < y := by rw [hzn]; exact Nat.mod_lt _ h0
      have HZ := Lib.hid hzn
      have hq : ((y : Int) == 0) = false := by rw [beq_eq_false_iff_ne]; omega
      clear hzn
      go_wp2_with fail
      go_roundw
      case rel => exact ⟨y, z, rfl, by rw [hz], Lib.hid (by rw [← HG.out, HZ.out, Nat.gcd_comm x y, Nat.gcd_rec y x, Nat.gcd_comm]), by omega, by omega, by trivial⟩
      case measure => simp [intOf]; omega
    · have hy0 : y = 0 := by omega
      subst hy0
      have hgx : x = g := by have := HG.out; rw [Nat.gcd_zero_right] at this; exact this
      have HX := Lib.hid hgx
      clear hgx HG
      go_wp2_with fail
      go_ret
      rw [HX.out]
      exact ⟨rfl, by trivial⟩
theorem refWeight_walk (t k g a b : Nat) (w : World) (h : t < 72057594037927936) (hk : 72057594037927936 - (t : Int) = (k : Int))
    (D : Hid (∀ w, Calls Tryd.prog 33 #[.int .u64 72057594037927936, .int .u64 (k : Int)] w fun e w' => e = .returned (.int .u64 (g : Int)) ∧ w' = w))
    (hg : ((g : Int) == 0) = false) (ha : 72057594037927936 / (g : Int) = (a : Int)) (hb : (k : Int) / (g : Int) = (b : Int)) :
    Calls Tryd.prog 17 #[.int .u64 (t : Int)] w fun e w' => e = .returned (.tuple #[.int .u64 (a : Int), .int .u64 (b : Int), .int .i64 0]) ∧ ∃ n, w' = w.drewN n := by
  obtain ⟨x, hx⟩ : ∃ x : Int, (t : Int) = x := ⟨_, rfl⟩
  have h' : ¬ 72057594037927936 ≤ x := by omega
  have h0 : 0 ≤ x := by omega
  have hk1 : (k : Int) ≤ 72057594037927936 := by omega
  rw [hx] at hk ⊢
  have ha' : Int.tdiv 72057594037927936 (g : Int) = (a : Int) := by rw [Int.tdiv_eq_ediv_of_nonneg (by omega)]; exact ha
  have ha1 : (a : Int) ≤ 72057594037927936 := by
    rw [← ha]
    exact Int.ediv_le_self _ (by omega)
  have hb1 : (b : Int) ≤ 72057594037927936 := by
    rw [← hb]
    exact Int.le_trans (Int.ediv_le_self _ (by omega)) hk1
  have hg2 : ¬ (g : Int) = 0 := by rw [beq_eq_false_iff_ne] at hg; exact hg
  have hg3 : 0 < (g : Int) := by omega
  clear h hx
  go_enter Tryd.func17, Tryd.ntmps17
  go_wp2_with fail
  refine (D.out _).mono ?_
  rintro e w1 ⟨rfl, rfl⟩
  go_wp2_with fail
  go_quiet (fail)
  go_wp2
  go_ret3
  exact ⟨rfl, _, rfl⟩
theorem refWeight_err (t : Int) (w : World) (h : 72057594037927936 ≤ t) : Calls Tryd.prog 17 #[.int .u64 t] w fun e w' => e = .returned (.tuple #[.int .u64 0, .int .u64 0, .int .i64 1]) ∧ w' = w := by
  go_enter Tryd.func17, Tryd.ntmps17
  go_wp2
  go_ret3
  exact ⟨rfl, rfl⟩
theorem refWeight_calls (t : Nat) (w : World) (h : t < 72057594037927936) :
    Calls Tryd.prog 17 #[.int .u64 (t : Int)] w fun e w' => e = .returned (.tuple #[.int .u64 ((72057594037927936 / 2 ^ Lib.ctz 64 (72057594037927936 - t) : Nat) : Int), .int .u64 (((72057594037927936 - t) / 2 ^ Lib.ctz 64 (72057594037927936 - t) : Nat) : Int), .int .i64 0]) ∧ ∃ n, w' = w.drewN n := by
  have hg := gcd_plain (72057594037927936 - t) (by omega) (by omega)
  rw [← hg]
  have hpos : 0 < Nat.gcd 72057594037927936 (72057594037927936 - t) := Nat.gcd_pos_of_pos_left _ (by omega)
  refine refWeight_walk t (72057594037927936 - t) _ _ _ w h (by omega) (Lib.hid fun w => divisor_calls 72057594037927936 _ w (by omega) (by omega)) ?_ ?_ ?_
  · rw [beq_eq_false_iff_ne]; omega
  · exact (Int.natCast_ediv 72057594037927936 _).symm
  · exact (Int.natCast_ediv _ _).symm
theorem hex_cut : ∀ d : Fin 16, (⟨#[48, 49, 50, 51, 52, 53, 54, 55, 56, 57, 97, 98, 99, 100, 101, 102]⟩ : ByteArray).extract d.val (d.val + 1) = ⟨#[hexL.getD d.val 0]⟩ := by decide +kernel
theorem hex_slice (d : Nat) (hd : d < 16) (W : World) : (Instr.slice 9 (.string ⟨#[48, 49, 50, 51, 52, 53, 54, 55, 56, 57, 97, 98, 99, 100, 101, 102]⟩) (some (.int .u64 (d : Int))) (some (.int .u64 ((d : Int) + 1))) none).run Tryd.prog W = .ok (.string ⟨#[hexL.getD d 0]⟩) W := by
  rw [run_slice_string W 9 _ .u64 .u64 (d : Int) ((d : Int) + 1) Tryd.underlying9 (by omega) (by omega) (by show (d : Int) + 1 ≤ 16; omega)]
  have := hex_cut ⟨d, hd⟩
  simp only at this
  rw [show ((d : Int) + 1).toNat = d + 1 by omega, Int.toNat_natCast, this]
theorem digits_of (t k : Nat) (l : List UInt8) (h : digs t = l ++ List.replicate k 48) (h1 : 1 ≤ l.length) (he : l.length = 1 ∨ l.getD (l.length - 1) 0 ≠ 48) : digits t = l := by
  by_cases hl : l.getD (l.length - 1) 0 = 48
  · have hl1 : l.length = 1 := by
      rcases he with he | he
      · exact he
      · exact absurd hl he
    obtain ⟨c, rfl⟩ : ∃ c, l = [c] := by
      cases l with
      | nil => simp at h1
      | cons c r => cases r with
        | nil => exact ⟨c, rfl⟩
        | cons a b => simp at hl1
    have hc : c = 48 := by simpa using hl
    subst hc
    have ht : Lib.trimRightB (digs t) 48 = [] := by
      rw [Lib.trimRightB_take (digs t) 48 0 (by omega) (fun j b _ hb => by
        rw [h, ← List.singleton_append] at hb
        have hm := List.mem_of_getElem? hb
        simp at hm
        rcases hm with hm | hm
        · exact hm
        · exact hm.2) (fun b h0 _ => absurd h0 (by omega))]
      simp
    unfold digits
    rw [if_pos ht]
  · have ht : Lib.trimRightB (digs t) 48 = l := by
      rw [Lib.trimRightB_take (digs t) 48 l.length (by rw [h]; simp) (fun j b hj hb => by
        rw [h, List.getElem?_append_right hj] at hb
        have hm := List.mem_of_getElem? hb
        exact List.eq_of_mem_replicate hm) (fun b h0 hb => by
        rw [h, List.getElem?_append_left (by omega)] at hb
        rw [List.getD_eq_getElem?_getD, hb] at hl
        simpa using hl), h]
      simp
    unfold digits
    rw [ht, if_neg (by intro hn; rw [hn] at h1; simp at h1)]
theorem digs_drop (t i : Nat) (hi : i < 14) : (digs t).drop (14 - (i + 1)) = dig t (13 - i) :: (digs t).drop (14 - i) := by
  rw [show 14 - (i + 1) = 13 - i by omega, List.drop_eq_getElem_cons (by rw [digs_len]; omega)]
  congr 1
  · simp [digs]
  · congr 1
    omega
theorem dig_low (t i : Nat) (hi : i < 14) : dig t (13 - i) = hexL.getD (t / 2 ^ (4 * i) % 16) 0 := by
  unfold dig
  rw [show 13 - (13 - i) = i by omega]
theorem refDigits_err (t : Int) (w : World) (h : 72057594037927936 ≤ t) : Calls Tryd.prog 19 #[.int .u64 t] w fun e w' => e = .returned (.tuple #[.string ByteArray.empty, .int .i64 1]) ∧ w' = w := by
  go_enter Tryd.func19, Tryd.ntmps19
  go_wp2
  go_ret2
  exact ⟨rfl, rfl⟩
theorem refDigits_calls (t : Nat) (w : World) (h : t < 72057594037927936) :
    Calls Tryd.prog 19 #[.int .u64 (t : Int)] w fun e w' => e = .returned (.tuple #[.string ⟨(digits t).toArray⟩, .int .i64 0]) ∧ w' = w := by
  obtain ⟨x, hx⟩ : ∃ x : Int, (t : Int) = x := ⟨_, rfl⟩
  have h' : ¬ (72057594037927936 : Int) ≤ x := by omega
  obtain ⟨R, hR⟩ : ∃ R : ByteArray, R = ⟨(digits t).toArray⟩ := ⟨_, rfl⟩
  rw [← hR]
  have HR := Lib.hid hR
  rw [hx]
  have HX := Lib.hid hx
  clear hx hR
  go_enter Tryd.func19, Tryd.ntmps19
  go_wp2_with fail
  go_loopw [0, 4, 5] (fun p s i wr => ∃ (k : Nat) (y : Nat) (b : ByteArray), k ≤ 14 ∧ i = .int .i64 (k : Int) ∧ p = .int .u64 (y : Int) ∧ s = .string b ∧ Hid (y = t / 2 ^ (4 * k)) ∧ (b.size : Int) = (k : Int) ∧ Hid (b = ⟨((digs t).drop (14 - k)).toArray⟩) ∧ y < 72057594037927936 ∧ wr = w) (fun _ _ i _ => 14 - (intOf i).toNat)
  case atStart => exact ⟨0, t, ⟨#[]⟩, by omega, rfl, by rw [← HX.out], rfl, Lib.hid (by simp), rfl, Lib.hid (by simp [digs]), by omega, rfl⟩
  case round =>
    clear h' HX
    obtain ⟨k, y, b, hk, rfl, rfl, rfl, HY, hbs, HB, hy, rfl⟩ := hrel
    by_cases hlt : k < 14
    · obtain ⟨d, hd⟩ : ∃ d : Nat, (y : Int) % 16 = (d : Int) := ⟨y % 16, by omega⟩
      obtain ⟨z, hz⟩ : ∃ z : Nat, (y : Int) / 16 = (z : Int) := ⟨y / 16, by omega⟩
      have hsl := fun W => hex_slice d (by omega) W
      have hcd : hexL.getD d 0 = dig t (13 - k) := by
        rw [dig_low t k hlt, ← HY.out]
        congr 1
        omega
      rw [hcd] at hsl
      obtain ⟨c, hc⟩ : ∃ c : ByteArray, c = ⟨#[dig t (13 - k)]⟩ := ⟨_, rfl⟩
      have hcs : (c.size : Int) = 1 := by rw [hc]; rfl
      rw [← hc] at hsl
      have HC := Lib.hid hc
      have hd16 : (d : Int) < 16 := by omega
      have hz1 : z < 72057594037927936 := by omega
      have HZ : Hid (z = t / 2 ^ (4 * (k + 1))) := Lib.hid (by
        rw [show 4 * (k + 1) = 4 * k + 4 by omega, Nat.pow_add, ← Nat.div_div_eq_div_mul, ← HY.out]
        omega)
      clear hc hcd
      go_wp2_with fail
      go_roundw
      case rel => exact ⟨k + 1, z, c ++ b, by omega, by go_num, rfl, rfl, HZ, by rw [ByteArray.size_append]; omega, Lib.hid (by rw [HC.out, HB.out, digs_drop t k hlt]; apply ByteArray.ext; simp), hz1, by trivial⟩
      case measure => simp [intOf]; omega
    · have hk14 : k = 14 := by omega
      have HD : Hid (∃ j, digs t = (digs t).drop (14 - k) ++ List.replicate j 48) := Lib.hid ⟨0, by rw [hk14]; simp⟩
      have HL : Hid (1 ≤ ((digs t).drop (14 - k)).length) := Lib.hid (by rw [hk14]; simp [digs_len])
      clear HY hbs hk14
      go_wp2_with fail
      go_loopw [4] (fun s wq => ∃ (l : List UInt8), s = .string ⟨l.toArray⟩ ∧ Hid (∃ j, digs t = l ++ List.replicate j 48) ∧ 1 ≤ l.length ∧ wq = wr) (fun s _ => match s with | .string b => b.size | _ => 0)
      case atStart => exact ⟨_, by rw [HB.out], HD, HL.out, rfl⟩
      case round =>
        clear HD HL HB
        obtain ⟨l, rfl, HJ, hl1, rfl⟩ := hrel
        obtain ⟨n, hn⟩ : ∃ n, l.length = n + 1 := ⟨l.length - 1, by omega⟩
        obtain ⟨b, hb⟩ : ∃ b : ByteArray, b = ⟨l.toArray⟩ := ⟨_, rfl⟩
        have hbs : (b.size : Int) = (n : Int) + 1 := by rw [hb]; show (l.toArray.size : Int) = _; simp; omega
        have hbsn : b.size = n + 1 := by omega
        have hix := fun W => str_index b n (by omega) W
        have hgd : (b.data.toList.getD n 0) = l.getD (l.length - 1) 0 := by rw [hb, hn]; rfl
        rw [hgd] at hix
        have hn14 : (n : Int) ≤ 13 := by
          obtain ⟨j, hj⟩ := HJ.out
          have := congrArg List.length hj
          rw [digs_len, List.length_append] at this
          omega
        rw [← hb]
        have HB := Lib.hid hb
        have HN := Lib.hid hn
        have HBS := Lib.hid hbsn
        clear hb hgd hn hbsn
        by_cases h0 : 0 < n
        · by_cases hc : l.getD (l.length - 1) 0 = 48
          · rw [hc] at hix
            have HJ2 : Hid (∃ j, digs t = l.take n ++ List.replicate j 48) := by
              obtain ⟨j, hj⟩ := HJ.out
              refine Lib.hid ⟨j + 1, ?_⟩
              have he : l = l.take n ++ [48] := by
                have h1 : l.drop n = [48] := by
                  rw [List.drop_eq_getElem_cons (by rw [HN.out]; omega)]
                  rw [HN.out, List.getD_eq_getElem?_getD, show n + 1 - 1 = n by omega, List.getElem?_eq_getElem (by rw [HN.out]; omega)] at hc
                  rw [show l[n]'(by rw [HN.out]; omega) = 48 from hc, List.drop_eq_nil_of_le (by rw [HN.out]; omega)]
                rw [← h1, List.take_append_drop]
              rw [hj]
              conv => lhs; rw [he]
              rw [List.append_assoc, List.replicate_succ]
              rfl
            clear hc HJ
            go_wp2_with fail
            go_roundw
            case rel => exact ⟨l.take n, by rw [HB.out]; congr 1; apply ByteArray.ext; simp, HJ2, by rw [List.length_take, HN.out]; omega, by trivial⟩
            case measure => simp; rw [HBS.out]; omega
          · have hne : (((l.getD (l.length - 1) 0).toNat : Int) == 48) = false := by
              rw [beq_eq_false_iff_ne]
              intro hh
              apply hc
              apply UInt8.toNat_inj.mp
              show _ = 48
              omega
            have HE : Hid (digits t = l) := by
              obtain ⟨j, hj⟩ := HJ.out
              exact Lib.hid (digits_of t j l hj hl1 (.inr hc))
            clear hc HJ
            generalize ((l.getD (l.length - 1) 0).toNat : Int) = v at *
            go_wp2_with fail
            go_ret2
            rw [HR.out, HE.out, ← HB.out]
            exact ⟨rfl, by trivial⟩
        · have HE : Hid (digits t = l) := by
            obtain ⟨j, hj⟩ := HJ.out
            exact Lib.hid (digits_of t j l hj hl1 (.inl (by rw [HN.out]; omega)))
          clear HJ
          go_wp2_with fail
          go_ret2
          rw [HR.out, HE.out, ← HB.out]
          exact ⟨rfl, by trivial⟩
end Go.Proofs.YtaejdkfonlkhaaaDoor.Tele
