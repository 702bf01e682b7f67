/- The walk of the law ProbShares. No conditions but that the library's table is as it was laid. -/
import Derived.Test.YtaejdkfonlkhaaaDoorLawGrows
namespace Go.Proofs.YtaejdkfonlkhaaaDoor.Tele
open Go.RowKit
set_option linter.unusedVariables false
set_option linter.unusedSimpArgs false

theorem above_core (n of keep h l K : Int) (w : World) (hn0 : 0 ≤ n) (hn1 : n ≤ 72057594037927936)
    (e1 : n / 268435456 * of = h) (e2 : n % 268435456 * of = l) (e3 : keep * 268435456 = K)
    (h0 : 0 ≤ h) (h1 : h ≤ 1152921504606846976) (l0 : 0 ≤ l) (l1 : l ≤ 1152921504606846976) (K0 : 0 ≤ K) (K1 : K ≤ 1152921504606846976) :
    Calls Tryd.prog 26 #[.int .u64 n, .int .u64 of, .int .u64 keep] w fun e w' => e = .returned (.bool (decide (K < h + l / 268435456 ∨ (h + l / 268435456 = K ∧ 0 < l % 268435456)))) ∧ w' = w := by
  by_cases c1 : K < h + l / 268435456
  · rw [decide_eq_true (Or.inl c1)]
    go_enter Tryd.func26, Tryd.ntmps26
    go_wp2
    go_ret
    exact ⟨rfl, rfl⟩
  by_cases c2 : h + l / 268435456 = K
  · have c3 : ((h + l / 268435456) == K) = true := by simp [c2]
    by_cases c4 : 0 < l % 268435456
    · rw [decide_eq_true (Or.inr ⟨c2, c4⟩)]
      clear c2
      go_enter Tryd.func26, Tryd.ntmps26
      go_wp2
      go_ret
      exact ⟨rfl, rfl⟩
    · rw [decide_eq_false (by omega)]
      clear c2
      go_enter Tryd.func26, Tryd.ntmps26
      go_wp2
      go_ret
      exact ⟨rfl, rfl⟩
  · have c3 : ((h + l / 268435456) == K) = false := by simp [c2]
    rw [decide_eq_false (by omega)]
    clear c2
    go_enter Tryd.func26, Tryd.ntmps26
    go_wp2
    go_ret
    exact ⟨rfl, rfl⟩
theorem above_plain (n o k : Nat) (h1 : n ≤ 72057594037927936) : k * 268435456 < n / 268435456 * o + n % 268435456 * o / 268435456 ∨ (n / 268435456 * o + n % 268435456 * o / 268435456 = k * 268435456 ∧ 0 < n % 268435456 * o % 268435456) ↔ k * 72057594037927936 < n * o := by
  have e : n * o = n / 268435456 * o * 268435456 + n % 268435456 * o := by
    rw [Nat.mul_right_comm, ← Nat.add_mul]
    congr 1
    omega
  rw [e]
  generalize n / 268435456 * o = h
  generalize n % 268435456 * o = l
  omega
theorem above_calls (n o k : Nat) (w : World) (hn : n ≤ 72057594037927936) (ho : o ≤ 4294967296) (hk : k ≤ o) :
    Calls Tryd.prog 26 #[.int .u64 (n : Int), .int .u64 (o : Int), .int .u64 (k : Int)] w fun e w' => e = .returned (.bool (decide (k * 72057594037927936 < n * o))) ∧ w' = w := by
  have b1 : n / 268435456 * o ≤ 268435456 * 4294967296 := Nat.mul_le_mul (by omega) ho
  have b2 : n % 268435456 * o ≤ 268435456 * 4294967296 := Nat.mul_le_mul (by omega) ho
  have h := above_core (n : Int) (o : Int) (k : Int) ((n / 268435456 * o : Nat) : Int) ((n % 268435456 * o : Nat) : Int) ((k * 268435456 : Nat) : Int) w (by omega) (by omega) (by rw [Int.natCast_mul]; rfl) (by rw [Int.natCast_mul]; rfl) (by rw [Int.natCast_mul]; rfl) (Int.natCast_nonneg _) (by omega) (Int.natCast_nonneg _) (by omega) (by omega) (by omega)
  have hp := above_plain n o k hn
  refine h.mono ?_
  rintro e w' ⟨rfl, rfl⟩
  refine ⟨?_, rfl⟩
  congr 2
  refine decide_eq_decide.mpr (Iff.trans ?_ hp)
  generalize n / 268435456 * o = h
  generalize n % 268435456 * o = l
  omega
theorem shares_walk (a b : Int) (o k t n : Nat) (w : World) (hT : Tab w) (a0 : 0 ≤ a) (a1 : a ≤ 4294967295) (b0 : 0 ≤ b) (b1 : b ≤ 4294967295) (ho : b + 1 = (o : Int)) (ho2 : o ≤ 4294967296) (hk : a % ((o : Int) + 1) = (k : Int)) (hn : n ≤ 72057594037927936)
    (T : Hid (∀ w, Calls Tryd.prog 13 #[.int .u64 (k : Int), .int .u64 (o : Int)] w fun e w' => e = .returned (.tuple #[.int .u64 (t : Int), .int .u16 0]) ∧ ∃ n, w' = w.drewN n))
    (K : Hid (∀ w, Calls Tryd.prog 22 #[.int .u64 (t : Int)] w fun e w' => e = .returned (.int .u64 (n : Int)) ∧ w' = w))
    (A1 : Hid (∀ w, Calls Tryd.prog 26 #[.int .u64 (n : Int), .int .u64 (o : Int), .int .u64 (k : Int)] w fun e w' => e = .returned (.bool false) ∧ w' = w))
    (A2 : Hid (k < o → ∀ w, Calls Tryd.prog 26 #[.int .u64 ((n : Int) + 1), .int .u64 (o : Int), .int .u64 (k : Int)] w fun e w' => e = .returned (.bool true) ∧ w' = w)) (hko : k ≤ o) :
    Calls Tryd.prog 8 #[.int .u32 a, .int .u32 b] w fun e w' => e = .returned (.bool true) ∧ Below w.heap.size w w' := by
  have h0 : ((o : Int) + 1 == 0) = false := by rw [beq_eq_false_iff_ne]; omega
  have hn' : (n : Int) + 1 ≤ 72057594037927937 := by omega
  by_cases c : k = o
  · have q : ((k : Int) == (o : Int)) = true := by simp [c]
    clear c A2
    go_enter Tryd.func8, Tryd.ntmps8
    go_wp2_with fail
    refine (T.out _).mono ?_
    rintro e w1 ⟨rfl, n1, rfl⟩
    go_wp2_with fail
    refine (K.out _).mono ?_
    rintro e w1 ⟨rfl, rfl⟩
    go_wp2_with fail
    refine (known_calls _ (show Tab (w.drewN n1) from hT)).mono ?_
    rintro e w2 ⟨rfl, hb⟩
    have hb := bnext (pw_below_drewN (Below.refl w.heap.size w) _) hb
    go_wp2_with fail
    refine (A1.out _).mono ?_
    rintro e w1 ⟨rfl, rfl⟩
    go_wp2
    go_ret
    exact ⟨rfl, hb⟩
  · have q : ((k : Int) == (o : Int)) = false := by rw [beq_eq_false_iff_ne]; omega
    have A2' := Lib.hid (A2.out (by omega))
    clear c A2
    go_enter Tryd.func8, Tryd.ntmps8
    go_wp2_with fail
    refine (T.out _).mono ?_
    rintro e w1 ⟨rfl, n1, rfl⟩
    go_wp2_with fail
    refine (K.out _).mono ?_
    rintro e w1 ⟨rfl, rfl⟩
    go_wp2_with fail
    refine (known_calls _ (show Tab (w.drewN n1) from hT)).mono ?_
    rintro e w2 ⟨rfl, hb⟩
    have hb := bnext (pw_below_drewN (Below.refl w.heap.size w) _) hb
    go_wp2_with fail
    refine (A1.out _).mono ?_
    rintro e w1 ⟨rfl, rfl⟩
    go_wp2_with fail
    refine (A2'.out _).mono ?_
    rintro e w1 ⟨rfl, rfl⟩
    go_wp2
    go_ret
    exact ⟨rfl, hb⟩
theorem probShares_walk (a b : Int) (w : World) (ha : (Lit.int .u32 a).wf = true) (hb : (Lit.int .u32 b).wf = true) (hT : Tab w) :
    Calls Tryd.prog 8 #[.int .u32 a, .int .u32 b] w fun e w' => e = .returned (.bool true) ∧ Below w.heap.size w w' := by
  obtain ⟨an, han, ha1⟩ := nat32_of_wf ha
  obtain ⟨bn, hbn, hb1⟩ := nat32_of_wf hb
  obtain ⟨o, ho⟩ : ∃ o : Nat, o = bn + 1 := ⟨_, rfl⟩
  obtain ⟨k, hk, hko⟩ : ∃ k : Nat, a % ((o : Int) + 1) = (k : Int) ∧ k ≤ o := by
    have h1 := Int.emod_nonneg a (show ((o : Int) + 1) ≠ 0 by omega)
    have h2 := Int.emod_lt_of_pos a (show 0 < ((o : Int) + 1) by omega)
    exact ⟨(a % ((o : Int) + 1)).toNat, by omega, by omega⟩
  have hq : k * 72057594037927936 / o ≤ 72057594037927936 := by
    refine Nat.div_le_of_le_mul ?_
    exact Nat.mul_le_mul_right _ hko
  have hd1 : k * 72057594037927936 / o * o ≤ k * 72057594037927936 := Nat.div_mul_le_self _ _
  have hd2 : k * 72057594037927936 < (k * 72057594037927936 / o + 1) * o := by
    have := Nat.lt_div_mul_add (a := k * 72057594037927936) (b := o) (by omega)
    rw [Nat.add_mul]
    omega
  have hlt : k < o → k * 72057594037927936 / o < 72057594037927936 := fun h => (Nat.div_lt_iff_lt_mul (by omega)).mpr (by omega)
  have HK := fun w => kept_calls (thr k o) w
  rw [show 72057594037927936 - thr k o = k * 72057594037927936 / o by unfold thr; exact (show ∀ q : Nat, q ≤ 72057594037927936 → 72057594037927936 - (72057594037927936 - q) = q by omega) _ hq] at HK
  refine shares_walk a b o k _ _ w hT (by omega) (by omega) (by omega) (by omega) (by omega) (by omega) hk hq (Lib.hid fun w => thr_any k o w hko (by omega) (by omega)) (Lib.hid HK) (Lib.hid fun w => ?_) (Lib.hid fun hl w => ?_) hko
  · have h := above_calls (k * 72057594037927936 / o) o k w hq (by omega) hko
    rw [decide_eq_false (by omega)] at h
    exact h
  · have h := above_calls (k * 72057594037927936 / o + 1) o k w (hlt hl) (by omega) hko
    rw [decide_eq_true hd2] at h
    exact h
end Go.Proofs.YtaejdkfonlkhaaaDoor.Tele
