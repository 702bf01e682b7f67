/- The walk of the law RateSteady. No conditions. -/
import Derived.Test.YtjpfamminemegaaRate3
import Derived.Test.YtjpfamminemegaaPRate2
namespace Go.Proofs.Ytjpfamminemegaa.Tele
open Go.RowKit
set_option linter.unusedVariables false
set_option linter.unusedSimpArgs false

def rkX : ByteArray := ⟨#[120]⟩
theorem rateSteady_walk (x n g h : Int) (w : World) (hx : (Lit.int .u64 x).wf = true) (hn : (Lit.int .u8 n).wf = true) (hg : (Lit.int .u8 g).wf = true) (hh : (Lit.int .u8 h).wf = true) :
    Calls Try.prog 7 #[.int .u64 x, .int .u8 n, .int .u8 g, .int .u8 h] w fun e w' => e = .returned (.bool true) ∧ Below w.heap.size w w' := by
  obtain ⟨X, rfl⟩ := u_of_wf hx
  obtain ⟨hn0, hn1⟩ := u8_of_wf hn
  obtain ⟨hg0, hg1⟩ := u8_of_wf hg
  obtain ⟨hh0, hh1⟩ := u8_of_wf hh
  clear hx hn hg hh
  obtain ⟨N, hN, hN1, hN2⟩ : ∃ N : Nat, 1 + n % 30 = (N : Int) ∧ 1 ≤ N ∧ N ≤ 30 := ⟨(1 + n % 30).toNat, by omega, by omega, by omega⟩
  obtain ⟨T, hT, hT1, hT2⟩ : ∃ T : Nat, 1 + g % 40 = (T : Int) ∧ 1 ≤ T ∧ T ≤ 40 := ⟨(1 + g % 40).toNat, by omega, by omega, by omega⟩
  obtain ⟨M, hM, hM1, hM2⟩ : ∃ M : Nat, 2 + h % 4 = (M : Int) ∧ 2 ≤ M ∧ M ≤ 5 := ⟨(2 + h % 4).toNat, by omega, by omega, by omega⟩
  have hinv := Win.steady_start X N rkX.data.toList hN1
  have HB := Lib.hid (fun w => by_calls T N w (by omega))
  go_enter Try.func7, Try.ntmps7
  go_wp2_with fail
  refine (rnew_mine 2 16 N T X w _ (Below.refl _ _) (by omega) (by omega) (by omega) (by omega) (by omega) (by omega) (by omega)).mono ?_
  rintro e w1 ⟨r, rfl, hm⟩
  go_wp2
  go_loopw [11] (fun i wr => ∃ (k : Nat), k ≤ M ∧ i = .int .i64 k ∧ (∃ m, RMine w wr r T m ∧ Win.SteadyInv m N k 0 rkX.data.toList)) (fun i _ => M - (intOf i).toNat)
  case atStart => exact ⟨0, by omega, rfl, ⟨_, hm, hinv⟩⟩
  case round =>
    clear hm hinv
    obtain ⟨k, hk, rfl, ⟨m, hm, hinv⟩⟩ := hrel
    by_cases hlt : k < M
    · go_wp2
      go_loopw [12] (fun i wr => ∃ (j : Nat), j ≤ N ∧ i = .int .i64 j ∧ (∃ m, RMine w wr r T m ∧ Win.SteadyInv m N k j rkX.data.toList)) (fun i _ => N - (intOf i).toNat)
      case atStart => exact ⟨0, by omega, rfl, ⟨_, hm, hinv⟩⟩
      case round =>
        clear hm hinv
        obtain ⟨j, hj, rfl, ⟨m, hm, hinv⟩⟩ := hrel
        by_cases hjt : j < N
        · have HS := Lib.hid (Win.steady_step m N k j T rkX.data.toList hN1 (by omega) (by omega) hjt hinv)
          clear hinv
          have hb : k * N ≤ 5 * 30 := Nat.mul_le_mul (by omega) hN2
          obtain ⟨p, hp⟩ : ∃ p, p = k * N := ⟨_, rfl⟩
          rw [← hp] at HS hb
          have hpw : IntKind.i64.wrap ((k : Int) * (N : Int)) = (p : Int) := by
            rw [← Int.natCast_mul, ← hp, IntKind.wrap_i64]
            omega
          have HP := Lib.hid (show (p : Int) + (j : Int) = ((p + j : Nat) : Int) by omega)
          by_cases hk0 : k = 0
          · have hkd : decide (0 < k) = false := by rw [decide_eq_false_iff_not]; omega
            have hk00 := Lib.hid hk0
            clear hp hk0
            go_wp2_with fail
            rw [HP.out]
            refine (ask_mine w r T m _ rkX _ hm (by decide)).mono ?_
            rintro e w3 ⟨rfl, hm3⟩
            rw [HS.out.1, HS.out.2.1, if_pos hk00.out]
            clear hm
            go_wp2
            go_roundw
            case rel => exact ⟨j + 1, by omega, by go_num, ⟨_, hm3, HS.out.2.2⟩⟩
            case measure => simp [intOf]; omega
          · have hkk : 0 < k := by omega
            clear hp
            go_wp2_with fail
            rw [HP.out]
            refine (ask_mine w r T m _ rkX _ hm (by decide)).mono ?_
            rintro e w3 ⟨rfl, hm3⟩
            rw [HS.out.1, HS.out.2.1, if_neg hk0]
            clear hm
            go_wp2_with fail
            refine (HB.out _).mono ?_
            rintro e w4 ⟨rfl, n4, rfl⟩
            replace hm3 := hm3.next (pw_below_drewN (Below.refl _ _) n4)
            go_wp2
            go_roundw
            case rel => exact ⟨j + 1, by omega, by go_num, ⟨_, hm3, HS.out.2.2⟩⟩
            case measure => simp [intOf]; omega
        · have hjN : j = N := by omega
          subst hjN
          go_wp2
          go_roundw
          case rel => exact ⟨k + 1, by omega, by go_num, ⟨_, hm, Win.steady_next m _ k _ hN1 hinv⟩⟩
          case measure => simp [intOf]; omega
    · go_wp2_with fail
      refine (rknown_calls _).mono ?_
      rintro e w_ ⟨rfl, hb2⟩
      replace hm := hm.next hb2
      clear hb2
      go_wp2
      go_ret
      exact ⟨rfl, hm.below⟩
end Go.Proofs.Ytjpfamminemegaa.Tele
