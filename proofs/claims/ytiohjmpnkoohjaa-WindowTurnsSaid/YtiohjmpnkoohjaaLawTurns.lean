/- The walk of the law WindowTurns. No conditions. -/
import Derived.Test.YtiohjmpnkoohjaaLawTimes
import Derived.Test.YtiohjmpnkoohjaaPWin3
namespace Go.Proofs.Ytiohjmpnkoohjaa.Tele
open Go.RowKit
set_option linter.unusedVariables false
set_option linter.unusedSimpArgs false
attribute [local go_sem] min_nat max_nat

theorem windowTurns_walk (x b : Int) (ca : Option Addr) (len cap : Nat) (cs : List Int) (kk a : Int) (w : World) (hx : (Lit.int .u64 x).wf = true) (hb : (Lit.int .u8 b).wf = true) (hc : IntRow .u8 w ca len cap cs) (hl : len * 1 ≤ 140737488351232) (hk : (Lit.int .u8 kk).wf = true) (ha : (Lit.int .u8 a).wf = true) :
    Calls Try.prog 5 #[.int .u64 x, .int .u8 b, .slice ca len cap, .int .u8 kk, .int .u8 a] w fun e w' => e = .returned (.bool true) ∧ Below w.heap.size w w' := by
  obtain ⟨X, rfl⟩ := u_of_wf hx
  obtain ⟨hb0, hb1⟩ := u8_of_wf hb
  obtain ⟨hk0, hk1⟩ := u8_of_wf hk
  obtain ⟨ha0, ha1⟩ := u8_of_wf ha
  clear hx hb hk ha
  obtain ⟨N, hN, hN1, hN2⟩ : ∃ N : Nat, (N : Int) = 1 + b % 20 ∧ 1 ≤ N ∧ N ≤ 20 := ⟨(1 + b % 20).toNat, by omega, by omega, by omega⟩
  obtain ⟨q, hq, hq8⟩ : ∃ q : Nat, kk % 9 = (q : Int) ∧ q ≤ 8 := ⟨(kk % 9).toNat, by omega, by omega⟩
  obtain ⟨N1, hN3⟩ : ∃ N1 : Nat, (N : Int) - 1 = (N1 : Int) := ⟨N - 1, by omega⟩
  have hN4 : N1 + 1 = N := by omega
  obtain ⟨F, hF⟩ : ∃ F : Nat, F = N * q := ⟨_, rfl⟩
  have hFm : F ≤ 160 := by rw [hF]; exact Nat.le_trans (Nat.mul_le_mul hN2 hq8) (by decide)
  have hmul : IntKind.i64.wrap ((N : Int) * (q : Int)) = (F : Int) := by
    have : ((N : Int) * (q : Int)) = (F : Int) := by rw [hF]; simp
    rw [this, IntKind.wrap_i64]
    omega
  have HN := Lib.hid hN
  have HF := Lib.hid hF
  have HN4 := Lib.hid hN4
  have hN5 : N1 < N := by omega
  have hN6 : N ≤ N1 + 1 := by omega
  clear hN hF hN4
  by_cases hlen : len ≤ 60
  · have hinv := Win.turn_start X N q 0 (keyL a) hN1
    go_enter Try.func5, Try.ntmps5
    go_wp2_with fail
    rw [← HN.out]
    refine (wnew_yes 3 16 N X _ (by omega) (by omega) (by omega) (by omega) (by omega) (by omega)).mono ?_
    rintro e w1 ⟨g, rfl, hb, hw⟩
    have hm := mine_new (Below.refl _ _) hb hw
    clear hb hw
    go_wp2
    rw [hq]
    go_loopw [14, 15] (fun t i wr => ∃ (k many : Nat), k ≤ len ∧ many ≤ k ∧ i = .int .i64 k ∧ t = nv many ∧ (∃ m top, Mine w wr g m ∧ Win.TurnInv m N q top (keyL a) k many ∧ top ≤ F + min k N1)) (fun _ i _ => len - (intOf i).toNat)
    case atStart => exact ⟨0, 0, by omega, by omega, rfl, rfl, ⟨_, 0, hm, hinv, by omega⟩⟩
    case round =>
      clear hm hinv
      obtain ⟨k, many, hk, hmk, rfl, rfl, ⟨m, top, hm, hinv, htop⟩⟩ := hrel
      by_cases hlt : k < len
      · have hr := hc.1.below hm.below
        have hcell := hr.cell k hlt
        have hidx := fun W => hr.index Try.prog 23 5 Try.underlying23 (by kernel_rfl) k hlt W
        obtain ⟨hx0, hx1⟩ := u8_of_wf (hc.2 _ (getD_mem_or (j := k) (by rw [hc.1.1]; exact hlt)))
        obtain ⟨x, hx⟩ : ∃ x, cs.getD k 0 = x := ⟨_, rfl⟩
        rw [hx] at hcell hx0 hx1
        have hQ := Lib.hid hx
        clear hx hr
        obtain ⟨mm, hmm⟩ : ∃ mm, min k N1 = mm := ⟨_, rfl⟩
        have hmm1 : mm ≤ N1 := by omega
        have hmm2 : mm ≤ k := by omega
        rw [hmm] at htop
        have hmm3 : mm ≤ min (k + 1) N1 := by omega
        have hdv : (F + mm) / N = q := by
          rw [HF.out, Nat.mul_add_div (by omega), Nat.div_eq_of_lt (by omega)]; rfl
        have HDV := Lib.hid hdv
        clear hdv
        by_cases hxa : x % 12 = a % 12
        · have HS := Lib.hid (Win.turn_step m N q top (F + mm) (keyL a) (keyS x).data.toList k many (many + 1) (by omega) hinv HDV.out htop (by omega) (.inr ⟨by rw [keyS_list, keyL_inj]; exact hxa, rfl⟩) hmk)
          have hbq : (x % 12 == a % 12) = true := by rw [beq_iff_eq]; exact hxa
          clear hinv hxa
          go_wp2_with fail
          refine (key_calls x _ hx0 hx1).mono ?_
          rintro e w_ ⟨rfl, hb2⟩
          replace hm := hm.next hb2
          clear hb2
          go_wp2_with fail
          rw [show ((F : Int) + (mm : Int)) = ((F + mm : Nat) : Int) from rfl]
          refine (wadd_calls _ g m ((F + mm : Nat) : Int) (keyS x) 1 _ hm.win (keyS_size x) (by omega)).mono ?_
          rintro e w_ ⟨rfl, hc, hw⟩
          replace hm := hm.step hc hw
          clear hc hw
          rw [HS.out.1]
          have hcell2 := (hc.1.below hm.below).cell k hlt
          rw [hQ.out] at hcell2
          clear hcell
          go_wp2
          go_roundw
          case rel => exact ⟨k + 1, many + 1, by omega, by omega, by go_num, rfl, ⟨_, _, hm, HS.out.2, by omega⟩⟩
          case measure => simp [intOf]; omega
        · have HS := Lib.hid (Win.turn_step m N q top (F + mm) (keyL a) (keyS x).data.toList k many many (by omega) hinv HDV.out htop (by omega) (.inl rfl) hmk)
          have hbq : (x % 12 == a % 12) = false := by rw [beq_eq_false_iff_ne]; exact hxa
          clear hinv hxa
          go_wp2_with fail
          refine (key_calls x _ hx0 hx1).mono ?_
          rintro e w_ ⟨rfl, hb2⟩
          replace hm := hm.next hb2
          clear hb2
          go_wp2_with fail
          rw [show ((F : Int) + (mm : Int)) = ((F + mm : Nat) : Int) from rfl]
          refine (wadd_calls _ g m ((F + mm : Nat) : Int) (keyS x) 1 _ hm.win (keyS_size x) (by omega)).mono ?_
          rintro e w_ ⟨rfl, hc, hw⟩
          replace hm := hm.step hc hw
          clear hc hw
          rw [HS.out.1]
          have hcell2 := (hc.1.below hm.below).cell k hlt
          rw [hQ.out] at hcell2
          clear hcell
          go_wp2
          go_roundw
          case rel => exact ⟨k + 1, many, by omega, by omega, by go_num, rfl, ⟨_, _, hm, HS.out.2, by omega⟩⟩
          case measure => simp [intOf]; omega
      · have hnow := hinv.now
        have hz : m.now / N ≤ q := by
          have h1 : m.now < N * (q + 1) := by
            rw [Nat.mul_add, Nat.mul_one, ← HF.out]
            omega
          exact Nat.le_of_lt_succ (Nat.div_lt_of_lt_mul h1)
        have h1 : (F + N) / N = q + 1 := by rw [Nat.add_div_right _ (by omega), HF.out, Nat.mul_div_cancel_left _ (by omega)]
        have h2 : (F + 2 * N) / N = q + 2 := by rw [show F + 2 * N = (F + N) + N by omega, Nat.add_div_right _ (by omega), h1]
        obtain rfl : k = len := by omega
        have HS := Lib.hid (Win.turn_end m N q top (F + N) (F + 2 * N) (keyL a) k many hlen hN1 hinv (by omega) h1 h2 (by omega) (by omega) hz hmk)
        clear hinv h1 h2 hz hnow htop
        obtain ⟨y, hy⟩ : ∃ y, m.closed ((F + N : Nat) : Int) (keyL a) = y := ⟨_, rfl⟩
        have hc1 := HS.out.2.1
        have hc2 := HS.out.2.2.1
        rw [hy] at hc1 hc2
        have HY := Lib.hid hy
        clear hy
        have t1 : decide (many ≤ y) = true := by simp; omega
        have t2 : decide (y ≤ k) = true := by simp; omega
        clear hc1 hc2
        go_wp2_with fail
        refine (key_calls (a % 12) _ (by omega) (by omega)).mono ?_
        rintro e w_ ⟨rfl, hb2⟩
        replace hm := hm.next hb2
        clear hb2
        go_wp2_with fail
        rw [show ((F : Int) + (N : Int)) = ((F + N : Nat) : Int) from rfl]
        refine (wclosed_calls _ g m ((F + N : Nat) : Int) (keyS (a % 12)) _ hm.win (keyS_size _)).mono ?_
        rintro e w_ ⟨rfl, hc, hw⟩
        replace hm := hm.step hc hw
        clear hc hw
        rw [keyS_list, keyL_mod, HS.out.1, HY.out]
        go_wp2_with fail
        refine (key_calls (a % 12) _ (by omega) (by omega)).mono ?_
        rintro e w_ ⟨rfl, hb2⟩
        replace hm := hm.next hb2
        clear hb2
        go_wp2_with fail
        rw [show ((F : Int) + 2 * (N : Int)) = ((F + 2 * N : Nat) : Int) from rfl]
        refine (wclosed_calls _ g _ ((F + 2 * N : Nat) : Int) (keyS (a % 12)) _ hm.win (keyS_size _)).mono ?_
        rintro e w_ ⟨rfl, hc, hw⟩
        replace hm := hm.step hc hw
        clear hc hw
        rw [keyS_list, keyL_mod, HS.out.2.2.2.1, HS.out.2.2.2.2]
        go_wp2_with fail
        refine (known_calls _).mono ?_
        rintro e w_ ⟨rfl, hb2⟩
        replace hm := hm.next hb2
        clear hb2
        go_wp2
        go_ret
        exact ⟨rfl, hm.below⟩
  · go_enter Try.func5, Try.ntmps5
    go_wp2_with fail
    rw [← HN.out]
    refine (wnew_yes 3 16 N X _ (by omega) (by omega) (by omega) (by omega) (by omega) (by omega)).mono ?_
    rintro e w1 ⟨g, rfl, hb, hw⟩
    have hm := mine_new (Below.refl _ _) hb hw
    clear hb hw
    go_wp2_with fail
    refine (known_calls _).mono ?_
    rintro e w_ ⟨rfl, hb2⟩
    replace hm := hm.next hb2
    clear hb2
    go_wp2
    go_ret
    exact ⟨rfl, hm.below⟩
end Go.Proofs.Ytiohjmpnkoohjaa.Tele
