/- The walk of the law WindowTimes. No conditions. -/
import Derived.Test.YtiohjmpnkoohjaaWin3
import Derived.Test.YtiohjmpnkoohjaaPWin2
namespace Go.Proofs.Ytiohjmpnkoohjaa.Tele
open Go.RowKit
set_option linter.unusedVariables false
set_option linter.unusedSimpArgs false
attribute [local go_sem] min_nat max_nat

theorem u16_of_wf {x : Int} (h : (Lit.int .u16 x).wf = true) : ∃ q : Nat, x = (q : Int) ∧ q ≤ 65535 := by
  have h' : 0 ≤ x ∧ x ≤ 65535 := by simpa [Lit.wf, IntKind.min, IntKind.max, IntKind.bits, IntKind.signed] using h
  exact ⟨x.toNat, by omega, by omega⟩
def kS : ByteArray := ⟨#[107]⟩
theorem windowTimes_walk (x a b far : Int) (w : World) (hx : (Lit.int .u64 x).wf = true) (ha : (Lit.int .u16 a).wf = true) (hb : (Lit.int .u16 b).wf = true) (hf : (Lit.int .u16 far).wf = true) :
    Calls Try.prog 6 #[.int .u64 x, .int .u16 a, .int .u16 b, .int .u16 far] w fun e w' => e = .returned (.bool true) ∧ Below w.heap.size w w' := by
  obtain ⟨X, rfl⟩ := u_of_wf hx
  obtain ⟨a, rfl, ha1⟩ := u16_of_wf ha
  obtain ⟨b, rfl, hb1⟩ := u16_of_wf hb
  obtain ⟨f, rfl, hf1⟩ := u16_of_wf hf
  clear hx ha hb hf
  have HF := Win.times X (min a b) (max a b) (1099511627777 + (f : Int)) kS.data.toList (by omega) (by omega) (by omega)
  have hZ : min a b ≤ 65535 := by omega
  have hY : max a b ≤ 65535 := by omega
  have hle : min a b ≤ max a b := by omega
  obtain ⟨Z, hz⟩ : ∃ Z, min a b = Z := ⟨_, rfl⟩
  obtain ⟨Y, hy⟩ : ∃ Y, max a b = Y := ⟨_, rfl⟩
  rw [hz, hy] at HF
  rw [hz] at hZ hle
  rw [hy] at hY hle
  have HF := Lib.hid HF
  by_cases hxy : Z = Y
  · subst hxy
    clear hle
    go_enter Try.func6, Try.ntmps6
    go_wp2_with fail
    refine (wnew_yes 2 8 10 X _ (by omega) (by omega) (by omega) (by omega) (by omega) (by omega)).mono ?_
    rintro e w1 ⟨g, rfl, hb, hw⟩
    have hm := mine_new (Below.refl _ _) hb hw
    clear hb hw
    go_wp2_with fail
    refine (wadd_calls _ g (Win.new 2 8 X 10) (Z : Int) kS 2 _ hm.win (by decide) (by omega)).mono ?_
    rintro e w_ ⟨rfl, hc, hw⟩
    replace hm := hm.step hc hw
    clear hc hw
    rw [HF.out.1]
    go_wp2_with fail
    refine (wadd_calls _ g _ (Z : Int) kS 3 _ hm.win (by decide) (by omega)).mono ?_
    rintro e w_ ⟨rfl, hc, hw⟩
    replace hm := hm.step hc hw
    clear hc hw
    rw [HF.out.2.1, if_pos trivial]
    go_wp2_with fail
    refine (wadd_calls _ g _ _ kS 3 _ hm.win (by decide) (by omega)).mono ?_
    rintro e w_ ⟨rfl, hc, hw⟩
    replace hm := hm.step hc hw
    clear hc hw
    rw [HF.out.2.2.1]
    rw [HF.out.2.2.2.1] at hm
    go_wp2_with fail
    refine (wopen_calls _ g _ (Z : Int) kS _ hm.win (by decide)).mono ?_
    rintro e w_ ⟨rfl, hc, hw⟩
    replace hm := hm.step hc hw
    clear hc hw
    rw [HF.out.2.2.2.2.1, HF.out.2.2.2.2.2, if_pos trivial]
    go_wp2_with fail
    refine (known_calls _).mono ?_
    rintro e w_ ⟨rfl, hb2⟩
    replace hm := hm.next hb2
    clear hb2
    go_wp2
    go_ret
    exact ⟨rfl, hm.below⟩
  · have hne : ((Z : Int) == (Y : Int)) = false := by rw [beq_eq_false_iff_ne]; omega
    have hne' : (Z == Y) = false := by rw [beq_eq_false_iff_ne]; exact hxy
    go_enter Try.func6, Try.ntmps6
    go_wp2_with fail
    refine (wnew_yes 2 8 10 X _ (by omega) (by omega) (by omega) (by omega) (by omega) (by omega)).mono ?_
    rintro e w1 ⟨g, rfl, hb, hw⟩
    have hm := mine_new (Below.refl _ _) hb hw
    clear hb hw
    go_wp2_with fail
    refine (wadd_calls _ g (Win.new 2 8 X 10) (Y : Int) kS 2 _ hm.win (by decide) (by omega)).mono ?_
    rintro e w_ ⟨rfl, hc, hw⟩
    replace hm := hm.step hc hw
    clear hc hw
    rw [HF.out.1]
    go_wp2_with fail
    refine (wadd_calls _ g _ (Z : Int) kS 3 _ hm.win (by decide) (by omega)).mono ?_
    rintro e w_ ⟨rfl, hc, hw⟩
    replace hm := hm.step hc hw
    clear hc hw
    rw [HF.out.2.1, if_neg hxy]
    go_wp2_with fail
    refine (wadd_calls _ g _ _ kS 3 _ hm.win (by decide) (by omega)).mono ?_
    rintro e w_ ⟨rfl, hc, hw⟩
    replace hm := hm.step hc hw
    clear hc hw
    rw [HF.out.2.2.1]
    rw [HF.out.2.2.2.1] at hm
    go_wp2_with fail
    refine (wopen_calls _ g _ (Y : Int) kS _ hm.win (by decide)).mono ?_
    rintro e w_ ⟨rfl, hc, hw⟩
    replace hm := hm.step hc hw
    clear hc hw
    rw [HF.out.2.2.2.2.1, HF.out.2.2.2.2.2, if_neg hxy]
    go_wp2_with fail
    refine (known_calls _).mono ?_
    rintro e w_ ⟨rfl, hb2⟩
    replace hm := hm.next hb2
    clear hb2
    go_wp2
    go_ret
    exact ⟨rfl, hm.below⟩
end Go.Proofs.Ytiohjmpnkoohjaa.Tele
