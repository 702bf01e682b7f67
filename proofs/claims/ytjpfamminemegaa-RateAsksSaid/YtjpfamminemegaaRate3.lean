/- The chapter's examples on rates hold. No conditions. -/
import Derived.Test.YtjpfamminemegaaRate2
import Derived.Test.YtjpfamminemegaaBaseB
namespace Go.Proofs.Ytjpfamminemegaa.Tele
open Go.RowKit
set_option linter.unusedVariables false
set_option linter.unusedSimpArgs false

/-- What a law knows of the one rate that it made: all its blocks are new. -/
structure RMine (w0 w : World) (r t : Nat) (m : Win) : Prop where
  below : Below w0.heap.size w0 w
  rate : ∃ O : Nat → Prop, IsRate w O r t m ∧ ∀ j, O j → w0.heap.size ≤ j
theorem RMine.next {w0 w1 w2 : World} {r t : Nat} {m : Win} (h : RMine w0 w1 r t m) (k : Below w1.heap.size w1 w2) : RMine w0 w2 r t m := by
  obtain ⟨O, h1, h2⟩ := h.rate
  exact ⟨bnext h.below k, O, h1.next k, h2⟩
theorem rnew_mine (rows W long t : Nat) (seed : U) (w0 w : World) (h0 : Below w0.heap.size w0 w) (h1 : 1 ≤ rows) (h2 : rows ≤ 8) (h3 : 1 ≤ W) (h4 : W ≤ 1024) (h5 : 1 ≤ long) (h6 : long ≤ 1099511627776) (ht : 1 ≤ t) :
    Calls Try.prog 16 #[.int .i64 (rows : Int), .int .i64 (W : Int), uv seed, .int .i64 (long : Int), nv t] w fun e w' => ∃ r, e = .returned (pv r) ∧ RMine w0 w' r t (Win.new rows W seed long) := by
  refine (rnew_yes rows W long t seed w h1 h2 h3 h4 h5 h6 ht).mono ?_
  rintro e w' ⟨r, rfl, hb, hr, hR⟩
  have := h0.size
  exact ⟨r, rfl, bnext h0 hb, _, hR, fun j hj => by omega⟩
theorem ask_mine (w0 : World) (r t : Nat) (m : Win) (now : Int) (key : ByteArray) (w : World) (h : RMine w0 w r t m) (hk : key.size ≤ 140737488351232) :
    Calls Try.prog 18 #[pv r, .int .i64 now, .string key] w fun e w' => e = .returned (.tuple #[nv (m.askd t now key.data.toList), .int .u16 (m.err now)]) ∧ RMine w0 w' r t (m.ask now key.data.toList) := by
  obtain ⟨O, h1, h2⟩ := h.rate
  refine (ask_calls O r t m now key w h1 hk).mono ?_
  rintro e w' ⟨rfl, hc, hR⟩
  have := h.below.size
  exact ⟨rfl, bchg h.below hc h2, _, hR, fun j hj => by
    rcases hj with hj | hj
    · exact h2 j hj
    · omega⟩
def rkA : ByteArray := ⟨#[97]⟩
theorem rk_facts : toward 0 72057594037927935 2 = 36028797018963968 ∧ (Win.new 2 8 1#64 10).askd 1 0 [97] = 0 ∧ (Win.new 2 8 1#64 10).err 0 = 0 ∧ by_ 1 4 = 54043195528445952 ∧ by_ 5 4 = 0 := by decide +kernel
theorem rknown_calls (w : World) : Calls Try.prog 11 #[] w fun e w' => e = .returned (.bool true) ∧ Below w.heap.size w w' := by
  have kf := rk_facts
  have KT := Lib.hid (fun w => by have := toward_ok 0 72057594037927935 2 w (by omega) (by omega) (by omega) (by omega); rw [kf.1] at this; exact this)
  have KE := Lib.hid (fun w => toward_err 0 0 0 w (.inr rfl))
  have K1 := Lib.hid (fun w => by have := by_calls 1 4 w (by omega); rw [kf.2.2.2.1] at this; exact this)
  have K2 := Lib.hid (fun w => by have := by_calls 5 4 w (by omega); rw [kf.2.2.2.2] at this; exact this)
  have KC := Lib.hid (fun w => clamp_calls 5 1 3 w)
  have KF := Lib.hid kf
  clear kf
  go_enter Try.func11, Try.ntmps11
  go_wp2_with fail
  refine (KT.out _).mono ?_
  rintro e w1 ⟨rfl, n1, rfl⟩
  go_wp2_with fail
  refine (KE.out _).mono ?_
  rintro e w1 ⟨rfl, rfl⟩
  go_wp2_with fail
  refine (rnew_mine 2 8 10 1 1#64 w _ (pw_below_drewN (Below.refl _ _) _) (by omega) (by omega) (by omega) (by omega) (by omega) (by omega) (by omega)).mono ?_
  rintro e w1 ⟨r, rfl, hm⟩
  go_wp2_with fail
  refine (rnew_no 2 8 10 1#64 _ (by omega) (by omega) (by omega) (by omega) (by omega) (by omega)).mono ?_
  rintro e w2 ⟨rfl, hb⟩
  replace hm := hm.next hb
  clear hb
  go_wp2_with fail
  refine (ask_mine w r 1 _ 0 rkA _ hm (by decide)).mono ?_
  rintro e w3 ⟨rfl, hm2⟩
  rw [show (Win.new 2 8 1#64 10).askd 1 0 rkA.data.toList = 0 from KF.out.2.1, KF.out.2.2.1]
  have hb3 := hm2.below
  clear hm hm2
  go_wp2_with fail
  refine (K1.out _).mono ?_
  rintro e w4 ⟨rfl, n4, rfl⟩
  go_wp2_with fail
  refine (K2.out _).mono ?_
  rintro e w5 ⟨rfl, n5, rfl⟩
  go_wp2_with fail
  refine (KC.out _).mono ?_
  rintro e w6 ⟨rfl, rfl⟩
  go_wp2
  go_ret
  exact ⟨rfl, pw_below_drewN hb3 _⟩
end Go.Proofs.Ytjpfamminemegaa.Tele
