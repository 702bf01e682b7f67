/- The walk of the law RateFirst. No conditions. -/
import Derived.Test.YtjpfamminemegaaRate3
import Derived.Test.YtjpfamminemegaaPRate2
import Derived.Test.YtjpfamminemegaaOpenRows
namespace Go.Proofs.Ytjpfamminemegaa.Tele
open Go.RowKit
set_option linter.unusedVariables false
set_option linter.unusedSimpArgs false

def rkKa : ByteArray := ⟨#[107, 97]⟩
theorem rateFirst_walk (x : Int) (ca : Option Addr) (len cap : Nat) (cs : List Int) (b g : Int) (w : World) (hx : (Lit.int .u64 x).wf = true) (hc : IntRow .u8 w ca len cap cs) (hl : len * 1 ≤ 140737488351232) (hb : (Lit.int .u8 b).wf = true) (hg : (Lit.int .u8 g).wf = true) :
    Calls Try.prog 8 #[.int .u64 x, .slice ca len cap, .int .u8 b, .int .u8 g] w fun e w' => e = .returned (.bool true) ∧ Below w.heap.size w w' := by
  obtain ⟨X, rfl⟩ := u_of_wf hx
  obtain ⟨hb0, hb1⟩ := u8_of_wf hb
  obtain ⟨hg0, hg1⟩ := u8_of_wf hg
  clear hx hb hg
  obtain ⟨N, hN, hN1, hN2⟩ : ∃ N : Nat, 1 + b % 20 = (N : Int) ∧ 1 ≤ N ∧ N ≤ 20 := ⟨(1 + b % 20).toNat, by omega, by omega, by omega⟩
  obtain ⟨T, hT, hT1, hT2⟩ : ∃ T : Nat, 1 + g % 3 = (T : Int) ∧ 1 ≤ T ∧ T ≤ 3 := ⟨(1 + g % 3).toNat, by omega, by omega, by omega⟩
  by_cases hlen : len ≤ 50
  · have hinv := Win.first_start 3 32 N X
    have h2N := Lib.hid (show (2 : Int) * (N : Int) = ((2 * N : Nat) : Int) by omega)
    go_enter Try.func8, Try.ntmps8
    go_wp2_with fail
    refine (rnew_mine 3 32 N T X w _ (Below.refl _ _) (by omega) (by omega) (by omega) (by omega) (by omega) (by omega) (by omega)).mono ?_
    rintro e w1 ⟨r, rfl, hm⟩
    go_wp2
    go_loopw [11] (fun i wr => ∃ (k : Nat), k ≤ len ∧ i = .int .i64 k ∧ (∃ m, RMine w wr r T m ∧ Win.FirstInv m N)) (fun i _ => len - (intOf i).toNat)
    case atStart => exact ⟨0, by omega, rfl, ⟨_, hm, hinv⟩⟩
    case round =>
      clear hm hinv
      obtain ⟨k, hk, rfl, ⟨m, hm, hinv⟩⟩ := hrel
      by_cases hlt : k < len
      · have hr := hc.1.below hm.below
        have hcell := hr.cell k hlt
        have hidx := fun W => hr.index Try.prog 33 5 Try.underlying33 (by kernel_rfl) k hlt W
        obtain ⟨hx0, hx1⟩ := u8_of_wf (hc.2 _ (getD_mem_or (j := k) (by rw [hc.1.1]; exact hlt)))
        obtain ⟨x, hx⟩ : ∃ x, cs.getD k 0 = x := ⟨_, rfl⟩
        rw [hx] at hcell hx0 hx1
        have hQ := Lib.hid hx
        clear hx hr
        have HS := Lib.hid (Win.first_step m N T (keyS x).data.toList hinv)
        clear hinv
        go_wp2_with fail
        refine (key_calls x _ hx0 hx1).mono ?_
        rintro e w_ ⟨rfl, hb2⟩
        replace hm := hm.next hb2
        clear hb2
        go_wp2_with fail
        refine (ask_mine w r T m 0 (keyS x) _ hm (keyS_size x)).mono ?_
        rintro e w3 ⟨rfl, hm3⟩
        rw [HS.out.1, HS.out.2.1]
        clear hm
        go_wp2
        go_roundw
        case rel => exact ⟨k + 1, by omega, by go_num, ⟨_, hm3, HS.out.2.2⟩⟩
        case measure => simp [intOf]; omega
      · have HE := Lib.hid (Win.first_end m N T rkKa.data.toList hinv hN1 (by omega))
        clear hinv
        go_wp2_with fail
        rw [h2N.out]
        refine (ask_mine w r T m _ rkKa _ hm (by decide)).mono ?_
        rintro e w3 ⟨rfl, hm3⟩
        rw [HE.out.1, HE.out.2]
        clear hm
        go_wp2_with fail
        refine (rknown_calls _).mono ?_
        rintro e w_ ⟨rfl, hb2⟩
        replace hm3 := hm3.next hb2
        clear hb2
        go_wp2
        go_ret
        exact ⟨rfl, hm3.below⟩
  · go_enter Try.func8, Try.ntmps8
    go_wp2_with fail
    refine (rnew_mine 3 32 N T X w _ (Below.refl _ _) (by omega) (by omega) (by omega) (by omega) (by omega) (by omega) (by omega)).mono ?_
    rintro e w1 ⟨r, rfl, hm⟩
    go_wp2_with fail
    refine (rknown_calls _).mono ?_
    rintro e w_ ⟨rfl, hb2⟩
    replace hm := hm.next hb2
    clear hb2
    go_wp2
    go_ret
    exact ⟨rfl, hm.below⟩
end Go.Proofs.Ytjpfamminemegaa.Tele
