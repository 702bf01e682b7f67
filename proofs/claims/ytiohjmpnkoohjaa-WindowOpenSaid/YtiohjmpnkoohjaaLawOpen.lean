/- The walk of the law WindowOpen. No conditions. -/
import Derived.Test.YtiohjmpnkoohjaaLawTimes
import Derived.Test.YtiohjmpnkoohjaaPWin3
namespace Go.Proofs.Ytiohjmpnkoohjaa.Tele
open Go.RowKit
set_option linter.unusedVariables false
set_option linter.unusedSimpArgs false

def kaS : ByteArray := ⟨#[107, 97]⟩
def oldS : ByteArray := ⟨#[111, 108, 100]⟩
theorem windowOpen_walk (x : Int) (ca : Option Addr) (len cap : Nat) (cs : List Int) (b : Int) (w : World) (hx : (Lit.int .u64 x).wf = true) (hc : IntRow .u8 w ca len cap cs) (hl : len * 1 ≤ 140737488351232) (hb : (Lit.int .u8 b).wf = true) :
    Calls Try.prog 3 #[.int .u64 x, .slice ca len cap, .int .u8 b] w fun e w' => e = .returned (.bool true) ∧ Below w.heap.size w w' := by
  obtain ⟨X, rfl⟩ := u_of_wf hx
  obtain ⟨hb0, hb1⟩ := u8_of_wf hb
  clear hx hb
  obtain ⟨N, hN, hN1, hN2⟩ : ∃ N : Nat, (N : Int) = 2 + b % 20 ∧ 2 ≤ N ∧ N ≤ 21 := ⟨(2 + b % 20).toNat, by omega, by omega, by omega⟩
  have HN := Lib.hid hN
  clear hN
  by_cases hlen : len ≤ 60
  · obtain ⟨he0, s0, hok0, h70, hinv⟩ := Win.open_start X N oldS.data.toList kaS.data.toList hN1 (by omega)
    have H7 := Lib.hid h70
    have HE := Lib.hid he0
    clear he0 h70
    go_enter Try.func3, Try.ntmps3
    go_wp2_with fail
    rw [← HN.out]
    refine (wnew_yes 4 64 N X _ (by omega) (by omega) (by omega) (by omega) (by omega) (by omega)).mono ?_
    rintro e w1 ⟨g, rfl, hb, hw⟩
    have hm := mine_new (Below.refl _ _) hb hw
    clear hb hw
    go_wp2_with fail
    refine (wadd_calls _ g _ 0 oldS 7 _ hm.win (by decide) (by omega)).mono ?_
    rintro e w_ ⟨rfl, hc, hw⟩
    replace hm := hm.step hc hw
    clear hc hw
    go_wp2
    go_loopw [9, 10] (fun t i wr => ∃ (k c : Nat), k ≤ len ∧ i = .int .i64 k ∧ t = nv c ∧ (∃ m, Mine w wr g m ∧ Win.OpenInv m N s0 kaS.data.toList c)) (fun _ i _ => len - (intOf i).toNat)
    case atStart => exact ⟨0, 0, by omega, rfl, rfl, ⟨_, hm, hinv⟩⟩
    case round =>
      clear hm hinv
      obtain ⟨k, c, hk, rfl, rfl, ⟨m, hm, hinv⟩⟩ := hrel
      by_cases hlt : k < len
      · have hr := hc.1.below hm.below
        have hcell := hr.cell k hlt
        have hidx := fun W => hr.index Try.prog 23 5 Try.underlying23 (by kernel_rfl) k hlt W
        obtain ⟨hx0, hx1⟩ := u8_of_wf (hc.2 _ (getD_mem_or (j := k) (by rw [hc.1.1]; exact hlt)))
        obtain ⟨x, hx⟩ : ∃ x, cs.getD k 0 = x := ⟨_, rfl⟩
        rw [hx] at hcell hx0 hx1
        have hQ := Lib.hid hx
        clear hx hr
        have HS := Lib.hid (Win.open_step m N s0 kaS.data.toList (keyS x).data.toList oldS.data.toList c (by omega) hinv H7.out)
        clear hinv
        go_wp2_with fail
        refine (key_calls x _ hx0 hx1).mono ?_
        rintro e w_ ⟨rfl, hb2⟩
        replace hm := hm.next hb2
        clear hb2
        go_wp2_with fail
        refine (wadd_calls _ g m (N : Int) (keyS x) 1 _ hm.win (keyS_size x) (by omega)).mono ?_
        rintro e w_ ⟨rfl, hc, hw⟩
        replace hm := hm.step hc hw
        clear hc hw
        rw [HS.out.1]
        go_wp2_with fail
        refine (wopen_calls _ g _ (N : Int) kaS _ hm.win (by decide)).mono ?_
        rintro e w_ ⟨rfl, hc, hw⟩
        replace hm := hm.step hc hw
        clear hc hw
        rw [HS.out.2.1]
        rw [HS.out.2.2.2.1] at hm
        go_wp2_with fail
        refine (wclosed_calls _ g _ (N : Int) oldS _ hm.win (by decide)).mono ?_
        rintro e w_ ⟨rfl, hc, hw⟩
        replace hm := hm.step hc hw
        clear hc hw
        rw [HS.out.2.1, HS.out.2.2.2.2.1]
        rw [HS.out.2.2.2.1] at hm
        have hlt2 : decide ((m.add (N : Int) (keyS x).data.toList 1).opened (N : Int) kaS.data.toList < c) = false := by have := HS.out.2.2.1; simp; omega
        obtain ⟨y, hy⟩ : ∃ y, (m.add (N : Int) (keyS x).data.toList 1).opened (N : Int) kaS.data.toList = y := ⟨_, rfl⟩
        rw [hy] at hlt2
        have HY := Lib.hid hy
        rw [hy]
        clear hy
        go_wp2
        go_roundw
        case rel => exact ⟨k + 1, y, by omega, by go_num, rfl, ⟨_, hm, by rw [← HY.out]; exact HS.out.2.2.2.2.2⟩⟩
        case measure => simp [intOf]; omega
      · go_wp2_with fail
        refine (known_calls _).mono ?_
        rintro e w_ ⟨rfl, hb2⟩
        replace hm := hm.next hb2
        clear hb2
        go_wp2
        go_ret
        exact ⟨rfl, hm.below⟩
  · go_enter Try.func3, Try.ntmps3
    go_wp2_with fail
    rw [← HN.out]
    refine (wnew_yes 4 64 N X _ (by omega) (by omega) (by omega) (by omega) (by omega) (by omega)).mono ?_
    rintro e w1 ⟨g, rfl, hb, hw⟩
    have hm := mine_new (Below.refl _ _) hb hw
    clear hb hw
    go_wp2_with fail
    refine (known_calls _).mono ?_
    rintro e w_ ⟨rfl, hb2⟩
    replace hm := hm.next hb2
    clear hb2
    go_wp2
    go_ret
    exact ⟨rfl, hm.below⟩
end Go.Proofs.Ytiohjmpnkoohjaa.Tele
