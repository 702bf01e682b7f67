/- The walk of the law ProbWeighs. No conditions but that the library's table is as it was laid. -/
import Derived.Test.YtaejdkfonlkhaaaDoorNear
import Derived.Test.YtaejdkfonlkhaaaDoorPCtz
namespace Go.Proofs.YtaejdkfonlkhaaaDoor.Tele
open Go.RowKit
set_option linter.unusedVariables false
set_option linter.unusedSimpArgs false

theorem weighs_walk (v t n d K g : Nat) (a k : Int) (w : World) (hT : Tab w) (hv : v < 18446744073709551616)
    (N : Hid (∀ w, Calls Tryd.prog 16 #[.int .u64 a, .int .u8 k] w fun e w' => e = .returned (.int .u64 (v : Int)) ∧ w' = w))
    (ht : (v : Int) % 72057594037927936 = (t : Int))
    (W : Hid (∀ w, Tab w → Calls Tryd.prog 15 #[.int .u64 (t : Int)] w fun e w' => e = .returned (.tuple #[.int .u64 (n : Int), .int .u64 (d : Int), .int .u16 0]) ∧ ∃ n, w' = w.drewN n))
    (P : Hid (∀ w, Calls Tryd.prog 22 #[.int .u64 (t : Int)] w fun e w' => e = .returned (.int .u64 (K : Int)) ∧ w' = w))
    (hd0 : ((d : Int) == 0) = false) (hr : (K : Int) % (d : Int) = 0) (hq : (K : Int) / (d : Int) = (g : Int)) (hgw : IntKind.u64.wrap (g : Int) = (g : Int)) (hg : (IntKind.u64.wrap ((g : Int) * (n : Int)) == 72057594037927936) = true) (hdo : (d : Int) % 2 = 1) (hK : (K : Int) ≤ 72057594037927936) (hd : (d : Int) ≤ 72057594037927936) (hd1 : 1 ≤ (d : Int)) :
    Calls Tryd.prog 10 #[.int .u64 a, .int .u8 k] w fun e w' => e = .returned (.bool true) ∧ Below w.heap.size w w' := by
  by_cases hn : (n : Int) % 2 = 1
  · go_enter Tryd.func10, Tryd.ntmps10
    go_wp2_with fail
    refine (N.out _).mono ?_
    rintro e w1 ⟨rfl, rfl⟩
    go_wp2_with fail
    refine (W.out _ (by exact hT)).mono ?_
    rintro e w1 ⟨rfl, n1, rfl⟩
    go_wp2_with fail
    refine (known_calls _ (by exact hT)).mono ?_
    rintro e w2 ⟨rfl, hb⟩
    have hb := bnext (pw_below_drewN (Below.refl _ _) _) hb
    go_wp2_with fail
    refine (P.out _).mono ?_
    rintro e w1 ⟨rfl, rfl⟩
    go_wp2_with fail
    refine (P.out _).mono ?_
    rintro e w1 ⟨rfl, rfl⟩
    go_wp2
    go_ret
    exact ⟨rfl, hb⟩
  · have hn0 : (n : Int) % 2 = 0 := by omega
    clear hn
    go_enter Tryd.func10, Tryd.ntmps10
    go_wp2_with fail
    refine (N.out _).mono ?_
    rintro e w1 ⟨rfl, rfl⟩
    go_wp2_with fail
    refine (W.out _ (by exact hT)).mono ?_
    rintro e w1 ⟨rfl, n1, rfl⟩
    go_wp2_with fail
    refine (known_calls _ (by exact hT)).mono ?_
    rintro e w2 ⟨rfl, hb⟩
    have hb := bnext (pw_below_drewN (Below.refl _ _) _) hb
    go_wp2_with fail
    refine (P.out _).mono ?_
    rintro e w1 ⟨rfl, rfl⟩
    go_wp2_with fail
    refine (P.out _).mono ?_
    rintro e w1 ⟨rfl, rfl⟩
    go_wp2
    go_ret
    exact ⟨rfl, hb⟩
theorem probWeighs_walk (a k : Int) (w : World) (ha : (Lit.int .u64 a).wf = true) (hk : (Lit.int .u8 k).wf = true) (hT : Tab w) :
    Calls Tryd.prog 10 #[.int .u64 a, .int .u8 k] w fun e w' => e = .returned (.bool true) ∧ Below w.heap.size w w' := by
  obtain ⟨a, rfl, ha1⟩ := nat_of_wf ha
  obtain ⟨hk0, hk1⟩ := u8_of_wf hk
  obtain ⟨v, hv, N⟩ := near_any (a : Int) k (by omega) (by omega) hk0 hk1
  obtain ⟨t, ht⟩ : ∃ t, t = v % 72057594037927936 := ⟨_, rfl⟩
  have ht1 : t < 72057594037927936 := by omega
  have HW := fun w => weight_calls t w ht1
  have HK := fun w => kept_calls t w
  obtain ⟨K, hK⟩ : ∃ K, K = 72057594037927936 - t := ⟨_, rfl⟩
  obtain ⟨s, d, n, e, hs, hn, hd, f1, f2, f3, f4, f5, f6, f7⟩ := weigh_plain K (by omega) (by omega)
  rw [← hK, e, hn, hd] at HW
  rw [← hK] at HK
  have hdiv : K / d = 2 ^ s := by rw [f1]; exact Nat.mul_div_cancel _ (by omega)
  have hmod : K % d = 0 := by rw [f1]; exact Nat.mul_mod_left _ _
  have hdK : d ≤ K := by rw [← hd]; exact Nat.div_le_self _ _
  refine weighs_walk v t n d K (2 ^ s) a k w hT hv (Lib.hid N) (by omega) (Lib.hid HW) (Lib.hid HK) ?_ ?_ ?_ (wrapN _ (by omega)) ?_ (by omega) (by omega) (by omega) (by omega)
  · rw [beq_eq_false_iff_ne]; omega
  · rw [← Int.natCast_emod, hmod]; rfl
  · rw [← Int.natCast_ediv, hdiv]
  · rw [← Int.natCast_mul, f2, wrapN _ (by omega)]; rfl
end Go.Proofs.YtaejdkfonlkhaaaDoor.Tele
