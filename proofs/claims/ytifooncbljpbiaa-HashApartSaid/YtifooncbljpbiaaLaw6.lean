/- The walks of the laws of layer 6. No conditions. -/
import Derived.Test.YtifooncbljpbiaaLawBack
import Derived.Test.YtifooncbljpbiaaRef6b
namespace Go.Proofs.Ytifooncbljpbiaa.Tele
open Go.RowKit

theorem hashWithin_walk (x : Int) (s : ByteArray) (n : Int) (w : World) (h : (Lit.int .u64 x).wf = true) (hs : s.size ≤ 140737488351232) (hn : (Lit.int .i64 n).wf = true) : Calls Try.prog 7 #[.int .u64 x, .string s, .int .i64 n] w fun e w' => e = .returned (.bool true) ∧ Below w.heap.size w w' := by
  obtain ⟨X, rfl⟩ := u_of_wf h
  have hn0 : -9223372036854775808 ≤ n ∧ n ≤ 9223372036854775807 := by simpa [Lit.wf, IntKind.min, IntKind.max, IntKind.bits, IntKind.signed] using hn
  obtain ⟨hn1, hn2⟩ := hn0
  clear h hn
  by_cases hl : s.size ≤ 300
  · by_cases hlt : n < 1
    · have e := fun w => in_lo X s n w hlt
      have hv : in_ X s.data.toList n = 0 := by unfold in_; rw [if_pos hlt]
      rw [hv] at e
      have H := Lib.hid e
      clear e hv
      go_enter Try.func7, Try.ntmps7
      go_wp2_with fail
      refine (known_calls _).mono ?_
      rintro e w1 ⟨rfl, hb⟩
      go_wp2_with fail
      refine (H.out _).mono ?_
      rintro e w_ ⟨rfl, hb2⟩
      replace hb := bnext hb hb2
      clear hb2
      go_wp2
      go_ret
      exact ⟨rfl, hb⟩
    · have e := fun w => in_hi X s n w hs (by omega) hn2
      obtain ⟨r1, r2⟩ := in_range X s.data.toList n (by omega)
      generalize in_ X s.data.toList n = v at *
      have H := Lib.hid e
      clear e
      go_enter Try.func7, Try.ntmps7
      go_wp2_with fail
      refine (known_calls _).mono ?_
      rintro e w1 ⟨rfl, hb⟩
      go_wp2_with fail
      refine (H.out _).mono ?_
      rintro e w_ ⟨rfl, hb2⟩
      replace hb := bnext hb hb2
      clear hb2
      go_wp2
      go_ret
      exact ⟨rfl, hb⟩
  · go_enter Try.func7, Try.ntmps7
    go_wp2_with fail
    refine (known_calls _).mono ?_
    rintro e w1 ⟨rfl, hb⟩
    go_wp2
    go_ret
    exact ⟨rfl, hb⟩
theorem hashMixes_walk (x k : Int) (w : World) (h : (Lit.int .u64 x).wf = true) (hk : (Lit.int .u8 k).wf = true) : Calls Try.prog 3 #[.int .u64 x, .int .u8 k] w fun e w' => e = .returned (.bool true) ∧ Below w.heap.size w w' := by
  obtain ⟨X, rfl⟩ := u_of_wf h
  have hk0 : 0 ≤ k ∧ k ≤ 255 := by simpa [Lit.wf, IntKind.min, IntKind.max, IntKind.bits, IntKind.signed] using hk
  obtain ⟨hk1, hk2⟩ := hk0
  clear h hk
  obtain ⟨Y, hY⟩ : ∃ Y : U, IntKind.u64.wrap (2 ^ (k % 64).toNat) = (Y.toNat : Int) := ⟨_, wrapU _⟩
  go_enter Try.func3, Try.ntmps3
  go_wp2_with fail
  refine (known_calls _).mono ?_
  rintro e w1 ⟨rfl, hb⟩
  go_wp2_with fail
  refine (mix_calls X _).mono ?_
  rintro e w_ ⟨rfl, hb2⟩
  replace hb := bnext hb hb2
  clear hb2
  go_wp2_with fail
  refine (refMix_calls X _).mono ?_
  rintro e w_ ⟨rfl, rfl⟩
  go_wp2_with fail
  refine (back_calls X _).mono ?_
  rintro e w_ ⟨rfl, hb2⟩
  replace hb := bnext hb hb2
  clear hb2
  go_wp2_with fail
  refine (refBack_calls X _).mono ?_
  rintro e w_ ⟨rfl, rfl⟩
  go_wp2_with fail
  refine (mix_calls Y _).mono ?_
  rintro e w_ ⟨rfl, hb2⟩
  replace hb := bnext hb hb2
  clear hb2
  go_wp2_with fail
  refine (refMix_calls Y _).mono ?_
  rintro e w_ ⟨rfl, rfl⟩
  go_wp2_with fail
  refine (back_calls Y _).mono ?_
  rintro e w_ ⟨rfl, hb2⟩
  replace hb := bnext hb hb2
  clear hb2
  go_wp2_with fail
  refine (refBack_calls Y _).mono ?_
  rintro e w_ ⟨rfl, rfl⟩
  go_wp2
  go_ret
  exact ⟨rfl, hb⟩
theorem hashTexts_walk (x : Int) (s : ByteArray) (n k : Int) (w : World) (h : (Lit.int .u64 x).wf = true) (hs : s.size ≤ 140737488351232) (hn : (Lit.int .i64 n).wf = true) (hk : (Lit.int .u16 k).wf = true) : Calls Try.prog 4 #[.int .u64 x, .string s, .int .i64 n, .int .u16 k] w fun e w' => e = .returned (.bool true) ∧ Below w.heap.size w w' := by
  obtain ⟨X, rfl⟩ := u_of_wf h
  have hn0 : -9223372036854775808 ≤ n ∧ n ≤ 9223372036854775807 := by simpa [Lit.wf, IntKind.min, IntKind.max, IntKind.bits, IntKind.signed] using hn
  have hk0 : 0 ≤ k ∧ k ≤ 65535 := by simpa [Lit.wf, IntKind.min, IntKind.max, IntKind.bits, IntKind.signed] using hk
  obtain ⟨hn1, hn2⟩ := hn0
  obtain ⟨hk1, hk2⟩ := hk0
  clear h hn hk
  by_cases hl : s.size ≤ 300
  · have c1 := Lib.hid (fun w => of_calls X s w hs)
    have c2 := Lib.hid (fun w => refOf_calls X s w hs)
    have c3 := Lib.hid (fun w => in_calls X s n w hs hn2)
    have c4 := Lib.hid (fun w => refIn_calls X s n w hs hn2)
    have c5 := Lib.hid (fun w => in_calls X s k w hs (by omega))
    have c6 := Lib.hid (fun w => refIn_calls X s k w hs (by omega))
    go_enter Try.func4, Try.ntmps4
    go_wp2_with fail
    refine (known_calls _).mono ?_
    rintro e w1 ⟨rfl, hb⟩
    go_wp2_with fail
    refine (c1.out _).mono ?_
    rintro e w_ ⟨rfl, hb2⟩
    replace hb := bnext hb hb2
    clear hb2
    go_wp2_with fail
    refine (c2.out _).mono ?_
    rintro e w_ ⟨rfl, rfl⟩
    go_wp2_with fail
    refine (c3.out _).mono ?_
    rintro e w_ ⟨rfl, hb2⟩
    replace hb := bnext hb hb2
    clear hb2
    go_wp2_with fail
    refine (c4.out _).mono ?_
    rintro e w_ ⟨rfl, rfl⟩
    go_wp2_with fail
    refine (c5.out _).mono ?_
    rintro e w_ ⟨rfl, hb2⟩
    replace hb := bnext hb hb2
    clear hb2
    go_wp2_with fail
    refine (c6.out _).mono ?_
    rintro e w_ ⟨rfl, rfl⟩
    go_wp2
    go_ret
    exact ⟨rfl, hb⟩
  · go_enter Try.func4, Try.ntmps4
    go_wp2_with fail
    refine (known_calls _).mono ?_
    rintro e w1 ⟨rfl, hb⟩
    go_wp2
    go_ret
    exact ⟨rfl, hb⟩
end Go.Proofs.Ytifooncbljpbiaa.Tele
