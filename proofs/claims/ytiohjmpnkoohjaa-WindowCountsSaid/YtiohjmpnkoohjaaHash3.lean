/- The walks of package hash's functions on texts. No conditions but a text's length. -/
import Derived.Test.YtiohjmpnkoohjaaHash1
import Derived.Lib.Hide
namespace Go.Proofs.Ytiohjmpnkoohjaa.Tele
open Go.RowKit

theorem take_snoc (s : ByteArray) (k : Nat) (h : k < s.size) : s.data.toList.take (k + 1) = s.data.toList.take k ++ [s[k]] := by
  rw [List.take_succ_eq_append_getElem (by simpa using h)]; rfl
theorem fold1_eq (X : U) (b : UInt8) : IntKind.u64.wrap (bits .xor .u64 (X.toNat : Int) (IntKind.u64.wrap (b.toNat : Int)) * 1099511628211) = ((fold1 X b).toNat : Int) := by
  rw [wrapU (b.toNat : Int), BitVec.ofInt_natCast, u_xor]
  exact u_mul _ PR
theorem len_eq (X : U) (n : Nat) (hn : n ≤ 9223372036854775807) : bits .xor .u64 (X.toNat : Int) (n : Int) = ((X ^^^ BitVec.ofNat 64 n).toNat : Int) := by
  rw [← u_xor, BitVec.toNat_ofNat, Nat.mod_eq_of_lt (by omega)]

/-- What has been stirred behind k bytes. -/
def ofK (X : U) (s : ByteArray) (k : Nat) : U := (s.data.toList.take k).foldl fold1 (mix X)
theorem ofK_zero (X : U) (s : ByteArray) : ofK X s 0 = mix X := rfl
theorem ofK_succ (X : U) (s : ByteArray) (k : Nat) (h : k < s.size) : IntKind.u64.wrap (bits .xor .u64 ((ofK X s k).toNat : Int) (IntKind.u64.wrap (s[k].toNat : Int)) * 1099511628211) = ((ofK X s (k + 1)).toNat : Int) := by
  rw [fold1_eq]
  unfold ofK
  rw [take_snoc s k h, List.foldl_append]
  rfl
theorem ofK_end (X : U) (s : ByteArray) (k : Nat) (h : s.size ≤ k) : mix (ofK X s k ^^^ BitVec.ofNat 64 s.size) = of_ X s.data.toList := by
  unfold ofK of_
  rw [List.take_of_length_le (by simpa using h)]
  simp
theorem of_calls (X : U) (s : ByteArray) (w : World) (hs : s.size ≤ 140737488351232) : Calls Try.prog 32 #[uv X, .string s] w fun e w' => e = .returned (uv (of_ X s.data.toList)) ∧ Below w.heap.size w w' := by
  go_enter Try.func32, Try.ntmps32
  go_wp2_with (go_at_call 34; refine (mix_calls X _).mono ?_; rintro e w1 ⟨rfl, hb⟩)
  go_loop [5, 11] (fun x i => ∃ k : Nat, k ≤ s.size ∧ i = .int .i64 k ∧ x = uv (ofK X s k)) (fun _ i => s.size - (intOf i).toNat)
  case atStart => exact ⟨0, Nat.zero_le _, rfl, rfl⟩
  case round =>
    obtain ⟨k, hk, rfl, rfl⟩ := hrel
    by_cases hlt : k < s.size
    · have HF := Lib.hid (ofK_succ X s k hlt)
      go_wp2
      go_round
      case rel => exact ⟨k + 1, by omega, by go_num, by rw [HF.out]⟩
      case measure => simp [intOf]; omega
    · have HE := Lib.hid (ofK_end X s k (by omega))
      have HL := Lib.hid (len_eq (ofK X s k) s.size (by omega))
      go_wp2_with fail
      rw [HL.out]
      refine (mix_calls _ _).mono ?_
      rintro e w2 ⟨rfl, hb2⟩
      go_wp2
      go_ret
      exact ⟨by rw [← HE.out]; rfl, hb.trans (hb2.mono hb.size)⟩

theorem in_lo (X : U) (s : ByteArray) (n : Int) (w : World) (hn : n < 1) : Calls Try.prog 30 #[uv X, .string s, .int .i64 n] w fun e w' => e = .returned (.int .i64 (in_ X s.data.toList n)) ∧ Below w.heap.size w w' := by
  have hE : in_ X s.data.toList n = 0 := by unfold in_; rw [if_pos hn]
  rw [hE]
  clear hE
  go_enter Try.func30, Try.ntmps30
  go_wp2
  go_ret
  exact ⟨rfl, Below.refl _ _⟩
theorem in_hi (X : U) (s : ByteArray) (n : Int) (w : World) (hs : s.size ≤ 140737488351232) (hn : 1 ≤ n) (hn' : n ≤ 9223372036854775807) : Calls Try.prog 30 #[uv X, .string s, .int .i64 n] w fun e w' => e = .returned (.int .i64 (in_ X s.data.toList n)) ∧ Below w.heap.size w w' := by
  have hE : in_ X s.data.toList n = ((of_ X s.data.toList).toNat : Int) % n := by unfold in_; rw [if_neg (by omega)]
  have hr := in_range X s.data.toList n hn
  rw [hE] at *
  clear hE
  have hof := fun w => of_calls X s w hs
  generalize of_ X s.data.toList = Y at *
  have H := Lib.hid hof
  clear hof
  go_enter Try.func30, Try.ntmps30
  go_wp2_with (go_at_call 32; refine (H.out _).mono ?_; rintro e w1 ⟨rfl, hb⟩)
  go_ret
  exact ⟨by simp, hb⟩
theorem in_calls (X : U) (s : ByteArray) (n : Int) (w : World) (hs : s.size ≤ 140737488351232) (hn' : n ≤ 9223372036854775807) : Calls Try.prog 30 #[uv X, .string s, .int .i64 n] w fun e w' => e = .returned (.int .i64 (in_ X s.data.toList n)) ∧ Below w.heap.size w w' := by
  by_cases h : n < 1
  · exact in_lo X s n w h
  · exact in_hi X s n w hs (by omega) hn'
end Go.Proofs.Ytiohjmpnkoohjaa.Tele
