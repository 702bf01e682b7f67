/- The walks of a rate's New and Ask. No conditions but that a rate is one. -/
import Derived.Test.YtjpfamminemegaaRate1
import Derived.Test.YtjpfamminemegaaBaseC
import Derived.Deep.RegionHeld3
namespace Go.Proofs.Ytjpfamminemegaa.Tele
open Go.RowKit
set_option linter.unusedVariables false
set_option linter.unusedSimpArgs false

/-- Block r is a rate over a window that hangs on the blocks of O alone. -/
def IsRate (w : World) (O : Nat → Prop) (r t : Nat) (m : Win) : Prop := ∃ g, Blk w r 63 #[pv g, nv t] ∧ IsWin w O g m ∧ ¬ O r
theorem IsRate.next {w w' : World} {O : Nat → Prop} {r t : Nat} {m : Win} (h : IsRate w O r t m) (k : Below w.heap.size w w') : IsRate w' O r t m := by
  obtain ⟨g, h1, h2, h3⟩ := h
  exact ⟨g, h1.next k, h2.next k, h3⟩
theorem rnew_yes (rows W long t : Nat) (seed : U) (w : World) (h1 : 1 ≤ rows) (h2 : rows ≤ 8) (h3 : 1 ≤ W) (h4 : W ≤ 1024) (h5 : 1 ≤ long) (h6 : long ≤ 1099511627776) (ht : 1 ≤ t) :
    Calls Try.prog 16 #[.int .i64 (rows : Int), .int .i64 (W : Int), uv seed, .int .i64 (long : Int), nv t] w fun e w' => ∃ r, e = .returned (pv r) ∧ Below w.heap.size w w' ∧ w.heap.size ≤ r ∧ IsRate w' (fun j => w.heap.size ≤ j ∧ j < r) r t (Win.new rows W seed long) := by
  have h0 : ((t : Int) == 0) = false := by rw [beq_eq_false_iff_ne]; omega
  go_enter Try.func16, Try.ntmps16
  go_wp2_with fail
  refine (wnew_yes rows W long seed _ h1 h2 h3 h4 h5 h6).mono ?_
  rintro e w1 ⟨g, rfl, hb, hw⟩
  go_wp2
  go_ret
  refine ⟨w1.heap.size, rfl, bl_alloc hb _, hb.size, g, Blk.new _ _ _, (hw.next (bl_alloc (Below.refl _ _) _)).mono ?_, ?_⟩
  · intro j hj
    rcases hj with hj | hj
    · exact hj.elim
    · exact hj
  · intro hh
    exact Nat.lt_irrefl _ hh.2
theorem rnew_no (rows W long : Nat) (seed : U) (w : World) (h1 : 1 ≤ rows) (h2 : rows ≤ 8) (h3 : 1 ≤ W) (h4 : W ≤ 1024) (h5 : 1 ≤ long) (h6 : long ≤ 1099511627776) :
    Calls Try.prog 16 #[.int .i64 (rows : Int), .int .i64 (W : Int), uv seed, .int .i64 (long : Int), .int .u64 0] w fun e w' => e = .returned (.pointer none) ∧ Below w.heap.size w w' := by
  go_enter Try.func16, Try.ntmps16
  go_wp2_with fail
  refine (wnew_yes rows W long seed _ h1 h2 h3 h4 h5 h6).mono ?_
  rintro e w1 ⟨g, rfl, hb, hw⟩
  go_wp2
  go_ret
  exact ⟨rfl, hb⟩
def Win.askd (m : Win) (t : Nat) (now : Int) (key : List UInt8) : Nat := if m.ok now then by_ t (m.closed now key) else 0
def Win.ask (m : Win) (now : Int) (key : List UInt8) : Win := if m.ok now then (m.turn now.toNat).add now key 1 else m
theorem closed_small (m : Win) (now : Int) (key : List UInt8) : m.closed now key < 18446744073709551616 := by
  unfold Win.closed
  split
  · split
    · next s _ => exact Nat.lt_succ_of_le (Sk.countK_le s key s.rows)
    · decide
  · decide
theorem turn_now (m : Win) (t : Nat) : (m.turn t).now = t := by
  unfold Win.turn
  split
  · rfl
  · split <;> rfl
theorem ask_no (O : Nat → Prop) (r t : Nat) (m : Win) (now : Int) (key : ByteArray) (w : World) (h : IsRate w O r t m) (hk : key.size ≤ 140737488351232) (hno : m.ok now = false) :
    Calls Try.prog 18 #[pv r, .int .i64 now, .string key] w fun e w' => e = .returned (.tuple #[nv 0, .int .u16 60]) ∧ Chg O w w' ∧ IsRate w' (Plus O w w') r t m := by
  obtain ⟨g, hB, hW, hO⟩ := h
  have q0 := hB.cell 0
  simp only [List.size_toArray, List.getElem?_toArray, List.getElem?_cons_zero, List.getElem?_cons_succ] at q0
  have hcc := wclosed_calls O g m now key w hW hk
  have hE : m.err now = 60 := by unfold Win.err; rw [hno]; rfl
  have hA : m.turnAny now = m := by unfold Win.turnAny; rw [hno]; rfl
  have hC : m.closed now key.data.toList = 0 := by unfold Win.closed; rw [hno]; rfl
  rw [hE, hA, hC] at hcc
  have HC := Lib.hid hcc
  clear hcc
  go_enter Try.func18, Try.ntmps18
  go_wp2_with fail
  refine HC.out.mono ?_
  rintro e w1 ⟨rfl, hc, hw⟩
  go_wp2
  go_ret2
  refine ⟨rfl, hc, g, hB.chg hc hO, hw, ?_⟩
  rintro (hh | hh)
  · exact hO hh
  · exact Nat.not_le_of_lt hB.lt hh.1
theorem ask_yes (O : Nat → Prop) (r t : Nat) (m : Win) (now : Nat) (key : ByteArray) (w : World) (h : IsRate w O r t m) (hk : key.size ≤ 140737488351232) (hyes : m.ok (now : Int) = true) (hn : now ≤ 1099511627776) :
    Calls Try.prog 18 #[pv r, .int .i64 (now : Int), .string key] w fun e w' => e = .returned (.tuple #[nv (by_ t (m.closed now key.data.toList)), .int .u16 0]) ∧ Chg O w w' ∧ IsRate w' (Plus O w w') r t ((m.turn now).add now key.data.toList 1) := by
  obtain ⟨g, hB, hW, hO⟩ := h
  have q0 := hB.cell 0
  simp only [List.size_toArray, List.getElem?_toArray, List.getElem?_cons_zero, List.getElem?_cons_succ] at q0
  have hcc := wclosed_calls O g m now key w hW hk
  have hE : m.err (now : Int) = 0 := by unfold Win.err; rw [hyes]; rfl
  have hA : m.turnAny (now : Int) = m.turn now := by unfold Win.turnAny; rw [hyes]; rfl
  rw [hE, hA] at hcc
  have HC := Lib.hid hcc
  have hcs := closed_small m now key.data.toList
  obtain ⟨c, hcv⟩ : ∃ c, c = m.closed now key.data.toList := ⟨_, rfl⟩
  rw [← hcv] at hcs HC ⊢
  have HB := Lib.hid (fun w => by_calls t c w hcs)
  have hE2 : (m.turn now).err (now : Int) = 0 := by
    unfold Win.err Win.ok
    rw [turn_now]
    simp
    omega
  clear hcc hcv
  generalize by_ t c = b at *
  obtain ⟨m2, hm2⟩ : ∃ m2, m2 = (m.turn now).add now key.data.toList 1 := ⟨_, rfl⟩
  rw [← hm2]
  go_enter Try.func18, Try.ntmps18
  go_wp2_with fail
  refine HC.out.mono ?_
  rintro e w1 ⟨rfl, hc, hw⟩
  have hB1 := hB.chg hc hO
  have r0 := hB1.cell 0
  have r1 := hB1.cell 1
  simp only [List.size_toArray, List.getElem?_toArray, List.getElem?_cons_zero, List.getElem?_cons_succ] at r0 r1
  have HAdd : Hid (∀ W, Below w1.heap.size w1 W → Calls Try.prog 29 #[pv g, .int .i64 (now : Int), .string key, .int .u64 1] W fun e w' => e = .returned (.int .u16 0) ∧ Chg O w w' ∧ IsWin w' (Plus O w w') g m2 ∧ Blk w' r 63 #[pv g, nv t] ∧ (w'.cell? ⟨r, 0, none⟩ = some (pv g) ∧ w'.cell? ⟨r, 1, none⟩ = some (nv t))) := by
    refine Lib.hid fun W hW => ?_
    have hcW := hc.thenB hW
    have hBW := hB1.next hW
    refine (wadd_calls (Plus O w w1) g (m.turn now) now key 1 W (hw.next hW) hk (by omega)).mono ?_
    rintro e w' ⟨rfl, h1, h2⟩
    have hnr : ¬ Plus O w w1 r := by
      rintro (hh | hh)
      · exact hO hh
      · exact Nat.not_le_of_lt hB.lt hh.1
    have hB2 := hBW.chg h1 hnr
    have e0 := hB2.cell 0
    have e1 := hB2.cell 1
    simp only [List.size_toArray, List.getElem?_toArray, List.getElem?_cons_zero, List.getElem?_cons_succ] at e0 e1
    refine ⟨by rw [hE2], hcW.trans h1 ?_, ?_, hB2, e0, e1⟩
    · intro j hj hh
      rcases hh with hh | hh
      · exact hh
      · exact absurd hh.1 (Nat.not_le_of_lt hj)
    · rw [hm2]
      refine h2.mono fun j hj => ?_
      have s1 := hW.size
      have s2 := h1.size
      rcases hj with (hj | hj) | hj
      · exact .inl hj
      · exact .inr ⟨hj.1, by omega⟩
      · have := hc.size
        exact .inr ⟨by omega, hj.2⟩
  have hrl := hB.lt
  clear q0 hE hE2 hcs HC hB1 hw hB hA hW
  go_wp2
  go_region_held3 (fun w' => w'.cell? ⟨r, 0, none⟩ = some (pv g) ∧ w'.cell? ⟨r, 1, none⟩ = some (nv t))
    (first | go_keep | exact hcells)
    (first | (go_at_call 12; (with_reducible refine (HB.out _).mono ?_); rintro e w2 ⟨rfl, n, rfl⟩) | (go_at_call 29; (with_reducible refine (HAdd.out _ (by repeat (first | exact Below.refl _ _ | refine pw_below_drewN ?_ _ | refine Below.drew ?_))).mono ?_); rintro e w3 ⟨rfl, hc3, hw3, hB3, hcells⟩))
  all_goals go_wp2
  go_ret2
  refine ⟨rfl, hc3, g, hB3, hw3, ?_⟩
  rintro (hh | hh)
  · exact hO hh
  · exact Nat.not_le_of_lt hrl hh.1
theorem ask_calls (O : Nat → Prop) (r t : Nat) (m : Win) (now : Int) (key : ByteArray) (w : World) (h : IsRate w O r t m) (hk : key.size ≤ 140737488351232) :
    Calls Try.prog 18 #[pv r, .int .i64 now, .string key] w fun e w' => e = .returned (.tuple #[nv (m.askd t now key.data.toList), .int .u16 (m.err now)]) ∧ Chg O w w' ∧ IsRate w' (Plus O w w') r t (m.ask now key.data.toList) := by
  rcases ok_cases m now with hno | ⟨n, rfl, hn1, hn2, hyes⟩
  · have e1 : m.askd t now key.data.toList = 0 := if_neg (by rw [hno]; decide)
    have e2 : m.ask now key.data.toList = m := if_neg (by rw [hno]; decide)
    have e3 : m.err now = 60 := if_neg (by rw [hno]; decide)
    rw [e1, e2, e3]
    exact ask_no O r t m now key w h hk hno
  · have e1 : m.askd t (n : Int) key.data.toList = by_ t (m.closed (n : Int) key.data.toList) := if_pos hyes
    have e2 : m.ask (n : Int) key.data.toList = (m.turn (n : Int).toNat).add (n : Int) key.data.toList 1 := if_pos hyes
    have e3 : m.err (n : Int) = 0 := if_pos hyes
    rw [e1, e2, e3, Int.toNat_natCast]
    exact ask_yes O r t m n key w h hk hyes hn2
end Go.Proofs.Ytjpfamminemegaa.Tele
