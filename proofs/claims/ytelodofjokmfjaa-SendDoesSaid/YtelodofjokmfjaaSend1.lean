/- The walks of delays and of senders' small functions. No conditions. -/
import Derived.Test.YtelodofjokmfjaaPSend
namespace Go.Proofs.Ytelodofjokmfjaa.Tele
open Go.RowKit
set_option linter.unusedVariables false
set_option linter.unusedSimpArgs false

theorem clamp_calls (n : Nat) (w : World) (h1 : 1 ≤ n) (h2 : n ≤ 1073741824) : Calls Try.prog 25 #[.int .i64 (n : Int)] w fun e w' => e = .returned (.int .i64 (n : Int)) ∧ w' = w := by
  have e1 : max (n : Int) 1 = (n : Int) := by omega
  have e2 : min (n : Int) 1073741824 = (n : Int) := by omega
  go_enter Try.func25, Try.ntmps25
  go_wp2
  go_ret
  exact ⟨rfl, rfl⟩
theorem delay_calls (base most n draw : Nat) (w : World) (t : Int) (ht : t = (n : Int) + 1) (h1 : 1 ≤ base) (h2 : base ≤ most) (h3 : most ≤ 1073741824) (hn : n ≤ 1000000000) (hd : draw < 18446744073709551616) :
    Calls Try.prog 9 #[.int .i64 (base : Int), .int .i64 (most : Int), .int .i64 t, .int .u64 (draw : Int)] w fun e w' => e = .returned (.int .i64 (dly base most n draw : Int)) ∧ w' = w := by
  have HB := Lib.hid fun w => clamp_calls base w h1 (by omega)
  have HM := Lib.hid fun w => clamp_calls most w (by omega) h3
  have hn1 : t - 1 = (n : Int) := by omega
  clear ht
  have ht1 : -9223372036854775807 ≤ t ∧ t ≤ 9223372036854775807 := by omega
  obtain ⟨ht2, ht3⟩ := ht1
  obtain ⟨b, hb⟩ : ∃ b, b = base := ⟨_, rfl⟩
  have HBB := Lib.hid hb
  go_enter Try.func9, Try.ntmps9
  go_wp2_with fail
  refine (HB.out _).mono ?_
  rintro e w1 ⟨rfl, rfl⟩
  go_wp2_with fail
  refine (HM.out _).mono ?_
  rintro e w1 ⟨rfl, rfl⟩
  go_wp2_with fail
  go_loopw [10, 20] (fun a i wr => ∃ k x : Nat, k ≤ n ∧ i = .int .i64 (k : Int) ∧ a = .int .i64 (x : Int) ∧ Hid (x = grown base most k) ∧ x ≤ 2 * most ∧ 1 ≤ x ∧ wr = w1) (fun _ i _ => n - (intOf i).toNat)
  case atStart => exact ⟨0, base, by omega, rfl, rfl, Lib.hid rfl, by omega, h1, rfl⟩
  case round =>
    obtain ⟨k, x, hk, rfl, rfl, HX, hx, hx1, rfl⟩ := hrel
    have fin : (most ≤ x ∨ k = n) → Hid (min x most = wait base most n) := fun h => Lib.hid (by
      unfold wait
      rw [HX.out] at h ⊢
      rcases h with h | h
      · rw [← show k + (n - k) = n by omega, grown_stays base most k h]
      · rw [h])
    have rest : Hid (min x most = wait base most n) → ∃ v r : Nat, min (x : Int) (most : Int) = (v : Int) ∧ (draw : Int) % ((v : Int) + 1) = (r : Int) ∧ Hid (((dly base most n draw : Nat) : Int) = (v : Int) + (r : Int)) ∧ v ≤ 1073741824 ∧ r ≤ v := fun h => by
      refine ⟨wait base most n, draw % (wait base most n + 1), ?_, by rw [show ((wait base most n : Nat) : Int) + 1 = ((wait base most n + 1 : Nat) : Int) by omega]; exact (Int.natCast_emod _ _).symm, Lib.hid (by unfold dly; omega), ?_, ?_⟩
      · rw [← h.out]; omega
      · have := wait_le base most n; omega
      · have := Nat.mod_lt draw (show 0 < wait base most n + 1 by omega); omega
    by_cases hlt : k < n
    · by_cases hge : most ≤ x
      · obtain ⟨v, r, e1, e2, HD, hv, hr⟩ := rest (fin (.inl hge))
        have hz : ((v : Int) + 1 == 0) = false := by rw [beq_eq_false_iff_ne]; omega
        clear fin rest HX HBB HB HM
        go_wp2_with fail
        go_ret
        rw [HD.out]
        exact ⟨rfl, by trivial⟩
      · have HX2 : Hid (2 * x = grown base most (k + 1)) := Lib.hid (by
          show _ = if most ≤ grown base most k then grown base most k else 2 * grown base most k
          rw [← HX.out, if_neg hge])
        have hsh : IntKind.i64.wrap ((x : Int) * 2) = ((2 * x : Nat) : Int) := by rw [IntKind.wrap_i64]; omega
        clear fin rest HX HBB HB HM
        go_wp2_with fail
        go_roundw
        case rel => exact ⟨k + 1, 2 * x, by omega, by go_num, by go_num, HX2, by omega, by omega, by trivial⟩
        case measure => simp [intOf]; omega
    · obtain ⟨v, r, e1, e2, HD, hv, hr⟩ := rest (fin (.inr (by omega)))
      have hz : ((v : Int) + 1 == 0) = false := by rw [beq_eq_false_iff_ne]; omega
      clear fin rest HX HBB HB HM
      go_wp2_with fail
      go_ret
      rw [HD.out]
      exact ⟨rfl, by trivial⟩
/-- The cells of a sender. -/
def sndCells (b : Nat) (s : St) : Array Value := #[.map (some b), .int .i64 (s.fly : Int), .int .i64 (s.base : Int), .int .i64 (s.most : Int), .int .i64 (s.flying : Int)]
def flCells (f : Fl) : Array Value := #[.bool f.flies, .int .i64 (f.times : Int), .int .i64 f.at_]
/-- Blocks, and those that have come. -/
def Plus (O : Nat → Prop) (w w' : World) (j : Nat) : Prop := O j ∨ (w.heap.size ≤ j ∧ j < w'.heap.size)
/-- A sender in memory; it hangs on blocks of O alone. -/
structure IsS' (w : World) (O : Nat → Prop) (p b : Nat) (m : Ents) (F : Nat → Fl) (s : St) : Prop where
  st : Blk w p 57 (sndCells b s)
  mp : IsMap w b m
  sorted : m.Pairwise fun p q => p.1 < q.1
  fl : ∀ e ∈ m, Blk w e.2 61 (flCells (F e.2))
  nd : (m.map (·.2)).Nodup
  abs : s.l = m.map fun e => (e.1, F e.2)
  keys : ∀ e ∈ m, 0 ≤ e.1 ∧ e.1 ≤ 9223372036854775807
  hp : O p
  hb : O b
  hm : ∀ e ∈ m, O e.2
  hO : ∀ j, O j → j < w.heap.size
  fly1 : 1 ≤ s.fly
  fly2 : s.fly ≤ 64
  base1 : 1 ≤ s.base
  base2 : s.base ≤ s.most
  most2 : s.most ≤ 1073741824
  size : m.length ≤ 100000
def IsS (w : World) (O : Nat → Prop) (p : Nat) (s : St) : Prop := ∃ b m F, IsS' w O p b m F s
theorem IsS'.next {w w' : World} {O : Nat → Prop} {p b : Nat} {m : Ents} {F : Nat → Fl} {s : St} (h : IsS' w O p b m F s) (k : Below w.heap.size w w') : IsS' w' O p b m F s :=
  { h with st := h.st.next k, mp := h.mp.next k, fl := fun e he => (h.fl e he).next k, hO := fun j hj => Nat.lt_of_lt_of_le (h.hO j hj) k.size }
theorem IsS.next {w w' : World} {O : Nat → Prop} {p : Nat} {s : St} (h : IsS w O p s) (k : Below w.heap.size w w') : IsS w' O p s := by
  obtain ⟨b, m, F, h⟩ := h
  exact ⟨b, m, F, h.next k⟩
theorem new_no (fly base most : Int) (w : World) (h : fly < 1 ∨ (1 ≤ fly ∧ fly ≤ 64 ∧ 1 ≤ base ∧ most < base)) : Calls Try.prog 11 #[.int .i64 fly, .int .i64 base, .int .i64 most] w fun e w' => e = .returned (.pointer none) ∧ w' = w := by
  rcases h with h | ⟨h1, h2, h3, h4⟩
  · go_enter Try.func11, Try.ntmps11
    go_wp2
    go_ret
    exact ⟨rfl, rfl⟩
  · go_enter Try.func11, Try.ntmps11
    go_wp2
    go_ret
    exact ⟨rfl, rfl⟩
theorem new_yes (fly base most : Nat) (w : World) (h1 : 1 ≤ fly) (h2 : fly ≤ 64) (h3 : 1 ≤ base) (h4 : base ≤ most) (h5 : most ≤ 1073741824) :
    Calls Try.prog 11 #[.int .i64 (fly : Int), .int .i64 (base : Int), .int .i64 (most : Int)] w fun e w' => ∃ p, e = .returned (.pointer (some ⟨p, 0, none⟩)) ∧ IsS w' (fun j => w.heap.size ≤ j ∧ j < w'.heap.size) p ⟨[], fly, base, most, 0⟩ ∧ Below w.heap.size w w' := by
  have hmp := IsMap.made w
  have hb := bl_alloc (Below.refl _ w) (.map #[] 0)
  have hmk : (Instr.makeMap 55 none).run Try.prog w = .ok (.map (some w.heap.size)) (w.alloc (.map #[] 0)) := rfl
  go_enter Try.func11, Try.ntmps11
  go_wp2
  go_ret
  have e1 : (w.alloc (.map #[] 0)).heap.size = w.heap.size + 1 := World.size_alloc _ _
  refine ⟨w.heap.size + 1, rfl, ⟨w.heap.size, [], fun _ => St.fresh, ?_⟩, bl_alloc hb _⟩
  have e2 : ((w.alloc (.map #[] 0)).alloc (.cells #[.map (some w.heap.size), .int .i64 (fly : Int), .int .i64 (base : Int), .int .i64 (most : Int), .int .i64 0] 57)).heap.size = w.heap.size + 2 := by rw [World.size_alloc, e1]
  refine ⟨?_, ?_, List.Pairwise.nil, by simp, by simp, rfl, by simp, ⟨by omega, by omega⟩, ⟨Nat.le_refl _, by omega⟩, by simp, fun j hj => hj.2, h1, h2, h3, h4, h5, by simp⟩
  · exact e1 ▸ Blk.new (w.alloc (.map #[] 0)) _ _
  · exact hmp.next (bl_alloc (Below.refl _ _) _)
theorem flying_calls (O : Nat → Prop) (p : Nat) (s : St) (w : World) (h : IsS w O p s) : Calls Try.prog 16 #[.pointer (some ⟨p, 0, none⟩)] w fun e w' => e = .returned (.int .i64 (s.flying : Int)) ∧ w' = w := by
  obtain ⟨b, m, F, h⟩ := h
  have h4 : w.cell? ⟨p, 4, none⟩ = some (.int .i64 (s.flying : Int)) := h.st.cell 4
  go_enter Try.func16, Try.ntmps16
  go_wp2
  go_ret
  exact ⟨rfl, rfl⟩
theorem len_calls (O : Nat → Prop) (p : Nat) (s : St) (w : World) (h : IsS w O p s) : Calls Try.prog 13 #[.pointer (some ⟨p, 0, none⟩)] w fun e w' => e = .returned (.int .i64 (s.l.length : Int)) ∧ w' = w := by
  obtain ⟨b, m, F, h⟩ := h
  have h0 : w.cell? ⟨p, 0, none⟩ = some (.map (some b)) := h.st.cell 0
  have hl := fun ty => h.mp.len 55 _ ty Try.underlying55
  have e : s.l.length = m.length := by rw [h.abs]; simp
  rw [e]
  clear e
  go_enter Try.func13, Try.ntmps13
  go_wp2
  go_ret
  exact ⟨rfl, rfl⟩
theorem zeroPtr (W : World) : (zeroValue 58).run Try.prog W = .ok (.pointer none) W := rfl
end Go.Proofs.Ytelodofjokmfjaa.Tele
