/- The walks of a window's methods. No conditions but that a window is one. -/
import Derived.Test.YtiohjmpnkoohjaaWin1
namespace Go.Proofs.Ytiohjmpnkoohjaa.Tele
open Go.RowKit
set_option linter.unusedVariables false
set_option linter.unusedSimpArgs false

theorem ok_iff (m : Win) (now : Int) (h : m.ok now = true) : (m.now : Int) ≤ now ∧ now ≤ 1099511627776 := by
  unfold Win.ok at h
  simpa using h
theorem ok_cases (m : Win) (now : Int) : m.ok now = false ∨ ∃ n : Nat, now = (n : Int) ∧ m.now ≤ n ∧ n ≤ 1099511627776 ∧ m.ok (n : Int) = true := by
  cases h : m.ok now with
  | false => exact .inl rfl
  | true =>
    obtain ⟨h1, h2⟩ := ok_iff m now h
    refine .inr ⟨now.toNat, by omega, by omega, by omega, ?_⟩
    rw [show ((now.toNat : Nat) : Int) = now from by omega]
    exact h
theorem plus_mono {O : Nat → Prop} {w w1 w2 : World} (h : w1.heap.size ≤ w2.heap.size) : ∀ j, Plus O w w1 j → Plus O w w2 j := fun j hj => by
  rcases hj with hj | ⟨h1, h2⟩
  · exact .inl hj
  · exact .inr ⟨h1, by omega⟩
theorem IsWin.plus {w w1 w2 : World} {O : Nat → Prop} {g : Nat} {m : Win} (h : IsWin w1 (Plus O w w1) g m) (k : Below w1.heap.size w1 w2) : IsWin w2 (Plus O w w2) g m := (h.next k).mono (plus_mono k.size)
/-- The open while's sketch has gone on. -/
theorem WinAt.open_ {w w' : World} {O : Nat → Prop} {g b0 b1 b2 po co : Nat} {cl : Value} {m : Win} {s : Sk} (h : WinAt w O g b0 b1 b2 po co cl m) (k : Chg (fun b => b = po ∨ b = co) w w') (hs : IsSk w' po co s) : WinAt w' O g b0 b1 b2 po co cl { m with this := s } := by
  have ne1 : ∀ {b : Nat} {t : TypeId} {cs : Array Value}, Blk w b t cs → t ≠ 63 → (t ≠ 22 ∨ b ≠ co) → ¬ (b = po ∨ b = co) := by
    intro b t cs hb h1 h2 hh
    rcases hh with rfl | rfl
    · exact (hb.ne_ h.op.st h1) rfl
    · rcases h2 with h2 | h2
      · exact (hb.ne_ h.op.cl h2) rfl
      · exact h2 rfl
  refine ⟨⟨h.ok.1, h.ok.2, h.ok.3, h.ok.4, h.ok.5, h.ok.6, h.ok.7⟩, h.bx0.chg k (ne1 h.bx0 (by decide) (.inl (by decide))), h.bx1.chg k (ne1 h.bx1 (by decide) (.inl (by decide))), h.bx2.chg k (ne1 h.bx2 (by decide) (.inr h.ne)), h.st.chg k (ne1 h.st (by decide) (.inl (by decide))), hs, h.ne, ?_, h.inO⟩
  have hc := h.cls
  show ClosedAt w' O po co cl m.last
  cases hl : m.last with
  | none => rw [hl] at hc; exact hc
  | some s' =>
    rw [hl] at hc
    obtain ⟨pc, cc, e, hs', h1, h2, h3⟩ := hc
    refine ⟨pc, cc, e, hs'.chg k ?_ ?_, h1, h2, h3⟩
    · rintro (rfl | rfl)
      · exact h1 rfl
      · exact (hs'.st.ne_ h.op.cl (by decide)) rfl
    · rintro (rfl | rfl)
      · exact (hs'.cl.ne_ h.op.st (by decide)) rfl
      · exact h2 rfl
theorem wadd_calls (O : Nat → Prop) (g : Nat) (m : Win) (now : Int) (key : ByteArray) (n : Nat) (w : World) (h : IsWin w O g m) (hk : key.size ≤ 140737488351232) (hn : n ≤ 18446744073709551615) :
    Calls Try.prog 9 #[pv g, .int .i64 now, .string key, nv n] w fun e w' => e = .returned (.int .u16 (m.err now)) ∧ Chg O w w' ∧ IsWin w' (Plus O w w') g (m.add now key.data.toList n) := by
  rcases ok_cases m now with hno | ⟨t, rfl, ht1, ht2, hyes⟩
  · have hE := Lib.hid (show m.err now = 60 by unfold Win.err; rw [hno]; rfl)
    have hA := Lib.hid (show m.add now key.data.toList n = m by unfold Win.add; rw [hno]; rfl)
    rw [hE.out, hA.out]
    go_enter Try.func9, Try.ntmps9
    go_wp2_with fail
    refine (turn_no O g m now _ h hno).mono ?_
    rintro e w1 ⟨rfl, hb⟩
    go_wp2
    go_ret
    exact ⟨rfl, .of_below O hb, (h.next hb).mono fun j hj => .inl hj⟩
  · have hE := Lib.hid (show m.err (t : Int) = 0 by unfold Win.err; rw [hyes]; rfl)
    have hA := Lib.hid (show m.add (t : Int) key.data.toList n = { m.turn t with this := (m.turn t).this.add key.data.toList n } by unfold Win.add; rw [hyes]; rfl)
    rw [hE.out, hA.out]
    go_enter Try.func9, Try.ntmps9
    go_wp2_with fail
    refine (turn_yes O g m t _ h ht1 ht2).mono ?_
    rintro e w1 ⟨rfl, hch, hw1⟩
    obtain ⟨b0, b1, b2, po, co, cl, hat⟩ := hw1
    have q4 := hat.st.cell 4
    simp only [List.getElem?_toArray, List.getElem?_cons_zero, List.getElem?_cons_succ] at q4
    go_wp2_with fail
    refine (add_calls po co _ key n _ hat.op hk hn).mono ?_
    rintro e w2 ⟨rfl, hg, hs2⟩
    have hat2 := hat.open_ hg hs2
    have hio := hat.inO
    go_wp2
    go_ret
    refine ⟨rfl, hch.trans hg ?_, b0, b1, b2, po, co, cl, hat2.mono (plus_mono hg.size)⟩
    rintro j hj (rfl | rfl)
    · rcases hio.2.2.2.2.1 with h1 | ⟨h1, _⟩
      · exact h1
      · omega
    · rcases hio.2.2.2.2.2 with h1 | ⟨h1, _⟩
      · exact h1
      · omega
theorem wopen_calls (O : Nat → Prop) (g : Nat) (m : Win) (now : Int) (key : ByteArray) (w : World) (h : IsWin w O g m) (hk : key.size ≤ 140737488351232) :
    Calls Try.prog 11 #[pv g, .int .i64 now, .string key] w fun e w' => e = .returned (.tuple #[nv (m.opened now key.data.toList), .int .u16 (m.err now)]) ∧ Chg O w w' ∧ IsWin w' (Plus O w w') g (m.turnAny now) := by
  rcases ok_cases m now with hno | ⟨t, rfl, ht1, ht2, hyes⟩
  · have hE := Lib.hid (show m.err now = 60 by unfold Win.err; rw [hno]; rfl)
    have hA := Lib.hid (show m.turnAny now = m by unfold Win.turnAny; rw [hno]; rfl)
    have hC := Lib.hid (show m.opened now key.data.toList = 0 by unfold Win.opened; rw [hno]; rfl)
    rw [hE.out, hA.out, hC.out]
    go_enter Try.func11, Try.ntmps11
    go_wp2_with fail
    refine (turn_no O g m now _ h hno).mono ?_
    rintro e w1 ⟨rfl, hb⟩
    go_wp2
    go_ret2
    exact ⟨rfl, .of_below O hb, (h.next hb).mono fun j hj => .inl hj⟩
  · have hE := Lib.hid (show m.err (t : Int) = 0 by unfold Win.err; rw [hyes]; rfl)
    have hA := Lib.hid (show m.turnAny (t : Int) = m.turn t by unfold Win.turnAny; rw [hyes]; rfl)
    have hC := Lib.hid (show m.opened (t : Int) key.data.toList = (m.turn t).this.count key.data.toList by unfold Win.opened; rw [hyes]; rfl)
    rw [hE.out, hA.out, hC.out]
    go_enter Try.func11, Try.ntmps11
    go_wp2_with fail
    refine (turn_yes O g m t _ h ht1 ht2).mono ?_
    rintro e w1 ⟨rfl, hch, hw1⟩
    obtain ⟨b0, b1, b2, po, co, cl, hat⟩ := hw1
    have q4 := hat.st.cell 4
    simp only [List.getElem?_toArray, List.getElem?_cons_zero, List.getElem?_cons_succ] at q4
    go_wp2_with fail
    refine (count_calls po co _ key _ hat.op hk).mono ?_
    rintro e w2 ⟨rfl, hb⟩
    go_wp2
    go_ret2
    exact ⟨rfl, hch.thenB hb, b0, b1, b2, po, co, cl, (hat.next hb).mono (plus_mono hb.size)⟩
theorem wclosed_calls (O : Nat → Prop) (g : Nat) (m : Win) (now : Int) (key : ByteArray) (w : World) (h : IsWin w O g m) (hk : key.size ≤ 140737488351232) :
    Calls Try.prog 12 #[pv g, .int .i64 now, .string key] w fun e w' => e = .returned (.tuple #[nv (m.closed now key.data.toList), .int .u16 (m.err now)]) ∧ Chg O w w' ∧ IsWin w' (Plus O w w') g (m.turnAny now) := by
  rcases ok_cases m now with hno | ⟨t, rfl, ht1, ht2, hyes⟩
  · have hE := Lib.hid (show m.err now = 60 by unfold Win.err; rw [hno]; rfl)
    have hA := Lib.hid (show m.turnAny now = m by unfold Win.turnAny; rw [hno]; rfl)
    have hC := Lib.hid (show m.closed now key.data.toList = 0 by unfold Win.closed; rw [hno]; rfl)
    rw [hE.out, hA.out, hC.out]
    go_enter Try.func12, Try.ntmps12
    go_wp2_with fail
    refine (turn_no O g m now _ h hno).mono ?_
    rintro e w1 ⟨rfl, hb⟩
    go_wp2
    go_ret2
    exact ⟨rfl, .of_below O hb, (h.next hb).mono fun j hj => .inl hj⟩
  · have hE := Lib.hid (show m.err (t : Int) = 0 by unfold Win.err; rw [hyes]; rfl)
    have hA := Lib.hid (show m.turnAny (t : Int) = m.turn t by unfold Win.turnAny; rw [hyes]; rfl)
    rw [hE.out, hA.out]
    cases hl : (m.turn t).last with
    | none =>
      have hC := Lib.hid (show m.closed (t : Int) key.data.toList = 0 by
        have : (t : Int).toNat = t := by omega
        unfold Win.closed; rw [hyes, this, hl]; rfl)
      rw [hC.out]
      go_enter Try.func12, Try.ntmps12
      go_wp2_with fail
      refine (turn_yes O g m t _ h ht1 ht2).mono ?_
      rintro e w1 ⟨rfl, hch, hw1⟩
      obtain ⟨b0, b1, b2, po, co, cl, hat⟩ := hw1
      have hcl := hat.cls
      rw [hl] at hcl
      have hcl2 : cl = .pointer none := hcl
      subst hcl2
      have q3 := hat.st.cell 3
      simp only [List.getElem?_toArray, List.getElem?_cons_zero, List.getElem?_cons_succ] at q3
      have HL := Lib.hid hl
      clear hl hcl
      go_wp2
      go_ret2
      exact ⟨rfl, hch, b0, b1, b2, po, co, _, hat⟩
    | some s =>
      have hC := Lib.hid (show m.closed (t : Int) key.data.toList = s.count key.data.toList by
        have : (t : Int).toNat = t := by omega
        unfold Win.closed; rw [hyes, this, hl]; rfl)
      rw [hC.out]
      go_enter Try.func12, Try.ntmps12
      go_wp2_with fail
      refine (turn_yes O g m t _ h ht1 ht2).mono ?_
      rintro e w1 ⟨rfl, hch, hw1⟩
      obtain ⟨b0, b1, b2, po, co, cl, hat⟩ := hw1
      have hcl := hat.cls
      rw [hl] at hcl
      obtain ⟨pc, cc, rfl, hsk, _⟩ := hcl
      have q3 := hat.st.cell 3
      simp only [List.getElem?_toArray, List.getElem?_cons_zero, List.getElem?_cons_succ] at q3
      have HL := Lib.hid hl
      clear hl
      go_wp2_with fail
      refine (count_calls pc cc _ key _ hsk hk).mono ?_
      rintro e w2 ⟨rfl, hb⟩
      go_wp2
      go_ret2
      exact ⟨rfl, hch.thenB hb, b0, b1, b2, po, co, _, (hat.next hb).mono (plus_mono hb.size)⟩
end Go.Proofs.Ytiohjmpnkoohjaa.Tele
