/- The chapter's examples on disks hold. No conditions. -/
import Derived.Test.YtajkjbhijikggaaDisk5
import Derived.Laws.IdiomStrings
namespace Go.Proofs.Ytajkjbhijikggaa.Tele
open Go.RowKit
set_option linter.unusedVariables false
set_option linter.unusedSimpArgs false

/-- A disk that the law made: all that it hangs on is new. -/
def MineD (own : Bool) (w0 w : World) (d : Nat) (fs : Fs) : Prop := ∃ O, (∀ j, O j → w0.heap.size ≤ j) ∧ IsD own w O d fs ∧ Below w0.heap.size w0 w
theorem MineD.next {own : Bool} {w0 w w' : World} {d : Nat} {fs : Fs} (h : MineD own w0 w d fs) (k : Below w.heap.size w w') : MineD own w0 w' d fs := by
  obtain ⟨O, h1, h2, h3⟩ := h
  exact ⟨O, h1, h2.next k, bnext h3 k⟩
theorem MineD.below {own : Bool} {w0 w : World} {d : Nat} {fs : Fs} (h : MineD own w0 w d fs) : Below w0.heap.size w0 w := by
  obtain ⟨O, h1, h2, h3⟩ := h
  exact h3
theorem dnew (w : World) : Calls Try.prog 9 #[] w fun e w' => ∃ d, e = .returned (.pointer (some ⟨d, 0, none⟩)) ∧ MineD true w w' d [] := by
  refine (new_calls w).mono ?_
  rintro e w' ⟨d, rfl, hD, hb⟩
  exact ⟨d, rfl, _, fun j hj => hj.1, hD, hb⟩
theorem mine_of {own' : Bool} {w0 w w' : World} {d : Nat} {fs' : Fs} {O O' : Nat → Prop} (h1 : ∀ j, O j → w0.heap.size ≤ j) (h3 : Below w0.heap.size w0 w) (hD : IsD own' w' O' d fs') (hO : ∀ j, O' j → O j ∨ w.heap.size ≤ j) (hc : Chg O w w') : MineD own' w0 w' d fs' :=
  ⟨O', fun j hj => (hO j hj).elim (h1 j) fun hh => Nat.le_trans h3.size hh, hD, bchg h3 hc h1⟩
theorem dwrite (w0 : World) (d : Nat) (fs : Fs) (k : Int) (a : Option Addr) (n cap : Nat) (bs : List UInt8) (w : World) (h : MineD true w0 w d fs) (hk0 : 0 ≤ k) (hk1 : k ≤ 1099511627776) (hn : n = bs.length)
    (hb : RowOf e8 0 w a n cap bs) (hx : ∀ ad, a = some ad → 0 < n → ad.block < w0.heap.size) (hl : fs.length < 100000) (hsz : (((fs.get k).map (·.bytes)).getD []).length + bs.length ≤ 1000000) :
    Calls Try.prog 11 #[.pointer (some ⟨d, 0, none⟩), .int .i64 k, .slice a n cap] w fun e w' => e = .returned (.int .u16 0) ∧ MineD true w0 w' d (fs.write k bs) := by
  subst hn
  obtain ⟨O, h1, h2, h3⟩ := h
  refine (write_calls O d fs k a cap bs w h2 hk0 hk1 hb (fun ad had hp ho => by have := hx ad had hp; have := h1 _ ho; omega) hl hsz).mono ?_
  rintro e w' ⟨rfl, O', hD, hO, hc⟩
  exact ⟨rfl, mine_of h1 h3 hD hO hc⟩
theorem lit_row (w : World) (bs : List UInt8) (cs : Array Value) (hcs : cs = (bs.map e8).toArray) (hm : bs.length ≤ 1000000) : RowOf e8 0 (w.alloc (.cells cs 5)) (some ⟨w.heap.size, 0, none⟩) bs.length bs.length bs :=
  ⟨rfl, Nat.le_refl _, by omega, fun hp => ⟨_, rfl, by rw [World.size_alloc]; exact Nat.lt_succ_self _, fun j hj => by
    have e : (⟨w.heap.size, 0, none⟩ : Addr).add j = ⟨w.heap.size, 0 + j, none⟩ := by unfold Addr.add; split <;> simp_all
    rw [e, Nat.zero_add, (Blk.new w 5 cs).cell, hcs]
    simp [List.getD_eq_getElem?_getD, hj]⟩⟩
theorem dwrite_lit (w0 : World) (d : Nat) (fs : Fs) (k : Int) (cs : Array Value) (n : Nat) (bs : List UInt8) (w : World) (h : MineD true w0 w d fs) (hk0 : 0 ≤ k) (hk1 : k ≤ 1099511627776) (hcs : cs = (bs.map e8).toArray) (hn : n = bs.length)
    (hm : bs.length ≤ 1000000) (hl : fs.length < 100000) (hsz : (((fs.get k).map (·.bytes)).getD []).length + bs.length ≤ 1000000) :
    Calls Try.prog 11 #[.pointer (some ⟨d, 0, none⟩), .int .i64 k, .slice (some ⟨w.heap.size, 0, none⟩) n n] (w.alloc (.cells cs 5)) fun e w' => e = .returned (.int .u16 0) ∧ MineD true w0 w' d (fs.write k bs) := by
  subst hn
  obtain ⟨O, h1, h2, h3⟩ := h
  have hA := bl_alloc (Below.refl w.heap.size w) (.cells cs 5)
  have hO : ∀ j, O j → j < w.heap.size := by obtain ⟨b, m, F, V, hh⟩ := h2; exact hh.hO
  refine (write_calls O d fs k _ _ bs _ (h2.next hA) hk0 hk1 (lit_row w bs cs hcs hm) (fun ad had _ ho => by cases had; have := hO _ ho; exact absurd this (Nat.lt_irrefl _)) hl hsz).mono ?_
  rintro e w' ⟨rfl, O', hD, hO', hc⟩
  exact ⟨rfl, mine_of h1 (bnext h3 hA) hD hO' hc⟩
theorem dsync (own : Bool) (w0 : World) (d : Nat) (fs : Fs) (k : Int) (w : World) (h : MineD own w0 w d fs) (hk : (Lit.int .i64 k).wf = true) :
    Calls Try.prog 12 #[.pointer (some ⟨d, 0, none⟩), .int .i64 k] w fun e w' => e = .returned (.int .u16 (if (fs.get k).isSome then 0 else 71)) ∧ MineD own w0 w' d (fs.sync k) := by
  obtain ⟨O, h1, h2, h3⟩ := h
  refine (sync_calls own O d fs k w h2 hk).mono ?_
  rintro e w' ⟨rfl, hD, hc⟩
  exact ⟨rfl, mine_of h1 h3 hD (fun j hj => hj.elim .inl fun hh => .inr hh.1) hc⟩
theorem dremove (own : Bool) (w0 : World) (d : Nat) (fs : Fs) (k : Int) (w : World) (h : MineD own w0 w d fs) (hk : (Lit.int .i64 k).wf = true) :
    Calls Try.prog 19 #[.pointer (some ⟨d, 0, none⟩), .int .i64 k] w fun e w' => e = .returned (.int .u16 (if (fs.get k).isSome then 0 else 71)) ∧ MineD own w0 w' d (fs.del k) := by
  obtain ⟨O, h1, h2, h3⟩ := h
  refine (remove_calls own O d fs k w h2 hk).mono ?_
  rintro e w' ⟨rfl, hD, hc⟩
  exact ⟨rfl, mine_of h1 h3 hD (fun j hj => .inl hj) hc⟩
theorem dcrash (own : Bool) (w0 : World) (d : Nat) (fs : Fs) (draw : Nat) (w : World) (h : MineD own w0 w d fs) (hd : draw < 18446744073709551616) :
    Calls Try.prog 14 #[.pointer (some ⟨d, 0, none⟩), .int .u64 (draw : Int)] w fun e w' => e = .returned (.tuple #[]) ∧ MineD false w0 w' d (fs.crash draw) := by
  obtain ⟨O, h1, h2, h3⟩ := h
  refine (crash_calls own O d fs draw w h2 hd).mono ?_
  rintro e w' ⟨rfl, O', hD, hO, hc⟩
  exact ⟨rfl, mine_of h1 h3 hD hO hc⟩
theorem dcrash_own (own : Bool) (w0 : World) (d : Nat) (fs : Fs) (draw : Nat) (w : World) (h : MineD own w0 w d fs) (hd : draw < 18446744073709551616) :
    Calls Try.prog 14 #[.pointer (some ⟨d, 0, none⟩), .int .u64 (draw : Int)] w fun e w' => e = .returned (.tuple #[]) ∧ MineD own w0 w' d (fs.crash draw) := by
  obtain ⟨O, h1, h2, h3⟩ := h
  refine (crash_own own O d fs draw w h2 hd).mono ?_
  rintro e w' ⟨rfl, O', hD, hO, hc⟩
  exact ⟨rfl, mine_of h1 h3 hD hO hc⟩
theorem dsure (own : Bool) (w0 : World) (d : Nat) (fs : Fs) (k : Int) (w : World) (h : MineD own w0 w d fs) (hk : (Lit.int .i64 k).wf = true) :
    Calls Try.prog 13 #[.pointer (some ⟨d, 0, none⟩), .int .i64 k] w fun e w' => e = .returned (.int .i64 (((fs.get k).map (·.sure)).getD 0 : Nat)) ∧ w' = w := by
  obtain ⟨O, h1, h2, h3⟩ := h
  exact sure_calls own O d fs k w h2 hk
theorem dread (own : Bool) (w0 : World) (d : Nat) (fs : Fs) (k : Int) (w : World) (h : MineD own w0 w d fs) (hk : (Lit.int .i64 k).wf = true) :
    Calls Try.prog 15 #[.pointer (some ⟨d, 0, none⟩), .int .i64 k] w fun e w' => ∃ v, e = .returned (.tuple #[v, .int .u16 (if (fs.get k).isSome then 0 else 71)]) ∧ Below w.heap.size w w' ∧
      w'.ownsRow w.heap.size 5 1 v (((fs.get k).map (·.bytes)).getD []).length ((((fs.get k).map (·.bytes)).getD []).map e8) := by
  obtain ⟨O, h1, h2, h3⟩ := h
  exact read_calls own O d fs k w h2 hk
theorem dfiles (own : Bool) (w0 : World) (d : Nat) (fs : Fs) (w : World) (h : MineD own w0 w d fs) :
    Calls Try.prog 16 #[.pointer (some ⟨d, 0, none⟩)] w fun e w' => ∃ v, e = .returned v ∧ Ints w' w.heap.size v (fs.map (·.1)) ∧ Below w.heap.size w w' := by
  obtain ⟨O, h1, h2, h3⟩ := h
  exact files_calls own O d fs w h2
theorem write_neg (d : Nat) (k : Int) (v : Value) (w : World) (h : k < 0) : Calls Try.prog 11 #[.pointer (some ⟨d, 0, none⟩), .int .i64 k, v] w fun e w' => e = .returned (.int .u16 1) ∧ w' = w := by
  go_enter Try.func11, Try.ntmps11
  go_wp2
  go_ret
  exact ⟨rfl, rfl⟩
/-- Bytes as a text. -/
theorem str_of {w : World} {v : Value} {bs : List UInt8} (h : Bytes w v bs) : (convert 22 9 v).run Try.prog w = .ok (.string ⟨bs.toArray⟩) w := by
  obtain ⟨a, cap, rfl, hr⟩ := h
  cases a with
  | none =>
    have hb0 : bs.length = 0 := by
      rcases Nat.eq_zero_or_pos bs.length with h0 | h0
      · exact h0
      · obtain ⟨ad, had, _⟩ := hr.2.2.2 h0
        cases had
    have hbs : bs = [] := List.length_eq_zero_iff.1 hb0
    subst hbs
    rfl
  | some ad =>
    have hcells : ∀ j (hj : j < bs.length), w.cell? (ad.add j) = some (.int .u8 (bs[j].toNat : Int)) := fun j hj => by
      have h1 := hr.cell j hj
      rw [List.getD_eq_getElem?_getD, List.getElem?_eq_getElem hj] at h1
      exact h1
    exact run_convert_bytes_back w 22 9 5 ad cap bs Try.underlying22 Try.underlying5 Try.underlying9 hcells
def q1 : Fs := Fs.write [] 0 [1, 2]
def q2 : Fs := q1.sync 0
def q3 : Fs := q2.write 0 [3, 4, 5]
def q4 : Fs := q3.crash 6
theorem k_facts : (q1.get 0).isSome = true ∧ (q2.get 0).isSome = true ∧ (((q2.get 0).map (·.bytes)).getD []).length = 2 ∧ q2.length = 1 ∧ (q4.get 0).isSome = true ∧ ((q4.get 0).map (·.bytes)).getD [] = [1, 2, 3, 4] ∧ ((q4.get 0).map (·.sure)).getD 0 = 4 ∧ (q4.get 7).isSome = false := by decide +kernel
set_option maxRecDepth 8000 in
set_option maxHeartbeats 1000000 in
theorem known_calls (w : World) : Calls Try.prog 10 #[] w fun e w' => e = .returned (.bool true) ∧ Below w.heap.size w w' := by
  obtain ⟨f1, f2, f3, f4, f5, f6, f7, f8⟩ := k_facts
  have W1 := Lib.hid fun d W h => dwrite_lit w d [] 0 #[.int .u8 1, .int .u8 2] 2 [1, 2] W h (by omega) (by omega) rfl rfl (by decide) (by decide) (by decide)
  have S1 := Lib.hid fun d W h => by have := dsync true w d q1 0 W h (by decide); rw [f1, if_pos rfl] at this; exact this
  have W2 := Lib.hid fun d W h => dwrite_lit w d q2 0 #[.int .u8 3, .int .u8 4, .int .u8 5] 3 [3, 4, 5] W h (by omega) (by omega) rfl rfl (by decide) (by rw [f4]; omega) (by rw [f3]; decide)
  have C1 := Lib.hid fun d W h => dcrash true w d q3 6 W h (by omega)
  have R1 := Lib.hid fun d W h => by have := dread false w d q4 0 W h (by decide); rw [f5, if_pos rfl, f6] at this; exact this
  have U1 := Lib.hid fun d W h => by have := dsure false w d q4 0 W h (by decide); rw [f7] at this; exact this
  have S2 := Lib.hid fun d W h => by have := dsync false w d q4 7 W h (by decide); rw [f8, if_neg (by decide)] at this; exact this
  have NG := Lib.hid fun d W => write_neg d (-1) (.slice none 0 0) W (by omega)
  have DN := Lib.hid (dnew w)
  clear f1 f2 f3 f4 f5 f6 f7 f8
  go_enter Try.func10, Try.ntmps10
  go_wp2_with fail
  refine DN.out.mono ?_
  rintro e w1 ⟨d, rfl, hM⟩
  have HM := Lib.hid hM
  clear hM
  go_wp2_with fail
  refine (W1.out _ _ HM.out).mono ?_
  rintro e w2 ⟨rfl, hM⟩
  have HM2 : Hid (MineD true w w2 d q1) := Lib.hid hM
  clear hM HM
  go_wp2_with fail
  refine (S1.out _ _ HM2.out).mono ?_
  rintro e w3 ⟨rfl, hM⟩
  have HM3 : Hid (MineD true w w3 d q2) := Lib.hid hM
  clear hM HM2
  go_wp2_with fail
  refine (W2.out _ _ HM3.out).mono ?_
  rintro e w4 ⟨rfl, hM⟩
  have HM4 : Hid (MineD true w w4 d q3) := Lib.hid hM
  clear hM HM3
  go_wp2_with fail
  refine (C1.out _ _ HM4.out).mono ?_
  rintro e w5 ⟨rfl, hM⟩
  have HM5 : Hid (MineD false w w5 d q4) := Lib.hid hM
  clear hM HM4
  go_wp2_with fail
  refine (R1.out _ _ HM5.out).mono ?_
  rintro e w6 ⟨v, rfl, hb, ho⟩
  have hst := str_of (bytes_of ho)
  have HM6 := Lib.hid (HM5.out.next hb)
  clear hb ho HM5
  go_wp2_with fail
  refine (U1.out _ _ HM6.out).mono ?_
  rintro e w7 ⟨rfl, rfl⟩
  go_wp2_with fail
  refine (S2.out _ _ HM6.out).mono ?_
  rintro e w8 ⟨rfl, hM⟩
  have HM8 := Lib.hid hM.below
  clear hM HM6
  go_wp2_with fail
  refine (NG.out _ _).mono ?_
  rintro e w9 ⟨rfl, rfl⟩
  go_wp2
  go_ret
  exact ⟨rfl, HM8.out⟩
end Go.Proofs.Ytajkjbhijikggaa.Tele
