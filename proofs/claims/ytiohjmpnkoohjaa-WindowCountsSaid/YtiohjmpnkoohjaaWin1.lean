/- The walks of package window. No conditions but that a window is one. -/
import Derived.Test.YtiohjmpnkoohjaaPWin
import Derived.Test.YtiohjmpnkoohjaaSk3
import Derived.Deep.QuietTactic
import Derived.BigQuiet
namespace Go.Proofs.Ytiohjmpnkoohjaa.Tele
open Go.RowKit
set_option linter.unusedVariables false
set_option linter.unusedSimpArgs false

theorem cell0 {w : World} {b : Nat} {t : TypeId} {v : Value} (h : Blk w b t #[v]) : w.cell? ⟨b, 0, none⟩ = some v := by
  rw [h.cell]; rfl
theorem fresh_calls (b0 b1 b2 rows W : Nat) (seed : U) (k : Nat) (w : World) (h0 : Blk w b0 3 #[.int .i64 (rows : Int)]) (h1 : Blk w b1 3 #[.int .i64 (W : Int)]) (h2 : Blk w b2 22 #[uv seed]) (hr1 : 1 ≤ rows) (hr8 : rows ≤ 8) (hW1 : 1 ≤ W) (hWm : W ≤ 1024) (hk : k ≤ 1099511627776) :
    Calls Try.prog 17 #[.int .i64 (k : Int), pv b0, pv b1, pv b2] w fun e w' => ∃ p c, e = .returned (pv p) ∧ Below w.heap.size w w' ∧ IsSk w' p c (Sk.new rows W (seed + BitVec.ofNat 64 k)) ∧ w.heap.size ≤ p ∧ w.heap.size ≤ c := by
  have q0 := cell0 h0
  have q1 := cell0 h1
  have q2 := cell0 h2
  have hs := Lib.hid (show IntKind.u64.wrap ((seed.toNat : Int) + (k : Int)) = ((seed + BitVec.ofNat 64 k).toNat : Int) by
    have e : (k : Int) = ((BitVec.ofNat 64 k).toNat : Int) := by rw [BitVec.toNat_ofNat, Nat.mod_eq_of_lt (by omega)]
    rw [← u_add, ← e])
  clear h0 h1 h2
  go_enter Try.func17, Try.ntmps17
  go_wp2_with fail
  rw [hs.out]
  refine (new_any rows W _ _ hr1 hr8 hW1 hWm).mono ?_
  rintro e w1 ⟨p, c, rfl, hb, hsk, hp, hc⟩
  go_wp2
  go_ret
  exact ⟨p, c, rfl, hb, hsk, hp, hc⟩

theorem fresh_no (b0 b1 b2 : Nat) (rows W : Int) (seed : U) (w : World) (h0 : Blk w b0 3 #[.int .i64 rows]) (h1 : Blk w b1 3 #[.int .i64 W]) (h2 : Blk w b2 22 #[uv seed]) (hr1 : rows < 1) :
    Calls Try.prog 17 #[.int .i64 0, pv b0, pv b1, pv b2] w fun e w' => e = .returned (.pointer none) ∧ Below w.heap.size w w' := by
  have q0 := cell0 h0
  have q1 := cell0 h1
  have q2 := cell0 h2
  have hs := Lib.hid (show IntKind.u64.wrap ((seed.toNat : Int)) = ((seed + BitVec.ofNat 64 0).toNat : Int) by
    have := u_add seed (BitVec.ofNat 64 0)
    rw [← this]; simp)
  clear h0 h1 h2
  go_enter Try.func17, Try.ntmps17
  go_wp2_with fail
  first | rw [hs.out] | skip
  refine (new_no rows W _ _ (.inl hr1)).mono ?_
  rintro e w1 ⟨rfl, rfl⟩
  go_wp2
  go_ret
  exact ⟨rfl, Below.refl _ _⟩
/-- What the closed while's pointer leads to. -/
def ClosedAt (w : World) (O : Nat → Prop) (po co : Nat) (cl : Value) : Option Sk → Prop
  | none => cl = .pointer none
  | some s => ∃ pc cc, cl = pv pc ∧ IsSk w pc cc s ∧ pc ≠ po ∧ cc ≠ co ∧ O pc ∧ O cc
structure WinAt (w : World) (O : Nat → Prop) (g b0 b1 b2 po co : Nat) (cl : Value) (m : Win) : Prop where
  ok : m.Ok
  bx0 : Blk w b0 3 #[.int .i64 (m.rows : Int)]
  bx1 : Blk w b1 3 #[.int .i64 (m.W : Int)]
  bx2 : Blk w b2 22 #[uv m.seed]
  st : Blk w g 52 #[.func (.func 17) #[] #[pv b0, pv b1, pv b2], .int .i64 (m.long : Int), .int .i64 (m.now : Int), cl, pv po]
  op : IsSk w po co m.this
  ne : b2 ≠ co
  cls : ClosedAt w O po co cl m.last
  inO : O g ∧ O b0 ∧ O b1 ∧ O b2 ∧ O po ∧ O co
/-- Block g is a window; it hangs on the blocks of O alone. -/
def IsWin (w : World) (O : Nat → Prop) (g : Nat) (m : Win) : Prop := ∃ b0 b1 b2 po co cl, WinAt w O g b0 b1 b2 po co cl m
section
variable {w w' : World} {O O' S : Nat → Prop} {g b0 b1 b2 po co : Nat} {cl : Value} {m : Win}
theorem ClosedAt.chg {l : Option Sk} (h : ClosedAt w O po co cl l) (k : Chg S w w') (hS : ∀ j, O j → ¬ S j) : ClosedAt w' O po co cl l := by
  cases l with
  | none => exact h
  | some s =>
    obtain ⟨pc, cc, e, hs, h1, h2, h3, h4⟩ := h
    exact ⟨pc, cc, e, hs.chg k (hS _ h3) (hS _ h4), h1, h2, h3, h4⟩
theorem ClosedAt.mono {l : Option Sk} (h : ClosedAt w O po co cl l) (hO : ∀ j, O j → O' j) : ClosedAt w O' po co cl l := by
  cases l with
  | none => exact h
  | some s =>
    obtain ⟨pc, cc, e, hs, h1, h2, h3, h4⟩ := h
    exact ⟨pc, cc, e, hs, h1, h2, hO _ h3, hO _ h4⟩
theorem WinAt.chg (h : WinAt w O g b0 b1 b2 po co cl m) (k : Chg S w w') (hS : ∀ j, O j → ¬ S j) : WinAt w' O g b0 b1 b2 po co cl m :=
  ⟨h.ok, h.bx0.chg k (hS _ h.inO.2.1), h.bx1.chg k (hS _ h.inO.2.2.1), h.bx2.chg k (hS _ h.inO.2.2.2.1), h.st.chg k (hS _ h.inO.1), h.op.chg k (hS _ h.inO.2.2.2.2.1) (hS _ h.inO.2.2.2.2.2), h.ne, h.cls.chg k hS, h.inO⟩
theorem WinAt.mono (h : WinAt w O g b0 b1 b2 po co cl m) (hO : ∀ j, O j → O' j) : WinAt w O' g b0 b1 b2 po co cl m :=
  ⟨h.ok, h.bx0, h.bx1, h.bx2, h.st, h.op, h.ne, h.cls.mono hO, hO _ h.inO.1, hO _ h.inO.2.1, hO _ h.inO.2.2.1, hO _ h.inO.2.2.2.1, hO _ h.inO.2.2.2.2.1, hO _ h.inO.2.2.2.2.2⟩
theorem WinAt.next (h : WinAt w O g b0 b1 b2 po co cl m) (k : Below w.heap.size w w') : WinAt w' O g b0 b1 b2 po co cl m := h.chg (.of_below (fun _ => False) k) fun _ _ hf => hf
theorem IsWin.chg (h : IsWin w O g m) (k : Chg S w w') (hS : ∀ j, O j → ¬ S j) : IsWin w' O g m := by
  obtain ⟨b0, b1, b2, po, co, cl, h⟩ := h
  exact ⟨b0, b1, b2, po, co, cl, h.chg k hS⟩
theorem IsWin.next (h : IsWin w O g m) (k : Below w.heap.size w w') : IsWin w' O g m := by
  obtain ⟨b0, b1, b2, po, co, cl, h⟩ := h
  exact ⟨b0, b1, b2, po, co, cl, h.next k⟩
theorem IsWin.mono (h : IsWin w O g m) (hO : ∀ j, O j → O' j) : IsWin w O' g m := by
  obtain ⟨b0, b1, b2, po, co, cl, h⟩ := h
  exact ⟨b0, b1, b2, po, co, cl, h.mono hO⟩
end
/-- O, and the blocks that are new. -/
def Plus (O : Nat → Prop) (w w' : World) (j : Nat) : Prop := O j ∨ (w.heap.size ≤ j ∧ j < w'.heap.size)

theorem wnew_yes (rows W long : Nat) (seed : U) (w : World) (h1 : 1 ≤ rows) (h2 : rows ≤ 8) (h3 : 1 ≤ W) (h4 : W ≤ 1024) (h5 : 1 ≤ long) (h6 : long ≤ 1099511627776) :
    Calls Try.prog 7 #[.int .i64 (rows : Int), .int .i64 (W : Int), uv seed, .int .i64 (long : Int)] w fun e w' => ∃ g, e = .returned (pv g) ∧ Below w.heap.size w w' ∧ IsWin w' (Plus (fun _ => False) w w') g (Win.new rows W seed long) := by
  go_enter Try.func7, Try.ntmps7
  go_wp2_with fail
  obtain ⟨W0, hW0⟩ : ∃ W0 : World, W0 = ((w.alloc (.cells #[.int .i64 (rows : Int)] 3)).alloc (.cells #[.int .i64 (W : Int)] 3)).alloc (.cells #[uv seed] 22) := ⟨_, rfl⟩
  have hb0 : Blk W0 w.heap.size 3 #[.int .i64 (rows : Int)] := by rw [hW0]; exact ((Blk.new w _ _).alloc _).alloc _
  have hb1 : Blk W0 (w.heap.size + 1) 3 #[.int .i64 (W : Int)] := by rw [hW0]; have := (Blk.new (w.alloc (.cells #[.int .i64 (rows : Int)] 3)) 3 #[.int .i64 (W : Int)]).alloc (.cells #[uv seed] 22); rwa [World.size_alloc] at this
  have hb2 : Blk W0 (w.heap.size + 1 + 1) 22 #[uv seed] := by rw [hW0]; have := Blk.new ((w.alloc (.cells #[.int .i64 (rows : Int)] 3)).alloc (.cells #[.int .i64 (W : Int)] 3)) 22 #[uv seed]; rwa [World.size_alloc, World.size_alloc] at this
  have hsz : W0.heap.size = w.heap.size + 1 + 1 + 1 := by rw [hW0]; simp
  have hbw : Below w.heap.size w W0 := by rw [hW0]; exact bl_alloc (bl_alloc (bl_alloc (Below.refl _ _) _) _) _
  rw [← hW0]
  clear hW0
  refine (fresh_calls w.heap.size (w.heap.size + 1) (w.heap.size + 1 + 1) rows W seed 0 W0 hb0 hb1 hb2 h1 h2 h3 h4 (by omega)).mono ?_
  rintro e w1 ⟨p, c, rfl, hb, hsk, hp, hc⟩
  replace hb0 := hb0.next hb
  replace hb1 := hb1.next hb
  replace hb2 := hb2.next hb
  replace hbw := bnext hbw hb
  have hs1 := hb.size
  clear hb
  go_wp2
  go_ret
  refine ⟨w1.heap.size, rfl, bl_alloc hbw _, w.heap.size, w.heap.size + 1, w.heap.size + 1 + 1, p, c, .pointer none, Win.new_ok rows W seed long h1 h2 h3 h4 h5 h6, hb0.alloc _, hb1.alloc _, hb2.alloc _, Blk.new _ _ _, hsk.next (bl_alloc (Below.refl _ _) _), by omega, rfl, ?_⟩
  have hpl := hsk.st.lt
  have hcl := hsk.cl.lt
  refine ⟨.inr ⟨by omega, by simp⟩, .inr ⟨by omega, ?_⟩, .inr ⟨by omega, ?_⟩, .inr ⟨by omega, ?_⟩, .inr ⟨by omega, ?_⟩, .inr ⟨by omega, ?_⟩⟩ <;> (rw [World.size_alloc]; omega)
theorem wnew_long (rows W : Nat) (long : Int) (seed : U) (w : World) (h1 : 1 ≤ rows) (h2 : rows ≤ 8) (h3 : 1 ≤ W) (h4 : W ≤ 1024) (h5 : long < 1) :
    Calls Try.prog 7 #[.int .i64 (rows : Int), .int .i64 (W : Int), uv seed, .int .i64 long] w fun e w' => e = .returned (.pointer none) ∧ Below w.heap.size w w' := by
  go_enter Try.func7, Try.ntmps7
  go_wp2_with fail
  refine (fresh_calls w.heap.size (w.heap.size + 1) (w.heap.size + 1 + 1) rows W seed 0 _ (((Blk.new w _ _).alloc _).alloc _) (by have := (Blk.new (w.alloc (.cells #[.int .i64 (rows : Int)] 3)) 3 #[.int .i64 (W : Int)]).alloc (.cells #[uv seed] 22); rwa [World.size_alloc] at this) (by have := Blk.new ((w.alloc (.cells #[.int .i64 (rows : Int)] 3)).alloc (.cells #[.int .i64 (W : Int)] 3)) 22 #[uv seed]; rwa [World.size_alloc, World.size_alloc] at this) h1 h2 h3 h4 (by omega)).mono ?_
  rintro e w1 ⟨p, c, rfl, hb, _⟩
  have hbw := bnext (bl_alloc (bl_alloc (bl_alloc (Below.refl _ _) _) _) _) hb
  clear hb
  go_wp2
  go_ret
  exact ⟨rfl, hbw⟩
theorem wnew_rows (rows W long : Int) (seed : U) (w : World) (h1 : rows < 1) :
    Calls Try.prog 7 #[.int .i64 rows, .int .i64 W, uv seed, .int .i64 long] w fun e w' => e = .returned (.pointer none) ∧ Below w.heap.size w w' := by
  go_enter Try.func7, Try.ntmps7
  go_wp2_with fail
  refine (fresh_no w.heap.size (w.heap.size + 1) (w.heap.size + 1 + 1) rows W seed _ (((Blk.new w _ _).alloc _).alloc _) (by have := (Blk.new (w.alloc (.cells #[.int .i64 rows] 3)) 3 #[.int .i64 W]).alloc (.cells #[uv seed] 22); rwa [World.size_alloc] at this) (by have := Blk.new ((w.alloc (.cells #[.int .i64 rows] 3)).alloc (.cells #[.int .i64 W] 3)) 22 #[uv seed]; rwa [World.size_alloc, World.size_alloc] at this) h1).mono ?_
  rintro e w1 ⟨rfl, hb⟩
  have hbw := bnext (bl_alloc (bl_alloc (bl_alloc (Below.refl _ _) _) _) _) hb
  clear hb
  go_wp2
  go_ret
  exact ⟨rfl, hbw⟩
theorem err_no (m : Win) (now : Int) (h : ¬ ((m.now : Int) ≤ now ∧ now ≤ 1099511627776)) : m.ok now = false := by
  unfold Win.ok
  by_cases h1 : (m.now : Int) ≤ now
  · by_cases h2 : now ≤ 1099511627776
    · exact absurd ⟨h1, h2⟩ h
    · simp [h2]
  · simp [h1]
theorem turn_no (O : Nat → Prop) (g : Nat) (m : Win) (now : Int) (w : World) (h : IsWin w O g m) (hn : m.ok now = false) :
    Calls Try.prog 19 #[pv g, .int .i64 now] w fun e w' => e = .returned (.int .u16 60) ∧ Below w.heap.size w w' := by
  obtain ⟨b0, b1, b2, po, co, cl, h⟩ := h
  have q2 := h.st.cell 2
  simp only [List.size_toArray, List.getElem?_toArray, List.getElem?_cons_zero, List.getElem?_cons_succ] at q2
  clear h
  unfold Win.ok at hn
  by_cases h1 : (m.now : Int) ≤ now
  · have h2 : ¬ now ≤ 1099511627776 := by
      intro h2
      simp [h1, h2] at hn
    clear hn
    go_enter Try.func19, Try.ntmps19
    go_wp2
    go_ret
    exact ⟨rfl, Below.refl _ _⟩
  · clear hn
    go_enter Try.func19, Try.ntmps19
    go_wp2
    go_ret
    exact ⟨rfl, Below.refl _ _⟩
theorem IsSk.far {w : World} {p c : Nat} {s : Sk} (h : IsSk w p c s) (q i : Nat) (v : Value) (hp : p ≠ q) (hc : c ≠ q) : IsSk (w.setCell ⟨q, i, none⟩ v) p c s :=
  ⟨h.ok, h.st.far (p := ⟨q, i, none⟩) hp v, h.cl.far (p := ⟨q, i, none⟩) hc v⟩
theorem ClosedAt.set {w : World} {O : Nat → Prop} {po co g : Nat} {cl : Value} {l : Option Sk} {cs : Array Value} (h : ClosedAt w O po co cl l) (hg : Blk w g 52 cs) (i : Nat) (v : Value) : ClosedAt (w.setCell ⟨g, i, none⟩ v) O po co cl l := by
  cases l with
  | none => exact h
  | some s =>
    obtain ⟨pc, cc, e, hs, h1, h2, h3, h4⟩ := h
    exact ⟨pc, cc, e, hs.far g i v (hs.st.ne_ hg (by decide)) (hs.cl.ne_ hg (by decide)), h1, h2, h3, h4⟩
/-- What lives on when the window's own block is written. -/
structure Beside (w : World) (O : Nat → Prop) (b0 b1 b2 po co : Nat) (cl : Value) (m : Win) : Prop where
  bx0 : Blk w b0 3 #[.int .i64 (m.rows : Int)]
  bx1 : Blk w b1 3 #[.int .i64 (m.W : Int)]
  bx2 : Blk w b2 22 #[uv m.seed]
  op : IsSk w po co m.this
  cls : ClosedAt w O po co cl m.last
theorem WinAt.beside {w : World} {O : Nat → Prop} {g b0 b1 b2 po co : Nat} {cl : Value} {m : Win} (h : WinAt w O g b0 b1 b2 po co cl m) : Beside w O b0 b1 b2 po co cl m := ⟨h.bx0, h.bx1, h.bx2, h.op, h.cls⟩
theorem Beside.set {w : World} {O : Nat → Prop} {g b0 b1 b2 po co : Nat} {cl : Value} {m : Win} {cs : Array Value} (h : Beside w O b0 b1 b2 po co cl m) (hg : Blk w g 52 cs) (i : Nat) (v : Value) : Beside (w.setCell ⟨g, i, none⟩ v) O b0 b1 b2 po co cl m :=
  ⟨h.bx0.far (p := ⟨g, i, none⟩) (h.bx0.ne_ hg (by decide)) v, h.bx1.far (p := ⟨g, i, none⟩) (h.bx1.ne_ hg (by decide)) v, h.bx2.far (p := ⟨g, i, none⟩) (h.bx2.ne_ hg (by decide)) v,
    h.op.far g i v (h.op.st.ne_ hg (by decide)) (h.op.cl.ne_ hg (by decide)), h.cls.set hg i v⟩
theorem Beside.drewN {w : World} {O : Nat → Prop} {b0 b1 b2 po co : Nat} {cl : Value} {m : Win} (h : Beside w O b0 b1 b2 po co cl m) (n : Nat) : Beside (w.drewN n) O b0 b1 b2 po co cl m := by
  refine ⟨h.bx0, h.bx1, h.bx2, ⟨h.op.ok, h.op.st, h.op.cl⟩, ?_⟩
  have hc := h.cls
  cases hl : m.last with
  | none => rw [hl] at hc; exact hc
  | some s =>
    rw [hl] at hc
    obtain ⟨pc, cc, e, hs, h1⟩ := hc
    exact ⟨pc, cc, e, ⟨hs.ok, hs.st, hs.cl⟩, h1⟩
theorem Beside.next {w w' : World} {O : Nat → Prop} {b0 b1 b2 po co : Nat} {cl : Value} {m : Win} (h : Beside w O b0 b1 b2 po co cl m) (k : Below w.heap.size w w') : Beside w' O b0 b1 b2 po co cl m :=
  ⟨h.bx0.next k, h.bx1.next k, h.bx2.next k, h.op.next k, h.cls.chg (.of_below (fun _ => False) k) fun _ _ hf => hf⟩
theorem turn_same (O : Nat → Prop) (g : Nat) (m : Win) (now : Nat) (w : World) (h : IsWin w O g m) (hn1 : m.now ≤ now) (hn2 : now ≤ 1099511627776) (hd : now / m.long = m.now / m.long) :
    Calls Try.prog 19 #[pv g, .int .i64 (now : Int)] w fun e w' => e = .returned (.int .u16 0) ∧ Chg O w w' ∧ IsWin w' (Plus O w w') g (m.turn now) := by
  obtain ⟨b0, b1, b2, po, co, cl, h⟩ := h
  have q1 := h.st.cell 1
  have q2 := h.st.cell 2
  have f2 := h.st.frozen 2
  simp only [List.size_toArray, List.getElem?_toArray, List.getElem?_cons_zero, List.getElem?_cons_succ] at q1 q2
  have hl1 := h.ok.long1
  have hlm := h.ok.longm
  have hnm := h.ok.nowm
  obtain ⟨l, hl⟩ : ∃ l, m.long = l := ⟨_, rfl⟩
  obtain ⟨n, hn⟩ : ∃ n, m.now = n := ⟨_, rfl⟩
  rw [hl] at q1 hl1 hlm hd
  rw [hn] at q2 hnm hn1 hd
  have hT : m.turn now = { m with now := now } := by unfold Win.turn; rw [hl, hn, if_pos hd]
  have HT := Lib.hid hT
  have HL := Lib.hid hl
  clear hT hl hn
  have ham : now / l ≤ 1099511627776 := Nat.le_trans (Nat.div_le_self _ _) hn2
  have ha : (now : Int) / (l : Int) = ((now / l : Nat) : Int) := by rw [Int.natCast_ediv]
  have hb : (n : Int) / (l : Int) = ((now / l : Nat) : Int) := by rw [hd, Int.natCast_ediv]
  obtain ⟨a, haa⟩ : ∃ a, now / l = a := ⟨_, rfl⟩
  rw [haa] at ham ha hb
  clear haa hd
  go_enter Try.func19, Try.ntmps19
  go_wp2
  go_quiet (fail)
  go_wp2
  go_ret
  rw [HT.out]
  have hch : Chg O w ((w.drewN nq).setCell ⟨g, 2, none⟩ (.int .i64 (now : Int))) := ((Chg.refl O w).drewN nq).setCell (p := ⟨g, 2, none⟩) (.inl h.inO.1) _
  refine ⟨rfl, hch, b0, b1, b2, po, co, cl, ?_⟩
  have hbs := (h.beside.drewN nq).set (show Blk (w.drewN nq) g 52 _ from h.st) 2 (.int .i64 (now : Int))
  have hst := (show Blk (w.drewN nq) g 52 _ from h.st).set_ 2 (.int .i64 (now : Int))
  exact ⟨⟨h.ok.1, h.ok.2, h.ok.3, h.ok.4, h.ok.5, h.ok.6, hn2⟩, hbs.bx0, hbs.bx1, hbs.bx2, hst, hbs.op, h.ne, hbs.cls.mono fun j hj => Or.inl hj, Or.inl h.inO.1, Or.inl h.inO.2.1, Or.inl h.inO.2.2.1, Or.inl h.inO.2.2.2.1, Or.inl h.inO.2.2.2.2.1, Or.inl h.inO.2.2.2.2.2⟩
theorem turn_next (O : Nat → Prop) (g : Nat) (m : Win) (now : Nat) (w : World) (h : IsWin w O g m) (hn1 : m.now ≤ now) (hn2 : now ≤ 1099511627776) (hd : now / m.long = m.now / m.long + 1) :
    Calls Try.prog 19 #[pv g, .int .i64 (now : Int)] w fun e w' => e = .returned (.int .u16 0) ∧ Chg O w w' ∧ IsWin w' (Plus O w w') g (m.turn now) := by
  obtain ⟨b0, b1, b2, po, co, cl, h⟩ := h
  have q1 := h.st.cell 1
  have q2 := h.st.cell 2
  have f2 := h.st.frozen 2
  simp only [List.size_toArray, List.getElem?_toArray, List.getElem?_cons_zero, List.getElem?_cons_succ] at q1 q2
  have hl1 := h.ok.long1
  have hlm := h.ok.longm
  have hnm := h.ok.nowm
  obtain ⟨l, hl⟩ : ∃ l, m.long = l := ⟨_, rfl⟩
  obtain ⟨n, hn⟩ : ∃ n, m.now = n := ⟨_, rfl⟩
  rw [hl] at q1 hl1 hlm hd
  rw [hn] at q2 hnm hn1 hd
  have hT : m.turn now = { m with now := now, last := some m.this, this := m.fresh (now / m.long) } := by
    have hne : ¬ now / l = n / l := by omega
    unfold Win.turn; rw [hl, hn, if_neg hne, if_pos hd]
  have HT := Lib.hid hT
  have HL := Lib.hid hl
  have ham : now / l ≤ 1099511627776 := Nat.le_trans (Nat.div_le_self _ _) hn2
  obtain ⟨b, hbb⟩ : ∃ b, n / l = b := ⟨_, rfl⟩
  have ha : (now : Int) / (l : Int) = (b : Int) + 1 := by rw [← hbb, ← Int.natCast_ediv, hd]; rfl
  have hb : (n : Int) / (l : Int) = (b : Int) := by rw [← hbb, Int.natCast_ediv]
  have hbm : b ≤ 1099511627775 := by omega
  have HB := Lib.hid (show now / m.long = b + 1 by rw [hl, hd, hbb])
  have hq1 : ((b : Int) + 1 == (b : Int)) = false := by rw [beq_eq_false_iff_ne]; omega
  clear hT hl hn hbb hd ham
  have q3 := h.st.cell 3
  have q4 := h.st.cell 4
  have f3 := h.st.frozen 3
  have f4 := h.st.frozen 4
  have q0 := h.st.cell 0
  simp only [List.size_toArray, List.getElem?_toArray, List.getElem?_cons_zero, List.getElem?_cons_succ] at q0 q3 q4
  go_enter Try.func19, Try.ntmps19
  go_wp2
  go_quiet (fail)
  have hch : Chg O w ((w.drewN nq).setCell ⟨g, 2, none⟩ (.int .i64 (now : Int))) := ((Chg.refl O w).drewN nq).setCell (p := ⟨g, 2, none⟩) (.inl h.inO.1) _
  have hst1 := (show Blk (w.drewN nq) g 52 _ from h.st).set_ 2 (.int .i64 (now : Int))
  have hbs1 := (h.beside.drewN nq).set (show Blk (w.drewN nq) g 52 _ from h.st) 2 (.int .i64 (now : Int))
  have hch2 := hch.setCell (p := ⟨g, 3, none⟩) (.inl h.inO.1) (pv po)
  have hst2 := hst1.set_ 3 (pv po)
  have hbs2 := hbs1.set hst1 3 (pv po)
  have f31 := hst1.frozen 3
  have q31 := hst1.cell 3
  have q41 := hst1.cell 4
  have q02 := hst2.cell 0
  simp only [List.size_toArray, List.setIfInBounds_toArray, List.set_cons_zero, List.set_cons_succ, List.getElem?_toArray, List.getElem?_cons_zero, List.getElem?_cons_succ] at q31 q41 q02 hst2
  clear hch hst1 hbs1
  go_wp2_with fail
  have hbm1 : b + 1 ≤ 1099511627776 := by omega
  rw [show ((b : Int) + 1) = ((b + 1 : Nat) : Int) from rfl]
  refine (fresh_calls b0 b1 b2 m.rows m.W m.seed (b + 1) _ hbs2.bx0 hbs2.bx1 hbs2.bx2 h.ok.1 h.ok.2 h.ok.3 h.ok.4 hbm1).mono ?_
  rintro e w3 ⟨p', c', rfl, hb3, hsk, hp', hc'⟩
  have hpl := hbs2.op.st.lt
  have hcl2 := hbs2.op.cl.lt
  have hb2l := hbs2.bx2.lt
  have hgl := hst2.lt
  have hw3 := hb3.size
  have hws := hch2.size
  replace hst2 := hst2.next hb3
  replace hbs2 := hbs2.next hb3
  replace hch2 := hch2.thenB hb3
  have r4 := hst2.cell 4
  have g4 := hst2.frozen 4
  simp only [List.getElem?_toArray, List.getElem?_cons_zero, List.getElem?_cons_succ] at r4
  have hst4 := hst2.set_ 4 (pv p')
  have hbs4 := hbs2.set hst2 4 (pv p')
  have hch4 := hch2.setCell (p := ⟨g, 4, none⟩) (.inl h.inO.1) (pv p')
  have hsk4 := hsk.far g 4 (pv p') (by omega) (by omega)
  have hpl4 := hsk4.st.lt
  have hcl4 := hsk4.cl.lt
  clear hch2 hb3
  go_wp2
  go_ret
  rw [HT.out]
  refine ⟨rfl, hch4, b0, b1, b2, p', c', _, ⟨h.ok.1, h.ok.2, h.ok.3, h.ok.4, h.ok.5, h.ok.6, hn2⟩, hbs4.bx0, hbs4.bx1, hbs4.bx2, hst4, ?_, by omega, ?_, Or.inl h.inO.1, Or.inl h.inO.2.1, Or.inl h.inO.2.2.1, Or.inl h.inO.2.2.2.1, Or.inr ⟨by omega, hpl4⟩, Or.inr ⟨by omega, hcl4⟩⟩
  · show IsSk _ p' c' (m.fresh (now / m.long))
    rw [HB.out]
    exact hsk4
  · exact ⟨po, co, rfl, hbs4.op, by omega, by omega, Or.inl h.inO.2.2.2.2.1, Or.inl h.inO.2.2.2.2.2⟩
theorem turn_far (O : Nat → Prop) (g : Nat) (m : Win) (now : Nat) (w : World) (h : IsWin w O g m) (hn1 : m.now ≤ now) (hn2 : now ≤ 1099511627776) (hd : ¬ now / m.long = m.now / m.long) (hd2 : ¬ now / m.long = m.now / m.long + 1) :
    Calls Try.prog 19 #[pv g, .int .i64 (now : Int)] w fun e w' => e = .returned (.int .u16 0) ∧ Chg O w w' ∧ IsWin w' (Plus O w w') g (m.turn now) := by
  obtain ⟨b0, b1, b2, po, co, cl, h⟩ := h
  have q1 := h.st.cell 1
  have q2 := h.st.cell 2
  have f2 := h.st.frozen 2
  simp only [List.size_toArray, List.getElem?_toArray, List.getElem?_cons_zero, List.getElem?_cons_succ] at q1 q2
  have hl1 := h.ok.long1
  have hlm := h.ok.longm
  have hnm := h.ok.nowm
  obtain ⟨l, hl⟩ : ∃ l, m.long = l := ⟨_, rfl⟩
  obtain ⟨n, hn⟩ : ∃ n, m.now = n := ⟨_, rfl⟩
  rw [hl] at q1 hl1 hlm hd hd2
  rw [hn] at q2 hnm hn1 hd hd2
  have hT : m.turn now = { m with now := now, last := none, this := m.fresh (now / m.long) } := by
    unfold Win.turn; rw [hl, hn, if_neg hd, if_neg hd2]
  have HT := Lib.hid hT
  have HL := Lib.hid hl
  have ham : now / l ≤ 1099511627776 := Nat.le_trans (Nat.div_le_self _ _) hn2
  have hbm : n / l ≤ 1099511627776 := Nat.le_trans (Nat.div_le_self _ _) hnm
  have ha : (now : Int) / (l : Int) = ((now / l : Nat) : Int) := by rw [Int.natCast_ediv]
  have hb : (n : Int) / (l : Int) = ((n / l : Nat) : Int) := by rw [Int.natCast_ediv]
  have HB0 : now / m.long = now / l := by rw [hl]
  obtain ⟨a, haa⟩ : ∃ a, now / l = a := ⟨_, rfl⟩
  obtain ⟨b, hbb⟩ : ∃ b, n / l = b := ⟨_, rfl⟩
  rw [haa] at ham ha hd hd2 HB0
  rw [hbb] at hbm hb hd hd2
  have HB := Lib.hid HB0
  have hq1 : (a == b) = false := by rw [beq_eq_false_iff_ne]; exact hd
  have hq1' : ((a : Int) == (b : Int)) = false := by rw [beq_eq_false_iff_ne]; omega
  have hq2 : ((a : Int) == (b : Int) + 1) = false := by rw [beq_eq_false_iff_ne]; omega
  clear hT hl hn hbb haa hd hd2 HB0
  have q3 := h.st.cell 3
  have q4 := h.st.cell 4
  have f3 := h.st.frozen 3
  have f4 := h.st.frozen 4
  have q0 := h.st.cell 0
  simp only [List.size_toArray, List.getElem?_toArray, List.getElem?_cons_zero, List.getElem?_cons_succ] at q0 q3 q4
  go_enter Try.func19, Try.ntmps19
  go_wp2
  go_quiet (fail)
  have hch : Chg O w ((w.drewN nq).setCell ⟨g, 2, none⟩ (.int .i64 (now : Int))) := ((Chg.refl O w).drewN nq).setCell (p := ⟨g, 2, none⟩) (.inl h.inO.1) _
  have hst1 := (show Blk (w.drewN nq) g 52 _ from h.st).set_ 2 (.int .i64 (now : Int))
  have hbs1 := (h.beside.drewN nq).set (show Blk (w.drewN nq) g 52 _ from h.st) 2 (.int .i64 (now : Int))
  have hch2 := hch.setCell (p := ⟨g, 3, none⟩) (.inl h.inO.1) (.pointer none)
  have hst2 := hst1.set_ 3 (.pointer none)
  have hbs2 := hbs1.set hst1 3 (.pointer none)
  have f31 := hst1.frozen 3
  have q31 := hst1.cell 3
  have q41 := hst1.cell 4
  have q02 := hst2.cell 0
  simp only [List.size_toArray, List.setIfInBounds_toArray, List.set_cons_zero, List.set_cons_succ, List.getElem?_toArray, List.getElem?_cons_zero, List.getElem?_cons_succ] at q31 q41 q02 hst2
  clear hch hst1 hbs1
  go_wp2_with fail
  refine (fresh_calls b0 b1 b2 m.rows m.W m.seed a _ hbs2.bx0 hbs2.bx1 hbs2.bx2 h.ok.1 h.ok.2 h.ok.3 h.ok.4 ham).mono ?_
  rintro e w3 ⟨p', c', rfl, hb3, hsk, hp', hc'⟩
  have hpl := hbs2.op.st.lt
  have hcl2 := hbs2.op.cl.lt
  have hb2l := hbs2.bx2.lt
  have hgl := hst2.lt
  have hw3 := hb3.size
  have hws := hch2.size
  replace hst2 := hst2.next hb3
  replace hbs2 := hbs2.next hb3
  replace hch2 := hch2.thenB hb3
  have r4 := hst2.cell 4
  have g4 := hst2.frozen 4
  simp only [List.getElem?_toArray, List.getElem?_cons_zero, List.getElem?_cons_succ] at r4
  have hst4 := hst2.set_ 4 (pv p')
  have hbs4 := hbs2.set hst2 4 (pv p')
  have hch4 := hch2.setCell (p := ⟨g, 4, none⟩) (.inl h.inO.1) (pv p')
  have hsk4 := hsk.far g 4 (pv p') (by omega) (by omega)
  have hpl4 := hsk4.st.lt
  have hcl4 := hsk4.cl.lt
  clear hch2 hb3
  go_wp2
  go_ret
  rw [HT.out]
  refine ⟨rfl, hch4, b0, b1, b2, p', c', _, ⟨h.ok.1, h.ok.2, h.ok.3, h.ok.4, h.ok.5, h.ok.6, hn2⟩, hbs4.bx0, hbs4.bx1, hbs4.bx2, hst4, ?_, by omega, ?_, Or.inl h.inO.1, Or.inl h.inO.2.1, Or.inl h.inO.2.2.1, Or.inl h.inO.2.2.2.1, Or.inr ⟨by omega, hpl4⟩, Or.inr ⟨by omega, hcl4⟩⟩
  · show IsSk _ p' c' (m.fresh (now / m.long))
    rw [HB.out]
    exact hsk4
  · exact rfl
theorem turn_yes (O : Nat → Prop) (g : Nat) (m : Win) (now : Nat) (w : World) (h : IsWin w O g m) (hn1 : m.now ≤ now) (hn2 : now ≤ 1099511627776) :
    Calls Try.prog 19 #[pv g, .int .i64 (now : Int)] w fun e w' => e = .returned (.int .u16 0) ∧ Chg O w w' ∧ IsWin w' (Plus O w w') g (m.turn now) := by
  by_cases hd : now / m.long = m.now / m.long
  · exact turn_same O g m now w h hn1 hn2 hd
  · by_cases hd2 : now / m.long = m.now / m.long + 1
    · exact turn_next O g m now w h hn1 hn2 hd2
    · exact turn_far O g m now w h hn1 hn2 hd hd2
end Go.Proofs.Ytiohjmpnkoohjaa.Tele
