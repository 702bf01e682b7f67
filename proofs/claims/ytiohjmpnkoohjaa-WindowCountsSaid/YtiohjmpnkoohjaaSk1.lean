/- The walks of package sketch. No conditions but that a sketch is one. -/
import Derived.Test.YtiohjmpnkoohjaaHash3
import Derived.Test.YtiohjmpnkoohjaaBlk
import Derived.Test.YtiohjmpnkoohjaaPSk
import Derived.Laws.MakeOwn
import Derived.Deep.OwnRows
import Derived.Deep.RegionHeld3
import Derived.Deep.DrawnRows
namespace Go.Proofs.Ytiohjmpnkoohjaa.Tele
open Go.RowKit
set_option linter.unusedVariables false
set_option linter.unusedSimpArgs false

/-- A number as Go's value of 64 digits. -/
abbrev nv (n : Nat) : Value := .int .u64 (n : Int)
/-- Block p is a sketch, block c its cells. -/
structure IsSk (w : World) (p c : Nat) (s : Sk) : Prop where
  ok : s.Ok
  st : Blk w p 63 #[.slice (some ⟨c, 0, none⟩) (s.rows * s.W) (s.rows * s.W), .int .i64 (s.W : Int), uv s.seed, nv s.total]
  cl : Blk w c 22 (s.cells.map nv).toArray

theorem IsSk.ne {w : World} {p c : Nat} {s : Sk} (h : IsSk w p c s) : p ≠ c := h.st.ne_ h.cl (by decide)
theorem IsSk.chg {w w' : World} {p c : Nat} {s : Sk} {S : Nat → Prop} (h : IsSk w p c s) (k : Chg S w w') (hp : ¬ S p) (hc : ¬ S c) : IsSk w' p c s := ⟨h.ok, h.st.chg k hp, h.cl.chg k hc⟩
theorem IsSk.next {w w' : World} {p c : Nat} {s : Sk} (h : IsSk w p c s) (k : Below w.heap.size w w') : IsSk w' p c s := ⟨h.ok, h.st.next k, h.cl.next k⟩

attribute [local go_sem ↓] Go.wp_at_zero Go.wp_at_succ
theorem infoU64 : (Try.prog.info? 22).map (fun i => (i.zero, i.size, i.bytes)) = some (some (.int .u64 0), 1, 8) := by kernel_rfl
theorem new_no (rows width : Int) (seed : U) (w : World) (h : rows < 1 ∨ 8 < rows ∨ width < 1 ∨ 1024 < width) : Calls Try.prog 18 #[.int .i64 rows, .int .i64 width, uv seed] w fun e w' => e = .returned (.pointer none) ∧ w' = w := by
  by_cases h1 : rows < 1
  · go_enter Try.func18, Try.ntmps18
    go_wp2
    go_ret
    exact ⟨rfl, rfl⟩
  · by_cases h2 : 8 < rows
    · go_enter Try.func18, Try.ntmps18
      go_wp2
      go_ret
      exact ⟨rfl, rfl⟩
    · by_cases h3 : width < 1
      · go_enter Try.func18, Try.ntmps18
        go_wp2
        go_ret
        exact ⟨rfl, rfl⟩
      · have h4 : 1024 < width := by omega
        go_enter Try.func18, Try.ntmps18
        go_wp2
        go_ret
        exact ⟨rfl, rfl⟩
theorem made_zero (n : Nat) : madeCells #[Value.int .u64 0] n = ((List.replicate n 0).map nv).toArray := by
  apply Array.ext
  · simp [madeCells]
  · intro i h1 h2
    simp [madeCells, Nat.mod_one]
theorem new_yes (rows W : Nat) (seed : U) (w : World) (h1 : 1 ≤ rows) (h2 : rows ≤ 8) (h3 : 1 ≤ W) (h4 : W ≤ 1024) :
    Calls Try.prog 18 #[.int .i64 (rows : Int), .int .i64 (W : Int), uv seed] w fun e w' => e = .returned (.pointer (some ⟨w.heap.size + 1, 0, none⟩)) ∧ Below w.heap.size w w' ∧ IsSk w' (w.heap.size + 1) w.heap.size (Sk.new rows W seed) := by
  have hm : rows * W ≤ 8192 := Nat.le_trans (Nat.mul_le_mul h2 h4) (by decide)
  have hmk := fun w : World => run_make_row' (P := Try.prog) 60 22 (.int .u64 0) 8 Try.underlying60 infoU64 rfl .i64 .i64 (rows * W) (by omega) (by omega) w
  have hmul : IntKind.i64.wrap ((rows : Int) * (W : Int)) = ((rows * W : Nat) : Int) := by
    have : ((rows : Int) * (W : Int)) = ((rows * W : Nat) : Int) := by simp
    rw [this, IntKind.wrap_i64]
    omega
  obtain ⟨n, hn⟩ : ∃ n, n = rows * W := ⟨_, rfl⟩
  rw [← hn] at hmk hmul
  have HN := Lib.hid hn
  clear hn hm
  go_enter Try.func18, Try.ntmps18
  go_wp2
  go_ret
  refine ⟨rfl, bl_alloc (bl_alloc (Below.refl _ _) _) _, Sk.new_ok rows W seed h1 h2 h3 h4, ?_, ?_⟩
  · have e := Blk.new (w.alloc (.cells (madeCells #[Value.int .u64 0] n) 22)) 63 #[.slice (some ⟨w.heap.size, 0, none⟩) n n, .int .i64 (W : Int), uv seed, .int .u64 0]
    rw [World.size_alloc] at e
    show Blk _ _ _ #[.slice _ (rows * W) (rows * W), _, _, _]
    rw [← HN.out]
    exact e
  · have e := (Blk.new w 22 (madeCells #[Value.int .u64 0] n)).alloc (.cells #[.slice (some ⟨w.heap.size, 0, none⟩) n n, .int .i64 (W : Int), uv seed, .int .u64 0] 63)
    show Blk _ _ _ ((List.replicate (rows * W) 0).map nv).toArray
    rw [← HN.out, ← made_zero]
    exact e
theorem ix_div (s : Sk) (h : s.Ok) (i : Nat) : ((i * s.W : Nat) : Int) / (s.W : Int) = (i : Int) := by
  have := h.W1
  rw [← Int.natCast_ediv, Nat.mul_div_cancel _ (by omega)]
theorem seed_add (X : U) (i : Nat) : IntKind.u64.wrap ((X.toNat : Int) + IntKind.u64.wrap (i : Int)) = ((X + BitVec.ofNat 64 i).toNat : Int) := by
  rw [wrapU (i : Int), BitVec.ofInt_natCast, u_add]
set_option maxHeartbeats 1000000 in
theorem cell_calls (p c : Nat) (s : Sk) (key : ByteArray) (i : Nat) (f : Int) (w : World) (h : IsSk w p c s) (hi : i < s.rows) (hk : key.size ≤ 140737488351232) (hf : f = ((i * s.W : Nat) : Int)) :
    Calls Try.prog 27 #[.pointer (some ⟨p, 0, none⟩), .int .i64 f, .string key] w fun e w' => e = .returned (.pointer (some ⟨c, s.ix key.data.toList i, none⟩)) ∧ Below w.heap.size w w' := by
  have q0 := h.st.cell 0
  have q1 := h.st.cell 1
  have q2 := h.st.cell 2
  simp only [List.size_toArray, List.getElem?_toArray, List.getElem?_cons_zero, List.getElem?_cons_succ] at q0 q1 q2
  have hp := h.st.lt
  have hd := ix_div s h.ok i
  rw [← hf] at hd
  have hw1 := h.ok.W1
  have hwm := h.ok.Wm
  have hi8 : i < 8 := by have := h.ok.rows8; omega
  have hs := seed_add s.seed i
  have hlt := Sk.ix_lt s h.ok key.data.toList i hi
  have hn : s.rows * s.W ≤ 8192 := Nat.le_trans (Nat.mul_le_mul h.ok.rows8 hwm) (by decide)
  have hix : ((s.ix key.data.toList i : Nat) : Int) = f + in_ (s.seed + BitVec.ofNat 64 i) key.data.toList s.W := by
    have hr := in_range (s.seed + BitVec.ofNat 64 i) key.data.toList s.W (by omega)
    unfold Sk.ix
    rw [hf]
    omega
  have hin := Lib.hid (fun w => in_calls (s.seed + BitVec.ofNat 64 i) key s.W w hk (by omega))
  have hr := in_range (s.seed + BitVec.ofNat 64 i) key.data.toList s.W (by omega)
  obtain ⟨hr1, hr2⟩ := hr
  have hf0 : 0 ≤ f ∧ f ≤ 8192 := by
    have : i * s.W ≤ s.rows * s.W := Nat.mul_le_mul_right _ (by omega)
    omega
  obtain ⟨hf0, hf1⟩ := hf0
  generalize s.seed + BitVec.ofNat 64 i = sd at *
  generalize in_ sd key.data.toList s.W = v at *
  generalize s.rows * s.W = n at *
  generalize s.ix key.data.toList i = x at *
  have hx1 : 0 ≤ f + v := by omega
  have hx2 : f + v < (n : Int) := by omega
  have HX := Lib.hid (show (f + v).toNat = x by omega)
  have hw : IntKind.i64.wrap (f + v) = f + v := by rw [IntKind.wrap_i64]; omega
  clear hf hix hi
  go_enter Try.func27, Try.ntmps27
  go_wp2
  clear h
  go_region_held3 (fun w' => w'.cell? ⟨p, 0, none⟩ = some (.slice (some ⟨c, 0, none⟩) n n) ∧ w'.cell? ⟨p, 1, none⟩ = some (.int .i64 (s.W : Int)) ∧ w'.cell? ⟨p, 2, none⟩ = some (uv s.seed))
    (first | go_keep | (rw [hb.cell (p := ⟨p, 0, none⟩) (by simpa using hp), hb.cell (p := ⟨p, 1, none⟩) (by simpa using hp), hb.cell (p := ⟨p, 2, none⟩) (by simpa using hp)]; go_keep))
    (first | (go_at_call 30; (with_reducible refine (hin.out _).mono ?_); rintro e w1 ⟨rfl, hb⟩))
  all_goals go_wp2
  go_ret
  exact ⟨by simp [HX.out], bnext (Below.drew (Below.refl _ _)) hb⟩
theorem sum_lo (a b : Nat) (w : World) (h : a + b ≤ 18446744073709551615) : Calls Try.prog 26 #[nv a, nv b] w fun e w' => e = .returned (nv (sat a b)) ∧ w' = w := by
  have hw : IntKind.u64.wrap ((a : Int) + (b : Int)) = ((a + b : Nat) : Int) := by
    rw [wrapU, BitVec.toNat_ofInt]; omega
  rw [show sat a b = a + b from if_pos h]
  obtain ⟨z, hz⟩ : ∃ z, z = a + b := ⟨_, rfl⟩
  rw [← hz] at hw ⊢
  have ht : decide (a ≤ z) = true := by simp; omega
  clear hz h
  go_enter Try.func26, Try.ntmps26
  go_wp2
  go_ret
  exact ⟨rfl, rfl⟩
theorem sum_hi (a b : Nat) (w : World) (ha : a ≤ 18446744073709551615) (hb : b ≤ 18446744073709551615) (h : ¬ a + b ≤ 18446744073709551615) : Calls Try.prog 26 #[nv a, nv b] w fun e w' => e = .returned (nv (sat a b)) ∧ w' = w := by
  obtain ⟨z, hw, hz⟩ : ∃ z : Nat, IntKind.u64.wrap ((a : Int) + (b : Int)) = (z : Int) ∧ z < a :=
    ⟨a + b - 18446744073709551616, by rw [wrapU, BitVec.toNat_ofInt]; omega, by omega⟩
  rw [show sat a b = 18446744073709551615 from if_neg h]
  have ht : decide (a ≤ z) = false := by simp; omega
  clear hz h ha hb
  go_enter Try.func26, Try.ntmps26
  go_wp2
  go_ret
  exact ⟨rfl, rfl⟩
theorem sum_calls (a b : Nat) (w : World) (ha : a ≤ 18446744073709551615) (hb : b ≤ 18446744073709551615) : Calls Try.prog 26 #[nv a, nv b] w fun e w' => e = .returned (nv (sat a b)) ∧ w' = w := by
  by_cases h : a + b ≤ 18446744073709551615
  · exact sum_lo a b w h
  · exact sum_hi a b w ha hb h
theorem min_nat (k : IntKind) (ats : Array TypeId) (ty : TypeId) (x y : Nat) : Builtin.min_ ats ty #[.int k (x : Int), .int k (y : Int)] = pure (.int k ((min x y : Nat) : Int)) := by
  simp only [Builtin.min_, List.foldlM_cons, List.foldlM_nil, Builtin.min2]
  by_cases h : y < x
  · rw [if_pos (by omega), Nat.min_eq_right (by omega)]; rfl
  · rw [if_neg (by omega), Nat.min_eq_left (by omega)]; rfl
theorem max_nat (k : IntKind) (ats : Array TypeId) (ty : TypeId) (x y : Nat) : Builtin.max_ ats ty #[.int k (x : Int), .int k (y : Int)] = pure (.int k ((max x y : Nat) : Int)) := by
  simp only [Builtin.max_, List.foldlM_cons, List.foldlM_nil, Builtin.max2]
  by_cases h : x < y
  · rw [if_pos (by omega), Nat.max_eq_right (by omega)]; rfl
  · rw [if_neg (by omega), Nat.max_eq_left (by omega)]; rfl
theorem nv_get (l : List Nat) (i : Nat) (h : i < l.length) : ((l.map nv).toArray)[i]? = some (nv (l.getD i 0)) := by
  simp [List.getElem?_eq_getElem h, List.getD_eq_getElem?_getD]
attribute [local go_sem] min_nat max_nat
theorem count_calls (p c : Nat) (s : Sk) (key : ByteArray) (w : World) (h : IsSk w p c s) (hk : key.size ≤ 140737488351232) :
    Calls Try.prog 21 #[.pointer (some ⟨p, 0, none⟩), .string key] w fun e w' => e = .returned (nv (s.count key.data.toList)) ∧ Below w.heap.size w w' := by
  go_enter Try.func21, Try.ntmps21
  go_wp2
  go_loopw [5, 6] (fun n f wr => ∃ k : Nat, k ≤ s.rows ∧ f = .int .i64 ((k * s.W : Nat) : Int) ∧ n = nv (s.countK key.data.toList k) ∧ IsSk wr p c s ∧ Below w.heap.size w wr) (fun _ f _ => s.rows * s.W - (intOf f).toNat)
  case atStart => exact ⟨0, by omega, by simp, rfl, h, Below.refl _ _⟩
  case round =>
    obtain ⟨k, hk1, rfl, rfl, hs, hb⟩ := hrel
    have q0 := hs.st.cell 0
    have q1 := hs.st.cell 1
    simp only [List.size_toArray, List.getElem?_toArray, List.getElem?_cons_zero, List.getElem?_cons_succ] at q0 q1
    have hn : s.rows * s.W ≤ 8192 := Nat.le_trans (Nat.mul_le_mul h.ok.rows8 h.ok.Wm) (by decide)
    obtain ⟨f, hf⟩ : ∃ f : Nat, f = k * s.W := ⟨_, rfl⟩
    obtain ⟨n, hn2⟩ : ∃ n : Nat, n = s.rows * s.W := ⟨_, rfl⟩
    rw [← hf]
    rw [← hn2] at q0 hn
    have HF := Lib.hid hf
    have HN := Lib.hid hn2
    clear hf hn2
    by_cases hlt : k < s.rows
    · have hfn : f + s.W ≤ n := by
        rw [HF.out, HN.out]
        have := Nat.mul_le_mul_right s.W (show k + 1 ≤ s.rows by omega)
        rw [Nat.add_mul, Nat.one_mul] at this
        exact this
      have hw1 := h.ok.W1
      have hwm := h.ok.Wm
      have hcc := Lib.hid (cell_calls p c s key k (f : Int) wr hs hlt hk (by rw [HF.out]))
      have hixl := Sk.ix_lt s h.ok key.data.toList k hlt
      have HS := Lib.hid (show s.countK key.data.toList (k + 1) = min (s.countK key.data.toList k) (s.cells.getD (s.ix key.data.toList k) 0) from rfl)
      have hlen := h.ok.len
      generalize s.ix key.data.toList k = x at *
      go_wp2_with fail
      refine (hcc.out).mono ?_
      rintro e w2 ⟨rfl, hb2⟩
      have hs2 := hs.next hb2
      have hbb := bnext hb hb2
      have qx : w2.cell? ⟨c, x, none⟩ = some (nv (s.cells.getD x 0)) := by rw [hs2.cl.cell, nv_get _ _ (by rw [hlen]; exact hixl)]
      have r0 := hs2.st.cell 0
      have r1 := hs2.st.cell 1
      simp only [List.size_toArray, List.getElem?_toArray, List.getElem?_cons_zero, List.getElem?_cons_succ] at r0 r1
      clear q0 q1 hixl hlen
      generalize s.cells.getD x 0 = y at *
      generalize s.countK key.data.toList k = z at *
      go_wp2
      go_roundw
      case rel => exact ⟨k + 1, by omega, by rw [Nat.add_mul, Nat.one_mul, HF.out]; simp, by rw [HS.out], hs2, hbb⟩
      case measure => have := HN.out; simp [intOf]; omega
    · have : k = s.rows := by omega
      subst this
      have hge : decide (f < n) = false := by simp; rw [HF.out, HN.out]; exact Nat.le_refl _
      go_wp2
      go_ret
      exact ⟨rfl, hb⟩
/-- The sketch of which the first k rows' cells have been raised. -/
def Sk.at_ (s : Sk) (key : List UInt8) (m k : Nat) : Sk := { s with cells := s.raise key m k }
theorem Sk.at_ok (s : Sk) (h : s.Ok) (key : List UInt8) (m k : Nat) (hm : m ≤ 18446744073709551615) : (s.at_ key m k).Ok :=
  ⟨h.rows1, h.rows8, h.W1, h.Wm, by show (s.raise key m k).length = _; rw [Sk.raise_len]; exact h.len, Sk.raise_small s h key m k hm, h.tot⟩
theorem set_nv (l : List Nat) (i v : Nat) : ((l.map nv).toArray).setIfInBounds i (nv v) = ((l.set i v).map nv).toArray := by
  simp [List.map_set]
theorem add_calls (p c : Nat) (s : Sk) (key : ByteArray) (m : Nat) (w : World) (h : IsSk w p c s) (hk : key.size ≤ 140737488351232) (hm : m ≤ 18446744073709551615) :
    Calls Try.prog 20 #[.pointer (some ⟨p, 0, none⟩), .string key, nv m] w fun e w' => e = .returned (.tuple #[]) ∧ Chg (fun b => b = p ∨ b = c) w w' ∧ IsSk w' p c (s.add key.data.toList m) := by
  have hcnt := Sk.countK_le s key.data.toList s.rows
  have hcc := Lib.hid (count_calls p c s key w h hk)
  have hsm := Lib.hid (fun w => sum_calls (s.count key.data.toList) m w hcnt hm)
  have hst := Lib.hid (fun w => sum_calls s.total m w h.ok.tot hm)
  obtain ⟨M, hM⟩ : ∃ M, M = sat (s.count key.data.toList) m := ⟨_, rfl⟩
  rw [← hM] at hsm
  have HM := Lib.hid hM
  clear hM
  go_enter Try.func20, Try.ntmps20
  go_wp2_with fail
  refine (hcc.out).mono ?_
  rintro e w1 ⟨rfl, hb⟩
  go_wp2_with fail
  refine (hsm.out _).mono ?_
  rintro e w1' ⟨rfl, rfl⟩
  have hs1 := h.next hb
  have hch := Chg.of_below (fun b => b = p ∨ b = c) hb
  clear hb
  go_wp2_with fail
  have hMs : M ≤ 18446744073709551615 := by rw [HM.out]; exact Sk.sat_le _ _
  go_loopw [7] (fun f wr => ∃ k : Nat, k ≤ s.rows ∧ f = .int .i64 ((k * s.W : Nat) : Int) ∧ IsSk wr p c (s.at_ key.data.toList M k) ∧ Chg (fun b => b = p ∨ b = c) w wr) (fun f _ => s.rows * s.W - (intOf f).toNat)
  case atStart => exact ⟨0, by omega, by simp, hs1, hch⟩
  case round =>
    obtain ⟨k, hk1, rfl, hs, hb⟩ := hrel
    clear hs1 hch
    have q0 := hs.st.cell 0
    have q1 := hs.st.cell 1
    simp only [List.size_toArray, List.getElem?_toArray, List.getElem?_cons_zero, List.getElem?_cons_succ, Sk.at_] at q0 q1
    have hn : s.rows * s.W ≤ 8192 := Nat.le_trans (Nat.mul_le_mul h.ok.rows8 h.ok.Wm) (by decide)
    obtain ⟨f, hf⟩ : ∃ f : Nat, f = k * s.W := ⟨_, rfl⟩
    obtain ⟨n, hn2⟩ : ∃ n : Nat, n = s.rows * s.W := ⟨_, rfl⟩
    rw [← hf]
    rw [← hn2] at q0 hn
    have HF := Lib.hid hf
    have HN := Lib.hid hn2
    clear hf hn2
    by_cases hlt : k < s.rows
    · have hfn : f + s.W ≤ n := by
        rw [HF.out, HN.out]
        have := Nat.mul_le_mul_right s.W (show k + 1 ≤ s.rows by omega)
        rw [Nat.add_mul, Nat.one_mul] at this
        exact this
      have hw1 := h.ok.W1
      have hwm := h.ok.Wm
      have hcc := Lib.hid (cell_calls p c (s.at_ key.data.toList M k) key k (f : Int) wr hs hlt hk (by rw [HF.out]; rfl))
      have hixl : (s.at_ key.data.toList M k).ix key.data.toList k < s.rows * s.W := Sk.ix_lt _ hs.ok key.data.toList k hlt
      have HX := Lib.hid (show s.raise key.data.toList M (k + 1) = (s.raise key.data.toList M k).set ((s.at_ key.data.toList M k).ix key.data.toList k) (max ((s.raise key.data.toList M k).getD ((s.at_ key.data.toList M k).ix key.data.toList k) 0) M) from rfl)
      have hlen : (s.raise key.data.toList M k).length = s.rows * s.W := by rw [Sk.raise_len, h.ok.len]
      have hne := hs.ne
      generalize (s.at_ key.data.toList M k).ix key.data.toList k = x at *
      go_wp2_with fail
      refine (hcc.out).mono ?_
      rintro e w2 ⟨rfl, hb2⟩
      have hs2 := hs.next hb2
      have hbb := hb.thenB hb2
      have qx : w2.cell? ⟨c, x, none⟩ = some (nv ((s.raise key.data.toList M k).getD x 0)) := by rw [hs2.cl.cell]; exact nv_get (s.raise key.data.toList M k) _ (by rw [hlen]; exact hixl)
      have fx : w2.frozen? ⟨c, x, none⟩ = false := hs2.cl.frozen x
      clear q0 q1 hixl hlen
      obtain ⟨y, hy⟩ : ∃ y, y = (s.raise key.data.toList M k).getD x 0 := ⟨_, rfl⟩
      rw [← hy] at qx
      have HY := Lib.hid hy
      clear hy
      have HS3 := Lib.hid (show IsSk (w2.setCell ⟨c, x, none⟩ (nv (max y M))) p c (s.at_ key.data.toList M (k + 1)) from
        ⟨Sk.at_ok s h.ok _ _ _ hMs, hs2.st.far (p := ⟨c, x, none⟩) hne _, by
          have := hs2.cl.set_ x (nv (max y M))
          show Blk _ c 22 ((s.raise key.data.toList M (k + 1)).map nv).toArray
          rw [HX.out, ← HY.out, ← set_nv]
          exact this⟩)
      have HB3 := Lib.hid (hbb.setCell (p := ⟨c, x, none⟩) (.inl (.inr rfl)) (nv (max y M)))
      have r1 := HS3.out.st.cell 1
      simp only [List.size_toArray, List.getElem?_toArray, List.getElem?_cons_zero, List.getElem?_cons_succ, Sk.at_] at r1
      go_wp2
      go_roundw
      case rel => exact ⟨k + 1, by omega, by rw [Nat.add_mul, Nat.one_mul, HF.out]; simp, HS3.out, HB3.out⟩
      case measure => have := HN.out; simp [intOf]; omega
    · have : k = s.rows := by omega
      subst this
      have hge : decide (f < n) = false := by simp; rw [HF.out, HN.out]; exact Nat.le_refl _
      have q3 := hs.st.cell 3
      have f3 := hs.st.frozen 3
      simp only [List.size_toArray, List.getElem?_toArray, List.getElem?_cons_zero, List.getElem?_cons_succ, Sk.at_] at q3
      have HS3 := Lib.hid (show IsSk (wr.setCell ⟨p, 3, none⟩ (nv (sat s.total m))) p c (s.add key.data.toList m) from
        ⟨Sk.add_ok s h.ok _ _, by
          have := hs.st.set_ 3 (nv (sat s.total m))
          exact this, by
          have := hs.cl.far (p := ⟨p, 3, none⟩) (Ne.symm hs.ne) (nv (sat s.total m))
          show Blk _ c 22 ((s.raise key.data.toList (sat (s.count key.data.toList) m) s.rows).map nv).toArray
          rw [← HM.out]
          exact this⟩)
      have HB3 := Lib.hid (hb.setCell (p := ⟨p, 3, none⟩) (.inl (.inl rfl)) (nv (sat s.total m)))
      go_wp2_with fail
      refine (hst.out _).mono ?_
      rintro e w3 ⟨rfl, rfl⟩
      go_wp2
      go_end0
      exact ⟨rfl, HB3.out, HS3.out⟩
end Go.Proofs.Ytiohjmpnkoohjaa.Tele
