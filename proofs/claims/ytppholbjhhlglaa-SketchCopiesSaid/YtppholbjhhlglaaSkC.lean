/- The walks of package sketch once more, for a clone's cells: their block may be longer than the slice. No conditions but that a sketch is one. -/
import Derived.Test.YtppholbjhhlglaaSk2
import Derived.Maps.AppendAt
import Derived.WalkSpells
namespace Go.Proofs.Ytppholbjhhlglaa.Tele
open Go.RowKit
set_option linter.unusedVariables false
set_option linter.unusedSimpArgs false
attribute [local go_sem ↓] Go.wp_at_zero Go.wp_at_succ

/-- Block p is a sketch, block c its cells, and more behind them. -/
structure IsSkC (w : World) (p c : Nat) (s : Sk) (cap : Nat) (rest : List Value) : Prop where
  ok : s.Ok
  st : Blk w p 50 #[.slice (some ⟨c, 0, none⟩) (s.rows * s.W) cap, .int .i64 (s.W : Int), uv s.seed, nv s.total]
  cl : Blk w c 22 (s.cells.map nv ++ rest).toArray
theorem IsSkC.ne {w : World} {p c : Nat} {s : Sk} {cap : Nat} {rest : List Value} (h : IsSkC w p c s cap rest) : p ≠ c := h.st.ne_ h.cl (by decide)
theorem IsSkC.chg {w w' : World} {p c : Nat} {s : Sk} {cap : Nat} {rest : List Value} {S : Nat → Prop} (h : IsSkC w p c s cap rest) (k : Chg S w w') (hp : ¬ S p) (hc : ¬ S c) : IsSkC w' p c s cap rest := ⟨h.ok, h.st.chg k hp, h.cl.chg k hc⟩
theorem IsSkC.next {w w' : World} {p c : Nat} {s : Sk} {cap : Nat} {rest : List Value} (h : IsSkC w p c s cap rest) (k : Below w.heap.size w w') : IsSkC w' p c s cap rest := ⟨h.ok, h.st.next k, h.cl.next k⟩
theorem nv_getC (l : List Nat) (rest : List Value) (i : Nat) (h : i < l.length) : ((l.map nv ++ rest).toArray)[i]? = some (nv (l.getD i 0)) := by
  rw [List.getElem?_toArray, List.getElem?_append_left (by simpa using h)]
  simp [List.getElem?_eq_getElem h, List.getD_eq_getElem?_getD]
theorem set_nvC (l : List Nat) (rest : List Value) (i v : Nat) (h : i < l.length) : ((l.map nv ++ rest).toArray).setIfInBounds i (nv v) = ((l.set i v).map nv ++ rest).toArray := by
  rw [List.setIfInBounds_toArray, List.set_append_left _ _ (by simpa using h), List.map_set]
set_option maxHeartbeats 1000000 in
theorem cell_callsC (p c : Nat) (s : Sk) (cap : Nat) (rest : List Value) (key : ByteArray) (i : Nat) (f : Int) (w : World) (h : IsSkC w p c s cap rest) (hi : i < s.rows) (hk : key.size ≤ 140737488351232) (hf : f = ((i * s.W : Nat) : Int)) :
    Calls Try.prog 21 #[.pointer (some ⟨p, 0, none⟩), .int .i64 f, .string key] w fun e w' => e = .returned (.pointer (some ⟨c, s.ix key.data.toList i, none⟩)) ∧ Below w.heap.size w w' := by
  have q0 := h.st.cell 0
  have q1 := h.st.cell 1
  have q2 := h.st.cell 2
  simp only [List.size_toArray, List.getElem?_toArray, List.getElem?_cons_zero, List.getElem?_cons_succ] at q0 q1 q2
  have hp := h.st.lt
  have hd := ix_div s h.ok i
  rw [← hf] at hd
  have hw1 := h.ok.W1
  have hwm := h.ok.Wm
  have hi8 : i < 8 := by have := h.ok.rows8; omega
  have hs := seed_add s.seed i
  have hlt := Sk.ix_lt s h.ok key.data.toList i hi
  have hn : s.rows * s.W ≤ 8192 := Nat.le_trans (Nat.mul_le_mul h.ok.rows8 hwm) (by decide)
  have hix : ((s.ix key.data.toList i : Nat) : Int) = f + in_ (s.seed + BitVec.ofNat 64 i) key.data.toList s.W := by
    have hr := in_range (s.seed + BitVec.ofNat 64 i) key.data.toList s.W (by omega)
    unfold Sk.ix
    rw [hf]
    omega
  have hin := Lib.hid (fun w => in_calls (s.seed + BitVec.ofNat 64 i) key s.W w hk (by omega))
  have hr := in_range (s.seed + BitVec.ofNat 64 i) key.data.toList s.W (by omega)
  obtain ⟨hr1, hr2⟩ := hr
  have hf0 : 0 ≤ f ∧ f ≤ 8192 := by
    have : i * s.W ≤ s.rows * s.W := Nat.mul_le_mul_right _ (by omega)
    omega
  obtain ⟨hf0, hf1⟩ := hf0
  generalize s.seed + BitVec.ofNat 64 i = sd at *
  generalize in_ sd key.data.toList s.W = v at *
  generalize s.rows * s.W = n at *
  generalize s.ix key.data.toList i = x at *
  have hx1 : 0 ≤ f + v := by omega
  have hx2 : f + v < (n : Int) := by omega
  have HX := Lib.hid (show (f + v).toNat = x by omega)
  have hw : IntKind.i64.wrap (f + v) = f + v := by rw [IntKind.wrap_i64]; omega
  clear hf hix hi
  go_enter Try.func21, Try.ntmps21
  go_wp2
  clear h
  go_region_held3 (fun w' => w'.cell? ⟨p, 0, none⟩ = some (.slice (some ⟨c, 0, none⟩) n cap) ∧ w'.cell? ⟨p, 1, none⟩ = some (.int .i64 (s.W : Int)) ∧ w'.cell? ⟨p, 2, none⟩ = some (uv s.seed))
    (first | go_keep | (rw [hb.cell (p := ⟨p, 0, none⟩) (by simpa using hp), hb.cell (p := ⟨p, 1, none⟩) (by simpa using hp), hb.cell (p := ⟨p, 2, none⟩) (by simpa using hp)]; go_keep))
    (first | (go_at_call 26; (with_reducible refine (hin.out _).mono ?_); rintro e w1 ⟨rfl, hb⟩))
  all_goals go_wp2
  go_ret
  exact ⟨by simp [HX.out], bnext (Below.drew (Below.refl _ _)) hb⟩
theorem total_callsC (p c : Nat) (s : Sk) (cap : Nat) (rest : List Value) (w : World) (h : IsSkC w p c s cap rest) : Calls Try.prog 12 #[.pointer (some ⟨p, 0, none⟩)] w fun e w' => e = .returned (nv s.total) ∧ w' = w := by
  have q3 := h.st.cell 3
  simp only [List.size_toArray, List.getElem?_toArray, List.getElem?_cons_zero, List.getElem?_cons_succ] at q3
  clear h
  go_enter Try.func12, Try.ntmps12
  go_wp2
  go_ret
  exact ⟨rfl, rfl⟩
attribute [local go_sem] min_nat max_nat
theorem count_callsC (p c : Nat) (s : Sk) (cap : Nat) (rest : List Value) (key : ByteArray) (w : World) (h : IsSkC w p c s cap rest) (hk : key.size ≤ 140737488351232) :
    Calls Try.prog 11 #[.pointer (some ⟨p, 0, none⟩), .string key] w fun e w' => e = .returned (nv (s.count key.data.toList)) ∧ Below w.heap.size w w' := by
  go_enter Try.func11, Try.ntmps11
  go_wp2
  go_loopw [5, 6] (fun n f wr => ∃ k : Nat, k ≤ s.rows ∧ f = .int .i64 ((k * s.W : Nat) : Int) ∧ n = nv (s.countK key.data.toList k) ∧ IsSkC wr p c s cap rest ∧ Below w.heap.size w wr) (fun _ f _ => s.rows * s.W - (intOf f).toNat)
  case atStart => exact ⟨0, by omega, by simp, rfl, h, Below.refl _ _⟩
  case round =>
    obtain ⟨k, hk1, rfl, rfl, hs, hb⟩ := hrel
    have q0 := hs.st.cell 0
    have q1 := hs.st.cell 1
    simp only [List.size_toArray, List.getElem?_toArray, List.getElem?_cons_zero, List.getElem?_cons_succ] at q0 q1
    have hn : s.rows * s.W ≤ 8192 := Nat.le_trans (Nat.mul_le_mul h.ok.rows8 h.ok.Wm) (by decide)
    obtain ⟨f, hf⟩ : ∃ f : Nat, f = k * s.W := ⟨_, rfl⟩
    obtain ⟨n, hn2⟩ : ∃ n : Nat, n = s.rows * s.W := ⟨_, rfl⟩
    rw [← hf]
    rw [← hn2] at q0 hn
    have HF := Lib.hid hf
    have HN := Lib.hid hn2
    clear hf hn2
    by_cases hlt : k < s.rows
    · have hfn : f + s.W ≤ n := by
        rw [HF.out, HN.out]
        have := Nat.mul_le_mul_right s.W (show k + 1 ≤ s.rows by omega)
        rw [Nat.add_mul, Nat.one_mul] at this
        exact this
      have hw1 := h.ok.W1
      have hwm := h.ok.Wm
      have hcc := Lib.hid (cell_callsC p c s cap rest key k (f : Int) wr hs hlt hk (by rw [HF.out]))
      have hixl := Sk.ix_lt s h.ok key.data.toList k hlt
      have HS := Lib.hid (show s.countK key.data.toList (k + 1) = min (s.countK key.data.toList k) (s.cells.getD (s.ix key.data.toList k) 0) from rfl)
      have hlen := h.ok.len
      generalize s.ix key.data.toList k = x at *
      go_wp2_with fail
      refine (hcc.out).mono ?_
      rintro e w2 ⟨rfl, hb2⟩
      have hs2 := hs.next hb2
      have hbb := bnext hb hb2
      have qx : w2.cell? ⟨c, x, none⟩ = some (nv (s.cells.getD x 0)) := by rw [hs2.cl.cell, nv_getC _ _ _ (by rw [hlen]; exact hixl)]
      have r0 := hs2.st.cell 0
      have r1 := hs2.st.cell 1
      simp only [List.size_toArray, List.getElem?_toArray, List.getElem?_cons_zero, List.getElem?_cons_succ] at r0 r1
      clear q0 q1 hixl hlen
      generalize s.cells.getD x 0 = y at *
      generalize s.countK key.data.toList k = z at *
      go_wp2
      go_roundw
      case rel => exact ⟨k + 1, by omega, by rw [Nat.add_mul, Nat.one_mul, HF.out]; simp, by rw [HS.out], hs2, hbb⟩
      case measure => have := HN.out; simp [intOf]; omega
    · have : k = s.rows := by omega
      subst this
      have hge : decide (f < n) = false := by simp; rw [HF.out, HN.out]; exact Nat.le_refl _
      go_wp2
      go_ret
      exact ⟨rfl, hb⟩
theorem add_callsC (p c : Nat) (s : Sk) (cap : Nat) (rest : List Value) (key : ByteArray) (m : Nat) (w : World) (h : IsSkC w p c s cap rest) (hk : key.size ≤ 140737488351232) (hm : m ≤ 18446744073709551615) :
    Calls Try.prog 13 #[.pointer (some ⟨p, 0, none⟩), .string key, nv m] w fun e w' => e = .returned (.tuple #[]) ∧ Chg (fun b => b = p ∨ b = c) w w' ∧ IsSkC w' p c (s.add key.data.toList m) cap rest := by
  have hcnt := Sk.countK_le s key.data.toList s.rows
  have hcc := Lib.hid (count_callsC p c s cap rest key w h hk)
  have hsm := Lib.hid (fun w => sum_calls (s.count key.data.toList) m w hcnt hm)
  have hst := Lib.hid (fun w => sum_calls s.total m w h.ok.tot hm)
  obtain ⟨M, hM⟩ : ∃ M, M = sat (s.count key.data.toList) m := ⟨_, rfl⟩
  rw [← hM] at hsm
  have HM := Lib.hid hM
  clear hM
  go_enter Try.func13, Try.ntmps13
  go_wp2_with fail
  refine (hcc.out).mono ?_
  rintro e w1 ⟨rfl, hb⟩
  go_wp2_with fail
  refine (hsm.out _).mono ?_
  rintro e w1' ⟨rfl, rfl⟩
  have hs1 := h.next hb
  have hch := Chg.of_below (fun b => b = p ∨ b = c) hb
  clear hb
  go_wp2_with fail
  have hMs : M ≤ 18446744073709551615 := by rw [HM.out]; exact Sk.sat_le _ _
  go_loopw [7] (fun f wr => ∃ k : Nat, k ≤ s.rows ∧ f = .int .i64 ((k * s.W : Nat) : Int) ∧ IsSkC wr p c (s.at_ key.data.toList M k) cap rest ∧ Chg (fun b => b = p ∨ b = c) w wr) (fun f _ => s.rows * s.W - (intOf f).toNat)
  case atStart => exact ⟨0, by omega, by simp, hs1, hch⟩
  case round =>
    obtain ⟨k, hk1, rfl, hs, hb⟩ := hrel
    clear hs1 hch
    have q0 := hs.st.cell 0
    have q1 := hs.st.cell 1
    simp only [List.size_toArray, List.getElem?_toArray, List.getElem?_cons_zero, List.getElem?_cons_succ, Sk.at_] at q0 q1
    have hn : s.rows * s.W ≤ 8192 := Nat.le_trans (Nat.mul_le_mul h.ok.rows8 h.ok.Wm) (by decide)
    obtain ⟨f, hf⟩ : ∃ f : Nat, f = k * s.W := ⟨_, rfl⟩
    obtain ⟨n, hn2⟩ : ∃ n : Nat, n = s.rows * s.W := ⟨_, rfl⟩
    rw [← hf]
    rw [← hn2] at q0 hn
    have HF := Lib.hid hf
    have HN := Lib.hid hn2
    clear hf hn2
    by_cases hlt : k < s.rows
    · have hfn : f + s.W ≤ n := by
        rw [HF.out, HN.out]
        have := Nat.mul_le_mul_right s.W (show k + 1 ≤ s.rows by omega)
        rw [Nat.add_mul, Nat.one_mul] at this
        exact this
      have hw1 := h.ok.W1
      have hwm := h.ok.Wm
      have hcc := Lib.hid (cell_callsC p c (s.at_ key.data.toList M k) cap rest key k (f : Int) wr hs hlt hk (by rw [HF.out]; rfl))
      have hixl : (s.at_ key.data.toList M k).ix key.data.toList k < s.rows * s.W := Sk.ix_lt _ hs.ok key.data.toList k hlt
      have HX := Lib.hid (show s.raise key.data.toList M (k + 1) = (s.raise key.data.toList M k).set ((s.at_ key.data.toList M k).ix key.data.toList k) (max ((s.raise key.data.toList M k).getD ((s.at_ key.data.toList M k).ix key.data.toList k) 0) M) from rfl)
      have hlen : (s.raise key.data.toList M k).length = s.rows * s.W := by rw [Sk.raise_len, h.ok.len]
      have hne := hs.ne
      generalize (s.at_ key.data.toList M k).ix key.data.toList k = x at *
      go_wp2_with fail
      refine (hcc.out).mono ?_
      rintro e w2 ⟨rfl, hb2⟩
      have hs2 := hs.next hb2
      have hbb := hb.thenB hb2
      have qx : w2.cell? ⟨c, x, none⟩ = some (nv ((s.raise key.data.toList M k).getD x 0)) := by rw [hs2.cl.cell]; exact nv_getC (s.raise key.data.toList M k) _ _ (by rw [hlen]; exact hixl)
      have fx : w2.frozen? ⟨c, x, none⟩ = false := hs2.cl.frozen x
      have hixl2 : x < (s.raise key.data.toList M k).length := by rw [hlen]; exact hixl
      clear q0 q1 hixl hlen
      obtain ⟨y, hy⟩ : ∃ y, y = (s.raise key.data.toList M k).getD x 0 := ⟨_, rfl⟩
      rw [← hy] at qx
      have HY := Lib.hid hy
      clear hy
      have HS3 := Lib.hid (show IsSkC (w2.setCell ⟨c, x, none⟩ (nv (max y M))) p c (s.at_ key.data.toList M (k + 1)) cap rest from
        ⟨Sk.at_ok s h.ok _ _ _ hMs, hs2.st.far (p := ⟨c, x, none⟩) hne _, by
          have := hs2.cl.set_ x (nv (max y M))
          show Blk _ c 22 ((s.raise key.data.toList M (k + 1)).map nv ++ rest).toArray
          rw [HX.out, ← HY.out, ← set_nvC _ _ _ _ hixl2]
          exact this⟩)
      have HB3 := Lib.hid (hbb.setCell (p := ⟨c, x, none⟩) (.inl (.inr rfl)) (nv (max y M)))
      have r1 := HS3.out.st.cell 1
      simp only [List.size_toArray, List.getElem?_toArray, List.getElem?_cons_zero, List.getElem?_cons_succ, Sk.at_] at r1
      go_wp2
      go_roundw
      case rel => exact ⟨k + 1, by omega, by rw [Nat.add_mul, Nat.one_mul, HF.out]; simp, HS3.out, HB3.out⟩
      case measure => have := HN.out; simp [intOf]; omega
    · have : k = s.rows := by omega
      subst this
      have hge : decide (f < n) = false := by simp; rw [HF.out, HN.out]; exact Nat.le_refl _
      have q3 := hs.st.cell 3
      have f3 := hs.st.frozen 3
      simp only [List.size_toArray, List.getElem?_toArray, List.getElem?_cons_zero, List.getElem?_cons_succ, Sk.at_] at q3
      have HS3 := Lib.hid (show IsSkC (wr.setCell ⟨p, 3, none⟩ (nv (sat s.total m))) p c (s.add key.data.toList m) cap rest from
        ⟨Sk.add_ok s h.ok _ _, by
          have := hs.st.set_ 3 (nv (sat s.total m))
          exact this, by
          have := hs.cl.far (p := ⟨p, 3, none⟩) (Ne.symm hs.ne) (nv (sat s.total m))
          show Blk _ c 22 ((s.raise key.data.toList (sat (s.count key.data.toList) m) s.rows).map nv ++ rest).toArray
          rw [← HM.out]
          exact this⟩)
      have HB3 := Lib.hid (hb.setCell (p := ⟨p, 3, none⟩) (.inl (.inl rfl)) (nv (sat s.total m)))
      go_wp2_with fail
      refine (hst.out _).mono ?_
      rintro e w3 ⟨rfl, rfl⟩
      go_wp2
      go_end0
      exact ⟨rfl, HB3.out, HS3.out⟩
end Go.Proofs.Ytppholbjhhlglaa.Tele
