/- Copies of sketches: the walks of Clone and Copy. No conditions but that a sketch is one. -/
import Derived.Test.YtppholbjhhlglaaSkC
import Derived.Maps.AppendAt
import Derived.WalkSpells
namespace Go.Proofs.Ytppholbjhhlglaa.Tele
open Go.RowKit
set_option linter.unusedVariables false
set_option linter.unusedSimpArgs false
theorem clone_calls (c n cap : Nat) (cs : List Nat) (w : World) (h : Blk w c 22 (cs.map nv).toArray) (hn : cs.length = n) (hn1 : n ≤ 8192) :
    Calls Try.prog 25 #[.slice (some ⟨c, 0, none⟩) n cap] w fun e w' => ∃ v, e = .returned v ∧ Below w.heap.size w w' ∧ w'.ownsRow w.heap.size 22 1 v n (cs.map nv) := by
  have hnil := fun W : World => Lib.run_eql_slice_nil (P := Try.prog) W 32 22 (some ⟨c, 0, none⟩) n cap 0 0 Try.underlying32
  obtain ⟨i0, hi, hz0, hz1, hz2⟩ := info_parts info22
  have hown := World.ownsRow_lit (base := w.heap.size) (e := 22) (size := 1) w #[] 0 (Nat.le_refl _) (by decide) (by simp)
  have hcl : c < w.heap.size := h.lt
  have hnews : ∀ j u, (cs.map nv)[j]? = some u → (w.alloc (.cells #[] 22)).cell? ((⟨c, 0, none⟩ : Addr).add j) = some u := fun j u hj => by
    have e : ((⟨c, 0, none⟩ : Addr).add j) = ⟨c, j, none⟩ := by unfold Addr.add; split <;> simp_all
    rw [e, (h.alloc _).cell]
    simpa using hj
  have hone : ∀ u ∈ cs.map nv, u.oneCell' = true := fun u hu => by
    obtain ⟨x, _, rfl⟩ := List.mem_map.1 hu
    rfl
  have hlen : (cs.map nv).length = n * 1 := by simpa using hn
  go_enter Try.func25, Try.ntmps25
  go_wp2_with (at_builtin; refine wpList_append_own_at _ rfl _ _ _ rfl w.heap.size 22 i0 _ 1 8 Try.underlying32 hi hz0 hz1 hz2 rfl (by decide) (.slice (some ⟨w.heap.size, 0, none⟩) 0 0) 0 _ rfl hown ⟨c, 0, none⟩ n cap (cs.map nv) rfl hlen hnews hone (by unfold maxLen; omega) (by omega) (by simp) ?_; intro v1 w1 hown1 hgrow _ hat)
  go_ret
  refine ⟨v1, rfl, ?_, by simpa using hown1⟩
  exact (bl_alloc (Below.refl _ _) _).grown hgrow (by simp) (fun k hk => by
    simp [Value.ownBlock] at hk
    omega)
theorem own_form (w : World) (base n : Nat) (v : Value) (cs : List Nat) (h : w.ownsRow base 22 1 v n (cs.map nv)) (hn : 0 < n) :
    ∃ d cap rest, v = .slice (some ⟨d, 0, none⟩) n cap ∧ base ≤ d ∧ Blk w d 22 (cs.map nv ++ rest).toArray := by
  rcases h.2 with ⟨_, h0⟩ | ⟨g, cap, cur, hv, hb, hh, _, _, hsz, htake⟩
  · omega
  · refine ⟨g, cap, cur.toList.drop n, hv, hb, ?_⟩
    have e : cs.map nv ++ cur.toList.drop n = cur.toList := by
      rw [← htake, Nat.mul_one]
      exact List.take_append_drop n cur.toList
    unfold Blk
    rw [e, Array.toArray_toList]
    exact hh
theorem copy_calls (p c : Nat) (s : Sk) (w : World) (h : IsSk w p c s) :
    Calls Try.prog 20 #[pv p] w fun e w' => ∃ q d cap rest, e = .returned (pv q) ∧ Below w.heap.size w w' ∧ IsSkC w' q d s cap rest ∧ w.heap.size ≤ q ∧ w.heap.size ≤ d := by
  have q0 := h.st.cell 0
  have q1 := h.st.cell 1
  have q2 := h.st.cell 2
  have q3 := h.st.cell 3
  simp only [List.size_toArray, List.getElem?_toArray, List.getElem?_cons_zero, List.getElem?_cons_succ] at q0 q1 q2 q3
  have hp := h.st.lt
  have hn : s.rows * s.W ≤ 8192 := Nat.le_trans (Nat.mul_le_mul h.ok.rows8 h.ok.Wm) (by decide)
  have hn0 : 0 < s.rows * s.W := Nat.mul_pos h.ok.rows1 h.ok.W1
  go_enter Try.func20, Try.ntmps20
  go_wp2_with fail
  refine (clone_calls c _ _ s.cells _ (h.cl.alloc _) h.ok.len hn).mono ?_
  rintro e w1 ⟨v, rfl, hb, hown⟩
  obtain ⟨d, cap, rest, rfl, hd, hbd⟩ := own_form _ _ _ _ _ hown hn0
  have hst := (Blk.new w 50 #[.slice (some ⟨c, 0, none⟩) (s.rows * s.W) (s.rows * s.W), .int .i64 (s.W : Int), uv s.seed, nv s.total]).next hb
  have r0 := hst.cell 0
  have f0 := hst.frozen 0
  simp only [List.size_toArray, List.getElem?_toArray, List.getElem?_cons_zero, List.getElem?_cons_succ] at r0
  rw [World.size_alloc] at hd
  have hbw := bnext (bl_alloc (Below.refl _ _) _) hb
  clear hb hown
  go_wp2
  go_ret
  refine ⟨w.heap.size, d, cap, rest, rfl, hbw.setCell (p := ⟨w.heap.size, 0, none⟩) (Nat.le_refl _) _, ⟨h.ok, ?_, ?_⟩, Nat.le_refl _, by omega⟩
  · exact hst.set_ 0 _
  · exact hbd.far (p := ⟨w.heap.size, 0, none⟩) (by show d ≠ w.heap.size; omega) _
end Go.Proofs.Ytppholbjhhlglaa.Tele
