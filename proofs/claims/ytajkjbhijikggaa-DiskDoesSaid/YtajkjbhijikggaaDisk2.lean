/- The walks of a disk's Sync and Remove. No conditions. -/
import Derived.Test.YtajkjbhijikggaaPDisk
namespace Go.Proofs.Ytajkjbhijikggaa.Tele
open Go.RowKit
set_option linter.unusedVariables false
set_option linter.unusedSimpArgs false

def updF (F : Nat → FileM) (g : Nat) (f : FileM) : Nat → FileM := fun j => if j = g then f else F j
def updV (V : Nat → Value) (g : Nat) (v : Value) : Nat → Value := fun j => if j = g then v else V j
theorem updF_same (F : Nat → FileM) (g : Nat) (f : FileM) : updF F g f g = f := if_pos rfl
theorem updF_other (F : Nat → FileM) (g : Nat) (f : FileM) {j : Nat} (h : j ≠ g) : updF F g f j = F j := if_neg h
theorem updV_same (V : Nat → Value) (g : Nat) (f : Value) : updV V g f g = f := if_pos rfl
theorem updV_other (V : Nat → Value) (g : Nat) (f : Value) {j : Nat} (h : j ≠ g) : updV V g f j = V j := if_neg h
/-- Entries with one block are one. -/
theorem nd_inj {m : Ents} (h : (m.map (·.2)).Nodup) {e e' : Int × Nat} (he : e ∈ m) (he' : e' ∈ m) (hb : e.2 = e'.2) : e = e' := by
  obtain ⟨i, hi, e1⟩ := List.getElem_of_mem he
  obtain ⟨j, hj, e2⟩ := List.getElem_of_mem he'
  have hp := List.pairwise_iff_getElem.1 h
  rcases Nat.lt_trichotomy i j with hij | hij | hij
  · have := hp i j (by simpa using hi) (by simpa using hj) hij
    simp [e1, e2, hb] at this
  · subst hij
    exact e1.symm.trans e2
  · have := hp j i (by simpa using hj) (by simpa using hi) hij
    simp [e1, e2, hb] at this
theorem turn_eq {m : Ents} {F : Nat → FileM} {k : Int} {g : Nat} {f : FileM} (hs : m.Pairwise fun p q => p.1 < q.1) (hn : (m.map (·.2)).Nodup) (hg : m.get k = some g) : Fs.turn (m.map fun e => (e.1, F e.2)) k f = m.map fun e => (e.1, updF F g f e.2) := by
  unfold Fs.turn
  rw [List.map_map]
  refine List.map_congr_left fun e he => ?_
  show (if e.1 == k then (k, f) else (e.1, F e.2)) = _
  by_cases hk : e.1 = k
  · have h1 := get_of hs (k := e.1) (g := e.2) he
    rw [hk, hg] at h1
    have h2 := Option.some.inj h1
    rw [← h2, updF_same, hk]
    simp
  · have hne : e.2 ≠ g := fun hh => by
      have := nd_inj hn he (get_mem hg) hh
      rw [this] at hk
      exact hk rfl
    rw [updF_other _ _ _ hne, if_neg (by simpa using hk)]
/-- One file turned. -/
theorem IsD'.turn {own own' : Bool} {w w' : World} {O : Nat → Prop} {d b : Nat} {m : Ents} {F : Nat → FileM} {V : Nat → Value} {fs : Fs} {k : Int} {g : Nat} {v' : Value} {f' : FileM}
    (h : IsD' own w O d b m F V fs) (hg : m.get k = some g) (hc : Chg (fun j => j = g ∨ (V g).ownBlock = some j) w w') (hB : Blk w' g 65 #[v', .int .i64 (f'.sure : Int)]) (hR : Row own' w' v' f'.bytes) (ho : own' = true → own = true)
    (hv : ∀ j, v'.ownBlock = some j → (V g).ownBlock = some j ∨ (w.heap.size ≤ j ∧ j < w'.heap.size)) (hs : f'.sure ≤ f'.bytes.length ∧ f'.bytes.length ≤ 1000000) :
    IsD own' w' (Plus O w w') d (fs.turn k f') ∧ Chg O w w' := by
  have hgm := get_mem hg
  have hgd : ¬ d = g := h.st.ne_ (h.fl _ hgm) (by decide)
  have hgb : ¬ b = g := fun hh => map_ne h.mp (h.fl _ hgm) hh.symm
  have had : ∀ j, (V g).ownBlock = some j → O j ∧ j ≠ d ∧ j ≠ b ∧ ∀ e' ∈ m, j ≠ e'.2 ∧ (e'.2 ≠ g → (V e'.2).ownBlock ≠ some j) := fun j hj => h.apart _ hgm j hj
  have hsz := hc.size
  have far : ∀ e ∈ m, e.2 ≠ g → w'.heap[e.2]? = w.heap[e.2]? := fun e he hne => hc.block e.2 (h.hO _ (h.hm e he)) (fun hh => by
    rcases hh with hh | hh
    · exact hne hh
    · exact ((had _ hh).2.2.2 e he).1 rfl)
  have rowfar : ∀ e ∈ m, e.2 ≠ g → ∀ j, (V e.2).ownBlock = some j → w'.heap[j]? = w.heap[j]? := fun e he hne j hj => hc.block j (h.hO _ (h.apart e he j hj).1) (fun hh => by
    rcases hh with hh | hh
    · exact ((h.apart e he j hj).2.2.2 _ hgm).1 hh
    · exact ((h.apart e he j hj).2.2.2 _ hgm).2 (fun x => hne x.symm) hh)
  refine ⟨⟨b, m, updF F g f', updV V g v', ⟨?_, ?_, h.sorted, h.nd, h.keys, h.size, ?_, ?_, ?_, ?_, ?_, .inl h.hd, .inl h.hb, fun e he => .inl (h.hm e he), ?_⟩⟩, ?_⟩
  · exact h.st.chg hc (fun hh => by
      rcases hh with hh | hh
      · exact hgd hh
      · exact (had _ hh).2.1 rfl)
  · exact h.mp.chg hc (fun hh => by
      rcases hh with hh | hh
      · exact hgb hh
      · exact (had _ hh).2.2.1 rfl)
  · intro e he
    by_cases hne : e.2 = g
    · rw [hne, updF_same, updV_same]
      exact hB
    · rw [updF_other _ _ _ hne, updV_other _ _ _ hne]
      exact (far e he hne).trans (h.fl e he)
  · intro e he
    by_cases hne : e.2 = g
    · rw [hne, updF_same, updV_same]
      exact hR
    · rw [updF_other _ _ _ hne, updV_other _ _ _ hne]
      obtain ⟨r1, r2⟩ := (h.row e he).far hsz (rowfar e he hne)
      exact ⟨r1, fun hh => r2 (ho hh)⟩
  · intro e he j hj
    by_cases hne : e.2 = g
    · rw [hne, updV_same] at hj
      rcases hv j hj with hj | hj
      · obtain ⟨a1, a2, a3, a4⟩ := had j hj
        refine ⟨.inl a1, a2, a3, fun e' he' => ⟨(a4 e' he').1, fun hne' => ?_⟩⟩
        rw [hne] at hne'
        rw [updV_other _ _ _ hne']
        exact (a4 e' he').2 hne'
      · have hj1 : ∀ x, O x → x ≠ j := fun x hx hh => by have := h.hO x hx; omega
        refine ⟨.inr hj, (hj1 d h.hd).symm, (hj1 b h.hb).symm, fun e' he' => ⟨(hj1 e'.2 (h.hm e' he')).symm, fun hne' hh => ?_⟩⟩
        rw [hne] at hne'
        rw [updV_other _ _ _ hne'] at hh
        exact hj1 j (h.apart e' he' j hh).1 rfl
    · rw [updV_other _ _ _ hne] at hj
      obtain ⟨a1, a2, a3, a4⟩ := h.apart e he j hj
      refine ⟨.inl a1, a2, a3, fun e' he' => ⟨(a4 e' he').1, fun hne' hh => ?_⟩⟩
      by_cases hg' : e'.2 = g
      · rw [hg', updV_same] at hh
        rcases hv j hh with hh | hh
        · exact (a4 _ hgm).2 (fun x => hne x.symm) hh
        · have := h.hO j a1
          omega
      · rw [updV_other _ _ _ hg'] at hh
        exact (a4 e' he').2 hne' hh
  · rw [h.abs, turn_eq h.sorted h.nd hg]
  · intro e he
    by_cases hne : e.2 = g
    · rw [hne, updF_same]
      exact hs
    · rw [updF_other _ _ _ hne]
      exact h.small e he
  · intro j hj
    rcases hj with hj | hj
    · have := h.hO j hj
      omega
    · exact hj.2
  · exact hc.mono fun j _ hj => by
      rcases hj with hj | hj
      · rw [hj]; exact h.hm _ hgm
      · exact (had j hj).1
theorem IsD.plus {own : Bool} {w w' : World} {O : Nat → Prop} {d : Nat} {fs : Fs} (h : IsD own w O d fs) : IsD own w (Plus O w w) d fs := by
  obtain ⟨b, m, F, V, h⟩ := h
  exact ⟨b, m, F, V, { h with apart := fun e he j hj => ⟨.inl (h.apart e he j hj).1, (h.apart e he j hj).2⟩, hd := .inl h.hd, hb := .inl h.hb, hm := fun e he => .inl (h.hm e he), hO := fun j hj => hj.elim (h.hO j) fun hj => hj.2 }⟩
theorem sync_calls (own : Bool) (O : Nat → Prop) (d : Nat) (fs : Fs) (k : Int) (w : World) (h : IsD own w O d fs) (hk : (Lit.int .i64 k).wf = true) :
    Calls Try.prog 12 #[.pointer (some ⟨d, 0, none⟩), .int .i64 k] w fun e w' => e = .returned (.int .u16 (if (fs.get k).isSome then 0 else 71)) ∧ IsD own w' (Plus O w w') d (fs.sync k) ∧ Chg O w w' := by
  have h' := h
  obtain ⟨b, m, F, V, h⟩ := h
  have h0 : w.cell? ⟨d, 0, none⟩ = some (.map (some b)) := h.st.cell 0
  obtain ⟨v, hv, hvx⟩ := h.mp.look 59 62 Try.underlying59 (zeroPtr w) hk
  have hget := fs_get h.abs k
  cases hg : m.get k with
  | none =>
    rw [hg] at hv hget
    have e1 : (if (fs.get k).isSome then (0 : Int) else 71) = 71 := by rw [hget]; rfl
    have e2 : fs.sync k = fs := by unfold Fs.sync; rw [hget]; rfl
    rw [e1, e2]
    have HP := Lib.hid (IsD.plus (w' := w) h')
    clear hvx hg h h' hget e1 e2
    go_enter Try.func12, Try.ntmps12
    go_wp2
    go_ret
    exact ⟨rfl, HP.out, Chg.refl _ _⟩
  | some g =>
    obtain rfl := hvx g hg
    rw [hg] at hv hget
    have hblk := h.fl _ (get_mem hg)
    obtain ⟨⟨a, cap, hva, hra⟩, hrow⟩ := h.row _ (get_mem hg)
    have g0 : w.cell? ⟨g, 0, none⟩ = some (.slice a (F g).bytes.length cap) := by rw [← hva]; exact hblk.cell 0
    have g1 : w.cell? ⟨g, 1, none⟩ = some (.int .i64 ((F g).sure : Int)) := hblk.cell 1
    have z1 := hblk.frozen 1
    have e1 : (if (fs.get k).isSome then (0 : Int) else 71) = 0 := by rw [hget]; rfl
    have e2 : fs.sync k = fs.turn k ⟨(F g).bytes, (F g).bytes.length⟩ := by unfold Fs.sync; rw [hget]; rfl
    rw [e1, e2]
    have hc : Chg (fun j => j = g ∨ (V g).ownBlock = some j) w (w.setCell ⟨g, 1, none⟩ (.int .i64 ((F g).bytes.length : Int))) := Chg.setCell (p := ⟨g, 1, none⟩) (Chg.refl _ _) (.inl (.inl rfl)) _
    have hgo : ∀ j, (V g).ownBlock = some j → j ≠ g := fun j hj => ((h.apart _ (get_mem hg) j hj).2.2.2 _ (get_mem hg)).1
    have HF := Lib.hid (h.turn (own' := own) (f' := ⟨(F g).bytes, (F g).bytes.length⟩) hg hc (hblk.set_ 1 (.int .i64 ((F g).bytes.length : Int)))
      ((h.row _ (get_mem hg)).far hc.size (fun j hj => Below.heap_setCell _ _ _ _ (hgo j hj))) (fun x => x) (fun j hj => .inl hj) ⟨Nat.le_refl _, (h.small _ (get_mem hg)).2⟩)
    have hlen9 : ((F g).bytes.length : Int) ≤ 1000000 := by have : (F g).bytes.length ≤ 1000000 := (h.small _ (get_mem hg)).2; omega
    clear hvx h h' hblk hva hra hrow hget e1 e2 hc hgo hg
    generalize (F g).bytes.length = n at *
    go_enter Try.func12, Try.ntmps12
    go_wp2
    go_ret
    exact ⟨rfl, HF.out.1, HF.out.2⟩
theorem del_sub {m : Ents} {k : Int} {e : Int × Nat} (h : e ∈ m.del k) : e ∈ m := (List.mem_filter.1 h).1
/-- A file struck. -/
theorem IsD'.del {own : Bool} {w w' : World} {O : Nat → Prop} {d b : Nat} {m : Ents} {F : Nat → FileM} {V : Nat → Value} {fs : Fs} {k : Int} (h : IsD' own w O d b m F V fs) (hm : IsMap w' b (m.del k)) (hc : Chg (fun j => j = b) w w') : IsD own w' O d (fs.del k) ∧ Chg O w w' := by
  have hdb : ¬ d = b := map_ne h.mp h.st
  refine ⟨⟨b, m.del k, F, V, ⟨h.st.chg hc hdb, hm, h.sorted.filter _, ?_, fun e he => h.keys e (del_sub he), Nat.le_trans (List.length_filter_le _ _) h.size, ?_, ?_, ?_, ?_, fun e he => h.small e (del_sub he), h.hd, h.hb, fun e he => h.hm e (del_sub he), fun j hj => Nat.lt_of_lt_of_le (h.hO j hj) hc.size⟩⟩, hc.mono fun j _ hj => by rw [hj]; exact h.hb⟩
  · exact List.Nodup.sublist (List.Sublist.map _ (List.filter_sublist (l := m))) h.nd
  · intro e he
    exact (h.fl e (del_sub he)).chg hc (map_ne h.mp (h.fl e (del_sub he)))
  · intro e he
    exact (h.row e (del_sub he)).far hc.size (fun j hj => hc.block j (h.hO j (h.apart e (del_sub he) j hj).1) (h.apart e (del_sub he) j hj).2.2.1)
  · intro e he j hj
    obtain ⟨a1, a2, a3, a4⟩ := h.apart e (del_sub he) j hj
    exact ⟨a1, a2, a3, fun e' he' => a4 e' (del_sub he')⟩
  · show fs.filter _ = _
    rw [h.abs, List.filter_map]
    rfl
theorem remove_calls (own : Bool) (O : Nat → Prop) (d : Nat) (fs : Fs) (k : Int) (w : World) (h : IsD own w O d fs) (hk : (Lit.int .i64 k).wf = true) :
    Calls Try.prog 19 #[.pointer (some ⟨d, 0, none⟩), .int .i64 k] w fun e w' => e = .returned (.int .u16 (if (fs.get k).isSome then 0 else 71)) ∧ IsD own w' O d (fs.del k) ∧ Chg O w w' := by
  have h' := h
  obtain ⟨b, m, F, V, h⟩ := h
  have h0 : w.cell? ⟨d, 0, none⟩ = some (.map (some b)) := h.st.cell 0
  obtain ⟨v, hv, hvx⟩ := h.mp.look 59 62 Try.underlying59 (zeroPtr w) hk
  have hget := fs_get h.abs k
  cases hg : m.get k with
  | none =>
    rw [hg] at hv hget
    have e1 : (if (fs.get k).isSome then (0 : Int) else 71) = 71 := by rw [hget]; rfl
    have e2 : fs.del k = fs := by
      unfold Fs.del
      rw [List.filter_eq_self]
      intro p hp
      unfold Fs.get at hget
      have := List.find?_eq_none.1 (Option.map_eq_none_iff.1 hget) p hp
      simpa using this
    rw [e1, e2]
    have HP := Lib.hid h'
    clear hvx hg h h' hget e1 e2
    go_enter Try.func19, Try.ntmps19
    go_wp2
    go_ret
    exact ⟨rfl, HP.out, Chg.refl _ _⟩
  | some g =>
    rw [hg] at hv hget
    have e1 : (if (fs.get k).isSome then (0 : Int) else 71) = 0 := by rw [hget]; rfl
    rw [e1]
    obtain ⟨w2, hd, hm2, hc2, hs2⟩ := h.mp.drop (k := k) 59 62 0 Try.underlying59 hk
    have HF := Lib.hid (h.del hm2 hc2)
    clear hvx h h' hget e1 hg hm2 hc2 hs2
    go_enter Try.func19, Try.ntmps19
    go_wp2
    go_ret
    exact ⟨rfl, HF.out.1, HF.out.2⟩
end Go.Proofs.Ytajkjbhijikggaa.Tele
