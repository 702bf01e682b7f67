/- The walks of a sender's Put, Done and due. No conditions. -/
import Derived.Test.YtelodofjokmfjaaSend1
namespace Go.Proofs.Ytelodofjokmfjaa.Tele
open Go.RowKit
set_option linter.unusedVariables false
set_option linter.unusedSimpArgs false

theorem insP_perm (x : Int × Nat) : ∀ m : Ents, (m.insP x).Perm (x :: m)
  | [] => List.Perm.refl _
  | y :: r => by
    unfold Ents.insP
    split
    · exact List.Perm.refl _
    · exact ((insP_perm x r).cons y).trans (List.Perm.swap x y r)
theorem insP_sorted (x : Int × Nat) : ∀ m : Ents, (m.Pairwise fun p q => p.1 < q.1) → (∀ e ∈ m, e.1 ≠ x.1) → (m.insP x).Pairwise fun p q => p.1 < q.1
  | [], _, _ => List.pairwise_singleton _ _
  | y :: r, h, hn => by
    obtain ⟨h1, h2⟩ := List.pairwise_cons.1 h
    unfold Ents.insP
    split
    · rename_i hlt
      refine List.pairwise_cons.2 ⟨fun z hz => ?_, h⟩
      rcases List.mem_cons.1 hz with rfl | hz
      · exact hlt
      · exact Int.lt_trans hlt (h1 z hz)
    · rename_i hlt
      refine List.pairwise_cons.2 ⟨fun z hz => ?_, insP_sorted x r h2 fun e he => hn e (List.mem_cons_of_mem _ he)⟩
      rcases List.mem_cons.1 ((insP_perm x r).mem_iff.1 hz) with rfl | hz
      · have := hn y (List.mem_cons_self)
        omega
      · exact h1 z hz
theorem insP_map (x : Int × Nat) (f : Int × Nat → Int × Fl) (hf : ∀ e, (f e).1 = e.1) : ∀ m : Ents, (m.insP x).map f = St.insL (f x) (m.map f)
  | [] => rfl
  | y :: r => by
    unfold Ents.insP
    simp only [List.map_cons, St.insL, hf]
    split
    · rfl
    · rw [List.map_cons, insP_map x f hf r]
theorem get_mem {m : Ents} {k : Int} {g : Nat} (h : m.get k = some g) : (k, g) ∈ m := by
  unfold Ents.get at h
  obtain ⟨e, he, rfl⟩ := Option.map_eq_some_iff.1 h
  have h1 := List.find?_some he
  have h2 := List.mem_of_find?_eq_some he
  simp at h1
  rw [← h1]
  exact h2
theorem get_none {m : Ents} {k : Int} (h : m.get k = none) : ∀ e ∈ m, e.1 ≠ k := by
  unfold Ents.get at h
  have h1 := List.find?_eq_none.1 (Option.map_eq_none_iff.1 h)
  intro e he hk
  exact h1 e he (by simpa using hk)
theorem get_of {m : Ents} (hs : m.Pairwise fun p q => p.1 < q.1) {k : Int} {g : Nat} (h : (k, g) ∈ m) : m.get k = some g := by
  cases hg : m.get k with
  | none => exact absurd rfl (get_none hg _ h)
  | some g' =>
    have h' := get_mem hg
    by_cases he : g' = g
    · rw [he]
    · exfalso
      obtain ⟨i, hi, e1⟩ := List.getElem_of_mem h'
      obtain ⟨j, hj, e2⟩ := List.getElem_of_mem h
      have hs' := List.pairwise_iff_getElem.1 hs
      rcases Nat.lt_trichotomy i j with hij | hij | hij
      · have := hs' i j hi hj hij
        rw [e1, e2] at this
        simp at this
      · subst hij
        rw [e1] at e2
        exact he (Prod.mk.inj e2).2
      · have := hs' j i hj hi hij
        rw [e1, e2] at this
        simp at this
theorem del_none {m : Ents} {k : Int} (h : m.get k = none) : m.del k = m := by
  unfold Ents.del
  rw [List.filter_eq_self]
  intro e he
  have := get_none h e he
  simpa using this
theorem has_eq (s : St) (m : Ents) (F : Nat → Fl) (h : s.l = m.map fun e => (e.1, F e.2)) (k : Int) : s.has k = (m.get k).isSome := by
  unfold St.has Ents.get
  rw [h, List.any_map, Option.isSome_map, List.isSome_find?]
  rfl
theorem find_eq (s : St) (m : Ents) (F : Nat → Fl) (h : s.l = m.map fun e => (e.1, F e.2)) (k : Int) : s.find k = (m.get k).map F := by
  unfold St.find Ents.get
  rw [h, List.find?_map]
  show Option.map _ (Option.map _ (List.find? (fun p : Int × Nat => p.1 == k) m)) = _
  cases List.find? (fun p : Int × Nat => p.1 == k) m <;> rfl
/-- One function turned at one place. -/
def upd (F : Nat → Fl) (g : Nat) (f : Fl) : Nat → Fl := fun j => if j = g then f else F j
theorem upd_same (F : Nat → Fl) (g : Nat) (f : Fl) : upd F g f g = f := if_pos rfl
theorem upd_other (F : Nat → Fl) (g : Nat) (f : Fl) {j : Nat} (h : j ≠ g) : upd F g f j = F j := if_neg h
theorem map_ne {w : World} {b g : Nat} {m : Ents} {t : TypeId} {cs : Array Value} (h : IsMap w b m) (k : Blk w g t cs) : g ≠ b := by
  intro e
  subst e
  obtain ⟨es, clock, hh, _⟩ := h
  have : some (Obj.cells cs t (0, 0)) = some (Obj.map es clock) := k.symm.trans hh
  simp at this
theorem put_no (O : Nat → Prop) (p : Nat) (s : St) (k : Int) (w : World) (h : IsS w O p s) (hk : (Lit.int .i64 k).wf = true) (hno : s.has k = true ∨ k < 0) :
    Calls Try.prog 12 #[.pointer (some ⟨p, 0, none⟩), .int .i64 k] w fun e w' => e = .returned (.bool false) ∧ w' = w := by
  obtain ⟨b, m, F, h⟩ := h
  have h0 : w.cell? ⟨p, 0, none⟩ = some (.map (some b)) := h.st.cell 0
  obtain ⟨v, hv, hvx⟩ := h.mp.look 55 58 Try.underlying55 (zeroPtr w) hk
  clear hvx
  rw [← has_eq s m F h.abs] at hv
  rcases hno with hno | hno
  · rw [hno] at hv
    clear hno
    go_enter Try.func12, Try.ntmps12
    go_wp2
    go_ret
    exact ⟨rfl, rfl⟩
  · generalize s.has k = bo at hv
    cases bo
    · go_enter Try.func12, Try.ntmps12
      go_wp2
      go_ret
      exact ⟨rfl, rfl⟩
    · go_enter Try.func12, Try.ntmps12
      go_wp2
      go_ret
      exact ⟨rfl, rfl⟩
set_option maxRecDepth 8000 in
theorem put_yes (O : Nat → Prop) (p : Nat) (s : St) (k : Int) (w : World) (h : IsS w O p s) (hk : (Lit.int .i64 k).wf = true) (hno : s.has k = false) (hk0 : 0 ≤ k) (hlen : s.l.length < 100000) :
    Calls Try.prog 12 #[.pointer (some ⟨p, 0, none⟩), .int .i64 k] w fun e w' => e = .returned (.bool true) ∧ IsS w' (Plus O w w') p (s.put k) ∧ Chg O w w' := by
  obtain ⟨b, m, F, h⟩ := h
  have h0 : w.cell? ⟨p, 0, none⟩ = some (.map (some b)) := h.st.cell 0
  obtain ⟨v, hv, hvx⟩ := h.mp.look 55 58 Try.underlying55 (zeroPtr w) hk
  clear hvx
  have hhas := has_eq s m F h.abs k
  rw [← hhas, hno] at hv
  have hnone : m.get k = none := by
    rw [hno] at hhas
    cases hg : m.get k with
    | none => rfl
    | some g => rw [hg] at hhas; simp at hhas
  have hml : m.length < 100000 := by rw [h.abs, List.length_map] at hlen; exact hlen
  have hA := bl_alloc (Below.refl w.heap.size w) (.cells (flCells St.fresh) 61)
  obtain ⟨w2, hst, hm2, hc2, hs2⟩ := (h.mp.next hA).store (g := w.heap.size) 55 58 Try.underlying55 hk (by omega)
  replace hst : (Instr.mapUpdate 55 (.map (some b)) (.int .i64 k) (.pointer (some ⟨w.heap.size, 0, none⟩))).run Try.prog (w.alloc (.cells #[.bool false, .int .i64 0, .int .i64 0] 61)) = .ok () w2 := hst
  have hnew := Blk.new w 61 (flCells St.fresh)
  have hmap := (h.mp.next hA)
  have hsz2 : w2.heap.size = w.heap.size + 1 := by rw [hs2, World.size_alloc]
  have hfin : IsS w2 (Plus O w w2) p (s.put k) := by
    have hlt : ∀ e ∈ m, e.2 ≠ w.heap.size := fun e he => by have := (h.fl e he).lt; omega
    have hput : m.put k w.heap.size = m.insP (k, w.heap.size) := by unfold Ents.put; rw [del_none hnone]
    rw [hput] at hm2
    have hperm := insP_perm (k, w.heap.size) m
    have hsp : s.put k = { s with l := St.insL (k, St.fresh) s.l } := by
      unfold St.put
      rw [if_neg (by rw [hno]; simp; omega)]
    rw [hsp]
    refine ⟨b, m.insP (k, w.heap.size), upd F w.heap.size St.fresh, ⟨?_, hm2, insP_sorted _ m h.sorted (get_none hnone), ?_, ?_, ?_, ?_, .inl h.hp, .inl h.hb, ?_, ?_, h.fly1, h.fly2, h.base1, h.base2, h.most2, ?_⟩⟩
    · exact (h.st.next hA).chg hc2 (map_ne hmap (h.st.next hA))
    · intro e he
      rcases List.mem_cons.1 (hperm.mem_iff.1 he) with rfl | he
      · rw [upd_same]
        exact hnew.chg hc2 (map_ne hmap hnew)
      · rw [upd_other _ _ _ (hlt e he)]
        have := (h.fl e he).next hA
        exact this.chg hc2 (map_ne hmap this)
    · rw [(hperm.map _).nodup_iff, List.map_cons, List.nodup_cons]
      refine ⟨fun hh => ?_, h.nd⟩
      obtain ⟨e, he, e2⟩ := List.mem_map.1 hh
      exact hlt e he e2
    · rw [insP_map _ _ (fun _ => rfl)]
      show St.insL _ s.l = _
      rw [upd_same, h.abs]
      congr 1
      refine List.map_congr_left fun e he => ?_
      rw [upd_other _ _ _ (hlt e he)]
    · intro e he
      rcases List.mem_cons.1 (hperm.mem_iff.1 he) with rfl | he
      · exact ⟨hk0, (i64_of_wf hk).2⟩
      · exact h.keys e he
    · intro e he
      rcases List.mem_cons.1 (hperm.mem_iff.1 he) with rfl | he
      · exact .inr ⟨Nat.le_refl _, by rw [hsz2]; exact Nat.lt_succ_self _⟩
      · exact .inl (h.hm e he)
    · intro j hj
      rcases hj with hj | hj
      · have := h.hO j hj
        omega
      · exact hj.2
    · rw [hperm.length_eq, List.length_cons]
      omega
  have hbel : Chg O w w2 := (Chg.of_below O hA).then (hc2.mono fun j _ hj => by rw [hj]; exact h.hb)
  have HF := Lib.hid hfin
  have HB := Lib.hid hbel
  clear hno hhas hnone hm2 hc2 hs2 hnew hmap hA hlen hml hfin hbel h hk hsz2
  go_enter Try.func12, Try.ntmps12
  go_wp2
  go_ret
  exact ⟨rfl, HF.out, HB.out⟩
/-- Put, whatever the number. -/
theorem put_calls (O : Nat → Prop) (p : Nat) (s : St) (k : Int) (w : World) (h : IsS w O p s) (hk : (Lit.int .i64 k).wf = true) (hlen : s.l.length < 100000) :
    Calls Try.prog 12 #[.pointer (some ⟨p, 0, none⟩), .int .i64 k] w fun e w' => e = .returned (.bool (!decide (s.has k = true ∨ k < 0))) ∧ IsS w' (Plus O w w') p (s.put k) ∧ Chg O w w' := by
  by_cases hno : s.has k = true ∨ k < 0
  · rw [decide_eq_true hno]
    have e : s.put k = s := if_pos hno
    rw [e]
    refine (put_no O p s k w h hk hno).mono ?_
    rintro e w' ⟨rfl, rfl⟩
    obtain ⟨b, m, F, h⟩ := h
    exact ⟨rfl, ⟨b, m, F, { h with hp := .inl h.hp, hb := .inl h.hb, hm := fun e he => .inl (h.hm e he), hO := fun j hj => hj.elim (h.hO j) fun hj => hj.2 }⟩, Chg.refl _ _⟩
  · rw [decide_eq_false hno]
    exact put_yes O p s k w h hk (by simpa using fun hh => hno (.inl hh)) (by omega) hlen
theorem del_sub {m : Ents} {k : Int} {e : Int × Nat} (h : e ∈ m.del k) : e ∈ m := (List.mem_filter.1 h).1
theorem done_no (O : Nat → Prop) (p : Nat) (s : St) (k : Int) (w : World) (h : IsS w O p s) (hk : (Lit.int .i64 k).wf = true) (hno : s.find k = none) :
    Calls Try.prog 18 #[.pointer (some ⟨p, 0, none⟩), .int .i64 k] w fun e w' => e = .returned (.bool false) ∧ w' = w := by
  obtain ⟨b, m, F, h⟩ := h
  have h0 : w.cell? ⟨p, 0, none⟩ = some (.map (some b)) := h.st.cell 0
  obtain ⟨v, hv, hvx⟩ := h.mp.look 55 58 Try.underlying55 (zeroPtr w) hk
  have hf := find_eq s m F h.abs k
  rw [hno] at hf
  have hn : m.get k = none := by cases hg : m.get k with
    | none => rfl
    | some g => rw [hg] at hf; simp at hf
  rw [hn] at hv
  clear hvx hn hf
  go_enter Try.func18, Try.ntmps18
  go_wp2
  go_ret
  exact ⟨rfl, rfl⟩
set_option maxRecDepth 8000 in
theorem done_yes (O : Nat → Prop) (p : Nat) (s : St) (k : Int) (f : Fl) (w : World) (h : IsS w O p s) (hk : (Lit.int .i64 k).wf = true) (hf : s.find k = some f) (hfl : f.flies = true → 1 ≤ s.flying) (hfl2 : s.flying ≤ 1000000) :
    Calls Try.prog 18 #[.pointer (some ⟨p, 0, none⟩), .int .i64 k] w fun e w' => e = .returned (.bool true) ∧ IsS w' O p (s.done k) ∧ Chg O w w' := by
  obtain ⟨b, m, F, h⟩ := h
  have h0 : w.cell? ⟨p, 0, none⟩ = some (.map (some b)) := h.st.cell 0
  have h4 : w.cell? ⟨p, 4, none⟩ = some (.int .i64 (s.flying : Int)) := h.st.cell 4
  have hr4 := h.st.frozen 4
  obtain ⟨v, hv, hvx⟩ := h.mp.look 55 58 Try.underlying55 (zeroPtr w) hk
  have hfe := find_eq s m F h.abs k
  rw [hf] at hfe
  obtain ⟨g, hg, hFg⟩ : ∃ g, m.get k = some g ∧ F g = f := by
    cases hg : m.get k with
    | none => rw [hg] at hfe; simp at hfe
    | some g => rw [hg] at hfe; simp at hfe; exact ⟨g, rfl, hfe.symm⟩
  obtain rfl := hvx g hg
  rw [hg] at hv
  have hbl := h.fl _ (get_mem hg)
  have hc0 : w.cell? ⟨g, 0, none⟩ = some (.bool f.flies) := by rw [← hFg]; exact hbl.cell 0
  obtain ⟨nfl, hnfl⟩ : ∃ n : Nat, n = if f.flies then s.flying - 1 else s.flying := ⟨_, rfl⟩
  have hdone : s.done k = { s with l := s.l.filter fun q => !(q.1 == k), flying := nfl } := by
    unfold St.done
    rw [hf, hnfl]
  have key : ∀ w1 : World, Blk w1 p 57 (sndCells b { s with flying := nfl }) → Chg (fun j => j = p) w w1 → ∃ w2, (∀ ty, (Builtin.delete_ #[55, 3] ty #[.map (some b), .int .i64 k]).run Try.prog w1 = .ok (.tuple #[]) w2) ∧ IsS w2 O p (s.done k) ∧ Chg O w w2 := by
    intro w1 hp1 hc1
    have hbp : ¬ b = p := fun hh => map_ne h.mp h.st hh.symm
    have hm1 := h.mp.chg hc1 hbp
    obtain ⟨w2, hd, hm2, hc2, hs2⟩ := hm1.drop (k := k) 55 58 0 Try.underlying55 hk
    refine ⟨w2, fun ty => ?_, ?_, ?_⟩
    · exact hd
    · rw [hdone]
      refine ⟨b, m.del k, F, ⟨hp1.chg hc2 (map_ne hm1 hp1), hm2, h.sorted.filter _, ?_, ?_, ?_, fun e he => h.keys e (del_sub he), h.hp, h.hb, fun e he => h.hm e (del_sub he), fun j hj => by have := h.hO j hj; have := hc1.size; have := hc2.size; omega, h.fly1, h.fly2, h.base1, h.base2, h.most2, ?_⟩⟩
      · intro e he
        have h1 := h.fl e (del_sub he)
        have hne : ¬ e.2 = p := by
          intro hh
          exact (h1.ne_ h.st (by decide)) hh
        have h2 := h1.chg hc1 hne
        exact h2.chg hc2 (map_ne hm1 h2)
      · exact List.Nodup.sublist (List.Sublist.map _ (List.filter_sublist (l := m))) h.nd
      · show s.l.filter _ = _
        rw [h.abs, List.filter_map]
        rfl
      · exact Nat.le_trans (List.length_filter_le _ _) h.size
    · exact (hc1.mono fun j _ hj => by rw [hj]; exact h.hp).then (hc2.mono fun j _ hj => by rw [hj]; exact h.hb)
  cases hff : f.flies with
  | false =>
    rw [hff] at hc0 hnfl
    simp at hnfl
    obtain ⟨w2, hd, hS, hbel⟩ := key w (by rw [hnfl]; exact h.st) (Chg.refl _ _)
    have HS := Lib.hid hS
    have HB := Lib.hid hbel
    clear key hS hbel hnfl hdone hff hbl hfe hg hFg hf h hk hfl hvx
    go_enter Try.func18, Try.ntmps18
    go_wp2
    go_ret
    exact ⟨rfl, HS.out, HB.out⟩
  | true =>
    have hpos := hfl hff
    rw [hff] at hc0 hnfl
    simp at hnfl
    obtain ⟨w2, hd, hS, hbel⟩ := key (w.setCell ⟨p, 4, none⟩ (.int .i64 ((s.flying : Int) - 1))) (by
      have := h.st.set_ 4 (.int .i64 ((s.flying : Int) - 1))
      rw [show (s.flying : Int) - 1 = (nfl : Int) by omega] at this ⊢
      exact this) (show Chg (fun j => j = p) w _ from Chg.setCell (S := fun j => j = p) (p := ⟨p, 4, none⟩) (Chg.refl _ _) (.inl rfl) _)
    have HS := Lib.hid hS
    have HB := Lib.hid hbel
    have hne : ¬ p = b := map_ne h.mp h.st
    have h0' : (w.setCell ⟨p, 4, none⟩ (.int .i64 ((s.flying : Int) - 1))).cell? ⟨p, 0, none⟩ = some (.map (some b)) := by
      have := h.st.set_ 4 (.int .i64 ((s.flying : Int) - 1))
      exact this.cell 0
    clear key hS hbel hnfl hdone hff hbl hfe hg hFg hf h hk hfl hvx
    go_enter Try.func18, Try.ntmps18
    go_wp2
    go_ret
    exact ⟨rfl, HS.out, HB.out⟩
theorem due_calls (p b g now : Nat) (s : St) (f : Fl) (w : World) (h : Blk w p 57 (sndCells b s)) (hg : Blk w g 61 (flCells f)) :
    Calls Try.prog 28 #[.pointer (some ⟨p, 0, none⟩), .pointer (some ⟨g, 0, none⟩), .int .i64 (now : Int)] w fun e w' => e = .returned (.bool (St.due s.fly now f s.flying)) ∧ ∃ n, w' = w.drewN n := by
  have h1 : w.cell? ⟨p, 1, none⟩ = some (.int .i64 (s.fly : Int)) := h.cell 1
  have h4 : w.cell? ⟨p, 4, none⟩ = some (.int .i64 (s.flying : Int)) := h.cell 4
  have g0 : w.cell? ⟨g, 0, none⟩ = some (.bool f.flies) := hg.cell 0
  have g2 : w.cell? ⟨g, 2, none⟩ = some (.int .i64 f.at_) := hg.cell 2
  cases hff : f.flies with
  | true =>
    have e : St.due s.fly now f s.flying = decide (f.at_ ≤ (now : Int)) := by unfold St.due; rw [hff]; rfl
    rw [e]
    rw [hff] at g0
    clear e hff h hg
    go_enter Try.func28, Try.ntmps28
    go_wp2
    go_ret
    exact ⟨rfl, 0, rfl⟩
  | false =>
    have e : St.due s.fly now f s.flying = decide (s.flying < s.fly) := by unfold St.due; rw [hff]; rfl
    rw [e]
    rw [hff] at g0
    clear e hff h hg
    go_enter Try.func28, Try.ntmps28
    go_wp2_with fail
    go_quiet (fail)
    go_wp2
    go_ret
    exact ⟨rfl, _, rfl⟩
end Go.Proofs.Ytelodofjokmfjaa.Tele
