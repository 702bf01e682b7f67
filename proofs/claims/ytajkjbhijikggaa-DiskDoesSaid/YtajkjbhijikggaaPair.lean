/- A disk and the reference's files beside it. No conditions. -/
import Derived.Test.YtajkjbhijikggaaRCrash
namespace Go.Proofs.Ytajkjbhijikggaa.Tele
open Go.RowKit Go.Proofs.YtajkjbhijikggaaW.PrintWords
set_option linter.unusedVariables false
set_option linter.unusedSimpArgs false

namespace Fs
theorem pstep_done (k : Int) (f : FileM) : ∀ (l acc : Fs), (∀ p ∈ l, p.1 ≠ k) → l.foldl (pstep k f) (acc, true) = (acc ++ l, true)
  | [], acc, _ => by simp
  | p :: r, acc, h => by
    rw [List.foldl_cons]
    have e : pstep k f (acc, true) p = (acc ++ [p], true) := by simp [pstep, h p List.mem_cons_self]
    rw [e, pstep_done k f r _ (fun q hq => h q (List.mem_cons_of_mem _ hq)), List.append_assoc]
    rfl
theorem putL_fold (k : Int) (f : FileM) : ∀ (l acc : Fs), l.Pairwise (fun p q => p.1 < q.1) → (if (l.foldl (pstep k f) (acc, false)).2 = true then (l.foldl (pstep k f) (acc, false)).1 else (l.foldl (pstep k f) (acc, false)).1 ++ [(k, f)]) = acc ++ (if (l.get k).isSome = true then l.turn k f else l.ins (k, f))
  | [], acc, _ => by simp [get, ins]
  | p :: r, acc, h => by
    obtain ⟨h1, h2⟩ := List.pairwise_cons.1 h
    rw [List.foldl_cons, Fs.get_cons]
    by_cases hk : k ≤ p.1
    · have hr : ∀ q ∈ r, q.1 ≠ k := fun q hq => by have := h1 q hq; omega
      by_cases he : p.1 = k
      · have e : pstep k f (acc, false) p = (acc ++ [(k, f)], true) := by simp [pstep, he]
        rw [e, pstep_done k f r _ hr, if_pos he]
        simp only [if_true, Option.isSome_some]
        rw [List.append_assoc]
        congr 1
        unfold turn
        rw [List.map_cons, if_pos (by simpa using he)]
        have := turn_no k f r hr
        unfold turn at this
        rw [this]
        rfl
      · have e : pstep k f (acc, false) p = (acc ++ [(k, f)] ++ [p], true) := by simp [pstep, he, hk]
        rw [e, pstep_done k f r _ hr, if_neg he]
        have hg : Fs.get r k = none := Fs.get_none' hr
        rw [hg]
        simp only [if_true]
        rw [if_neg (by simp), ins, if_pos (by show k < p.1; omega)]
        simp
    · have e : pstep k f (acc, false) p = (acc ++ [p], false) := by
        have hne : p.1 ≠ k := by omega
        simp [pstep, hne, hk]
      rw [e, putL_fold k f r _ h2, if_neg (show ¬ p.1 = k by omega), List.append_assoc]
      congr 1
      split
      · unfold turn
        rw [List.map_cons, if_neg (by simp; omega)]
        rfl
      · rw [ins, if_neg (by show ¬ k < p.1; omega)]
        rfl
theorem putL_sorted (l : Fs) (k : Int) (f : FileM) (h : l.Pairwise fun p q => p.1 < q.1) : l.putL k f = if (l.get k).isSome = true then l.turn k f else l.ins (k, f) := by
  have := putL_fold k f l [] h
  unfold putL putI
  rw [List.take_length, this]
  rfl
theorem wr_sorted (l : Fs) (k : Int) (bs : List UInt8) (h : l.Pairwise fun p q => p.1 < q.1) : l.wr k bs = l.write k bs := by
  unfold wr write
  rw [putL_sorted l k _ h]
  cases l.get k <;> rfl
theorem sync_sorted (l : Fs) (k : Int) (h : l.Pairwise fun p q => p.1 < q.1) : (match l.get k with | some f => l.putL k ⟨f.bytes, f.bytes.length⟩ | none => l) = l.sync k := by
  unfold sync
  cases hg : l.get k with
  | none => rfl
  | some f =>
    simp only
    rw [putL_sorted l k _ h, hg]
    rfl
theorem del_all (l : Fs) (k : Int) : (if (l.get k).isSome = true then l.del k else l) = l.del k := by
  cases hg : l.get k with
  | some f => rfl
  | none =>
    rw [if_neg (by simp)]
    unfold del
    rw [List.filter_eq_self.2]
    intro p hp
    unfold get at hg
    have := List.find?_eq_none.1 (Option.map_eq_none_iff.1 hg) p hp
    simpa using this
end Fs
/-- The disk d reads as fs; the reference's variable g holds vc; v reads as fr, apart from the disk. -/
def Pair (w0 w : World) (d g : Nat) (vc v : Value) (fs fr : Fs) : Prop :=
  ∃ O P, (∀ j, O j → w0.heap.size ≤ j) ∧ IsD true w O d fs ∧ Below w0.heap.size w0 w ∧ FV w P v fr ∧ (∀ q, P q → ¬ O q ∧ q ≠ g) ∧ Blk w g 50 #[vc] ∧ ¬ O g ∧ w0.heap.size ≤ g
section
variable {w0 w w' : World} {d g : Nat} {vc v : Value} {fs fr : Fs}
theorem Pair.below (h : Pair w0 w d g vc v fs fr) : Below w0.heap.size w0 w := by
  obtain ⟨O, P, h1, h2, h3, _⟩ := h
  exact h3
theorem Pair.mine (h : Pair w0 w d g vc v fs fr) : MineD true w0 w d fs := by
  obtain ⟨O, P, h1, h2, h3, _⟩ := h
  exact ⟨O, h1, h2, h3⟩
theorem Pair.cell (h : Pair w0 w d g vc v fs fr) : w.cell? ⟨g, 0, none⟩ = some vc ∧ w.frozen? ⟨g, 0, none⟩ = false := by
  obtain ⟨O, P, h1, h2, h3, h4, h5, h6, _⟩ := h
  exact ⟨h6.cell 0, h6.frozen 0⟩
theorem Pair.slice (h : Pair w0 w d g vc v fs fr) : ∃ a c, v = .slice a fr.length c := by
  obtain ⟨O, P, h1, h2, h3, h4, _⟩ := h
  exact Kd.V_slice h4
theorem Pair.next (h : Pair w0 w d g vc v fs fr) (k : Below w.heap.size w w') : Pair w0 w' d g vc v fs fr := by
  obtain ⟨O, P, h1, h2, h3, h4, h5, h6, h7, h8⟩ := h
  exact ⟨O, P, h1, h2.next k, bnext h3 k, Kd.V_below h4 k, h5, h6.next k, h7, h8⟩
theorem Pair.store (h : Pair w0 w d g vc v fs fr) : Pair w0 (w.setCell ⟨g, 0, none⟩ v) d g v v fs fr := by
  obtain ⟨O, P, h1, ⟨b, m, F, V, h2⟩, h3, h4, h5, h6, h7, h8⟩ := h
  have hc : Chg (fun j => j = g) w (w.setCell ⟨g, 0, none⟩ v) := Chg.setCell (S := fun j => j = g) (p := ⟨g, 0, none⟩) (Chg.refl _ _) (.inl rfl) _
  exact ⟨O, P, h1, ⟨b, m, F, V, h2.far hc fun j hj e => h7 (e ▸ hj)⟩, bchg h3 hc fun j e => by rw [e]; exact h8, Kd.V_far (p := ⟨g, 0, none⟩) h4 (fun q hq => (h5 q hq).2) v, h5, h6.set_ 0 v, h7, h8⟩
theorem pair_disk {O O' P : Nat → Prop} {d' : Nat} {fs' : Fs} (h1 : ∀ j, O j → w0.heap.size ≤ j) (h3 : Below w0.heap.size w0 w) (h4 : FV w P v fr) (h5 : ∀ q, P q → ¬ O q ∧ q ≠ g) (h6 : Blk w g 50 #[vc]) (h7 : ¬ O g) (h8 : w0.heap.size ≤ g)
    (hD : IsD true w' O' d' fs') (hO : ∀ j, O' j → O j ∨ w.heap.size ≤ j) (hc : Chg O w w') : Pair w0 w' d' g vc v fs' fr := by
  have hg := h6.lt
  refine ⟨O', fun q => P q ∧ q < w.heap.size, fun j hj => (hO j hj).elim (h1 j) fun hh => Nat.le_trans h3.size hh, hD, bchg h3 hc h1, Kd.V_step (Kd.V_bound h4) (fun q hq hlt => hc.block q hlt (h5 q hq.1).1), fun q hq => ⟨fun ho => ?_, (h5 q hq.1).2⟩, h6.chg hc h7, fun ho => ?_, h8⟩
  · rcases hO q ho with hh | hh
    · exact (h5 q hq.1).1 hh
    · omega
  · rcases hO g ho with hh | hh
    · exact h7 hh
    · omega
theorem pair_ref {P' : Nat → Prop} {v' : Value} {fr' : Fs} (h : Pair w0 w d g vc v fs fr) (hv : ∀ P, FV w P v fr → FV w' (fun q => P q ∨ w.heap.size ≤ q) v' fr') (hb : Below w.heap.size w w') : Pair w0 w' d g vc v' fs fr' := by
  obtain ⟨O, P, h1, h2, h3, h4, h5, h6, h7, h8⟩ := h
  have hO : ∀ j, O j → j < w.heap.size := by obtain ⟨b, m, F, V, hh⟩ := h2; exact hh.hO
  have hg := h6.lt
  exact ⟨O, _, h1, h2.next hb, bnext h3 hb, hv P h4, fun q hq => hq.elim (h5 q) fun hh => ⟨fun ho => by have := hO q ho; omega, by omega⟩, h6.next hb, h7, h8⟩
theorem Pair.sorted (h : Pair w0 w d g vc v fs fr) : fs.Pairwise fun p q => p.1 < q.1 := by
  obtain ⟨O, P, h1, ⟨b, m, F, V, h2⟩, _⟩ := h
  rw [h2.abs]
  exact List.pairwise_map.2 h2.sorted
theorem Pair.small (h : Pair w0 w d g vc v fs fr) : ∀ p ∈ fs, p.2.sure ≤ p.2.bytes.length ∧ p.2.bytes.length ≤ 1000000 ∧ (Lit.int .i64 p.1).wf = true := by
  obtain ⟨O, P, h1, ⟨b, m, F, V, h2⟩, _⟩ := h
  intro p hp
  rw [h2.abs] at hp
  obtain ⟨e, he, rfl⟩ := List.mem_map.1 hp
  obtain ⟨k0, k1⟩ := h2.keys e he
  exact ⟨(h2.small e he).1, (h2.small e he).2, wf_i64 (by simp only; omega) (by simp only; omega)⟩
end
/-- What a Write tells, and leaves. -/
def wErr (k : Int) : Int := if 0 ≤ k ∧ k ≤ 1099511627776 then 0 else 1
def Fs.writeK (fs : Fs) (k : Int) (bs : List UInt8) : Fs := if 0 ≤ k ∧ k ≤ 1099511627776 then fs.write k bs else fs
theorem write_far (d : Nat) (k : Int) (v : Value) (w : World) (h : 1099511627776 < k) : Calls Try.prog 11 #[.pointer (some ⟨d, 0, none⟩), .int .i64 k, v] w fun e w' => e = .returned (.int .u16 1) ∧ w' = w := by
  go_enter Try.func11, Try.ntmps11
  go_wp2
  go_ret
  exact ⟨rfl, rfl⟩
section
variable {w0 w : World} {d g : Nat} {vc v : Value} {fs fr : Fs}
theorem pwrite {W1 : World} {bv : Value} {bs : List UInt8} (k : Int) (h : Pair w0 w d g vc v fs fr) (hb : Below w.heap.size w W1) (ho : W1.ownsRow w.heap.size 5 1 bv bs.length (bs.map e8)) (hl : fs.length < 100000) (hsz : (((fs.get k).map (·.bytes)).getD []).length + bs.length ≤ 1000000) :
    Calls Try.prog 11 #[.pointer (some ⟨d, 0, none⟩), .int .i64 k, bv] W1 fun e w' => e = .returned (.int .u16 (wErr k)) ∧ Pair w0 w' d g vc v (fs.writeK k bs) fr := by
  have h9 := h.next hb
  unfold wErr Fs.writeK
  by_cases hk : 0 ≤ k ∧ k ≤ 1099511627776
  · rw [if_pos hk, if_pos hk]
    obtain ⟨O, P, h1, h2, h3, h4, h5, h6, h7, h8⟩ := h
    have hO : ∀ j, O j → j < w.heap.size := by obtain ⟨b, m, F, V, hh⟩ := h2; exact hh.hO
    have hat := own_at ho
    obtain ⟨a, cap, rfl, hr⟩ := bytes_of ho
    refine (write_calls O d fs k a cap bs W1 (h2.next hb) hk.1 hk.2 hr (fun ad had hp hoo => ?_) hl hsz).mono ?_
    · have := (hat ad.block (by rw [had]; rfl)).1
      have := hO _ hoo
      omega
    · rintro e w' ⟨rfl, O', hD, hO', hc⟩
      exact ⟨rfl, pair_disk h1 (bnext h3 hb) (Kd.V_below h4 hb) h5 (h6.next hb) h7 h8 hD hO' hc⟩
  · rw [if_neg hk, if_neg hk]
    by_cases hn : k < 0
    · refine (write_neg d k bv W1 hn).mono ?_
      rintro e w' ⟨rfl, rfl⟩
      exact ⟨rfl, h9⟩
    · refine (write_far d k bv W1 (by omega)).mono ?_
      rintro e w' ⟨rfl, rfl⟩
      exact ⟨rfl, h9⟩
theorem psync (k : Int) (h : Pair w0 w d g vc v fs fr) (hk : (Lit.int .i64 k).wf = true) :
    Calls Try.prog 12 #[.pointer (some ⟨d, 0, none⟩), .int .i64 k] w fun e w' => e = .returned (.int .u16 (if (fs.get k).isSome then 0 else 71)) ∧ Pair w0 w' d g vc v (fs.sync k) fr := by
  obtain ⟨O, P, h1, h2, h3, h4, h5, h6, h7, h8⟩ := h
  refine (sync_calls true O d fs k w h2 hk).mono ?_
  rintro e w' ⟨rfl, hD, hc⟩
  exact ⟨rfl, pair_disk h1 h3 h4 h5 h6 h7 h8 hD (fun j hj => hj.elim .inl fun hh => .inr hh.1) hc⟩
theorem premove (k : Int) (h : Pair w0 w d g vc v fs fr) (hk : (Lit.int .i64 k).wf = true) :
    Calls Try.prog 19 #[.pointer (some ⟨d, 0, none⟩), .int .i64 k] w fun e w' => e = .returned (.int .u16 (if (fs.get k).isSome then 0 else 71)) ∧ Pair w0 w' d g vc v (fs.del k) fr := by
  obtain ⟨O, P, h1, h2, h3, h4, h5, h6, h7, h8⟩ := h
  refine (remove_calls true O d fs k w h2 hk).mono ?_
  rintro e w' ⟨rfl, hD, hc⟩
  exact ⟨rfl, pair_disk h1 h3 h4 h5 h6 h7 h8 hD (fun j hj => .inl hj) hc⟩
theorem pcrash (draw : Nat) (h : Pair w0 w d g vc v fs fr) (hd : draw < 18446744073709551616) :
    Calls Try.prog 14 #[.pointer (some ⟨d, 0, none⟩), .int .u64 (draw : Int)] w fun e w' => e = .returned (.tuple #[]) ∧ Pair w0 w' d g vc v (fs.crash draw) fr := by
  obtain ⟨O, P, h1, h2, h3, h4, h5, h6, h7, h8⟩ := h
  refine (crash_own true O d fs draw w h2 hd).mono ?_
  rintro e w' ⟨rfl, O', hD, hO, hc⟩
  exact ⟨rfl, pair_disk h1 h3 h4 h5 h6 h7 h8 hD hO hc⟩
theorem pcopy (h : Pair w0 w d g vc v fs fr) :
    Calls Try.prog 18 #[.pointer (some ⟨d, 0, none⟩)] w fun e w' => ∃ c, e = .returned (.pointer (some ⟨c, 0, none⟩)) ∧ Pair w0 w' c g vc v fs fr := by
  obtain ⟨O, P, h1, h2, h3, h4, h5, h6, h7, h8⟩ := h
  refine (copy_calls true O d fs w h2).mono ?_
  rintro e w' ⟨c, rfl, hD, hb⟩
  exact ⟨c, rfl, pair_disk h1 h3 h4 h5 h6 h7 h8 hD (fun j hj => .inr hj.1) (.of_below O hb)⟩
theorem prwrite {W1 : World} {bv : Value} {bs : List UInt8} (k : Int) (h : Pair w0 w d g vc v fs fr) (hs : fr.Pairwise fun p q => p.1 < q.1) (hb : Below w.heap.size w W1) (ho : W1.ownsRow w.heap.size 5 1 bv bs.length (bs.map e8)) (hl : fr.length ≤ 100000) (hsz : (((fr.get k).map (·.bytes)).getD []).length + bs.length ≤ 1000000) :
    Calls Try.prog 20 #[.agg #[v], .int .i64 k, bv] W1 fun e w' => ∃ v', e = .returned (.tuple #[.agg #[v'], .int .i64 (wErr k)]) ∧ Pair w0 w' d g vc v' fs (fr.writeK k bs) := by
  have h9 := h.next hb
  unfold wErr Fs.writeK
  obtain ⟨O, P, _, _, _, h4, _⟩ := id h9
  by_cases hk : 0 ≤ k ∧ k ≤ 1099511627776
  · rw [if_pos hk, if_pos hk]
    obtain ⟨a, cap, rfl, hr⟩ := bytes_of ho
    have hw := fun P h4 => rwrite_good P v fr k a bs.length cap bs W1 h4 hl hk.1 hk.2 (rowOf_full hr) rfl (by
      cases hg : fr.get k with
      | none => rw [hg] at hsz; exact hsz
      | some f => rw [hg] at hsz; exact hsz)
    rw [Fs.wr_sorted fr k bs hs] at hw
    obtain ⟨O, P, h1, h2, h3, h4, h5, h6, h7, h8⟩ := h9
    have hO : ∀ j, O j → j < W1.heap.size := by obtain ⟨b, m, F, V, hh⟩ := h2; exact hh.hO
    have hg := h6.lt
    refine (hw P h4).mono ?_
    rintro e w' ⟨v', rfl, hv, hb'⟩
    exact ⟨v', rfl, O, _, h1, h2.next hb', bnext h3 hb', hv, fun q hq => hq.elim (h5 q) fun hh => ⟨fun ho => by have := hO q ho; omega, by omega⟩, h6.next hb', h7, h8⟩
  · rw [if_neg hk, if_neg hk]
    refine (rwrite_bad v fr k bv P W1 h4 (by omega)).mono ?_
    rintro e w' ⟨rfl, hb'⟩
    exact ⟨v, rfl, h9.next hb'⟩
theorem prsync (k : Int) (h : Pair w0 w d g vc v fs fr) (hs : fr.Pairwise fun p q => p.1 < q.1) (hl : fr.length ≤ 100000) :
    Calls Try.prog 21 #[.agg #[v], .int .i64 k] w fun e w' => ∃ v', e = .returned (.tuple #[.agg #[v'], .int .i64 (if (fr.get k).isSome then 0 else 71)]) ∧ Pair w0 w' d g vc v' fs (fr.sync k) := by
  rw [← Fs.sync_sorted fr k hs]
  obtain ⟨O, P, h1, h2, h3, h4, h5, h6, h7, h8⟩ := h
  have hO : ∀ j, O j → j < w.heap.size := by obtain ⟨b, m, F, V, hh⟩ := h2; exact hh.hO
  have hg := h6.lt
  refine (rsync_calls P v fr k w h4 hl).mono ?_
  rintro e w' ⟨v', rfl, hv, hb'⟩
  exact ⟨v', rfl, O, _, h1, h2.next hb', bnext h3 hb', hv, fun q hq => hq.elim (h5 q) fun hh => ⟨fun ho => by have := hO q ho; omega, by omega⟩, h6.next hb', h7, h8⟩
theorem prremove (k : Int) (h : Pair w0 w d g vc v fs fr) (hl : fr.length ≤ 100000) :
    Calls Try.prog 22 #[.agg #[v], .int .i64 k] w fun e w' => ∃ v', e = .returned (.tuple #[.agg #[v'], .int .i64 (if (fr.get k).isSome then 0 else 71)]) ∧ Pair w0 w' d g vc v' fs (fr.del k) := by
  rw [← Fs.del_all fr k]
  obtain ⟨O, P, h1, h2, h3, h4, h5, h6, h7, h8⟩ := h
  have hO : ∀ j, O j → j < w.heap.size := by obtain ⟨b, m, F, V, hh⟩ := h2; exact hh.hO
  have hg := h6.lt
  refine (rremove_calls P v fr k w h4 hl).mono ?_
  rintro e w' ⟨v', rfl, hv, hb'⟩
  exact ⟨v', rfl, O, _, h1, h2.next hb', bnext h3 hb', hv, fun q hq => hq.elim (h5 q) fun hh => ⟨fun ho => by have := hO q ho; omega, by omega⟩, h6.next hb', h7, h8⟩
theorem prcrash (draw : Nat) (h : Pair w0 w d g vc v fs fr) (hl : fr.length ≤ 100000) (hd : draw < 18446744073709551616) (hsm : ∀ p ∈ fr, p.2.sure ≤ p.2.bytes.length ∧ p.2.bytes.length ≤ 1000000) :
    Calls Try.prog 23 #[.agg #[v], .int .u64 (draw : Int)] w fun e w' => ∃ v', e = .returned (.agg #[v']) ∧ Pair w0 w' d g vc v' fs (fr.crash draw) := by
  obtain ⟨O, P, h1, h2, h3, h4, h5, h6, h7, h8⟩ := h
  have hO : ∀ j, O j → j < w.heap.size := by obtain ⟨b, m, F, V, hh⟩ := h2; exact hh.hO
  have hg := h6.lt
  refine (rcrash_calls P v fr draw w h4 hl hd hsm).mono ?_
  rintro e w' ⟨v', rfl, hv, hb'⟩
  exact ⟨v', rfl, O, _, h1, h2.next hb', bnext h3 hb', hv, fun q hq => hq.elim (h5 q) fun hh => ⟨fun ho => by have := hO q ho; omega, by omega⟩, h6.next hb', h7, h8⟩
theorem prread (k : Int) (h : Pair w0 w d g vc v fs fr) (hl : fr.length ≤ 100000) :
    Calls Try.prog 25 #[.agg #[v], .int .i64 k] w fun e w' => (∃ u, e = .returned (.tuple #[u, .int .i64 (if (fr.get k).isSome then 0 else 71)])) ∧ Pair w0 w' d g vc v fs fr := by
  have h9 := h
  obtain ⟨O, P, h1, h2, h3, h4, h5, h6, h7, h8⟩ := h
  refine (rread_calls P v fr k w h4 hl).mono ?_
  rintro e w' ⟨hu, hb⟩
  exact ⟨hu, h9.next hb⟩
theorem pread (k : Int) (h : Pair w0 w d g vc v fs fr) (hk : (Lit.int .i64 k).wf = true) :
    Calls Try.prog 15 #[.pointer (some ⟨d, 0, none⟩), .int .i64 k] w fun e w' => (∃ a n c, e = .returned (.tuple #[.slice a n c, .int .u16 (if (fs.get k).isSome then 0 else 71)])) ∧ Pair w0 w' d g vc v fs fr := by
  have h9 := h
  obtain ⟨O, P, h1, h2, h3, h4, h5, h6, h7, h8⟩ := h
  refine (read_calls true O d fs k w h2 hk).mono ?_
  rintro e w' ⟨u, rfl, hb, ho⟩
  obtain ⟨a, l, c, rfl⟩ := own_slice ho
  exact ⟨⟨a, l, c, rfl⟩, h9.next hb⟩
end
end Go.Proofs.Ytajkjbhijikggaa.Tele
