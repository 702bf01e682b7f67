/- What a copy of a disk stands on. No conditions. -/
import Derived.Test.YtajkjbhijikggaaLawNumbers
import Derived.Maps.RangeWalk
namespace Go.Proofs.Ytajkjbhijikggaa.Tele
open Go.RowKit
set_option linter.unusedVariables false
set_option linter.unusedSimpArgs false

theorem IsD'.far {own : Bool} {w w' : World} {O : Nat → Prop} {d b : Nat} {m : Ents} {F : Nat → FileM} {V : Nat → Value} {fs : Fs} {S : Nat → Prop} (h : IsD' own w O d b m F V fs) (k : Chg S w w') (hS : ∀ j, O j → ¬ S j) : IsD' own w' O d b m F V fs :=
  { h with
    st := h.st.chg k (hS _ h.hd)
    mp := h.mp.chg k (hS _ h.hb)
    fl := fun e he => (h.fl e he).chg k (hS _ (h.hm e he))
    row := fun e he => (h.row e he).far k.size fun j hj => k.block j (h.hO j (h.apart e he j hj).1) (hS _ (h.apart e he j hj).1)
    hO := fun j hj => Nat.lt_of_lt_of_le (h.hO j hj) k.size }
/-- A file laid in with its bytes. -/
theorem IsD'.lay {own : Bool} {w w2 : World} {O : Nat → Prop} {d b : Nat} {m : Ents} {F : Nat → FileM} {V : Nat → Value} {fs : Fs} {k : Int} {f : FileM} {v : Value} (h : IsD' own w O d b m F V fs) (hg : m.get k = none) (hk0 : 0 ≤ k) (hk1 : k ≤ 1099511627776) (hl : m.length < 100000)
    (hrow : Row own w v f.bytes) (hvO : ∀ j, v.ownBlock = some j → ¬ O j ∧ j < w.heap.size) (hsm : f.sure ≤ f.bytes.length ∧ f.bytes.length ≤ 1000000)
    (hm : IsMap w2 b (m.put k w.heap.size)) (hc : Chg (fun j => j = b) (w.alloc (.cells #[v, .int .i64 (f.sure : Int)] 65)) w2) (hs : w2.heap.size = w.heap.size + 1) :
    IsD' own w2 (fun j => Plus O w w2 j ∨ v.ownBlock = some j) d b (m.put k w.heap.size) (updF F w.heap.size f) (updV V w.heap.size v) (fs.ins (k, f)) ∧ Chg O w w2 := by
  have hA := bl_alloc (Below.refl w.heap.size w) (.cells #[v, .int .i64 (f.sure : Int)] 65)
  have hnew := Blk.new w 65 #[v, .int .i64 (f.sure : Int)]
  have hmap := h.mp.next hA
  have hlt : ∀ e ∈ m, e.2 ≠ w.heap.size := fun e he => by have := h.hO _ (h.hm e he); omega
  have hput : m.put k w.heap.size = m.insP (k, w.heap.size) := by unfold Ents.put; rw [del_none hg]
  rw [hput] at hm ⊢
  have hperm := insP_perm (k, w.heap.size) m
  have hmem : ∀ e ∈ m.insP (k, w.heap.size), e = (k, w.heap.size) ∨ e ∈ m := fun e he => List.mem_cons.1 (hperm.mem_iff.1 he)
  have hsort := insP_sorted (k, w.heap.size) m h.sorted (get_none hg)
  have hbO : ∀ j, v.ownBlock = some j → j ≠ b := fun j hj e => (hvO j hj).1 (e ▸ h.hb)
  refine ⟨⟨?_, hm, hsort, ?_, ?_, ?_, ?_, ?_, ?_, ?_, ?_, .inl (.inl h.hd), .inl (.inl h.hb), ?_, ?_⟩, ?_⟩
  · exact (h.st.next hA).chg hc (map_ne hmap (h.st.next hA))
  · rw [(hperm.map _).nodup_iff, List.map_cons, List.nodup_cons]
    refine ⟨fun hh => ?_, h.nd⟩
    obtain ⟨e, he, e2⟩ := List.mem_map.1 hh
    exact hlt e he e2
  · intro e he
    rcases hmem e he with rfl | he
    · exact ⟨hk0, hk1⟩
    · exact h.keys e he
  · rw [hperm.length_eq, List.length_cons]
    omega
  · intro e he
    rcases hmem e he with rfl | he
    · rw [updF_same, updV_same]
      exact hnew.chg hc (map_ne hmap hnew)
    · rw [updF_other _ _ _ (hlt e he), updV_other _ _ _ (hlt e he)]
      have := (h.fl e he).next hA
      exact this.chg hc (map_ne hmap this)
  · intro e he
    rcases hmem e he with rfl | he
    · rw [updF_same, updV_same]
      refine hrow.far (by omega) (fun j hj => ?_)
      exact (hc.block j (Nat.lt_of_lt_of_le (hvO j hj).2 hA.size) (hbO j hj)).trans (hA.block j (hvO j hj).2)
    · rw [updF_other _ _ _ (hlt e he), updV_other _ _ _ (hlt e he)]
      refine (h.row e he).far (by omega) (fun j hj => ?_)
      obtain ⟨a1, a2, a3, a4⟩ := h.apart e he j hj
      exact (hc.block j (Nat.lt_of_lt_of_le (h.hO j a1) hA.size) a3).trans (hA.block j (h.hO j a1))
  · intro e he j hj
    rcases hmem e he with rfl | he
    · rw [updV_same] at hj
      obtain ⟨p1, p2⟩ := hvO j hj
      refine ⟨.inr hj, fun e => p1 (e ▸ h.hd), fun e => p1 (e ▸ h.hb), fun e' he' => ?_⟩
      rcases hmem e' he' with rfl | he'
      · exact ⟨by omega, fun hh => absurd rfl hh⟩
      · rw [updV_other _ _ _ (hlt e' he')]
        exact ⟨fun e => p1 (e ▸ h.hm e' he'), fun _ hh => p1 (h.apart e' he' j hh).1⟩
    · rw [updV_other _ _ _ (hlt e he)] at hj
      obtain ⟨a1, a2, a3, a4⟩ := h.apart e he j hj
      refine ⟨.inl (.inl a1), a2, a3, fun e' he' => ?_⟩
      rcases hmem e' he' with rfl | he'
      · have := h.hO j a1
        refine ⟨by omega, fun _ hh => ?_⟩
        rw [updV_same] at hh
        exact (hvO j hh).1 a1
      · rw [updV_other _ _ _ (hlt e' he')]
        exact a4 e' he'
  · rw [insP_map _ _ (fun _ => rfl), h.abs]
    rw [updF_same]
    congr 1
    refine List.map_congr_left fun e he => ?_
    rw [updF_other _ _ _ (hlt e he)]
  · intro e he
    rcases hmem e he with rfl | he
    · rw [updF_same]
      exact hsm
    · rw [updF_other _ _ _ (hlt e he)]
      exact h.small e he
  · intro e he
    rcases hmem e he with rfl | he
    · exact .inl (.inr ⟨Nat.le_refl _, by omega⟩)
    · exact .inl (.inl (h.hm e he))
  · intro j hj
    rcases hj with (hj | hj) | hj
    · have := h.hO j hj
      omega
    · exact hj.2
    · have := (hvO j hj).2
      omega
  · exact (Chg.of_below O hA).then (hc.mono fun j _ hj => by rw [hj]; exact h.hb)
theorem Fs.get_cons (p : Int × FileM) (r : Fs) (k : Int) : Fs.get (p :: r) k = if p.1 = k then some p.2 else Fs.get r k := by
  unfold Fs.get
  rw [List.find?_cons]
  by_cases h : p.1 = k
  · rw [if_pos h, show (p.1 == k) = true by simpa using h]
    rfl
  · rw [if_neg h, show (p.1 == k) = false by simpa using h]
theorem Fs.get_none' {l : Fs} {k : Int} (h : ∀ p ∈ l, p.1 ≠ k) : l.get k = none := by
  induction l with
  | nil => rfl
  | cons p r ih =>
    rw [Fs.get_cons, if_neg (h p List.mem_cons_self)]
    exact ih fun q hq => h q (List.mem_cons_of_mem _ hq)
theorem Fs.ext : ∀ l1 l2 : Fs, l1.keys.Pairwise (· < ·) → l2.keys.Pairwise (· < ·) → (∀ k, l1.get k = l2.get k) → l1 = l2
  | [], [], _, _, _ => rfl
  | [], p :: r, _, _, h => by
    have := h p.1
    rw [Fs.get_cons, if_pos rfl] at this
    cases this
  | p :: r, [], _, _, h => by
    have := h p.1
    rw [Fs.get_cons, if_pos rfl] at this
    cases this
  | p :: r, q :: s, h1, h2, h => by
    have h1' := List.pairwise_cons.1 (show (p.1 :: r.map (·.1)).Pairwise (· < ·) from h1)
    have h2' := List.pairwise_cons.1 (show (q.1 :: s.map (·.1)).Pairwise (· < ·) from h2)
    have hr : ∀ k, k ≤ p.1 → Fs.get r k = none := fun k hk => Fs.get_none' fun x hx e => by
      have := h1'.1 x.1 (List.mem_map.2 ⟨x, hx, rfl⟩)
      omega
    have hs : ∀ k, k ≤ q.1 → Fs.get s k = none := fun k hk => Fs.get_none' fun x hx e => by
      have := h2'.1 x.1 (List.mem_map.2 ⟨x, hx, rfl⟩)
      omega
    have hpq : p.1 = q.1 := by
      have e1 := h p.1
      have e2 := h q.1
      rw [Fs.get_cons, Fs.get_cons, if_pos rfl] at e1
      rw [Fs.get_cons, Fs.get_cons, if_pos (show q.1 = q.1 from rfl)] at e2
      rcases Int.lt_trichotomy p.1 q.1 with hh | hh | hh
      · rw [if_neg (by omega), hs _ (by omega)] at e1
        cases e1
      · exact hh
      · rw [if_neg (by omega), hr _ (by omega)] at e2
        cases e2
    have hp2 : p.2 = q.2 := by
      have e1 := h p.1
      rw [Fs.get_cons, Fs.get_cons, if_pos rfl, if_pos hpq.symm] at e1
      exact Option.some.inj e1
    have hrs : r = s := Fs.ext r s h1'.2 h2'.2 fun k => by
      have e1 := h k
      rw [Fs.get_cons, Fs.get_cons] at e1
      by_cases hk : p.1 = k
      · rw [hr k (by omega), hs k (by omega)]
      · rw [if_neg hk, if_neg (by omega)] at e1
        exact e1
    obtain ⟨a, b⟩ := p
    obtain ⟨c, e⟩ := q
    simp only at hpq hp2
    rw [hpq, hp2, hrs]
theorem Fs.get_ins {x : Int} {f : FileM} {k : Int} : ∀ {l : Fs}, l.get x = none → (l.ins (x, f)).get k = if k = x then some f else l.get k
  | [], _ => by
    show Fs.get [(x, f)] k = _
    rw [Fs.get_cons]
    by_cases h : k = x
    · rw [if_pos h, if_pos h.symm]
    · rw [if_neg h, if_neg (fun e => h e.symm)]
  | y :: r, hn => by
    rw [Fs.get_cons] at hn
    have hy : ¬ y.1 = x := fun e => by rw [if_pos e] at hn; cases hn
    rw [if_neg hy] at hn
    unfold Fs.ins
    split
    · rw [Fs.get_cons]
      by_cases h : k = x
      · rw [if_pos h, if_pos h.symm]
      · rw [if_neg h, if_neg (fun e => h e.symm)]
    · rw [Fs.get_cons, Fs.get_ins hn, Fs.get_cons]
      by_cases h : y.1 = k
      · rw [if_pos h, if_pos h, if_neg (fun e => hy (h.trans e))]
      · rw [if_neg h, if_neg h]
theorem ranges_chg {H : Type} {P : Program} {k : TypeId} {R : Value → Option (DataW H × List MemPlace)} {w w' : World} {b r n : Nat} {D : DataW H} {left : Lit → Bool} {cnt : Nat} {S : Nat → Prop} (h : w.ranges P k R b r n D left cnt) (hc : Chg S w w') (hb : ¬ S b) (hr : ¬ S r) : w'.ranges P k R b r n D left cnt := by
  have h1 := h.owns.lt
  have h2 := h.lt
  obtain ⟨es, clock, since, seen, c0, hb', F, hs, hD, hr', rest⟩ := h
  exact ⟨es, clock, since, seen, c0, (hc.block b h1 hb).trans hb', F, hs, hD, (hc.block r h2 hr).trans hr', rest⟩
/-- What holds while a file is copied. -/
abbrev HeldC (wn : World) (d b g : Nat) (v : Value) (s : Int) (W : World) : Prop :=
  W.cell? ⟨d, 0, none⟩ = some (.map (some b)) ∧ W.cell? ⟨g, 0, none⟩ = some v ∧ W.cell? ⟨g, 1, none⟩ = some (.int .i64 s) ∧ Chg (fun j => j = b) wn W
theorem heldC_of {wn W : World} {d b g : Nat} {v : Value} {s : Int} (h1 : Blk wn d 61 #[.map (some b)]) (h2 : Blk wn g 65 #[v, .int .i64 s]) (hd : ¬ d = b) (hg : ¬ g = b) (h : Chg (fun j => j = b) wn W) : HeldC wn d b g v s W :=
  ⟨(h1.chg h hd).cell 0, (h2.chg h hg).cell 0, (h2.chg h hg).cell 1, h⟩
theorem HeldC.drewN {wn W : World} {d b g : Nat} {v : Value} {s : Int} (h : HeldC wn d b g v s W) (n : Nat) : HeldC wn d b g v s (W.drewN n) := ⟨h.1, h.2.1, h.2.2.1, h.2.2.2.drewN n⟩
theorem HeldC.drew {wn W : World} {d b g : Nat} {v : Value} {s : Int} (h : HeldC wn d b g v s W) : HeldC wn d b g v s W.drew := ⟨h.1, h.2.1, h.2.2.1, h.2.2.2.drew⟩
/-- What has been copied, while the range goes. -/
def CopyRel (w0 : World) (m : Ents) (b R d : Nat) (fs : Fs) (wr : World) (left : Lit → Bool) (cnt : Nat) : Prop :=
  wr.ranges Try.prog 3 rdP b R m.length (dm m) left cnt ∧ (∃ O' fs', IsD true wr O' d fs' ∧ (∀ j, O' j → w0.heap.size ≤ j) ∧ ¬ O' R ∧ (∀ k : Int, fs'.get k = if left (.int .i64 k) = true then none else fs.get k) ∧ fs'.length + cnt ≤ m.length) ∧ Below w0.heap.size w0 wr
theorem copy_store {own : Bool} {w0 wn w5 : World} {O O' : Nat → Prop} {d0 b d b' R g : Nat} {m m' : Ents} {F F' : Nat → FileM} {V V' : Nat → Value} {fs fs' : Fs} {x : Int} {v' : Value} {left : Lit → Bool} {cnt cnt1 : Nat}
    (h0 : IsD' own w0 O d0 b m F V fs) (hx : m.get x = some g) (hD : IsD' true wn O' d b' m' F' V' fs') (hO1 : ∀ j, O' j → w0.heap.size ≤ j) (hR : ¬ O' R) (hR0 : R < wn.heap.size) (hb0 : Below w0.heap.size w0 wn)
    (hrg : wn.ranges Try.prog 3 rdP b R m.length (dm m) (fun z => left z && !z.sameKey (.int .i64 x)) cnt1) (hlt : cnt1 < cnt) (hlx : left (.int .i64 x) = true) (hget : ∀ k : Int, fs'.get k = if left (.int .i64 k) = true then none else fs.get k) (hlen : fs'.length + cnt ≤ m.length)
    (hbw : Below wn.heap.size wn w5) (hown : w5.ownsRow wn.heap.size 5 1 v' (F g).bytes.length ((F g).bytes.map e8)) :
    ∃ w7, (Instr.mapUpdate 59 (.map (some b')) (.int .i64 x) (.pointer (some ⟨w5.heap.size, 0, none⟩))).run Try.prog (w5.alloc (.cells #[v', .int .i64 ((F g).sure : Int)] 65)) = .ok () w7 ∧
      HeldC wn d b' g (V g) ((F g).sure : Int) w5 ∧ HeldC wn d b' g (V g) ((F g).sure : Int) (w5.alloc (.cells #[v', .int .i64 ((F g).sure : Int)] 65)) ∧ HeldC wn d b' g (V g) ((F g).sure : Int) w7 ∧
      CopyRel w0 m b R d fs w7 (fun z => left z && !z.sameKey (.int .i64 x)) cnt1 := by
  have hgm := get_mem hx
  obtain ⟨hk0, hk1⟩ := h0.keys _ hgm
  have hwf := wf_i64 (x := x) (by omega) (by omega)
  have hm'len : m'.length = fs'.length := by rw [hD.abs, List.length_map]
  have hml := h0.size
  have hxn : m'.get x = none := by
    have h1 := fs_get hD.abs x
    rw [hget x, if_pos hlx] at h1
    cases hh : m'.get x with
    | none => rfl
    | some y => rw [hh] at h1; cases h1
  have h5 := hD.next hbw
  have hA := bl_alloc (Below.refl w5.heap.size w5) (.cells #[v', .int .i64 ((F g).sure : Int)] 65)
  obtain ⟨w7, hst, hm7, hc7, hs7⟩ := (h5.mp.next hA).store (g := w5.heap.size) 59 62 Try.underlying59 hwf (by omega)
  rw [World.size_alloc] at hs7
  have hat := own_at hown
  have hrow : Row true w5 v' (F g).bytes := ⟨bytes_of hown, fun _ => .inl (own_base hown (Nat.zero_le _))⟩
  obtain ⟨H7, hcO⟩ := h5.lay (f := F g) hxn hk0 hk1 (by omega) hrow (fun j hj => ⟨fun ho => by have := (hat j hj).1; have := hD.hO j ho; omega, (hat j hj).2⟩) (h0.small _ hgm) hm7 hc7 hs7
  have hgw : g < w0.heap.size := (h0.fl _ hgm).lt
  have hbge : w0.heap.size ≤ b' := hO1 _ hD.hb
  have hblk := (h0.fl _ hgm).next hb0
  have hdb : ¬ d = b' := map_ne hD.mp hD.st
  have hC5 : Chg (fun j => j = b') wn w5 := .of_below _ hbw
  have hC6 : Chg (fun j => j = b') wn (w5.alloc (.cells #[v', .int .i64 ((F g).sure : Int)] 65)) := hC5.alloc _
  have hC7 : Chg (fun j => j = b') wn w7 := hC6.then hc7
  refine ⟨w7, hst, heldC_of hD.st hblk hdb (by omega) hC5, heldC_of hD.st hblk hdb (by omega) hC6, heldC_of hD.st hblk hdb (by omega) hC7, ?_, ?_, ?_⟩
  · exact ranges_chg hrg hC7 (fun e => by have := h0.hO _ h0.hb; omega) (fun e => hR (e ▸ hD.hb))
  · refine ⟨_, _, ⟨b', _, _, _, H7⟩, fun j hj => ?_, fun hh => ?_, fun k => ?_, ?_⟩
    · rcases hj with (hj | hj) | hj
      · exact hO1 j hj
      · have := hb0.size; have := hbw.size; omega
      · have := (hat j hj).1; have := hb0.size; omega
    · rcases hh with (hj | hj) | hj
      · exact hR hj
      · have := hbw.size; omega
      · have := (hat R hj).1; omega
    · have hfx : fs'.get x = none := by rw [hget x, if_pos hlx]
      rw [Fs.get_ins hfx, hget k]
      simp only [same_int]
      by_cases hk : k = x
      · subst hk
        rw [if_pos rfl]
        simp
        rw [fs_get h0.abs k, hx]
        rfl
      · rw [if_neg hk]
        have : (k == x) = false := by simpa using hk
        simp [this]
    · rw [Fs.len_ins]
      omega
  · exact bchg hb0 hC7 fun j hj => by rw [hj]; exact hbge
/-- At the end all are copied. -/
theorem copy_end {w0 wr : World} {m : Ents} {b R d : Nat} {fs : Fs} {left : Lit → Bool} {cnt : Nat} (h : CopyRel w0 m b R d fs wr left cnt) (hs : fs.keys.Pairwise (· < ·)) (hl : ∀ kl, left kl = false) : IsD true wr (fun j => w0.heap.size ≤ j ∧ j < wr.heap.size) d fs ∧ Below w0.heap.size w0 wr := by
  obtain ⟨h1, ⟨O', fs', h2, h3, h4, h5, h6⟩, h7⟩ := h
  refine ⟨?_, h7⟩
  obtain ⟨b', m', F', V', hD⟩ := h2
  have he : fs' = fs := by
    refine Fs.ext _ _ ?_ hs fun k => by rw [h5 k, hl]; rfl
    unfold Fs.keys
    rw [hD.abs, List.map_map]
    exact List.pairwise_map.2 hD.sorted
  subst he
  exact ⟨b', m', F', V', { hD with
    apart := fun e he j hj => by
      obtain ⟨a1, a2⟩ := hD.apart e he j hj
      exact ⟨⟨h3 j a1, hD.hO j a1⟩, a2⟩
    hd := ⟨h3 _ hD.hd, hD.hO _ hD.hd⟩
    hb := ⟨h3 _ hD.hb, hD.hO _ hD.hb⟩
    hm := fun e he => ⟨h3 _ (hD.hm e he), hD.hO _ (hD.hm e he)⟩
    hO := fun j hj => hj.2 }⟩
theorem copy_start {own : Bool} {w0 wr : World} {O O' : Nat → Prop} {d0 b R d : Nat} {m : Ents} {F : Nat → FileM} {V : Nat → Value} {fs : Fs} (h0 : IsD' own w0 O d0 b m F V fs) (hD : IsD true wr O' d []) (h1 : ∀ j, O' j → w0.heap.size ≤ j) (hR : ¬ O' R) (hrg : wr.ranges Try.prog 3 rdP b R m.length (dm m) (Maps.has (dm m)) (Maps.size (dm m))) (hb : Below w0.heap.size w0 wr) :
    CopyRel w0 m b R d fs wr (Maps.has (dm m)) (Maps.size (dm m)) := by
  refine ⟨hrg, ⟨O', [], hD, h1, hR, fun k => ?_, by rw [dm_size]; exact Nat.le_of_eq (Nat.zero_add _)⟩, hb⟩
  rw [dm_has, fs_get h0.abs k]
  cases m.get k <;> rfl
end Go.Proofs.Ytajkjbhijikggaa.Tele
