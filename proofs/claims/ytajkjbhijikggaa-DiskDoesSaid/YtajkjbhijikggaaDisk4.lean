/- The walk of a disk's Write. No conditions. -/
import Derived.Test.YtajkjbhijikggaaDisk3
import Derived.ArgAppend
namespace Go.Proofs.Ytajkjbhijikggaa.Tele
open Go.RowKit
set_option linter.unusedVariables false
set_option linter.unusedSimpArgs false

/-- What an append leaves, as some run tells it. -/
theorem wpList_append_ex {P : Program} (w : World) {ops : Array Oper} {rest : List Oper} {o : Oper} {a : Act} {Q : Exit → Act → World → Prop} (hgd : o.guard = none) (s x : Operand) (t : TypeId)
    (ho : o.op = .call { callee := .builtin .append, args := #[s, x], argTypes := #[t, t] }) (v xv : Value) (hs : a.eval s = v) (hx : a.eval x = xv) (R : Value → World → Prop)
    (hr : ∃ v' w', (Builtin.append_ #[t, t] o.type #[v, xv]).run P w = .ok v' w' ∧ R v' w') (h : ∀ v' w', R v' w' → wpList P ops Q rest (a.put o.dst v') w') : wpList P ops Q (o :: rest) a w := by
  refine wpList_plain hgd fun K hK => ?_
  obtain ⟨v', w', hr1, hr2⟩ := hr
  unfold Oper.wp execOp
  simp only [ho, resolve, invoke, builtin, Sem.run_bind, Sem.run_pure, Result.andThen_ok, List.map_toArray, List.map_cons, List.map_nil, hs, hx, hr1]
  exact hK _ _ (h v' w' hr2)
theorem own_cap {w : World} {base : Nat} {e : TypeId} {size : Nat} {a : Option Addr} {l c n : Nat} {xs : List Value} (h : w.ownsRow base e size (.slice a l c) n xs) : l = n ∧ n ≤ c := by
  rcases h.2 with ⟨e1, e2⟩ | ⟨g, cap, cur, e1, _, _, h1, _⟩
  · injection e1
    omega
  · injection e1
    omega
theorem rowOf_full {w : World} {a : Option Addr} {n c : Nat} {bs : List UInt8} (h : RowOf e8 0 w a n c bs) : RowOf e8 0 w a n n bs := ⟨h.1, Nat.le_refl _, by have := h.2.1; have := h.2.2.1; omega, h.2.2.2⟩
/-- Bytes laid behind bytes. -/
theorem append_lay (w : World) (v : Value) (bs ns : List UInt8) (xa : Option Addr) (c : Nat) (ty : TypeId) (hv : Row true w v bs) (hn : RowOf e8 0 w xa ns.length ns.length ns) (hsz : bs.length + ns.length ≤ 1000000) :
    ∃ v' w', (Builtin.append_ #[22, 22] ty #[v, .slice xa ns.length c]).run Try.prog w = .ok v' w' ∧ Row true w' v' (bs ++ ns) ∧ w.grownBy w' v.ownBlock ∧ (v'.ownBlock = v.ownBlock ∨ ∃ j, v'.ownBlock = some j ∧ w.heap.size ≤ j ∧ j < w'.heap.size) := by
  obtain ⟨i0, hi, hz0, hz1, hz2⟩ := info_parts infoByte
  have ht := Try.underlying22
  obtain ⟨⟨a, cap, rfl, hr⟩, hl⟩ := hv
  by_cases h0 : ns.length = 0
  · obtain rfl : ns = [] := List.length_eq_zero_iff.1 h0
    refine ⟨.slice a bs.length cap, w, ?_, ⟨⟨a, cap, by rw [List.append_nil], ?_⟩, fun ho => ?_⟩, ⟨rfl, rfl, rfl, Nat.le_refl _, fun _ _ _ => rfl⟩, .inl rfl⟩
    · have hnc := hr.2.1
      cases xa <;> cases a <;> simp [Builtin.append_, run_underlying ht, sizeOf, typeInfo, hi, Builtin.lenOf, Builtin.firstCells, hnc, storeCells, loadCells, loadCellsFrom]
    · rw [List.append_nil]
      exact hr
    · rw [List.append_nil]
      exact hl ho
  · obtain ⟨ad, rfl, _, _⟩ := hn.2.2.2 (by omega)
    have hnews := news_of hn
    have h1 := e8_one ns
    have hlen : (ns.map e8).length = ns.length * 1 := by simp
    rcases hl rfl with hown | ⟨ad0, hv0⟩
    · obtain ⟨v', w', hrun, p1, p2, p3, p4⟩ := run_append_own_at (P := Try.prog) w 0 22 ty 5 i0 _ 1 1 ht hi hz0 hz1 hz2 rfl (by decide) _ bs.length (bs.map e8) hown ad ns.length c (ns.map e8) hlen hnews h1 (by show _ ≤ 2 ^ 63 - 1; omega) (by omega) (Nat.zero_le _)
      have p1' : w'.ownsRow 0 5 1 v' (bs ++ ns).length ((bs ++ ns).map e8) := by
        rw [List.length_append, List.map_append]
        exact p1
      refine ⟨v', w', hrun, ⟨bytes_of p1', fun _ => .inl p1'⟩, p2, p4.elim .inl fun e => .inr ⟨_, e, Nat.le_refl _, (own_at p1 _ e).2⟩⟩
    · injection hv0 with e1 e2 e3
      subst e1
      subst e3
      obtain ⟨v', w', hrun, p1, p2⟩ := run_append_arg_grows (P := Try.prog) w 22 ty 5 i0 _ 1 1 ht hi hz0 hz1 hz2 rfl (by decide) ad0 bs.length bs.length (bs.map e8) (by simp) (news_of hr) ad ns.length c (ns.map e8) hlen hnews (by omega) (by show _ ≤ 2 ^ 63 - 1; omega) (by omega)
      have p1' : w'.ownsRow w.heap.size 5 1 v' (bs ++ ns).length ((bs ++ ns).map e8) := by
        rw [List.length_append, List.map_append]
        exact p1
      refine ⟨v', w', hrun, ⟨bytes_of p1', fun _ => .inl (own_base p1' (Nat.zero_le _))⟩, ⟨p2.os, p2.tape, p2.output, p2.size, fun k hk _ => p2.block k hk (by simp)⟩, ?_⟩
      cases hb : v'.ownBlock with
      | none =>
        exfalso
        rcases p1.2 with ⟨_, e⟩ | ⟨g, _, _, e, _⟩
        · omega
        · rw [e] at hb
          simp [Value.ownBlock] at hb
      | some j => exact .inr ⟨j, rfl, own_at p1 j hb⟩
theorem insP_perm (x : Int × Nat) : ∀ m : Ents, (m.insP x).Perm (x :: m)
  | [] => List.Perm.refl _
  | y :: r => by
    unfold Ents.insP
    split
    · exact List.Perm.refl _
    · exact ((insP_perm x r).cons y).trans (List.Perm.swap x y r)
theorem insP_sorted (x : Int × Nat) : ∀ m : Ents, (m.Pairwise fun p q => p.1 < q.1) → (∀ e ∈ m, e.1 ≠ x.1) → (m.insP x).Pairwise fun p q => p.1 < q.1
  | [], _, _ => List.pairwise_singleton _ _
  | y :: r, h, hn => by
    obtain ⟨h1, h2⟩ := List.pairwise_cons.1 h
    unfold Ents.insP
    split
    · rename_i hlt
      refine List.pairwise_cons.2 ⟨fun z hz => ?_, h⟩
      rcases List.mem_cons.1 hz with rfl | hz
      · exact hlt
      · exact Int.lt_trans hlt (h1 z hz)
    · rename_i hlt
      refine List.pairwise_cons.2 ⟨fun z hz => ?_, insP_sorted x r h2 fun e he => hn e (List.mem_cons_of_mem _ he)⟩
      rcases List.mem_cons.1 ((insP_perm x r).mem_iff.1 hz) with rfl | hz
      · have := hn y (List.mem_cons_self)
        omega
      · exact h1 z hz
theorem insP_map (x : Int × Nat) (f : Int × Nat → Int × FileM) (hf : ∀ e, (f e).1 = e.1) : ∀ m : Ents, (m.insP x).map f = Fs.ins (f x) (m.map f)
  | [] => rfl
  | y :: r => by
    unfold Ents.insP
    simp only [List.map_cons, Fs.ins, hf]
    split
    · rfl
    · rw [List.map_cons, insP_map x f hf r]
theorem del_none {m : Ents} {k : Int} (h : m.get k = none) : m.del k = m := by
  unfold Ents.del
  rw [List.filter_eq_self]
  intro e he
  have := get_none h e he
  simpa using this
theorem turn_no (k : Int) (f : FileM) : ∀ l : Fs, (∀ p ∈ l, p.1 ≠ k) → l.turn k f = l
  | [], _ => rfl
  | y :: r, h => by
    show (if y.1 == k then (k, f) else y) :: Fs.turn r k f = _
    rw [if_neg (by simpa using h y List.mem_cons_self), turn_no k f r fun p hp => h p (List.mem_cons_of_mem _ hp)]
theorem ins_turn (k : Int) (f0 f : FileM) : ∀ l : Fs, (∀ p ∈ l, p.1 ≠ k) → Fs.turn (Fs.ins (k, f0) l) k f = Fs.ins (k, f) l
  | [], _ => by simp [Fs.ins, Fs.turn]
  | y :: r, h => by
    have h1 := h y List.mem_cons_self
    have h2 := fun p hp => h p (List.mem_cons_of_mem y hp)
    unfold Fs.ins
    simp only
    split
    · show (if k == k then (k, f) else (k, f0)) :: (Fs.turn (y :: r) k f) = _
      rw [turn_no k f (y :: r) h]
      simp
    · show (if y.1 == k then (k, f) else y) :: Fs.turn (Fs.ins (k, f0) r) k f = _
      rw [if_neg (by simpa using h1), ins_turn k f0 f r h2]
/-- A file laid in. -/
theorem IsD'.insert {w w2 : World} {O : Nat → Prop} {d b : Nat} {m : Ents} {F : Nat → FileM} {V : Nat → Value} {fs : Fs} {k : Int} (h : IsD' true w O d b m F V fs) (hg : m.get k = none) (hk0 : 0 ≤ k) (hk1 : k ≤ 1099511627776) (hl : m.length < 100000)
    (hm : IsMap w2 b (m.put k w.heap.size)) (hc : Chg (fun j => j = b) (w.alloc (.cells #[.slice none 0 0, .int .i64 0] 65)) w2) (hs : w2.heap.size = w.heap.size + 1) :
    IsD' true w2 (Plus O w w2) d b (m.put k w.heap.size) (updF F w.heap.size ⟨[], 0⟩) (updV V w.heap.size (.slice none 0 0)) (fs.ins (k, ⟨[], 0⟩)) ∧ Chg O w w2 ∧ (m.put k w.heap.size).get k = some w.heap.size := by
  have hA := bl_alloc (Below.refl w.heap.size w) (.cells #[.slice none 0 0, .int .i64 0] 65)
  have hnew := Blk.new w 65 #[.slice none 0 0, .int .i64 0]
  have hmap := h.mp.next hA
  have hlt : ∀ e ∈ m, e.2 ≠ w.heap.size := fun e he => by have := h.hO _ (h.hm e he); omega
  have hput : m.put k w.heap.size = m.insP (k, w.heap.size) := by unfold Ents.put; rw [del_none hg]
  rw [hput] at hm ⊢
  have hperm := insP_perm (k, w.heap.size) m
  have hmem : ∀ e ∈ m.insP (k, w.heap.size), e = (k, w.heap.size) ∨ e ∈ m := fun e he => List.mem_cons.1 (hperm.mem_iff.1 he)
  have hsort := insP_sorted (k, w.heap.size) m h.sorted (get_none hg)
  refine ⟨⟨?_, hm, hsort, ?_, ?_, ?_, ?_, ?_, ?_, ?_, ?_, .inl h.hd, .inl h.hb, ?_, ?_⟩, ?_, get_of hsort (hperm.mem_iff.2 List.mem_cons_self)⟩
  · exact (h.st.next hA).chg hc (map_ne hmap (h.st.next hA))
  · rw [(hperm.map _).nodup_iff, List.map_cons, List.nodup_cons]
    refine ⟨fun hh => ?_, h.nd⟩
    obtain ⟨e, he, e2⟩ := List.mem_map.1 hh
    exact hlt e he e2
  · intro e he
    rcases hmem e he with rfl | he
    · exact ⟨hk0, hk1⟩
    · exact h.keys e he
  · rw [hperm.length_eq, List.length_cons]
    omega
  · intro e he
    rcases hmem e he with rfl | he
    · rw [updF_same, updV_same]
      exact hnew.chg hc (map_ne hmap hnew)
    · rw [updF_other _ _ _ (hlt e he), updV_other _ _ _ (hlt e he)]
      have := (h.fl e he).next hA
      exact this.chg hc (map_ne hmap this)
  · intro e he
    rcases hmem e he with rfl | he
    · rw [updF_same, updV_same]
      exact ⟨⟨none, 0, rfl, ⟨rfl, Nat.le_refl _, by omega, fun hp => absurd hp (by decide)⟩⟩, fun _ => .inl ⟨rfl, .inl ⟨rfl, rfl⟩⟩⟩
    · rw [updF_other _ _ _ (hlt e he), updV_other _ _ _ (hlt e he)]
      refine (h.row e he).far (by omega) (fun j hj => ?_)
      obtain ⟨a1, a2, a3, a4⟩ := h.apart e he j hj
      exact (hc.block j (Nat.lt_of_lt_of_le (h.hO j a1) hA.size) a3).trans (hA.block j (h.hO j a1))
  · intro e he j hj
    rcases hmem e he with rfl | he
    · rw [updV_same] at hj
      simp [Value.ownBlock] at hj
    · rw [updV_other _ _ _ (hlt e he)] at hj
      obtain ⟨a1, a2, a3, a4⟩ := h.apart e he j hj
      refine ⟨.inl a1, a2, a3, fun e' he' => ?_⟩
      rcases hmem e' he' with rfl | he'
      · have := h.hO j a1
        refine ⟨by omega, fun _ hh => ?_⟩
        rw [updV_same] at hh
        simp [Value.ownBlock] at hh
      · rw [updV_other _ _ _ (hlt e' he')]
        exact a4 e' he'
  · rw [insP_map _ _ (fun _ => rfl), h.abs]
    rw [updF_same]
    congr 1
    refine List.map_congr_left fun e he => ?_
    rw [updF_other _ _ _ (hlt e he)]
  · intro e he
    rcases hmem e he with rfl | he
    · rw [updF_same]
      exact ⟨Nat.le_refl _, by show 0 ≤ _; omega⟩
    · rw [updF_other _ _ _ (hlt e he)]
      exact h.small e he
  · intro e he
    rcases hmem e he with rfl | he
    · exact .inr ⟨Nat.le_refl _, by omega⟩
    · exact .inl (h.hm e he)
  · intro j hj
    rcases hj with hj | hj
    · have := h.hO j hj
      omega
    · exact hj.2
  · exact (Chg.of_below O hA).then (hc.mono fun j _ hj => by rw [hj]; exact h.hb)
theorem Blk.grown {w w' : World} {g : Nat} {t : TypeId} {cs : Array Value} {row : Option Nat} (h : Blk w g t cs) (k : w.grownBy w' row) (hr : some g ≠ row) : Blk w' g t cs := (k.block g h.lt hr).trans h
theorem own_slice {w : World} {base : Nat} {e : TypeId} {size : Nat} {v : Value} {n : Nat} {xs : List Value} (h : w.ownsRow base e size v n xs) : ∃ a l c, v = .slice a l c := by
  rcases h.2 with ⟨rfl, _⟩ | ⟨g, cap, cur, rfl, _⟩
  · exact ⟨_, _, _, rfl⟩
  · exact ⟨_, _, _, rfl⟩
/-- What is known when bytes have been laid behind a file's. -/
theorem write_tail {w w1 : World} {O : Nat → Prop} {d b : Nat} {m : Ents} {F : Nat → FileM} {V : Nat → Value} {fs : Fs} {k : Int} {g : Nat} {v1 : Value} {bs : List UInt8} (h : IsD' true w O d b m F V fs) (hg : m.get k = some g)
    (hrow1 : Row true w1 v1 ((F g).bytes ++ bs)) (hgrow : w.grownBy w1 (V g).ownBlock) (hat : v1.ownBlock = (V g).ownBlock ∨ ∃ j, v1.ownBlock = some j ∧ w.heap.size ≤ j ∧ j < w1.heap.size) (hsz : (F g).bytes.length + bs.length ≤ 1000000) :
    IsD true (w1.setCell ⟨g, 0, none⟩ v1) (Plus O w (w1.setCell ⟨g, 0, none⟩ v1)) d (fs.turn k ⟨(F g).bytes ++ bs, (F g).sure⟩) ∧ Chg O w (w1.setCell ⟨g, 0, none⟩ v1) := by
  have hgm := get_mem hg
  have hblk := h.fl _ hgm
  have hne : some g ≠ (V g).ownBlock := fun hh => ((h.apart _ hgm g hh.symm).2.2.2 _ hgm).1 rfl
  have hb1 := Blk.grown hblk hgrow hne
  have hglt := h.hO g (h.hm _ hgm)
  have hc : Chg (fun j => j = g ∨ (V g).ownBlock = some j) w (w1.setCell ⟨g, 0, none⟩ v1) := Chg.setCell (p := ⟨g, 0, none⟩) (⟨hgrow.os, hgrow.tape, hgrow.output, hgrow.size, fun j hj hs => hgrow.block j hj (fun hh => hs (.inr hh.symm))⟩) (.inl (.inl rfl)) _
  have hv1g : ∀ j, v1.ownBlock = some j → j ≠ g := fun j hj => by
    rcases hat with e | e
    · rw [e] at hj
      exact ((h.apart _ hgm j hj).2.2.2 _ hgm).1
    · obtain ⟨j', e, e1, e2⟩ := e
      rw [e] at hj
      injection hj
      omega
  refine h.turn (own' := true) (f' := ⟨(F g).bytes ++ bs, (F g).sure⟩) hg hc (hb1.set_ 0 v1) (hrow1.far (by rw [World.size_setCell]; exact Nat.le_refl _) (fun j hj => Below.heap_setCell _ _ _ _ (hv1g j hj))) (fun x => x) (fun j hj => ?_) ⟨?_, ?_⟩
  · rcases hat with e | e
    · exact .inl (by rw [← e]; exact hj)
    · obtain ⟨j', e, e1, e2⟩ := e
      rw [e] at hj
      injection hj with hj
      refine .inr ⟨by omega, ?_⟩
      rw [World.size_setCell]
      omega
  · show (F g).sure ≤ ((F g).bytes ++ bs).length
    have := (h.small _ hgm).1
    simp only at this
    rw [List.length_append]
    omega
  · show ((F g).bytes ++ bs).length ≤ 1000000
    rw [List.length_append]
    exact hsz
set_option maxRecDepth 8000 in
set_option maxHeartbeats 1000000 in
theorem write_some (O : Nat → Prop) (d b : Nat) (m : Ents) (F : Nat → FileM) (V : Nat → Value) (fs : Fs) (k : Int) (g : Nat) (a : Option Addr) (cap : Nat) (bs : List UInt8) (w : World) (h : IsD' true w O d b m F V fs) (hk0 : 0 ≤ k) (hk1 : k ≤ 1099511627776)
    (hb : RowOf e8 0 w a bs.length cap bs) (hg : m.get k = some g) (hsz : (F g).bytes.length + bs.length ≤ 1000000) :
    Calls Try.prog 11 #[.pointer (some ⟨d, 0, none⟩), .int .i64 k, .slice a bs.length cap] w fun e w' => e = .returned (.int .u16 0) ∧ IsD true w' (Plus O w w') d (fs.turn k ⟨(F g).bytes ++ bs, (F g).sure⟩) ∧ Chg O w w' := by
  have hgm := get_mem hg
  have h0 : w.cell? ⟨d, 0, none⟩ = some (.map (some b)) := h.st.cell 0
  obtain ⟨v, hv, hvx⟩ := h.mp.look 59 62 Try.underlying59 (zeroPtr w) (wf_i64 (x := k) (by omega) (by omega))
  obtain rfl := hvx g hg
  rw [hg] at hv
  have hblk := h.fl _ hgm
  have g0 : w.cell? ⟨g, 0, none⟩ = some (V g) := hblk.cell 0
  have hne : some g ≠ (V g).ownBlock := fun hh => ((h.apart _ hgm g hh.symm).2.2.2 _ hgm).1 rfl
  have HNE := Lib.hid hne
  have HBLK := Lib.hid hblk
  have HT := Lib.hid fun v1 w1 (hr1 : Row true w1 v1 ((F g).bytes ++ bs)) hgrow hat => write_tail (v1 := v1) (w1 := w1) h hg hr1 hgrow hat hsz
  have HAP := Lib.hid fun ty => append_lay w (V g) (F g).bytes bs a cap ty (h.row _ hgm) (rowOf_full hb) hsz
  obtain ⟨a0, cap0, hv0, _⟩ := (h.row _ hgm).1
  simp only at hv0
  rw [hv0] at g0
  rw [hv0] at HAP HT HNE
  obtain ⟨n, hn⟩ : ∃ n, n = bs.length := ⟨_, rfl⟩
  obtain ⟨l, hl⟩ : ∃ l, l = (F g).bytes.length := ⟨_, rfl⟩
  rw [← hn] at HAP ⊢
  rw [← hl] at HAP g0 HNE HT
  clear hvx h hgm hg hblk hne hb hsz hv0 hn hl
  go_enter Try.func11, Try.ntmps11
  go_wp2_with (at_builtin; refine wpList_append_ex _ rfl _ _ 22 rfl _ _ rfl rfl _ (HAP.out _) ?_; rintro v1 w1 ⟨hrow1, hgrow1, hat1⟩; have HR1 := Lib.hid hrow1; obtain ⟨⟨a1, c1, rfl, _⟩, _⟩ := hrow1; have HAT := Lib.hid hat1; have hbw := Blk.grown HBLK.out hgrow1 HNE.out; have HGR := Lib.hid hgrow1; clear hat1 hgrow1; have c0 := hbw.cell 0; have z0 := hbw.frozen 0)
  go_ret
  have hfin := HT.out _ _ HR1.out HGR.out HAT.out
  simp only [List.length_append] at hfin
  exact ⟨rfl, hfin.1, hfin.2⟩
set_option maxRecDepth 8000 in
set_option maxHeartbeats 1000000 in
theorem write_none (O : Nat → Prop) (d b : Nat) (m : Ents) (F : Nat → FileM) (V : Nat → Value) (fs : Fs) (k : Int) (a : Option Addr) (cap : Nat) (bs : List UInt8) (w : World) (h : IsD' true w O d b m F V fs) (hk0 : 0 ≤ k) (hk1 : k ≤ 1099511627776)
    (hb : RowOf e8 0 w a bs.length cap bs) (hx : ∀ ad, a = some ad → 0 < bs.length → ¬ O ad.block) (hg : m.get k = none) (hl : m.length < 100000) (hsz : bs.length ≤ 1000000) :
    Calls Try.prog 11 #[.pointer (some ⟨d, 0, none⟩), .int .i64 k, .slice a bs.length cap] w fun e w' => e = .returned (.int .u16 0) ∧ ∃ O', IsD true w' O' d (fs.ins (k, ⟨bs, 0⟩)) ∧ (∀ j, O' j → O j ∨ w.heap.size ≤ j) ∧ Chg O w w' := by
  have h0 : w.cell? ⟨d, 0, none⟩ = some (.map (some b)) := h.st.cell 0
  have hwf := wf_i64 (x := k) (by omega) (by omega)
  obtain ⟨v, hv, hvx⟩ := h.mp.look 59 62 Try.underlying59 (zeroPtr w) hwf
  rw [hg] at hv
  have hA := bl_alloc (Below.refl w.heap.size w) (.cells #[.slice none 0 0, .int .i64 0] 65)
  obtain ⟨w2, hst, hm2, hc2, hs2⟩ := (h.mp.next hA).store (g := w.heap.size) 59 62 Try.underlying59 hwf (by omega)
  rw [World.size_alloc] at hs2
  obtain ⟨H2, hcw, hg2⟩ := h.insert hg hk0 hk1 hl hm2 hc2 hs2
  have hgm := get_mem hg2
  have hno : ∀ p ∈ fs, p.1 ≠ k := fun p hp => by
    rw [h.abs] at hp
    obtain ⟨e, he, rfl⟩ := List.mem_map.1 hp
    exact get_none hg e he
  have hb2 : RowOf e8 0 w2 a bs.length cap bs := hb.far fun ad had hp => by
    obtain ⟨ad', had', hlt, _⟩ := hb.2.2.2 hp
    have : ad' = ad := by rw [had] at had'; exact (Option.some.inj had').symm
    subst this
    exact ⟨hcw.size, hcw.block _ hlt (hx _ had hp)⟩
  have hh0 : w2.cell? ⟨d, 0, none⟩ = some (.map (some b)) := H2.st.cell 0
  have hh1 : (w.alloc (.cells #[.slice none 0 0, .int .i64 0] 65)).cell? ⟨d, 0, none⟩ = some (.map (some b)) := (h.st.next hA).cell 0
  have hblk := H2.fl _ hgm
  rw [show ((k, w.heap.size) : Int × Nat).2 = w.heap.size from rfl, updV_same, updF_same] at hblk
  have g0 : w2.cell? ⟨w.heap.size, 0, none⟩ = some (.slice none 0 0) := hblk.cell 0
  have hrow0 : Row true w2 (.slice none 0 0) [] := ⟨⟨none, 0, rfl, ⟨rfl, Nat.le_refl _, by omega, fun hp => absurd hp (by decide)⟩⟩, fun _ => .inl ⟨rfl, .inl ⟨rfl, rfl⟩⟩⟩
  have HBLK := Lib.hid hblk
  have HT : Hid (∀ v1 w1, Row true w1 v1 ([] ++ bs) → w2.grownBy w1 none → (v1.ownBlock = none ∨ ∃ j, v1.ownBlock = some j ∧ w2.heap.size ≤ j ∧ j < w1.heap.size) → ∃ O', IsD true (w1.setCell ⟨w.heap.size, 0, none⟩ v1) O' d (fs.ins (k, ⟨bs, 0⟩)) ∧ (∀ j, O' j → O j ∨ w.heap.size ≤ j) ∧ Chg O w (w1.setCell ⟨w.heap.size, 0, none⟩ v1)) := Lib.hid fun v1 w1 hr1 hgrow hat => by
    have hT := write_tail (v1 := v1) (w1 := w1) (bs := bs) H2 hg2 (by rw [updF_same]; exact hr1) (by rw [updV_same]; exact hgrow) (by rw [updV_same]; exact hat) (by rw [updF_same]; show 0 + bs.length ≤ _; omega)
    rw [updF_same, ins_turn k ⟨[], 0⟩ _ fs hno] at hT
    refine ⟨_, hT.1, fun j hj => ?_, hcw.trans hT.2 (fun j hj hh => by
      rcases hh with hh | hh
      · exact hh
      · omega)⟩
    have hsz2 := hcw.size
    rcases hj with (hj | hj) | hj
    · exact .inl hj
    · exact .inr hj.1
    · exact .inr (by omega)
  have HAP := Lib.hid fun ty => append_lay w2 (.slice none 0 0) [] bs a cap ty hrow0 (rowOf_full hb2) (by simpa using hsz)
  obtain ⟨n, hn⟩ : ∃ n, n = bs.length := ⟨_, rfl⟩
  rw [← hn] at HAP ⊢
  clear hvx h hgm hg hg2 hblk hrow0 hb hb2 hn hm2 hc2 hs2 H2 hcw hA hno hl hsz hwf hx
  go_enter Try.func11, Try.ntmps11
  go_wp2_with (at_builtin; refine wpList_append_ex _ rfl _ _ 22 rfl _ _ rfl rfl _ (HAP.out _) ?_; rintro v1 w1 ⟨hrow1, hgrow1, hat1⟩; have HR1 := Lib.hid hrow1; obtain ⟨⟨a1, c1, rfl, _⟩, _⟩ := hrow1; have HAT := Lib.hid hat1; have hbw := Blk.grown HBLK.out hgrow1 (by simp [Value.ownBlock]); have HGR := Lib.hid hgrow1; clear hat1 hgrow1; have c0 := hbw.cell 0; have z0 := hbw.frozen 0)
  go_ret
  exact ⟨rfl, HT.out _ _ HR1.out HGR.out HAT.out⟩
/-- Write, of a number that may be. -/
theorem write_calls (O : Nat → Prop) (d : Nat) (fs : Fs) (k : Int) (a : Option Addr) (cap : Nat) (bs : List UInt8) (w : World) (h : IsD true w O d fs) (hk0 : 0 ≤ k) (hk1 : k ≤ 1099511627776)
    (hb : RowOf e8 0 w a bs.length cap bs) (hx : ∀ ad, a = some ad → 0 < bs.length → ¬ O ad.block) (hl : fs.length < 100000) (hsz : (((fs.get k).map (·.bytes)).getD []).length + bs.length ≤ 1000000) :
    Calls Try.prog 11 #[.pointer (some ⟨d, 0, none⟩), .int .i64 k, .slice a bs.length cap] w fun e w' => e = .returned (.int .u16 0) ∧ ∃ O', IsD true w' O' d (fs.write k bs) ∧ (∀ j, O' j → O j ∨ w.heap.size ≤ j) ∧ Chg O w w' := by
  obtain ⟨b, m, F, V, h⟩ := h
  have hget := fs_get h.abs k
  have hlm : m.length = fs.length := by rw [h.abs, List.length_map]
  unfold Fs.write
  rw [hget] at hsz ⊢
  cases hg : m.get k with
  | none =>
    rw [hg] at hsz
    exact write_none O d b m F V fs k a cap bs w h hk0 hk1 hb hx hg (by omega) (by simpa using hsz)
  | some g =>
    rw [hg] at hsz
    refine (write_some O d b m F V fs k g a cap bs w h hk0 hk1 hb hg hsz).mono ?_
    rintro e w' ⟨rfl, h1, h2⟩
    exact ⟨rfl, _, h1, fun j hj => hj.elim .inl fun hj => .inr hj.1, h2⟩
end Go.Proofs.Ytajkjbhijikggaa.Tele
