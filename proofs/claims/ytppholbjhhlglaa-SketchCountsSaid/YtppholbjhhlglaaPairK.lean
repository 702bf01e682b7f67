/- A sketch and the reference's beside it. No conditions. -/
import Derived.Test.YtppholbjhhlglaaPRef7
import Derived.Test.YtppholbjhhlglaaSk3
import Derived.Test.YtppholbjhhlglaaSkTot
namespace Go.Proofs.Ytppholbjhhlglaa.Tele
open Go.RowKit Go.Proofs.YtppholbjhhlglaaW.PrintWords Go.Proofs.YtppholbjhhlglaaW.PrintLast Go.Proofs.YtppholbjhhlglaaW.PrintMore Go.Proofs.Ytppholbjhhlglaa.PSketchCounts
set_option linter.unusedVariables false
set_option linter.unusedSimpArgs false

abbrev RV (w : World) (B : Nat) (P : Nat → Prop) (v : Value) (t : Sk) : Prop := Kd.R (Kd.slice 22 (Kd.int .u64)) 32 w B P v t.grid
/-- The sketch p (its cells: c) is s; v is the reference's t, apart from it; G: variables of the law's own. -/
def PairK (w0 w : World) (p c : Nat) (G : Nat → Prop) (v : Value) (s t : Sk) : Prop :=
  ∃ P, w0.heap.size ≤ p ∧ w0.heap.size ≤ c ∧ IsSk w p c s ∧ Below w0.heap.size w0 w ∧ RV w w0.heap.size P v t ∧ t.Ok ∧ (∀ q, P q → q ≠ p ∧ q ≠ c ∧ ¬ G q) ∧ ∀ q, G q → q ≠ p ∧ q ≠ c ∧ w0.heap.size ≤ q ∧ q < w.heap.size
/-- The variables are as they were. -/
def KeepG (G : Nat → Prop) (w w' : World) : Prop := ∀ q, G q → w'.heap[q]? = w.heap[q]?
theorem Blk.kept {w w' : World} {g : Nat} {t : TypeId} {cs : Array Value} {G : Nat → Prop} (h : Blk w g t cs) (k : KeepG G w w') (hg : G g) : Blk w' g t cs := (k g hg).trans h
/-- The reference's variable, as a value. -/
abbrev rv (v : Value) (t : Sk) : Value := .agg #[v, .int .i64 (t.W : Int), uv t.seed, nv t.total]
section
variable {w0 w w' : World} {p c : Nat} {G : Nat → Prop} {v : Value} {s t : Sk}
theorem PairK.below (h : PairK w0 w p c G v s t) : Below w0.heap.size w0 w := by
  obtain ⟨P, h1, h2, h3, h4, _⟩ := h
  exact h4
theorem PairK.slice (h : PairK w0 w p c G v s t) : ∃ a k, v = .slice a t.rows k := by
  obtain ⟨P, h1, h2, h3, h4, h5, _⟩ := h
  obtain ⟨a, k, e⟩ := Kd.R_slice h5
  exact ⟨a, k, by rw [e, grid_len]⟩
theorem PairK.next (h : PairK w0 w p c G v s t) (k : Below w.heap.size w w') : PairK w0 w' p c G v s t ∧ KeepG G w w' := by
  obtain ⟨P, h1, h2, h3, h4, h5, hO, h6, h7⟩ := h
  exact ⟨⟨P, h1, h2, h3.next k, bnext h4 k, Kd.R_below h5 k, hO, h6, fun q hq => ⟨(h7 q hq).1, (h7 q hq).2.1, (h7 q hq).2.2.1, Nat.lt_of_lt_of_le (h7 q hq).2.2.2 k.size⟩⟩, fun q hq => k.block q (h7 q hq).2.2.2⟩
/-- A variable more. -/
theorem PairK.alloc (h : PairK w0 w p c G v s t) (o : Obj) : PairK w0 (w.alloc o) p c (fun q => G q ∨ q = w.heap.size) v s t := by
  have k := bl_alloc (Below.refl w.heap.size w) o
  obtain ⟨P, h1, h2, h3, h4, h5, hO, h6, h7⟩ := h
  have hp := h3.st.lt
  have hc := h3.cl.lt
  refine ⟨fun q => P q ∧ q < w.heap.size, h1, h2, h3.next k, bnext h4 k, Kd.R_mono (Kd.R_below (Kd.R_bound h5) k) (fun q hq => ⟨hq.1, hq.2.2.1⟩), hO, fun q hq => ⟨(h6 q hq.1).1, (h6 q hq.1).2.1, fun hg => hg.elim (h6 q hq.1).2.2 fun e => by have := hq.2; omega⟩, fun q hq => ?_⟩
  rw [World.size_alloc]
  rcases hq with hq | rfl
  · exact ⟨(h7 q hq).1, (h7 q hq).2.1, (h7 q hq).2.2.1, Nat.lt_succ_of_lt (h7 q hq).2.2.2⟩
  · exact ⟨by omega, by omega, h4.size, Nat.lt_succ_self _⟩
/-- A variable is written. -/
theorem PairK.set (h : PairK w0 w p c G v s t) {g : Nat} (hg : G g) (i : Nat) (u : Value) : PairK w0 (w.setCell ⟨g, i, none⟩ u) p c G v s t := by
  obtain ⟨P, h1, h2, h3, h4, h5, hO, h6, h7⟩ := h
  have hc : Chg (fun j => j = g) w (w.setCell ⟨g, i, none⟩ u) := Chg.setCell (S := fun j => j = g) (p := ⟨g, i, none⟩) (Chg.refl _ _) (.inl rfl) _
  exact ⟨P, h1, h2, h3.chg hc (fun e => (h7 g hg).1 e.symm) (fun e => (h7 g hg).2.1 e.symm), bchg h4 hc fun j e => by rw [e]; exact (h7 g hg).2.2.1, Kd.R_far (p := ⟨g, i, none⟩) h5 (fun q hq e => (h6 q hq).2.2 (by rw [e]; exact hg)) u, hO, h6, fun q hq => by rw [World.size_setCell]; exact h7 q hq⟩
theorem PairK.fewer {G' : Nat → Prop} (h : PairK w0 w p c G v s t) (hG : ∀ q, G' q → G q) : PairK w0 w p c G' v s t := by
  obtain ⟨P, h1, h2, h3, h4, h5, hO, h6, h7⟩ := h
  exact ⟨P, h1, h2, h3, h4, h5, hO, fun q hq => ⟨(h6 q hq).1, (h6 q hq).2.1, fun hg => (h6 q hq).2.2 (hG q hg)⟩, fun q hq => h7 q (hG q hq)⟩
theorem PairK.set4 (h : PairK w0 w p c G v s t) {g : Nat} (hg : G g) (x0 x1 x2 x3 : Value) : PairK w0 ((((w.setCell ⟨g, 0, none⟩ x0).setCell ⟨g, 1, none⟩ x1).setCell ⟨g, 2, none⟩ x2).setCell ⟨g, 3, none⟩ x3) p c G v s t :=
  (((h.set hg 0 x0).set hg 1 x1).set hg 2 x2).set hg 3 x3
theorem reads_of_R {a : Option Addr} {n k : Nat} {B : Nat} {P : Nat → Prop} (h : RV w B P (.slice a n k) t) : n = t.grid.length ∧ n ≤ k ∧ Kd.C (Kd.slice 22 (Kd.int .u64)) w a t.grid.length t.grid := Kd.R_reads' h
theorem kadd (key : ByteArray) (n : Nat) (h : PairK w0 w p c G v s t) (hs : key.size ≤ 140737488351232) (hn : n ≤ 18446744073709551615) :
    Calls Try.prog 13 #[.pointer (some ⟨p, 0, none⟩), .string key, nv n] w fun e w' => e = .returned (.tuple #[]) ∧ PairK w0 w' p c G v (s.add key.data.toList n) t ∧ KeepG G w w' := by
  obtain ⟨P, h1, h2, h3, h4, h5, hO, h6, h7⟩ := h
  refine (add_calls p c s key n w h3 hs hn).mono ?_
  rintro e w' ⟨rfl, hc, hS⟩
  refine ⟨rfl, ⟨fun q => P q ∧ q < w.heap.size, h1, h2, hS, bchg h4 hc fun j hj => ?_, ?_, hO, fun q hq => h6 q hq.1, fun q hq => ⟨(h7 q hq).1, (h7 q hq).2.1, (h7 q hq).2.2.1, Nat.lt_of_lt_of_le (h7 q hq).2.2.2 hc.size⟩⟩, fun q hq => hc.block q (h7 q hq).2.2.2 fun hh => ?_⟩
  · rcases hj with rfl | rfl <;> assumption
  · exact Kd.R_mono (Kd.R_step (Kd.R_bound h5) (fun q hq hlt => hc.block q hlt fun hh => by
      rcases hh with rfl | rfl
      · exact (h6 _ hq.1).1 rfl
      · exact (h6 _ hq.1).2.1 rfl)) (fun q hq => ⟨hq.1, hq.2.2.1⟩)
  · rcases hh with rfl | rfl
    · exact (h7 _ hq).1 rfl
    · exact (h7 _ hq).2.1 rfl
theorem kcount (key : ByteArray) (h : PairK w0 w p c G v s t) (hs : key.size ≤ 140737488351232) :
    Calls Try.prog 11 #[.pointer (some ⟨p, 0, none⟩), .string key] w fun e w' => e = .returned (nv (s.count key.data.toList)) ∧ Below w.heap.size w w' := by
  obtain ⟨P, h1, h2, h3, _⟩ := h
  exact count_calls p c s key w h3 hs
theorem ktotal (h : PairK w0 w p c G v s t) : Calls Try.prog 12 #[.pointer (some ⟨p, 0, none⟩)] w fun e w' => e = .returned (nv s.total) ∧ w' = w := by
  obtain ⟨P, h1, h2, h3, _⟩ := h
  exact total_calls p c s w h3
theorem rcount (key : ByteArray) (h : PairK w0 w p c G v s t) (hs : key.size ≤ 140737488351232) :
    Calls Try.prog 19 #[rv v t, .string key] w fun e w' => e = .returned (nv (t.count key.data.toList)) ∧ Below w.heap.size w w' := by
  obtain ⟨P, h1, h2, h3, h4, h5, hO, _⟩ := h
  obtain ⟨a, k, rfl⟩ := Kd.R_slice h5
  obtain ⟨e1, e2, hC⟩ := reads_of_R h5
  exact telemeterref07_Count.calls (key.size + 11) a k t.grid _ _ _ key _ w hC e2 (count_f t hO _ key hs _ (by omega))
theorem radd (key : ByteArray) (n : Nat) (h : PairK w0 w p c G v s t) (hs : key.size ≤ 140737488351232) (hn : n ≤ 18446744073709551615) :
    Calls Try.prog 18 #[rv v t, .string key, nv n] w fun e w' => ∃ v', e = .returned (rv v' (t.add key.data.toList n)) ∧ PairK w0 w' p c G v' s (t.add key.data.toList n) ∧ KeepG G w w' := by
  obtain ⟨P, h1, h2, h3, h4, h5, hO, h6, h7⟩ := h
  obtain ⟨a, k, rfl⟩ := Kd.R_slice h5
  obtain ⟨e1, e2, hC⟩ := reads_of_R h5
  refine (telemeterref07_Add.calls (key.size + 21) a k t.grid _ _ _ key n _ _ _ _ w hC e2 (add_f t hO key n hs hn _ (by omega))).mono ?_
  rintro e w' ⟨v', rfl, hR, hb⟩
  have hp := h3.st.lt
  have hc := h3.cl.lt
  exact ⟨v', rfl, ⟨fun q => w.heap.size ≤ q, h1, h2, h3.next hb, bnext h4 hb, Kd.R_mono (Kd.R_lower (Kd.R_bound (Kd.S_R hR)) h4.size) (fun q hq => hq.2.1), Sk.add_ok t hO _ _, fun q hq => ⟨by omega, by omega, fun hg => by have := (h7 q hg).2.2.2; omega⟩, fun q hq => ⟨(h7 q hq).1, (h7 q hq).2.1, (h7 q hq).2.2.1, Nat.lt_of_lt_of_le (h7 q hq).2.2.2 hb.size⟩⟩, fun q hq => hb.block q (h7 q hq).2.2.2⟩
end
theorem rnew (rows W : Nat) (seed : U) (w : World) (h1 : 1 ≤ rows) (hr : rows ≤ 8) (h2 : 1 ≤ W) (hW : W ≤ 1024) :
    Calls Try.prog 16 #[.int .i64 (rows : Int), .int .i64 (W : Int), uv seed] w fun e w' => ∃ v, e = .returned (.tuple #[rv v (Sk.new rows W seed), .bool true]) ∧ RV w' w.heap.size (fun q => w.heap.size ≤ q) v (Sk.new rows W seed) ∧ Below w.heap.size w w' := by
  refine (telemeterref07_New.calls 11 rows W seed.toNat _ _ _ _ _ w (new_f rows W seed h1 hr h2 hW 11 (by omega))).mono ?_
  rintro e w' ⟨v, rfl, hR, hb⟩
  exact ⟨v, rfl, Kd.R_mono (Kd.R_bound (Kd.S_R hR)) (fun q hq => hq.2.1), hb⟩
theorem pair_start {w0 w1 w2 : World} {rows W : Nat} {seed : U} {p c : Nat} {v : Value} (hb : Below w0.heap.size w0 w1) (hp : w0.heap.size ≤ p) (hc : w0.heap.size ≤ c) (hs : IsSk w1 p c (Sk.new rows W seed)) (hR : RV w2 w1.heap.size (fun q => w1.heap.size ≤ q) v (Sk.new rows W seed)) (hb2 : Below w1.heap.size w1 w2) :
    PairK w0 w2 p c (fun _ => False) v (Sk.new rows W seed) (Sk.new rows W seed) := by
  have h1 := hs.st.lt
  have h2 := hs.cl.lt
  exact ⟨_, hp, hc, hs.next hb2, bnext hb hb2, Kd.R_lower hR hb.size, hs.ok, fun q hq => ⟨by omega, by omega, fun h => h⟩, fun q hq => hq.elim⟩
theorem none_no (rows W : Int) (w : World) (h : rows < 1 ∨ 8 < rows ∨ W < 1 ∨ 1024 < W) : Calls Try.prog 15 #[.int .i64 rows, .int .i64 W] w fun e w' => e = .returned (.bool true) ∧ Below w.heap.size w w' :=
  telemeterlaw07_none.calls 1 rows W true w (by unfold telemeterlaw07_none.f; rw [new_f_no rows W 0 h 1 (by omega)]; rfl)
theorem none_yes (rows W : Nat) (w : World) (h1 : 1 ≤ rows) (hr : rows ≤ 8) (h2 : 1 ≤ W) (hW : W ≤ 1024) : Calls Try.prog 15 #[.int .i64 (rows : Int), .int .i64 (W : Int)] w fun e w' => e = .returned (.bool false) ∧ Below w.heap.size w w' :=
  telemeterlaw07_none.calls 11 rows W false w (by
    have h := new_f rows W 0#64 h1 hr h2 hW 11 (by omega)
    unfold telemeterlaw07_none.f
    rw [show ((0 : Int)) = ((0#64 : U).toNat : Int) from rfl, h]
    rfl)
/-- The number of a choice. -/
def bigN (a n : Nat) : Nat := if 230 < a then n else a % 10
theorem big_calls (a n : Nat) (w : World) (ha : a ≤ 255) (hn : n ≤ 18446744073709551615) : Calls Try.prog 17 #[.int .u8 (a : Int), nv n] w fun e w' => e = .returned (nv (bigN a n)) ∧ Below w.heap.size w w' := by
  have hf : telemeterlaw07_big.f (a : Int) (n : Int) = some ((bigN a n : Nat) : Int) := by
    unfold telemeterlaw07_big.f bigN
    by_cases h : 230 < a
    · rw [if_pos (by omega), if_pos h]
    · have e : Int.tmod (a : Int) 10 = ((a % 10 : Nat) : Int) := by rw [Int.tmod_eq_emod_of_nonneg (by omega)]; omega
      rw [if_neg (by omega), if_neg h, e, show IntKind.u64.wrap ((a % 10 : Nat) : Int) = ((a % 10 : Nat) : Int) by rw [IntKind.wrap_u64]; omega]
  refine (telemeterlaw07_big.calls _ _ _ w hf).mono ?_
  rintro e w' ⟨rfl, hd⟩
  exact ⟨rfl, hd.below⟩
theorem bigN_le (a n : Nat) (hn : n ≤ 18446744073709551615) : bigN a n ≤ 18446744073709551615 := by unfold bigN; split <;> omega
end Go.Proofs.Ytppholbjhhlglaa.Tele
