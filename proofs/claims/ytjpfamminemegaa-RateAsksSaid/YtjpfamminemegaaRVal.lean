/- The reference's sketches as values. No conditions. -/
import Derived.Test.YtjpfamminemegaaPRef7
import Derived.Test.YtjpfamminemegaaBaseB
namespace Go.Proofs.Ytjpfamminemegaa.Tele
open Go.RowKit Go.Proofs.YtjpfamminemegaaW.PrintWords Go.Proofs.YtjpfamminemegaaW.PrintLast Go.Proofs.YtjpfamminemegaaW.PrintMore Go.Proofs.Ytjpfamminemegaa.PRateAsks
set_option linter.unusedVariables false
set_option linter.unusedSimpArgs false

abbrev RV (w : World) (B : Nat) (P : Nat → Prop) (v : Value) (t : Sk) : Prop := Kd.R (Kd.slice 22 (Kd.int .u64)) 83 w B P v t.grid
/-- The variables are as they were. -/
def KeepG (G : Nat → Prop) (w w' : World) : Prop := ∀ q, G q → w'.heap[q]? = w.heap[q]?
theorem Blk.kept {w w' : World} {g : Nat} {t : TypeId} {cs : Array Value} {G : Nat → Prop} (h : Blk w g t cs) (k : KeepG G w w') (hg : G g) : Blk w' g t cs := (k g hg).trans h
/-- The reference's sketch, as a value. -/
abbrev rv (v : Value) (t : Sk) : Value := .agg #[v, .int .i64 (t.W : Int), uv t.seed, nv t.total]
section
variable {w w' : World} {B : Nat} {P : Nat → Prop} {v : Value} {t : Sk}
theorem RV.slice_ (h : RV w B P v t) : ∃ a k, v = .slice a t.rows k := by
  obtain ⟨a, k, e⟩ := Kd.R_slice h
  exact ⟨a, k, by rw [e, grid_len]⟩
theorem RV.next_ (h : RV w B P v t) (k : Below w.heap.size w w') : RV w' B P v t := Kd.R_below h k
theorem RV.mono_ {P' : Nat → Prop} (h : RV w B P v t) (hP : ∀ q, P q → P' q) : RV w B P' v t := Kd.R_mono h hP
/-- What is new since an earlier world is new since the beginning. -/
theorem RV.newer {w1 : World} (h : RV w1 w.heap.size (fun q => w.heap.size ≤ q) v t) (hB : B ≤ w.heap.size) : RV w1 B (fun q => P q ∨ w.heap.size ≤ q) v t := Kd.R_mono (Kd.R_lower h hB) fun q hq => .inr hq
theorem RV.reads {a : Option Addr} {k : Nat} (h : RV w B P (.slice a t.rows k) t) : t.grid.length ≤ k ∧ Kd.C (Kd.slice 22 (Kd.int .u64)) w a t.grid.length t.grid := by
  obtain ⟨h1, h2, h3⟩ := Kd.R_reads' h
  exact ⟨by rw [← h1]; exact h2, h3⟩
theorem rcount_R (key : ByteArray) (h : RV w B P v t) (hO : t.Ok) (hs : key.size ≤ 140737488351232) :
    Calls Try.prog 31 #[rv v t, .string key] w fun e w' => e = .returned (nv (t.count key.data.toList)) ∧ Below w.heap.size w w' := by
  obtain ⟨a, k, rfl⟩ := h.slice_
  obtain ⟨e2, hC⟩ := h.reads
  have hh := telemeterref07_Count.calls (key.size + 11) a k t.grid _ _ _ key _ w hC e2 (count_f t hO t.total key hs _ (by omega))
  rw [grid_len] at hh
  exact hh
theorem radd_R (key : ByteArray) (n : Nat) (h : RV w B P v t) (hO : t.Ok) (hs : key.size ≤ 140737488351232) (hn : n ≤ 18446744073709551615) :
    Calls Try.prog 43 #[rv v t, .string key, nv n] w fun e w' => ∃ v', e = .returned (rv v' (t.add key.data.toList n)) ∧ RV w' w.heap.size (fun q => w.heap.size ≤ q) v' (t.add key.data.toList n) ∧ Below w.heap.size w w' := by
  obtain ⟨a, k, rfl⟩ := h.slice_
  obtain ⟨e2, hC⟩ := h.reads
  have hh := telemeterref07_Add.calls (key.size + 21) a k t.grid _ _ _ key n _ _ _ _ w hC e2 (add_f t hO key n hs hn _ (by omega))
  rw [grid_len] at hh
  refine hh.mono ?_
  rintro e w' ⟨v', rfl, hR, hb⟩
  exact ⟨v', rfl, Kd.R_mono (Kd.R_bound (Kd.S_R hR)) (fun q hq => hq.2.1), hb⟩
end
end Go.Proofs.Ytjpfamminemegaa.Tele
