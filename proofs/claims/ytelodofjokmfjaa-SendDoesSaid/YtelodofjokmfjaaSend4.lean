/- The walk of a sender's Next. No conditions. -/
import Derived.Test.YtelodofjokmfjaaLawFlies
import Derived.Maps.RangeWalk
namespace Go.Proofs.Ytelodofjokmfjaa.Tele
open Go.RowKit
set_option linter.unusedVariables false
set_option linter.unusedSimpArgs false

/-- The earliest of those that fly and are of S. -/
def Best (l : List (Int × Fl)) (S : Int → Prop) (o : Option Int) : Prop :=
  (∀ q ∈ l, S q.1 → q.2.flies = true → ∃ a, o = some a ∧ a ≤ q.2.at_) ∧ (∀ a, o = some a → ∃ q ∈ l, S q.1 ∧ q.2.flies = true ∧ q.2.at_ = a)
def mkP (c : Option Nat) : Value := .pointer (c.map fun g => ⟨g, 0, none⟩)
theorem rdP_shape (v : Value) (y : DataW Unit × List MemPlace) (h : rdP v = some y) : ∃ c, v = mkP c := by
  unfold rdP at h
  split at h
  · rename_i g
    exact ⟨some g, rfl⟩
  · exact ⟨none, rfl⟩
  · simp at h
theorem rdP_mk (c : Option Nat) (g : Nat) (y : DataW Unit × List MemPlace) (h : rdP (mkP c) = some y) (hy : y.1 = .lit (.int .i64 (g : Int))) : c = some g := by
  cases c with
  | none =>
    simp [mkP, rdP] at h
    rw [← h] at hy
    simp at hy
  | some g' =>
    simp [mkP, rdP] at h
    rw [← h] at hy
    simp at hy
    rw [Int.ofNat.inj hy]
theorem below_grown {w w1 w2 : World} {r : Nat} (h : Below w.heap.size w w1) (k : w1.grownBy w2 (some r)) (hr : w.heap.size ≤ r) : Below w.heap.size w w2 :=
  ⟨k.os.trans h.os, k.tape.trans h.tape, k.output.trans h.output, by have := h.size; have := k.size; omega, fun j hj => (k.block j (by have := h.size; omega) (by intro he; injection he; omega)).trans (h.block j hj)⟩
/-- One more has been seen. -/
theorem best_more {l : List (Int × Fl)} {S S' : Int → Prop} {o o' : Option Int} {x : Int} {f : Fl} (h : Best l S o) (hS : ∀ k, S' k ↔ S k ∨ k = x) (hx : (x, f) ∈ l) (hu : ∀ q ∈ l, q.1 = x → q.2 = f)
    (h1 : f.flies = false → o' = o) (h2 : f.flies = true → (o' = some f.at_ ∧ ∀ a, o = some a → f.at_ ≤ a) ∨ (o' = o ∧ ∃ a, o = some a ∧ a ≤ f.at_)) : Best l S' o' := by
  obtain ⟨b1, b2⟩ := h
  cases hf : f.flies with
  | false =>
    rw [h1 hf]
    refine ⟨fun q hq hs hfl => ?_, fun a ha => ?_⟩
    · rcases (hS q.1).1 hs with hs | hs
      · exact b1 q hq hs hfl
      · rw [hu q hq hs, hf] at hfl
        simp at hfl
    · obtain ⟨q, hq, hs, r⟩ := b2 a ha
      exact ⟨q, hq, (hS q.1).2 (.inl hs), r⟩
  | true =>
    rcases h2 hf with ⟨e, hle⟩ | ⟨e, a0, ha0, hle⟩
    · rw [e]
      refine ⟨fun q hq hs hfl => ⟨f.at_, rfl, ?_⟩, fun a ha => ?_⟩
      · rcases (hS q.1).1 hs with hs | hs
        · obtain ⟨a, ha, hq2⟩ := b1 q hq hs hfl
          have := hle a ha
          omega
        · rw [hu q hq hs]
          exact Int.le_refl _
      · cases ha
        exact ⟨(x, f), hx, (hS x).2 (.inr rfl), hf, rfl⟩
    · rw [e]
      refine ⟨fun q hq hs hfl => ?_, fun a ha => ?_⟩
      · rcases (hS q.1).1 hs with hs | hs
        · exact b1 q hq hs hfl
        · rw [hu q hq hs]
          exact ⟨a0, ha0, hle⟩
      · obtain ⟨q, hq, hs, r⟩ := b2 a ha
        exact ⟨q, hq, (hS q.1).2 (.inl hs), r⟩
set_option maxRecDepth 8000 in
set_option maxHeartbeats 2000000 in
theorem next_calls (O : Nat → Prop) (p : Nat) (s : St) (w : World) (h : IsS w O p s) :
    Calls Try.prog 17 #[.pointer (some ⟨p, 0, none⟩)] w fun e w' => ∃ o : Option Int, e = .returned (.tuple #[.int .i64 (o.getD 0), .bool o.isSome]) ∧ Best s.l (fun _ => True) o ∧ Below w.heap.size w w' := by
  obtain ⟨b, m, F, h⟩ := h
  have h0 : w.cell? ⟨p, 0, none⟩ = some (.map (some b)) := h.st.cell 0
  have hmp : w.ownsMap Try.prog 3 rdP b m.length (dm m) := h.mp
  have H := Lib.hid h
  clear h
  go_enter Try.func17, Try.ntmps17
  go_wp2_with (at_range; refine wpList_range_own _ rfl _ 55 rfl 3 58 (Go.Maps.int_keyed Try.underlying3) Try.underlying55 rdP b m.length (dm m) rfl hmp ?_; intro w0 hrg0 hg0 hs0)
  go_frame
  have hb0 : Below w.heap.size w w0 := ⟨hg0.os, hg0.tape, hg0.output, hg0.size, fun j hj => hg0.block j hj (by simp)⟩
  have HRG0 := Lib.hid hrg0
  have HB0 := Lib.hid hb0
  clear hrg0 hg0 hs0 hb0 h0
  go_loopw [4, 5] (fun a i wr => ∃ (left : Lit → Bool) (cnt : Nat) (o : Option Int), a = .int .i64 (o.getD 0) ∧ i = .bool o.isSome ∧ Hid (wr.ranges Try.prog 3 rdP b w.heap.size m.length (dm m) left cnt) ∧ Hid (Best s.l (fun k => left (.int .i64 k) = false) o) ∧ Hid (Below w.heap.size w wr)) (fun _ _ wr => wr.rangeLeft b w.heap.size)
  case atStart =>
    refine ⟨_, _, none, rfl, rfl, HRG0, Lib.hid ⟨fun q hq hs _ => ?_, fun a ha => by cases ha⟩, HB0⟩
    have hh : Maps.has (dm m) (.int .i64 q.1) = true := by
      rw [dm_has, ← has_eq s m F H.out.abs]
      exact List.any_eq_true.2 ⟨q, hq, by simp⟩
    have hs' : Maps.has (dm m) (.int .i64 q.1) = false := hs
    rw [hh] at hs'
    simp at hs'
  case round =>
    clear HRG0 HB0
    obtain ⟨left, cnt, o, rfl, rfl, HRG, HBEST, HBW⟩ := hrel
    have hrg := HRG.out
    go_wp2_with (first
      | (at_next; refine wpList_next_ranges _ rfl _ rfl 3 (Go.Maps.int_keyed Try.underlying3) rdP (Value.int .i64) mkP (fun key kl hk => by obtain ⟨x, rfl, _⟩ := Maps.keyOf_int_inv Try.underlying3 hk; exact ⟨x, rfl⟩) rdP_shape b w.heap.size m.length (dm m) left cnt rfl hrg ?_ ?_)
      | go_in)
    · intro hc0 hl0
      have hfin : Best s.l (fun _ => True) o := by
        obtain ⟨b1, b2⟩ := HBEST.out
        exact ⟨fun q hq _ hfl => b1 q hq (hl0 _) hfl, fun a ha => by obtain ⟨q, hq, _, r⟩ := b2 a ha; exact ⟨q, hq, trivial, r⟩⟩
      have HFIN := Lib.hid hfin
      clear hfin hl0 hc0 hrg
      go_wp2
      go_ret2
      exact ⟨o, rfl, HFIN.out, HBW.out⟩
    · intro x c kl y ps w1 cnt1 hkey hlk hv hat hrg1 hlt hgr hsz hen
      obtain ⟨x', ex, rfl, hwx⟩ := Maps.keyOf_int_inv Try.underlying3 hkey
      cases ex
      obtain ⟨g, hget⟩ : ∃ g, m.get x = some g := by
        cases hg : m.get x with
        | some g => exact ⟨g, rfl⟩
        | none =>
          have e1 := hat (.agg [])
          have e2 := hat (.lit (.bool true))
          rw [dm_no m x hg] at e1 e2
          rw [← e1] at e2
          cases e2
      have hy := hat (.agg [])
      rw [dm_at m x g hget] at hy
      obtain rfl := rdP_mk c g (y, ps) hv hy.symm
      replace hen : (Instr.entry (.pointer (some ⟨w.heap.size, 0, none⟩))).run Try.prog w1 = .ok (.tuple #[.int .i64 x, .pointer (some ⟨g, 0, none⟩)]) w1 := hen
      have hbw1 := below_grown HBW.out hgr (Nat.le_refl _)
      have hmem := get_mem hget
      have hblk := (H.out.fl _ hmem).next hbw1
      have hml : (x, F g) ∈ s.l := by rw [H.out.abs]; exact List.mem_map.2 ⟨(x, g), hmem, rfl⟩
      have hun : ∀ q ∈ s.l, q.1 = x → q.2 = F g := by
        intro q hq hqx
        rw [H.out.abs] at hq
        obtain ⟨e, he, rfl⟩ := List.mem_map.1 hq
        have h1 := get_of H.out.sorted (k := e.1) (g := e.2) he
        rw [show e.1 = x from hqx, hget] at h1
        rw [← Option.some.inj h1]
      have hSS : ∀ k : Int, ((fun z : Lit => left z && !z.sameKey (.int .i64 x)) (.int .i64 k) = false) ↔ (left (.int .i64 k) = false) ∨ k = x := by
        intro k
        simp only [same_int, Bool.and_eq_false_iff, Bool.not_eq_false', beq_iff_eq]
      have HMORE : Hid (∀ o', ((F g).flies = false → o' = o) → ((F g).flies = true → (o' = some (F g).at_ ∧ ∀ a, o = some a → (F g).at_ ≤ a) ∨ (o' = o ∧ ∃ a, o = some a ∧ a ≤ (F g).at_)) → Best s.l (fun k => (fun z : Lit => left z && !z.sameKey (.int .i64 x)) (.int .i64 k) = false) o') := Lib.hid fun o' h1 h2 => best_more HBEST.out hSS hml hun h1 h2
      have g0 : w1.cell? ⟨g, 0, none⟩ = some (.bool (F g).flies) := hblk.cell 0
      have g2 : w1.cell? ⟨g, 2, none⟩ = some (.int .i64 (F g).at_) := hblk.cell 2
      generalize F g = f at *
      obtain ⟨fl, ft, fa⟩ := f
      simp only at g0 g2
      have HRG1 := Lib.hid hrg1
      have HB1 := Lib.hid hbw1
      have HLT := Lib.hid hlt
      clear hrg hrg1 hlt hgr hsz hat hv hkey hlk hwx hget hy hmem hblk hml hun hSS hbw1
      cases fl with
      | false =>
        go_wp2_with fail
        go_roundw
        case rel => exact ⟨_, cnt1, o, rfl, rfl, HRG1, Lib.hid (HMORE.out o (fun _ => rfl) (fun h => by simp at h)), HB1⟩
        case measure => rw [HRG1.out.left_eq, HRG.out.left_eq]; exact HLT.out
      | true =>
        cases o with
        | none =>
          go_wp2_with fail
          go_roundw
          case rel => exact ⟨_, cnt1, some fa, rfl, rfl, HRG1, Lib.hid (HMORE.out (some fa) (fun h => by simp at h) (fun _ => .inl ⟨rfl, fun a ha => by cases ha⟩)), HB1⟩
          case measure => rw [HRG1.out.left_eq, HRG.out.left_eq]; exact HLT.out
        | some a =>
          have ea : (some a : Option Int).getD 0 = a := rfl
          have eb : (some a : Option Int).isSome = true := rfl
          rw [ea, eb]
          by_cases hlt2 : fa < a
          · go_wp2_with fail
            go_roundw
            case rel => exact ⟨_, cnt1, some fa, rfl, rfl, HRG1, Lib.hid (HMORE.out (some fa) (fun h => by simp at h) (fun _ => .inl ⟨rfl, fun a' ha => by cases ha; show fa ≤ a; omega⟩)), HB1⟩
            case measure => rw [HRG1.out.left_eq, HRG.out.left_eq]; exact HLT.out
          · go_wp2_with fail
            go_roundw
            case rel => exact ⟨_, cnt1, some a, rfl, rfl, HRG1, Lib.hid (HMORE.out (some a) (fun h => by simp at h) (fun _ => .inr ⟨rfl, a, rfl, by show a ≤ fa; omega⟩)), HB1⟩
            case measure => rw [HRG1.out.left_eq, HRG.out.left_eq]; exact HLT.out
end Go.Proofs.Ytelodofjokmfjaa.Tele
