/- The walk of a disk's Copy. No conditions. -/
import Derived.Test.YtajkjbhijikggaaPCopy
namespace Go.Proofs.Ytajkjbhijikggaa.Tele
open Go.RowKit
set_option linter.unusedVariables false
set_option linter.unusedSimpArgs false

def mkP (c : Option Nat) : Value := .pointer (c.map fun g => ⟨g, 0, none⟩)
theorem rdP_shape (v : Value) (y : DataW Unit × List MemPlace) (h : rdP v = some y) : ∃ c, v = mkP c := by
  unfold rdP at h
  split at h
  · rename_i g
    exact ⟨some g, rfl⟩
  · exact ⟨none, rfl⟩
  · simp at h
theorem rdP_mk (c : Option Nat) (g : Nat) (y : DataW Unit × List MemPlace) (h : rdP (mkP c) = some y) (hy : y.1 = .lit (.int .i64 (g : Int))) : c = some g := by
  cases c with
  | none =>
    simp [mkP, rdP] at h
    rw [← h] at hy
    simp at hy
  | some g' =>
    simp [mkP, rdP] at h
    rw [← h] at hy
    simp at hy
    rw [Int.ofNat.inj hy]
set_option maxRecDepth 8000 in
set_option maxHeartbeats 2000000 in
theorem copy_calls (own : Bool) (O : Nat → Prop) (d : Nat) (fs : Fs) (w : World) (h : IsD own w O d fs) :
    Calls Try.prog 18 #[.pointer (some ⟨d, 0, none⟩)] w fun e w' => ∃ d', e = .returned (.pointer (some ⟨d', 0, none⟩)) ∧ IsD true w' (fun j => w.heap.size ≤ j ∧ j < w'.heap.size) d' fs ∧ Below w.heap.size w w' := by
  obtain ⟨b, m, F, V, h⟩ := h
  have NC := Lib.hid (new_calls w)
  have H := Lib.hid h
  clear h
  go_enter Try.func18, Try.ntmps18
  go_wp2_with fail
  refine NC.out.mono ?_
  rintro e w1 ⟨dn, rfl, hDn, hb1⟩
  have HDN := Lib.hid hDn
  have HB1 := Lib.hid hb1
  have h0 : w1.cell? ⟨d, 0, none⟩ = some (.map (some b)) := (H.out.next hb1).st.cell 0
  have hmp : w1.ownsMap Try.prog 3 rdP b m.length (dm m) := H.out.mp.next hb1
  clear hDn hb1 NC
  go_wp2_with (at_range; refine wpList_range_own _ rfl _ 59 rfl 3 62 (Go.Maps.int_keyed Try.underlying3) Try.underlying59 rdP b m.length (dm m) rfl hmp ?_; intro w2 hrg0 hg0 hs0)
  go_frame
  have hb2 : Below w1.heap.size w1 w2 := ⟨hg0.os, hg0.tape, hg0.output, hg0.size, fun j hj => hg0.block j hj (by simp)⟩
  have HREL : Hid (CopyRel w m b w1.heap.size dn fs w2 (Maps.has (dm m)) (Maps.size (dm m))) := Lib.hid (by
    refine copy_start H.out (HDN.out.next hb2) (fun j hj => hj.1) (fun hj => Nat.lt_irrefl _ hj.2) hrg0 (bnext HB1.out hb2))
  have hR0 : w1.heap.size < w2.heap.size := by omega
  have HR0 := Lib.hid hR0
  have HR1 := Lib.hid (HB1.out.size)
  clear hrg0 hg0 hs0 hb2 h0 hmp HDN HB1 hR0
  generalize w1.heap.size = R at *
  go_loopw [4] (fun a wr => ∃ (left : Lit → Bool) (cnt : Nat), Hid (CopyRel w m b R dn fs wr left cnt)) (fun _ wr => wr.rangeLeft b R)
  case atStart => exact ⟨_, _, HREL⟩
  case round =>
    clear HREL
    obtain ⟨left, cnt, HREL⟩ := hrel
    have hrg := HREL.out.1
    go_wp2_with (first
      | (at_next; refine wpList_next_ranges _ rfl _ rfl 3 (Go.Maps.int_keyed Try.underlying3) rdP (Value.int .i64) mkP (fun key kl hk => by obtain ⟨x, rfl, _⟩ := Maps.keyOf_int_inv Try.underlying3 hk; exact ⟨x, rfl⟩) rdP_shape b R m.length (dm m) left cnt rfl hrg ?_ ?_)
      | go_in)
    · intro hc0 hl0
      have hsrt : fs.keys.Pairwise (· < ·) := by unfold Fs.keys; rw [H.out.abs, List.map_map]; exact List.pairwise_map.2 H.out.sorted
      have HFIN := Lib.hid (copy_end HREL.out hsrt hl0)
      clear hl0 hc0 hrg hsrt
      go_wp2
      go_ret
      exact ⟨dn, rfl, HFIN.out.1, HFIN.out.2⟩
    · intro x c kl y ps w3 cnt1 hkey hlk hv hat hrg1 hlt hgr hsz hen
      obtain ⟨x', ex, rfl, hwx⟩ := Maps.keyOf_int_inv Try.underlying3 hkey
      cases ex
      obtain ⟨g, hget⟩ : ∃ g, m.get x = some g := by
        cases hg : m.get x with
        | some g => exact ⟨g, rfl⟩
        | none =>
          have e1 := hat (.agg [])
          have e2 := hat (.lit (.bool true))
          rw [dm_no m x hg] at e1 e2
          rw [← e1] at e2
          cases e2
      have hy := hat (.agg [])
      rw [dm_at m x g hget] at hy
      obtain rfl := rdP_mk c g (y, ps) hv hy.symm
      replace hen : (Instr.entry (.pointer (some ⟨R, 0, none⟩))).run Try.prog w3 = .ok (.tuple #[.int .i64 x, .pointer (some ⟨g, 0, none⟩)]) w3 := hen
      obtain ⟨_, ⟨O', fs', ⟨b', m', F', V', hD⟩, r1, r2, r3, r4⟩, r5⟩ := HREL.out
      have hc3 : Chg (fun j => j = R) _ w3 := chg_grown hgr
      have hD3 := hD.far hc3 (fun j hj e => r2 (e ▸ hj))
      have hb3 : Below w.heap.size w w3 := bchg r5 hc3 fun j hj => by rw [hj]; exact HR1.out
      have hblk := (H.out.fl _ (get_mem hget)).next hb3
      have HST := Lib.hid fun w5 v' hbw hown => copy_store (v' := v') (w5 := w5) H.out hget hD3 r1 r2 hrg1.lt hb3 hrg1 hlt hlk r3 r4 hbw hown
      have CL : Hid (∀ W, Below w3.heap.size w3 W → Calls Try.prog 26 #[V g] W fun e w' => ∃ v', e = .returned v' ∧ Below w3.heap.size w3 w' ∧ w'.ownsRow w3.heap.size 5 1 v' (F g).bytes.length ((F g).bytes.map e8)) := Lib.hid fun W hW => by
        have hrow := (H.out.row _ (get_mem hget)).1
        obtain ⟨a', cap', q1, q2⟩ := hrow
        refine (clone_calls (V g) (F g).bytes W ⟨a', cap', q1, (q2.below hb3).below hW⟩ (by have : (F g).bytes.length ≤ 1000000 := (H.out.small _ (get_mem hget)).2; omega)).mono ?_
        rintro e w' ⟨v', rfl, p1, p2⟩
        exact ⟨v', rfl, bnext hW p1, own_base p2 hW.size⟩
      have hS : HeldC w3 dn b' g (V g) ((F g).sure : Int) w3 := heldC_of hD3.st hblk (map_ne hD3.mp hD3.st) (by have h1 := (H.out.fl _ (get_mem hget)).lt; have h2 := r1 _ hD.hb; omega) (Chg.refl _ _)
      have hd0 : w3.cell? ⟨dn, 0, none⟩ = some (.map (some b')) := hS.1
      have HLT := Lib.hid hlt
      have HLE := Lib.hid HREL.out.1.left_eq
      clear hrg hrg1 hlt hgr hsz hat hv hkey hlk hwx hy hD hD3 r1 r2 r3 r4 r5 hc3 hb3 hblk hd0 HREL
      go_wp2_with fail
      go_region_held3 (fun W => W.cell? ⟨dn, 0, none⟩ = some (.map (some b')) ∧ W.cell? ⟨g, 0, none⟩ = some (V g) ∧ W.cell? ⟨g, 1, none⟩ = some (.int .i64 ((F g).sure : Int)) ∧ Chg (fun j => j = b') w3 W)
        (first | assumption | exact HeldC.drewN hS _ | exact HeldC.drew hS | go_keep)
        (first | (go_at_call 26; (with_reducible refine (CL.out _ (by repeat (first | exact Below.refl _ _ | refine pw_below_drewN ?_ _ | refine Below.drew ?_))).mono ?_); rintro e w5 ⟨v', rfl, hbw, hown⟩; obtain ⟨w7, hrun, q5, q6, q7, q8⟩ := HST.out w5 v' hbw hown; obtain ⟨a1, l1, c1, rfl⟩ := own_slice hown; clear hbw hown))
      have Q8 := Lib.hid q8
      clear q5 q6 q7 q8 hrun hS CL HST
      go_wp2_with fail
      go_roundw
      case rel => exact ⟨_, cnt1, Q8⟩
      case measure => rw [Q8.out.1.left_eq, HLE.out]; exact HLT.out
end Go.Proofs.Ytajkjbhijikggaa.Tele
