/- Senders in plain words. No conditions. -/
import Derived.Test.YtelodofjokmfjaaKeys
namespace Go.Proofs.Ytelodofjokmfjaa.Tele
open Go.RowKit
set_option linter.unusedVariables false
set_option linter.unusedSimpArgs false

/-- What the wait has grown to behind k rounds. -/
def grown (base most : Nat) : Nat → Nat
  | 0 => base
  | k + 1 => if most ≤ grown base most k then grown base most k else 2 * grown base most k
theorem grown_le (base most : Nat) (h : base ≤ most) : ∀ k, grown base most k ≤ 2 * most
  | 0 => by show base ≤ _; omega
  | k + 1 => by
    have := grown_le base most h k
    unfold grown
    split <;> omega
theorem grown_pos (base most : Nat) (h : 1 ≤ base) : ∀ k, 1 ≤ grown base most k
  | 0 => h
  | k + 1 => by
    have := grown_pos base most h k
    unfold grown
    split <;> omega
theorem grown_stays (base most k : Nat) (h : most ≤ grown base most k) : ∀ j, grown base most (k + j) = grown base most k
  | 0 => rfl
  | j + 1 => by
    have e := grown_stays base most k h j
    show (if most ≤ grown base most (k + j) then grown base most (k + j) else 2 * grown base most (k + j)) = _
    rw [e, if_pos h]
theorem grown_min (base most : Nat) : ∀ k, min (grown base most k) most = min (base * 2 ^ k) most
  | 0 => by simp [grown]
  | k + 1 => by
    have ih := grown_min base most k
    unfold grown
    rw [Nat.pow_succ, ← Nat.mul_assoc]
    generalize base * 2 ^ k = x at *
    split <;> omega
/-- The wait without a draw. -/
def wait (base most n : Nat) : Nat := min (grown base most n) most
/-- The delay of one that was sent n + 1 times. -/
def dly (base most n draw : Nat) : Nat := wait base most n + draw % (wait base most n + 1)
theorem wait_pos (base most n : Nat) (h1 : 1 ≤ base) (h2 : base ≤ most) : 1 ≤ wait base most n := by
  have := grown_pos base most h1 n
  unfold wait
  omega
theorem wait_le (base most n : Nat) : wait base most n ≤ most := Nat.min_le_right _ _
theorem dly_le (base most n draw : Nat) : dly base most n draw ≤ 2 * wait base most n := by
  have := Nat.mod_lt draw (show 0 < wait base most n + 1 by omega)
  unfold dly
  omega
theorem dly_ge (base most n draw : Nat) : wait base most n ≤ dly base most n draw := Nat.le_add_right _ _
/-- A batch. -/
structure Fl where
  flies : Bool
  times : Nat
  at_ : Int
/-- A sender: batches by rising numbers, its bounds, how many are under way. -/
structure St where
  l : List (Int × Fl)
  fly : Nat
  base : Nat
  most : Nat
  flying : Nat
namespace St
def fresh : Fl := ⟨false, 0, 0⟩
def insL (x : Int × Fl) : List (Int × Fl) → List (Int × Fl)
  | [] => [x]
  | y :: r => if x.1 < y.1 then x :: y :: r else y :: insL x r
def has (s : St) (k : Int) : Bool := s.l.any fun p => p.1 == k
def put (s : St) (k : Int) : St := if s.has k ∨ k < 0 then s else { s with l := insL (k, fresh) s.l }
def find (s : St) (k : Int) : Option Fl := (s.l.find? fun p => p.1 == k).map (·.2)
def done (s : St) (k : Int) : St := match s.find k with
  | none => s
  | some f => { s with l := s.l.filter fun p => !(p.1 == k), flying := if f.flies then s.flying - 1 else s.flying }
/-- Is one to be sent now? -/
def due (fly : Nat) (now : Int) (f : Fl) (flying : Nat) : Bool := if f.flies then decide (f.at_ ≤ now) else decide (flying < fly)
def sent (s : St) (now : Int) (draw : U) (k : Int) (f : Fl) : Fl := ⟨true, f.times + 1, now + (dly s.base s.most f.times (mix (draw + BitVec.ofInt 64 k)).toNat : Nat)⟩
/-- One batch looked at: those looked at, how many fly, those sent. -/
def look (s : St) (now : Int) (draw : U) (a : List (Int × Fl) × Nat × List Int) (p : Int × Fl) : List (Int × Fl) × Nat × List Int :=
  if due s.fly now p.2 a.2.1 then (a.1 ++ [(p.1, s.sent now draw p.1 p.2)], if p.2.flies then a.2.1 else a.2.1 + 1, a.2.2 ++ [p.1]) else (a.1 ++ [p], a.2.1, a.2.2)
def looks (s : St) (now : Int) (draw : U) (i : Nat) : List (Int × Fl) × Nat × List Int := (s.l.take i).foldl (s.look now draw) ([], s.flying, [])
def sendAll (s : St) (now : Int) (draw : U) : St := { s with l := (s.looks now draw s.l.length).1, flying := (s.looks now draw s.l.length).2.1 }
def outs (s : St) (now : Int) (draw : U) : List Int := (s.looks now draw s.l.length).2.2
theorem looks_succ (s : St) (now : Int) (draw : U) (i : Nat) (h : i < s.l.length) : s.looks now draw (i + 1) = s.look now draw (s.looks now draw i) (s.l[i]) := by
  unfold looks
  rw [List.take_succ_eq_append_getElem h, List.foldl_append]
  rfl
/-- When the earliest is due. -/
def next (s : St) : Option Int := s.l.foldl (fun a p => if p.2.flies then (match a with | none => some p.2.at_ | some x => some (min x p.2.at_)) else a) none
end St
end Go.Proofs.Ytelodofjokmfjaa.Tele
