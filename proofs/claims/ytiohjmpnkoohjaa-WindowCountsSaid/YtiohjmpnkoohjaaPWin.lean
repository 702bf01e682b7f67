/- Windows over plain sketches. No conditions. -/
import Derived.Test.YtiohjmpnkoohjaaPSk2
set_option linter.unusedVariables false
set_option linter.unusedSimpArgs false
namespace Go.Proofs.Ytiohjmpnkoohjaa.Tele

structure Win where
  rows : Nat
  W : Nat
  seed : U
  long : Nat
  now : Nat
  last : Option Sk
  this : Sk

namespace Win
def fresh (m : Win) (k : Nat) : Sk := Sk.new m.rows m.W (m.seed + BitVec.ofNat 64 k)
/-- May one go on to this time? -/
def ok (m : Win) (now : Int) : Bool := decide ((m.now : Int) ≤ now) && decide (now ≤ 1099511627776)
/-- Goes on to a time that one may go on to. -/
def turn (m : Win) (now : Nat) : Win :=
  if now / m.long = m.now / m.long then { m with now := now }
  else if now / m.long = m.now / m.long + 1 then { m with now := now, last := some m.this, this := m.fresh (now / m.long) }
  else { m with now := now, last := none, this := m.fresh (now / m.long) }
def turnAny (m : Win) (now : Int) : Win := if m.ok now then m.turn now.toNat else m
def add (m : Win) (now : Int) (key : List UInt8) (n : Nat) : Win := if m.ok now then { m.turn now.toNat with this := (m.turn now.toNat).this.add key n } else m
def err (m : Win) (now : Int) : Int := if m.ok now then 0 else 60
def closed (m : Win) (now : Int) (key : List UInt8) : Nat := if m.ok now then (match (m.turn now.toNat).last with | some s => s.count key | none => 0) else 0
def opened (m : Win) (now : Int) (key : List UInt8) : Nat := if m.ok now then (m.turn now.toNat).this.count key else 0
structure Ok (m : Win) : Prop where
  rows1 : 1 ≤ m.rows
  rows8 : m.rows ≤ 8
  W1 : 1 ≤ m.W
  Wm : m.W ≤ 1024
  long1 : 1 ≤ m.long
  longm : m.long ≤ 1099511627776
  nowm : m.now ≤ 1099511627776
def new (rows W : Nat) (seed : U) (long : Nat) : Win := { rows, W, seed, long, now := 0, last := none, this := Sk.new rows W (seed + BitVec.ofNat 64 0) }
theorem new_ok (rows W : Nat) (seed : U) (long : Nat) (h1 : 1 ≤ rows) (h2 : rows ≤ 8) (h3 : 1 ≤ W) (h4 : W ≤ 1024) (h5 : 1 ≤ long) (h6 : long ≤ 1099511627776) : (new rows W seed long).Ok := ⟨h1, h2, h3, h4, h5, h6, Nat.zero_le _⟩
theorem turn_ok (m : Win) (h : m.Ok) (now : Nat) (hn : now ≤ 1099511627776) : (m.turn now).Ok := by
  unfold turn
  split
  · exact ⟨h.1, h.2, h.3, h.4, h.5, h.6, hn⟩
  · split
    · exact ⟨h.1, h.2, h.3, h.4, h.5, h.6, hn⟩
    · exact ⟨h.1, h.2, h.3, h.4, h.5, h.6, hn⟩
end Win
end Go.Proofs.Ytiohjmpnkoohjaa.Tele
