/- A window and the reference's beside it: how they begin. No conditions. -/
import Derived.Test.YtiohjmpnkoohjaaPairW2
namespace Go.Proofs.Ytiohjmpnkoohjaa.Tele
open Go.RowKit Go.Proofs.YtiohjmpnkoohjaaW.PrintWords Go.Proofs.YtiohjmpnkoohjaaW.PrintLast Go.Proofs.YtiohjmpnkoohjaaW.PrintMore Go.Proofs.Ytiohjmpnkoohjaa.PWindowCounts
set_option linter.unusedVariables false
set_option linter.unusedSimpArgs false

theorem rw_new (rows W long : Nat) (seed : U) (w : World) (h1 : 1 ≤ rows) (hr : rows ≤ 8) (h2 : 1 ≤ W) (hW : W ≤ 1024) (h5 : 1 ≤ long) (h6 : long ≤ 1099511627776) :
    Calls Try.prog 13 #[.int .i64 (rows : Int), .int .i64 (W : Int), uv seed, .int .i64 (long : Int)] w fun e w' => ∃ vL L vT, e = .returned (.tuple #[wv (Win.new rows W seed long) vL L vT (Win.new rows W seed long).this, .bool true]) ∧ RV w' w.heap.size (fun q => w.heap.size ≤ q) vL L ∧ RV w' w.heap.size (fun q => w.heap.size ≤ q) vT (Win.new rows W seed long).this ∧ LastOk (Win.new rows W seed long) L ∧ L.Ok ∧ Below w.heap.size w w' := by
  have ht : (Win.new rows W seed long).this = Sk.new rows W seed := by show Sk.new rows W (seed + BitVec.ofNat 64 0) = _; rw [show seed + BitVec.ofNat 64 0 = seed by simp]
  have hf : telemeterref08_New.f 11 (rows : Int) (W : Int) (seed.toNat : Int) (long : Int) = some ((rows : Int), (W : Int), (seed.toNat : Int), (long : Int), 0, (Sk.new rows W (BitVec.ofInt 64 ((seed.toNat : Int) - 1))).grid, (W : Int), ((BitVec.ofInt 64 ((seed.toNat : Int) - 1)).toNat : Int), 0, (Sk.new rows W seed).grid, (W : Int), (seed.toNat : Int), 0, true) := by
    unfold telemeterref08_New.f
    rw [new_f rows W seed h1 hr h2 hW 11 (by omega), wrapU ((seed.toNat : Int) - 1), new_f rows W (BitVec.ofInt 64 ((seed.toNat : Int) - 1)) h1 hr h2 hW 11 (by omega)]
    simp only [Option.bind_some]
    rw [if_pos trivial, if_neg (by omega), if_neg (by omega)]
  rw [ht]
  refine (telemeterref08_New.calls 11 rows W seed.toNat long _ _ _ _ _ _ _ _ _ _ _ _ _ _ w hf).mono ?_
  rintro e w' ⟨vL, vT, rfl, hR1, hR2, hb⟩
  exact ⟨vL, Sk.new rows W (BitVec.ofInt 64 ((seed.toNat : Int) - 1)), vT, rfl, Kd.R_mono (Kd.R_bound (Kd.S_R hR1)) (fun q hq => hq.2.1), Kd.R_mono (Kd.R_bound (Kd.S_R hR2)) (fun q hq => hq.2.1), ⟨_, rfl⟩, Sk.new_ok _ _ _ h1 hr h2 hW, hb⟩
theorem pairw_start {w0 w1 w2 w3 : World} {g rows W long : Nat} {seed : U} {vL vT : Value} {L : Sk} (h1 : 1 ≤ rows) (hr : rows ≤ 8) (h2 : 1 ≤ W) (hW : W ≤ 1024) (h5 : 1 ≤ long) (h6 : long ≤ 1099511627776) (hb1 : Below w0.heap.size w0 w1) (hb2 : Below w1.heap.size w1 w2) (hw : IsWin w2 (Plus (fun _ => False) w1 w2) g (Win.new rows W seed long))
    (hL : RV w3 w2.heap.size (fun q => w2.heap.size ≤ q) vL L) (hT : RV w3 w2.heap.size (fun q => w2.heap.size ≤ q) vT (Win.new rows W seed long).this) (hl : LastOk (Win.new rows W seed long) L) (hO : L.Ok) (hb3 : Below w2.heap.size w2 w3) :
    PairW w0 w3 g (fun _ => False) vL vT (Win.new rows W seed long) (Win.new rows W seed long) L := by
  have hb := bnext hb1 hb2
  have hs1 := hb1.size
  have hs3 := hb3.size
  refine ⟨_, _, fun j hj => ?_, hw.next hb3, bnext hb hb3, Kd.R_lower hL hb.size, Kd.R_lower hT hb.size, ⟨hl, Win.new_ok rows W seed long h1 hr h2 hW h5 h6, Sk.new_ok _ _ _ h1 hr h2 hW, hO⟩, fun q hq => ⟨fun ho => ?_, fun h => h⟩, fun q hq => hq.elim⟩
  · rcases hj with hj | hj
    · exact hj.elim
    · omega
  · rcases ho with ho | ho
    · exact ho
    · omega
end Go.Proofs.Ytiohjmpnkoohjaa.Tele
