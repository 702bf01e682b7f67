/- The reference's files in memory: slices of structs that are only read. No conditions. -/
import Derived.Test.YtajkjbhijikggaaLawTwice
import Derived.Test.YtajkjbhijikggaaWMore
import Derived.Test.YtajkjbhijikggaaWNEv
namespace Go.Proofs.Ytajkjbhijikggaa.Tele
open Go.RowKit Go.Proofs.YtajkjbhijikggaaW.PrintWords
set_option linter.unusedVariables false
set_option linter.unusedSimpArgs false

/-- Bytes as whole numbers. -/
def ints (bs : List UInt8) : List Int := bs.map fun c => (c.toNat : Int)
theorem ints_len (bs : List UInt8) : (ints bs).length = bs.length := List.length_map _
/-- A file of the reference: three cells. -/
def kF : Kd (Int × FileM) := Kd.iso (Kd.pair (Kd.int .i64) (Kd.pair (Kd.slice 5 (Kd.int .u8)) (Kd.int .i64))) fun x => (x.1, ints x.2.bytes, (x.2.sure : Int))
abbrev FV (w : World) (P : Nat → Prop) (v : Value) (fs : Fs) : Prop := Kd.V kF 72 w 0 P v fs
/-- Bytes that are only read. -/
abbrev BV (w : World) (P : Nat → Prop) (v : Value) (bs : List UInt8) : Prop := Kd.V (Kd.int .u8) 5 w 0 P v (ints bs)
theorem kF_open {W : World} {ok : Nat → Prop} {x : Int × FileM} {cs : List Value} (h : Kd.FK kF W ok x cs) : ∃ u, cs = [.int .i64 x.1, u, .int .i64 (x.2.sure : Int)] ∧ BV W ok u x.2.bytes := by
  obtain ⟨_, _, rfl, rfl, ⟨_, _, rfl, ⟨A1, c1, rfl, l1, _⟩, rfl⟩⟩ := Kd.FK_now h
  refine ⟨_, rfl, A1, c1, rfl, l1, fun W' hW => ?_⟩
  obtain ⟨_, _, e, rfl, ⟨_, _, rfl, ⟨A2, c2, rfl, l2, g2⟩, rfl⟩⟩ := h W' hW
  injection e with _ e
  injection e with e _
  injection e with e1 _ _
  rw [e1]
  exact g2
theorem kF_mk {W : World} {ok : Nat → Prop} {x : Int × FileM} {u : Value} (h : BV W ok u x.2.bytes) : Kd.FK kF W ok x [.int .i64 x.1, u, .int .i64 (x.2.sure : Int)] := by
  obtain ⟨A, c, rfl, hl, hf⟩ := h
  exact fun W' hW => ⟨[.int .i64 x.1], [_, .int .i64 (x.2.sure : Int)], rfl, rfl, ⟨[_], [.int .i64 (x.2.sure : Int)], rfl, ⟨A, c, rfl, hl, hf W' hW⟩, rfl⟩⟩
theorem FV.at_ {w : World} {P : Nat → Prop} {a : Option Addr} {n c : Nat} {fs : Fs} (h : FV w P (.slice a n c) fs) (i : Nat) (hi : i < fs.length) :
    ∃ u, w.cell? (adr a (i * 3)) = some (.int .i64 fs[i].1) ∧ w.cell? ⟨(adr a (i * 3)).block, (adr a (i * 3)).off + 1, none⟩ = some u ∧ w.cell? ⟨(adr a (i * 3)).block, (adr a (i * 3)).off + 2, none⟩ = some (.int .i64 (fs[i].2.sure : Int)) ∧ BV w P u fs[i].2.bytes := by
  obtain ⟨hn, hc, _⟩ := Kd.V_reads' h
  obtain ⟨ad, cs, rfl, hcl, hK, hcc, _⟩ := Kd.F_get (Kd.V_F h) (0, ⟨[], 0⟩) (i : Int) (by omega) (by omega)
  rw [Int.toNat_natCast, List.getD_eq_getElem?_getD, List.getElem?_eq_getElem hi] at hK
  obtain ⟨u, rfl, hu⟩ := kF_open hK
  rw [Int.toNat_natCast] at hcc
  refine ⟨u, ?_, ?_, ?_, hu⟩
  · exact hcc 0 _ rfl
  · have := hcc 1 _ rfl
    rw [add_field _ _ 1 (by omega)] at this
    exact this
  · have := hcc 2 _ rfl
    rw [add_field _ _ 2 (by omega)] at this
    exact this
theorem infoF : (Try.prog.info? 72).map (fun i => (i.zero, i.size, i.bytes)) = some (some (.agg #[(.int .i64 0), (.slice none 0 0), (.int .i64 0)]), 3, 40) := by kernel_rfl
theorem FV.index {w : World} {P : Nat → Prop} {a : Option Addr} {n c : Nat} {fs : Fs} (h : FV w P (.slice a n c) fs) (i : Nat) (hi : i < fs.length) (W : World) :
    (Instr.indexAt 48 (.slice a n c) (.int .i64 (i : Int))).run Try.prog W = .ok (.pointer (some (adr a (i * 3)))) W := by
  obtain ⟨hn, hc, _⟩ := Kd.V_reads' h
  obtain ⟨ad, cs, rfl, _⟩ := Kd.F_get (Kd.V_F h) (0, ⟨[], 0⟩) (i : Int) (by omega) (by omega)
  have hel : Try.prog.elem 48 = 72 := by simp [Program.elem, Try.underlying48]
  obtain ⟨i0, hi0, hs0⟩ := Option.map_eq_some_iff.1 infoF
  simp at hs0
  rw [run_indexAt_slice (h := by rw [hel]; exact Try.underlying48), if_pos (by omega), hel]
  simp [sizeOf, typeInfo, hi0, hs0.2.1, adr]
/-- The three cells of a file. -/
def Rec (W : World) (ad : Addr) (k : Int) (u : Value) (s : Nat) : Prop := W.cell? ad = some (.int .i64 k) ∧ W.cell? ⟨ad.block, ad.off + 1, none⟩ = some u ∧ W.cell? ⟨ad.block, ad.off + 2, none⟩ = some (.int .i64 (s : Int))
theorem FV.pick {w : World} {P : Nat → Prop} {a : Option Addr} {n c : Nat} {fs : Fs} (h : FV w P (.slice a n c) fs) (i : Nat) (hi : i < fs.length) :
    ∃ ad u, (∀ W, (Instr.indexAt 48 (.slice a n c) (.int .i64 (i : Int))).run Try.prog W = .ok (.pointer (some ad)) W) ∧ (∀ W, Below w.heap.size w W → Rec W ad fs[i].1 u fs[i].2.sure) ∧ BV w P u fs[i].2.bytes := by
  obtain ⟨u, c0, c1, c2, hu⟩ := FV.at_ h i hi
  have hlt := World.block_lt_of_cell? w _ c0
  exact ⟨adr a (i * 3), u, fun W => FV.index h i hi W, fun W hb => ⟨(hb.cell hlt).trans c0, (hb.cell (p := ⟨_, _, none⟩) hlt).trans c1, (hb.cell (p := ⟨_, _, none⟩) hlt).trans c2⟩, hu⟩
/-- Where a file stands; below 0: nowhere. -/
def place (fs : Fs) (k : Int) : Int := match fs.findIdx? (fun p => p.1 == k) with | some i => (i : Int) | none => -1
theorem place_none {fs : Fs} {k : Int} (h : ∀ j (hj : j < fs.length), fs[j].1 ≠ k) : place fs k = -1 := by
  unfold place
  rw [List.findIdx?_eq_none_iff.2]
  intro x hx
  obtain ⟨j, hj, rfl⟩ := List.getElem_of_mem hx
  simpa using h j hj
theorem place_some {fs : Fs} {k : Int} {i : Nat} (hi : i < fs.length) (h : ∀ j (hj : j < i), fs[j].1 ≠ k) (he : fs[i].1 = k) : place fs k = (i : Int) := by
  unfold place
  rw [(List.findIdx?_eq_some_iff_getElem).2 ⟨hi, by simpa using he, fun j hj => by simpa using h j hj⟩]
set_option maxRecDepth 8000 in
theorem rplace_calls (P : Nat → Prop) (v : Value) (fs : Fs) (k : Int) (w : World) (h : FV w P v fs) (hl : fs.length ≤ 100000) :
    Calls Try.prog 29 #[.agg #[v], .int .i64 k] w fun e w' => e = .returned (.int .i64 (place fs k)) ∧ Below w.heap.size w w' := by
  obtain ⟨a, c, rfl⟩ := Kd.V_slice h
  have HV := Lib.hid fun W hb => Kd.V_below (w1 := W) h hb
  obtain ⟨n, hn⟩ : ∃ n, n = fs.length := ⟨_, rfl⟩
  have HN := Lib.hid hn
  rw [← hn] at hl ⊢
  rw [← hn] at HV
  clear h hn
  go_enter Try.func29, Try.ntmps29
  go_wp2_with fail
  go_loopw [5] (fun i wr => ∃ j : Nat, j ≤ n ∧ i = .int .i64 (j : Int) ∧ Hid (∀ q (hq : q < fs.length), q < j → fs[q].1 ≠ k) ∧ Hid (Below w.heap.size w wr) ∧ wr.cell? ⟨w.heap.size, 0, none⟩ = some (.slice a n c)) (fun i _ => n - (intOf i).toNat)
  case atStart => exact ⟨0, by omega, rfl, Lib.hid fun q hq hj => absurd hj (Nat.not_lt_zero _), Lib.hid (bl_alloc (Below.refl _ _) _), (Blk.new w _ _).cell 0⟩
  case round =>
    obtain ⟨j, hj, rfl, HP, HB, hc0⟩ := hrel
    by_cases hlt : (j : Int) < (n : Int)
    · have hjf : j < fs.length := by rw [← HN.out]; omega
      obtain ⟨ad, u, hix, hrc, _⟩ := FV.pick (HV.out wr HB.out) j hjf
      obtain ⟨c1, _, _⟩ := hrc wr (Below.refl _ _)
      obtain ⟨x, hx⟩ : ∃ x, x = fs[j].1 := ⟨_, rfl⟩
      rw [← hx] at c1
      clear hrc
      by_cases hxk : x = k
      · have hpl := place_some hjf (fun q hq => HP.out q (by omega) hq) (hx.symm.trans hxk)
        have hbeq : (x == k) = true := by simpa using hxk
        have HPL := Lib.hid hpl
        clear hx hpl hxk HP
        go_wp2
        go_ret
        exact ⟨by rw [HPL.out]; rfl, HB.out⟩
      · have hbeq : (x == k) = false := by simpa using hxk
        have HP2 : Hid (∀ q (hq : q < fs.length), q < j + 1 → fs[q].1 ≠ k) := Lib.hid fun q hq hqj => by
          rcases Nat.lt_succ_iff_lt_or_eq.1 hqj with h1 | rfl
          · exact HP.out q hq h1
          · rw [← hx]
            exact hxk
        clear hx hxk HP
        go_wp2_with fail
        go_roundw
        case rel => exact ⟨j + 1, by omega, by go_num, HP2, HB, hc0⟩
        case measure => simp [intOf]; omega
    · have hpl : place fs k = -1 := place_none fun q hq => HP.out q hq (by have := HN.out; omega)
      have HPL := Lib.hid hpl
      clear hpl HP
      go_wp2
      go_ret
      exact ⟨by rw [HPL.out]; rfl, HB.out⟩
theorem place_get {fs : Fs} {k : Int} : (place fs k < 0 ∧ fs.get k = none) ∨ ∃ (i : Nat) (h : i < fs.length), place fs k = (i : Int) ∧ fs[i].1 = k ∧ fs.get k = some fs[i].2 := by
  unfold place Fs.get
  cases hf : fs.findIdx? (fun p => p.1 == k) with
  | none =>
    refine .inl ⟨by decide, ?_⟩
    rw [List.findIdx?_eq_none_iff] at hf
    rw [List.find?_eq_none.2 fun x hx => by simpa using hf x hx]
    rfl
  | some i =>
    obtain ⟨hi, h1, h2⟩ := List.findIdx?_eq_some_iff_getElem.1 hf
    refine .inr ⟨i, hi, rfl, by simpa using h1, ?_⟩
    have : fs.find? (fun p => p.1 == k) = some fs[i] := by
      rw [List.find?_eq_some_iff_getElem]
      exact ⟨h1, i, hi, rfl, fun j hj => by simpa using h2 j hj⟩
    rw [this]
    rfl
set_option maxRecDepth 8000 in
theorem rread_calls (P : Nat → Prop) (v : Value) (fs : Fs) (k : Int) (w : World) (h : FV w P v fs) (hl : fs.length ≤ 100000) :
    Calls Try.prog 25 #[.agg #[v], .int .i64 k] w fun e w' => (∃ u, e = .returned (.tuple #[u, .int .i64 (if (fs.get k).isSome then 0 else 71)])) ∧ Below w.heap.size w w' := by
  obtain ⟨a, c, rfl⟩ := Kd.V_slice h
  have HPC := Lib.hid fun W hb => rplace_calls P _ fs k W (Kd.V_below (w1 := W) h hb) hl
  have HV := Lib.hid fun W hb => Kd.V_below (w1 := W) h hb
  have HB1 := Lib.hid (bl_alloc (Below.refl w.heap.size w) (.cells #[.slice a fs.length c] 50))
  have hc0 : (w.alloc (.cells #[.slice a fs.length c] 50)).cell? ⟨w.heap.size, 0, none⟩ = some (.slice a fs.length c) := (Blk.new w _ _).cell 0
  rcases place_get (fs := fs) (k := k) with ⟨hp, hg⟩ | ⟨i, hi, hp, hk, hg⟩
  · rw [hg]
    generalize place fs k = pl at *
    clear h hg
    go_enter Try.func25, Try.ntmps25
    go_wp2_with fail
    refine (HPC.out _ HB1.out).mono ?_
    rintro e w1 ⟨rfl, hb⟩
    have HB2 := Lib.hid (bnext HB1.out hb)
    clear hb
    go_wp2
    go_ret2
    exact ⟨⟨_, rfl⟩, HB2.out⟩
  · rw [hg]
    rw [hp] at HPC
    have hib : ¬ (i : Int) < 0 := by omega
    obtain ⟨ad, u, hix, hrc, _⟩ := FV.pick h i hi
    have HA := Lib.hid hrc
    generalize fs[i] = x at *
    clear h hg hk hp hrc HV hi
    generalize fs.length = n at *
    go_enter Try.func25, Try.ntmps25
    go_wp2_with fail
    refine (HPC.out _ HB1.out).mono ?_
    rintro e w1 ⟨rfl, hb⟩
    have hb2 := bnext HB1.out hb
    have HB2 := Lib.hid hb2
    have c0 : w1.cell? ⟨w.heap.size, 0, none⟩ = some (.slice a n c) := ((Blk.new w _ _).next hb).cell 0
    obtain ⟨_, c2, _⟩ := HA.out w1 hb2
    clear hb hb2
    go_wp2
    go_ret2
    exact ⟨⟨_, rfl⟩, HB2.out⟩
end Go.Proofs.Ytajkjbhijikggaa.Tele
