/- The walk of the law ProbParses. No conditions but that the library's table is as it was laid. -/
import Derived.Test.YtaejdkfonlkhaaaDoorLawDraws
import Derived.Test.YtaejdkfonlkhaaaDoorRef5c
import Derived.Test.YtaejdkfonlkhaaaDoorOpenRows
import Derived.Deep.RegionHeld3
namespace Go.Proofs.YtaejdkfonlkhaaaDoor.Tele
open Go.RowKit
set_option linter.unusedVariables false
set_option linter.unusedSimpArgs false

theorem refNumber_calls (c0 c2 c3 c4 c5 c6 c7 c8 : Value) (lo rv : Nat) (w : World) :
    Calls Tryd.prog 29 #[.agg #[c0, .int .u64 (lo : Int), c2, c3, c4, c5, c6, c7, c8, .int .u64 (rv : Int)]] w fun e w' => e = .returned (.int .u64 (numb lo rv : Int)) ∧ Below w.heap.size w w' := by
  by_cases h : 0 < rv ∧ rv ≤ 72057594037927936
  · have e : ((numb lo rv : Nat) : Int) = (rv : Int) - 1 := by unfold numb; rw [if_pos h]; omega
    rw [e]
    obtain ⟨h0, h1⟩ : 1 ≤ (rv : Int) ∧ (rv : Int) ≤ 72057594037927936 := by omega
    clear h e
    generalize (rv : Int) = rv at *
    go_enter Tryd.func29, Tryd.ntmps29
    go_wp2_with fail
    go_ret
    exact ⟨rfl, bl_alloc (Below.refl _ _) _⟩
  · have e : ((numb lo rv : Nat) : Int) = (lo : Int) % 72057594037927936 := by unfold numb; rw [if_neg h]; omega
    rw [e]
    have l0 : 0 ≤ (lo : Int) := by omega
    rcases (show (rv : Int) < 1 ∨ (1 ≤ (rv : Int) ∧ 72057594037927936 < (rv : Int)) by omega) with h0 | ⟨h0, h1⟩
    · clear h e
      generalize (rv : Int) = rv at *
      generalize (lo : Int) = lo at *
      go_enter Tryd.func29, Tryd.ntmps29
      go_wp2_with fail
      go_ret
      exact ⟨rfl, bl_alloc (Below.refl _ _) _⟩
    · clear h e
      generalize (rv : Int) = rv at *
      generalize (lo : Int) = lo at *
      go_enter Tryd.func29, Tryd.ntmps29
      go_wp2_with fail
      go_ret
      exact ⟨rfl, bl_alloc (Below.refl _ _) _⟩
def tabL : List UInt8 := [48, 49, 50, 51, 52, 53, 54, 55, 56, 57, 97, 98, 99, 100, 101, 102, 48, 48, 65, 103]
theorem tab_cut : ∀ d : Fin 20, (⟨#[48, 49, 50, 51, 52, 53, 54, 55, 56, 57, 97, 98, 99, 100, 101, 102, 48, 48, 65, 103]⟩ : ByteArray).extract d.val (d.val + 1) = ⟨#[tabL.getD d.val 0]⟩ := by decide +kernel
theorem tab_slice (d : Nat) (hd : d < 20) (W : World) : (Instr.slice 9 (.string ⟨#[48, 49, 50, 51, 52, 53, 54, 55, 56, 57, 97, 98, 99, 100, 101, 102, 48, 48, 65, 103]⟩) (some (.int .u8 (d : Int))) (some (.int .u8 ((d : Int) + 1))) none).run Tryd.prog W = .ok (.string ⟨#[tabL.getD d 0]⟩) W := by
  rw [run_slice_string W 9 _ .u8 .u8 (d : Int) ((d : Int) + 1) Tryd.underlying9 (by omega) (by omega) (by show (d : Int) + 1 ≤ 20; omega)]
  have := tab_cut ⟨d, hd⟩
  simp only at this
  rw [show ((d : Int) + 1).toNat = d + 1 by omega, Int.toNat_natCast, this]
/-- The span's cells are as they came. -/
abbrev Held (w : World) (b : Nat) (c0 c2 c3 c4 c5 c6 c7 c8 : Value) (lo rv : Nat) (W : World) : Prop :=
  W.cell? ⟨b, 0, none⟩ = some c0 ∧ W.cell? ⟨b, 1, none⟩ = some (.int .u64 (lo : Int)) ∧ W.cell? ⟨b, 2, none⟩ = some c2 ∧ W.cell? ⟨b, 3, none⟩ = some c3 ∧ W.cell? ⟨b, 4, none⟩ = some c4 ∧ W.cell? ⟨b, 5, none⟩ = some c5 ∧ W.cell? ⟨b, 6, none⟩ = some c6 ∧ W.cell? ⟨b, 7, none⟩ = some c7 ∧ W.cell? ⟨b, 8, none⟩ = some c8 ∧ W.cell? ⟨b, 9, none⟩ = some (.int .u64 (rv : Int)) ∧ Below w.heap.size w W
theorem held_of {w W : World} {b : Nat} {c0 c2 c3 c4 c5 c6 c7 c8 : Value} {lo rv : Nat} (h : Blk W b 52 #[c0, .int .u64 (lo : Int), c2, c3, c4, c5, c6, c7, c8, .int .u64 (rv : Int)]) (hb : Below w.heap.size w W) : Held w b c0 c2 c3 c4 c5 c6 c7 c8 lo rv W :=
  ⟨h.cell 0, h.cell 1, h.cell 2, h.cell 3, h.cell 4, h.cell 5, h.cell 6, h.cell 7, h.cell 8, h.cell 9, hb⟩
theorem Held.next {w W W' : World} {b : Nat} {c0 c2 c3 c4 c5 c6 c7 c8 : Value} {lo rv : Nat} (h : Held w b c0 c2 c3 c4 c5 c6 c7 c8 lo rv W) (k : Below W.heap.size W W') : Held w b c0 c2 c3 c4 c5 c6 c7 c8 lo rv W' := by
  obtain ⟨h0, h1, h2, h3, h4, h5, h6, h7, h8, h9, hb⟩ := h
  have hlt : b < W.heap.size := World.block_lt_of_cell? W _ h0
  have e : ∀ i, W'.cell? ⟨b, i, none⟩ = W.cell? ⟨b, i, none⟩ := fun i => k.cell (p := ⟨b, i, none⟩) hlt
  exact ⟨(e 0).trans h0, (e 1).trans h1, (e 2).trans h2, (e 3).trans h3, (e 4).trans h4, (e 5).trans h5, (e 6).trans h6, (e 7).trans h7, (e 8).trans h8, (e 9).trans h9, bnext hb k⟩
theorem Held.drewN {w W : World} {b : Nat} {c0 c2 c3 c4 c5 c6 c7 c8 : Value} {lo rv : Nat} (h : Held w b c0 c2 c3 c4 c5 c6 c7 c8 lo rv W) (n : Nat) : Held w b c0 c2 c3 c4 c5 c6 c7 c8 lo rv (W.drewN n) := by
  obtain ⟨h0, h1, h2, h3, h4, h5, h6, h7, h8, h9, hb⟩ := h
  exact ⟨h0, h1, h2, h3, h4, h5, h6, h7, h8, h9, pw_below_drewN hb n⟩
theorem Held.drew {w W : World} {b : Nat} {c0 c2 c3 c4 c5 c6 c7 c8 : Value} {lo rv : Nat} (h : Held w b c0 c2 c3 c4 c5 c6 c7 c8 lo rv W) : Held w b c0 c2 c3 c4 c5 c6 c7 c8 lo rv W.drew := by
  obtain ⟨h0, h1, h2, h3, h4, h5, h6, h7, h8, h9, hb⟩ := h
  exact ⟨h0, h1, h2, h3, h4, h5, h6, h7, h8, h9, ⟨hb.os, hb.tape, hb.output, hb.size, hb.block⟩⟩
theorem parse_both (s : ByteArray) : ∃ (v : Nat) (c : Int), (c = 0 ∨ c = 31) ∧ (∀ w, Calls Tryd.prog 25 #[.string s] w fun e w' => e = .returned (.tuple #[.int .u64 (v : Int), .int .u16 c]) ∧ w' = w) ∧ (∀ w, Calls Tryd.prog 27 #[.string s] w fun e w' => e = .returned (.tuple #[.int .u64 (v : Int), .int .i64 c]) ∧ w' = w) := by
  by_cases h : s.size = 0 ∨ 14 < s.size
  · exact ⟨0, 31, .inr rfl, fun w => parse_len s w h, fun w => refParse_len s w h⟩
  · by_cases hx : allHex s.data.toList = true
    · refine ⟨pval s.data.toList s.size, 0, .inl rfl, fun w => ?_, fun w => ?_⟩
      · have := parse_main s w (by omega) (by omega)
        rw [if_pos hx] at this
        exact this
      · have := refParse_main s w (by omega) (by omega)
        rw [if_pos hx] at this
        exact this
    · refine ⟨0, 31, .inr rfl, fun w => ?_, fun w => ?_⟩
      · have := parse_main s w (by omega) (by omega)
        rw [if_neg hx] at this
        exact this
      · have := refParse_main s w (by omega) (by omega)
        rw [if_neg hx] at this
        exact this
theorem parses_short (s : ByteArray) (a : Option Addr) (len cap : Nat) (c0 c2 c3 c4 c5 c6 c7 c8 : Value) (lo rv : Nat) (w : World) (hT : Tab w) (h : 100 < (s.size : Int) ∨ ((s.size : Int) ≤ 100 ∧ 20 < (len : Int))) :
    Calls Tryd.prog 11 #[.string s, .slice a len cap, .agg #[c0, .int .u64 (lo : Int), c2, c3, c4, c5, c6, c7, c8, .int .u64 (rv : Int)]] w fun e w' => e = .returned (.bool true) ∧ Below w.heap.size w w' := by
  have hA := bl_alloc (Below.refl w.heap.size w) (.cells #[c0, .int .u64 (lo : Int), c2, c3, c4, c5, c6, c7, c8, .int .u64 (rv : Int)] 52)
  obtain ⟨n, hn⟩ : ∃ n : Nat, (s.size : Int) = (n : Int) := ⟨_, rfl⟩
  rcases h with h | ⟨h, h2⟩
  · go_enter Tryd.func11, Tryd.ntmps11
    go_wp2_with fail
    refine (known_calls _ (hT.below hA)).mono ?_
    rintro e w1 ⟨rfl, hb⟩
    go_wp2
    go_ret
    exact ⟨rfl, bnext hA hb⟩
  · go_enter Tryd.func11, Tryd.ntmps11
    go_wp2_with fail
    refine (known_calls _ (hT.below hA)).mono ?_
    rintro e w1 ⟨rfl, hb⟩
    go_wp2
    go_ret
    exact ⟨rfl, bnext hA hb⟩
set_option maxHeartbeats 1000000 in
theorem parses_walk (s : ByteArray) (a : Option Addr) (len cap : Nat) (zs : List Int) (c0 c2 c3 c4 c5 c6 c7 c8 : Value) (lo rv : Nat) (w : World) (hT : Tab w) (hlo : lo < 18446744073709551616) (hs : (s.size : Int) ≤ 100) (hl : (len : Int) ≤ 20) (hc : IntRow .u8 w a len cap zs) :
    Calls Tryd.prog 11 #[.string s, .slice a len cap, .agg #[c0, .int .u64 (lo : Int), c2, c3, c4, c5, c6, c7, c8, .int .u64 (rv : Int)]] w fun e w' => e = .returned (.bool true) ∧ Below w.heap.size w w' := by
  have hA := bl_alloc (Below.refl w.heap.size w) (.cells #[c0, .int .u64 (lo : Int), c2, c3, c4, c5, c6, c7, c8, .int .u64 (rv : Int)] 52)
  have hB0 := Blk.new w 52 #[c0, .int .u64 (lo : Int), c2, c3, c4, c5, c6, c7, c8, .int .u64 (rv : Int)]
  obtain ⟨n, hn⟩ : ∃ n : Nat, (s.size : Int) = (n : Int) := ⟨_, rfl⟩
  go_enter Tryd.func11, Tryd.ntmps11
  go_wp2_with fail
  refine (known_calls _ (hT.below hA)).mono ?_
  rintro e w2 ⟨rfl, hb⟩
  have hB1 := hB0.next hb
  have hb := bnext hA hb
  clear hA hB0
  obtain ⟨hrow, hwf⟩ := hc
  have hT1 := hT.below hb
  have hrow := RowOf.below hrow hb
  have HROW := Lib.hid hrow
  have HWF := Lib.hid hwf
  have HLEN := Lib.hid hrow.len_eq
  obtain ⟨b, hbe⟩ : ∃ b, b = w.heap.size := ⟨_, rfl⟩
  rw [← hbe] at hB1 ⊢
  have HB := Lib.hid hb
  clear hrow hwf hT hb hbe
  go_wp2_with fail
  go_loopw [7, 8] (fun t i wr => ∃ (k : Nat) (x : ByteArray), (k : Int) ≤ (len : Int) ∧ t = .string x ∧ i = .int .i64 (k : Int) ∧ (x.size : Int) = (k : Int) ∧ ∃ nd, wr = w2.drewN nd) (fun _ i _ => len - (intOf i).toNat)
  case atStart => exact ⟨0, ⟨#[]⟩, by omega, rfl, rfl, rfl, 0, rfl⟩
  case round =>
    obtain ⟨k, x, hk, rfl, rfl, hx, nd, rfl⟩ := hrel
    by_cases hlt : (k : Int) < (len : Int)
    · have hidx := fun W => HROW.out.index Tryd.prog 49 5 Tryd.underlying49 (by kernel_rfl) k (by omega) W
      have hcell := HROW.out.cell k (by omega)
      have hz := HWF.out (zs.getD k 0) (by rw [List.getD_eq_getElem?_getD, List.getElem?_eq_getElem (by rw [HLEN.out]; omega)]; exact List.getElem_mem _)
      obtain ⟨z, hz1, hz2⟩ := nat8_of_wf hz
      rw [hz1] at hcell
      obtain ⟨d, hd⟩ : ∃ d : Nat, (z : Int) % 20 = (d : Int) := ⟨z % 20, by omega⟩
      have hd20 : d < 20 := by omega
      have hsl := fun W => tab_slice d hd20 W
      obtain ⟨c, hc⟩ : ∃ c : ByteArray, c = ⟨#[tabL.getD d 0]⟩ := ⟨_, rfl⟩
      have hcs : (c.size : Int) = 1 := by rw [hc]; rfl
      rw [← hc] at hsl
      have hfr : ((adr a k) : Addr) = adr a k := rfl
      clear hz hz1 hc
      generalize adr a k = p at *
      go_wp2_with fail
      go_quiet (fail)
      go_wp2_with fail
      go_roundw
      case rel => exact ⟨k + 1, x ++ c, by omega, rfl, by go_num, by rw [ByteArray.size_append]; omega, nd + nq, rfl⟩
      case measure => simp [intOf]; omega
    · obtain ⟨v1, e1, f1, P1, Q1⟩ := parse_both s
      obtain ⟨v2, e2, f2, P2, Q2⟩ := parse_both x
      have P1 := Lib.hid P1
      have Q1 := Lib.hid Q1
      have P2 := Lib.hid P2
      have Q2 := Lib.hid Q2
      rcases f1 with rfl | rfl <;> rcases f2 with rfl | rfl
      all_goals
        clear HROW HWF HLEN
        go_wp2_with fail
        refine (P1.out _).mono ?_
        rintro e w3 ⟨rfl, rfl⟩
        go_wp2_with fail
        refine (Q1.out _).mono ?_
        rintro e w3 ⟨rfl, rfl⟩
        go_wp2_with fail
        refine (P2.out _).mono ?_
        rintro e w3 ⟨rfl, rfl⟩
        go_wp2_with fail
        refine (Q2.out _).mono ?_
        rintro e w3 ⟨rfl, rfl⟩
        have HN := Lib.hid (fun (W : World) (h : Held w b c0 c2 c3 c4 c5 c6 c7 c8 lo rv W) => (number_calls c0 c2 c3 c4 c5 c6 c7 c8 lo rv W hlo).mono (R' := fun e w' => e = .returned (.int .u64 (numb lo rv : Int)) ∧ Held w b c0 c2 c3 c4 c5 c6 c7 c8 lo rv w') fun e w' ⟨h1, h2⟩ => ⟨h1, h.next h2⟩)
        have HR := Lib.hid (fun (W : World) (h : Held w b c0 c2 c3 c4 c5 c6 c7 c8 lo rv W) => (refNumber_calls c0 c2 c3 c4 c5 c6 c7 c8 lo rv W).mono (R' := fun e w' => e = .returned (.int .u64 (numb lo rv : Int)) ∧ Held w b c0 c2 c3 c4 c5 c6 c7 c8 lo rv w') fun e w' ⟨h1, h2⟩ => ⟨h1, h.next h2⟩)
        have hS : Held w b c0 c2 c3 c4 c5 c6 c7 c8 lo rv (w2.drewN nd) := held_of (hB1.drewN nd) (pw_below_drewN HB.out nd)
        have HS0 := Lib.hid (held_of hB1 HB.out)
        have q1 : ((v1 : Int) == (v1 : Int)) = true := by simp
        have q3 : ((v2 : Int) == (v2 : Int)) = true := by simp
        have q5 : ((numb lo rv : Int) == (numb lo rv : Int)) = true := by simp
        generalize numb lo rv = nu at *
        unfold Held at HN HR hS
        clear hB1 HB P1 Q1 P2 Q2 hT1
        go_wp2_with fail
        go_region_held3 (fun W => W.cell? ⟨b, 0, none⟩ = some c0 ∧ W.cell? ⟨b, 1, none⟩ = some (.int .u64 (lo : Int)) ∧ W.cell? ⟨b, 2, none⟩ = some c2 ∧ W.cell? ⟨b, 3, none⟩ = some c3 ∧ W.cell? ⟨b, 4, none⟩ = some c4 ∧ W.cell? ⟨b, 5, none⟩ = some c5 ∧ W.cell? ⟨b, 6, none⟩ = some c6 ∧ W.cell? ⟨b, 7, none⟩ = some c7 ∧ W.cell? ⟨b, 8, none⟩ = some c8 ∧ W.cell? ⟨b, 9, none⟩ = some (.int .u64 (rv : Int)) ∧ Below w.heap.size w W)
          (first | assumption | exact hnew | exact Held.drew hS | go_keep)
          (first | (go_at_call 28; (with_reducible refine (HN.out _ (by first | assumption | exact Held.drewN HS0.out _)).mono ?_); rintro e w2 ⟨rfl, hnew⟩) | (go_at_call 29; (with_reducible refine (HR.out _ (by first | assumption | exact Held.drewN HS0.out _)).mono ?_); rintro e w2 ⟨rfl, hnew⟩))
        all_goals go_wp2
        go_ret
        refine ⟨rfl, ?_⟩
        obtain ⟨_, _, _, _, _, _, _, _, _, _, hfin⟩ : Held w b c0 c2 c3 c4 c5 c6 c7 c8 lo rv _ := by assumption
        exact hfin
/-- The law, of a span whose first and last numbers are known. -/
theorem probParses_walk (s : ByteArray) (a : Option Addr) (len cap : Nat) (zs : List Int) (c0 c2 c3 c4 c5 c6 c7 c8 : Value) (lo rv : Int) (w : World) (hs : s.size ≤ 140737488351232) (hc : IntRow .u8 w a len cap zs) (hl : len * 1 ≤ 140737488351232) (h1 : (Lit.int .u64 lo).wf = true) (h2 : (Lit.int .u64 rv).wf = true) (hT : Tab w) :
    Calls Tryd.prog 11 #[.string s, .slice a len cap, .agg #[c0, .int .u64 lo, c2, c3, c4, c5, c6, c7, c8, .int .u64 rv]] w fun e w' => e = .returned (.bool true) ∧ Below w.heap.size w w' := by
  obtain ⟨lo, rfl, lo1⟩ := nat_of_wf h1
  obtain ⟨rv, rfl, rv1⟩ := nat_of_wf h2
  by_cases h : 100 < (s.size : Int) ∨ ((s.size : Int) ≤ 100 ∧ 20 < (len : Int))
  · exact parses_short s a len cap c0 c2 c3 c4 c5 c6 c7 c8 lo rv w hT h
  · exact parses_walk s a len cap zs c0 c2 c3 c4 c5 c6 c7 c8 lo rv w hT (by omega) (by omega) (by omega) hc
end Go.Proofs.YtaejdkfonlkhaaaDoor.Tele
