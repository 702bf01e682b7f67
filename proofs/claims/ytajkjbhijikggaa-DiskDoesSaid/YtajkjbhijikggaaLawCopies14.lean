/- The walk of the law DiskCopies. No conditions. -/
import Derived.Test.YtajkjbhijikggaaCopy
namespace Go.Proofs.Ytajkjbhijikggaa.Tele
open Go.RowKit
set_option linter.unusedVariables false
set_option linter.unusedSimpArgs false

/-- Two disks that the law made, apart. -/
def Two (o1 o2 : Bool) (w0 w : World) (d : Nat) (f1 : Fs) (c : Nat) (f2 : Fs) : Prop :=
  ∃ O1 O2, (∀ j, O1 j → w0.heap.size ≤ j) ∧ (∀ j, O2 j → w0.heap.size ≤ j) ∧ (∀ j, O1 j → ¬ O2 j) ∧ IsD o1 w O1 d f1 ∧ IsD o2 w O2 c f2 ∧ Below w0.heap.size w0 w
theorem Two.swap {o1 o2 : Bool} {w0 w : World} {d c : Nat} {f1 f2 : Fs} (h : Two o1 o2 w0 w d f1 c f2) : Two o2 o1 w0 w c f2 d f1 := by
  obtain ⟨O1, O2, h1, h2, h3, h4, h5, h6⟩ := h
  exact ⟨O2, O1, h2, h1, fun j hj hh => h3 j hh hj, h5, h4, h6⟩
theorem Two.one {o1 o2 : Bool} {w0 w : World} {d c : Nat} {f1 f2 : Fs} (h : Two o1 o2 w0 w d f1 c f2) : MineD o1 w0 w d f1 := by
  obtain ⟨O1, O2, h1, h2, h3, h4, h5, h6⟩ := h
  exact ⟨O1, h1, h4, h6⟩
theorem Two.next {o1 o2 : Bool} {w0 w w' : World} {d c : Nat} {f1 f2 : Fs} (h : Two o1 o2 w0 w d f1 c f2) (k : Below w.heap.size w w') : Two o1 o2 w0 w' d f1 c f2 := by
  obtain ⟨O1, O2, h1, h2, h3, h4, h5, h6⟩ := h
  exact ⟨O1, O2, h1, h2, h3, h4.next k, h5.next k, bnext h6 k⟩
theorem Two.of {o1' o2 : Bool} {w0 w w' : World} {d c : Nat} {f1' f2 : Fs} {O1 O1' O2 : Nat → Prop} (h1 : ∀ j, O1 j → w0.heap.size ≤ j) (h2 : ∀ j, O2 j → w0.heap.size ≤ j) (h3 : ∀ j, O1 j → ¬ O2 j) (h5 : IsD o2 w O2 c f2) (h6 : Below w0.heap.size w0 w)
    (hD : IsD o1' w' O1' d f1') (hO : ∀ j, O1' j → O1 j ∨ w.heap.size ≤ j) (hc : Chg O1 w w') : Two o1' o2 w0 w' d f1' c f2 := by
  obtain ⟨b, m, F, V, h5⟩ := h5
  exact ⟨O1', O2, fun j hj => (hO j hj).elim (h1 j) fun hh => Nat.le_trans h6.size hh, h2, fun j hj hh => (hO j hj).elim (fun h => h3 j h hh) fun h => by have := h5.hO j hh; omega, hD, ⟨b, m, F, V, h5.far hc fun j hj hh => h3 j hh hj⟩, bchg h6 hc h1⟩
theorem two_copy (own : Bool) (w0 : World) (d : Nat) (fs : Fs) (w : World) (h : MineD own w0 w d fs) :
    Calls Try.prog 18 #[.pointer (some ⟨d, 0, none⟩)] w fun e w' => ∃ c, e = .returned (.pointer (some ⟨c, 0, none⟩)) ∧ Two own true w0 w' d fs c fs := by
  obtain ⟨O, h1, h2, h3⟩ := h
  have hO : ∀ j, O j → j < w.heap.size := by obtain ⟨b, m, F, V, hh⟩ := h2; exact hh.hO
  refine (copy_calls own O d fs w h2).mono ?_
  rintro e w' ⟨c, rfl, hD, hb⟩
  exact ⟨c, rfl, O, _, h1, fun j hj => Nat.le_trans h3.size hj.1, fun j hj hh => by have := hO j hj; have := hh.1; omega, h2.next hb, hD, bnext h3 hb⟩
theorem two_write (o2 : Bool) (w0 : World) (d c : Nat) (fs f2 : Fs) (k : Int) (a : Option Addr) (n cap : Nat) (bs : List UInt8) (w : World) (h : Two true o2 w0 w d fs c f2) (hk0 : 0 ≤ k) (hk1 : k ≤ 1099511627776) (hn : n = bs.length)
    (hb : RowOf e8 0 w a n cap bs) (hx : ∀ ad, a = some ad → 0 < n → ad.block < w0.heap.size) (hl : fs.length < 100000) (hsz : (((fs.get k).map (·.bytes)).getD []).length + bs.length ≤ 1000000) :
    Calls Try.prog 11 #[.pointer (some ⟨d, 0, none⟩), .int .i64 k, .slice a n cap] w fun e w' => e = .returned (.int .u16 0) ∧ Two true o2 w0 w' d (fs.write k bs) c f2 := by
  subst hn
  obtain ⟨O1, O2, h1, h2, h3, h4, h5, h6⟩ := h
  refine (write_calls O1 d fs k a cap bs w h4 hk0 hk1 hb (fun ad had hp ho => by have := hx ad had hp; have := h1 _ ho; omega) hl hsz).mono ?_
  rintro e w' ⟨rfl, O', hD, hO, hc⟩
  exact ⟨rfl, .of h1 h2 h3 h5 h6 hD hO hc⟩
theorem two_sync (own o2 : Bool) (w0 : World) (d c : Nat) (fs f2 : Fs) (k : Int) (w : World) (h : Two own o2 w0 w d fs c f2) (hk : (Lit.int .i64 k).wf = true) :
    Calls Try.prog 12 #[.pointer (some ⟨d, 0, none⟩), .int .i64 k] w fun e w' => e = .returned (.int .u16 (if (fs.get k).isSome then 0 else 71)) ∧ Two own o2 w0 w' d (fs.sync k) c f2 := by
  obtain ⟨O1, O2, h1, h2, h3, h4, h5, h6⟩ := h
  refine (sync_calls own O1 d fs k w h4 hk).mono ?_
  rintro e w' ⟨rfl, hD, hc⟩
  exact ⟨rfl, .of h1 h2 h3 h5 h6 hD (fun j hj => hj.elim .inl fun hh => .inr hh.1) hc⟩
theorem two_crash (own o2 : Bool) (w0 : World) (d c : Nat) (fs f2 : Fs) (draw : Nat) (w : World) (h : Two own o2 w0 w d fs c f2) (hd : draw < 18446744073709551616) :
    Calls Try.prog 14 #[.pointer (some ⟨d, 0, none⟩), .int .u64 (draw : Int)] w fun e w' => e = .returned (.tuple #[]) ∧ Two false o2 w0 w' d (fs.crash draw) c f2 := by
  obtain ⟨O1, O2, h1, h2, h3, h4, h5, h6⟩ := h
  refine (crash_calls own O1 d fs draw w h4 hd).mono ?_
  rintro e w' ⟨rfl, O', hD, hO, hc⟩
  exact ⟨rfl, .of h1 h2 h3 h5 h6 hD hO hc⟩
/-- What was read is written to. -/
theorem mine_cell {own : Bool} {w0 w w1 : World} {d : Nat} {fs : Fs} (h : MineD own w0 w d fs) (hb : Below w.heap.size w w1) {g : Nat} (hg : w.heap.size ≤ g) (i : Nat) (u : Value) : MineD own w0 (w1.setCell ⟨g, i, none⟩ u) d fs := by
  obtain ⟨O, h1, ⟨b, m, F, V, h2⟩, h3⟩ := h
  have hc : Chg (fun j => j = g) w1 (w1.setCell ⟨g, i, none⟩ u) := Chg.setCell (S := fun j => j = g) (p := ⟨g, i, none⟩) (Chg.refl _ _) (.inl rfl) _
  exact ⟨O, h1, ⟨b, m, F, V, (h2.next hb).far hc fun j hj e => by have := h2.hO j hj; omega⟩, bchg (bnext h3 hb) hc fun j e => by rw [e]; have := h3.size; omega⟩
theorem own_first {w : World} {B : Nat} {v : Value} {bs : List UInt8} (h : w.ownsRow B 5 1 v bs.length (bs.map e8)) (hp : 0 < bs.length) : ∃ g cap, v = .slice (some ⟨g, 0, none⟩) bs.length cap ∧ B ≤ g ∧ bs.length ≤ cap ∧ cap ≤ 9223372036854775807 ∧ w.cell? ⟨g, 0, none⟩ = some (e8 (bs.getD 0 0)) ∧ w.frozen? ⟨g, 0, none⟩ = false := by
  obtain ⟨hl, h⟩ := h
  rcases h with ⟨rfl, h0⟩ | ⟨g, cap, cur, rfl, hg, hh, h1, h2, h3, h4⟩
  · omega
  · refine ⟨g, cap, rfl, hg, h1, h2, ?_, by simp [World.frozen?, hh]⟩
    rw [cell_of_row w g 0 cur 5 (0, 0) hh]
    have h5 : cur.toList[0]? = (bs.map e8)[0]? := by
      rw [← h4, List.getElem?_take, if_pos (by omega)]
    rw [Array.getElem?_toList] at h5
    rw [h5, List.getElem?_map, List.getElem?_eq_getElem hp, List.getD_eq_getElem?_getD, List.getElem?_eq_getElem hp]
    rfl
set_option maxRecDepth 8000 in
set_option maxHeartbeats 2000000 in
theorem diskCopies_walk (a : Option Addr) (la ca : Nat) (za : List Int) (b : Option Addr) (lb cb : Nat) (zb : List Int) (w : World) (ha : IntRow .u8 w a la ca za) (hla : la * 1 ≤ 140737488351232) (hb : IntRow .u8 w b lb cb zb) (hlb : lb * 1 ≤ 140737488351232) :
    Calls Try.prog 6 #[.slice a la ca, .slice b lb cb] w fun e w' => e = .returned (.bool true) ∧ Below w.heap.size w w' := by
  have hra := row8 ha
  have hrb := row8 hb
  obtain ⟨A, hA⟩ : ∃ A, A = b8 za := ⟨_, rfl⟩
  obtain ⟨B, hB⟩ : ∃ B, B = b8 zb := ⟨_, rfl⟩
  rw [← hA] at hra
  rw [← hB] at hrb
  have hAl : la = A.length := hra.len_eq.symm
  have hBl : lb = B.length := hrb.len_eq.symm
  have DN := Lib.hid (dnew w)
  have HRA := Lib.hid hra
  have HRB := Lib.hid hrb
  have HAL := Lib.hid hAl
  have HBL := Lib.hid hBl
  have hla9 : (la : Int) ≤ 140737488351232 := by omega
  have hlb9 : (lb : Int) ≤ 140737488351232 := by omega
  clear ha hb hra hrb hA hB hAl hBl hla hlb
  by_cases hl0 : la = 0
  · have hl00 : ((la : Int) == 0) = true := by rw [hl0]; rfl
    go_enter Try.func6, Try.ntmps6
    go_wp2_with fail
    refine DN.out.mono ?_
    rintro e w1 ⟨dd, rfl, hM⟩
    have HM := Lib.hid hM
    clear hM
    go_wp2_with fail
    refine (known_calls _).mono ?_
    rintro e w2 ⟨rfl, hb⟩
    go_wp2
    go_ret
    exact ⟨rfl, (HM.out.next hb).below⟩
  have hl00 : ((la : Int) == 0) = false := by rw [beq_eq_false_iff_ne]; omega
  by_cases hlen : 300 < (la : Int) + (lb : Int)
  · go_enter Try.func6, Try.ntmps6
    go_wp2_with fail
    refine DN.out.mono ?_
    rintro e w1 ⟨dd, rfl, hM⟩
    have HM := Lib.hid hM
    clear hM
    go_wp2_with fail
    refine (known_calls _).mono ?_
    rintro e w2 ⟨rfl, hb⟩
    go_wp2
    go_ret
    exact ⟨rfl, (HM.out.next hb).below⟩
  · have W1 := Lib.hid fun dd W h hra' => dwrite w dd [] 1 a la ca A W h (by omega) (by omega) HAL.out hra' (fun ad had hp => rowlt HRA.out hp ad had) (by decide) (by show 0 + A.length ≤ _; have := HAL.out; omega)
    have e1 : Fs.write [] 1 A = [(1, ⟨A, 0⟩)] := rfl
    rw [e1] at W1
    obtain ⟨s1, hs1⟩ : ∃ s1 : Fs, s1 = [(1, ⟨A, 0⟩)] := ⟨_, rfl⟩
    rw [← hs1] at W1
    have g1 : s1.get 1 = some ⟨A, 0⟩ := by rw [hs1]; rfl
    have l1 : s1.length = 1 := by rw [hs1]; rfl
    have CP := Lib.hid fun dd W h => two_copy true w dd s1 W h
    have W2 := Lib.hid fun dd c W h hrb' => two_write true w c dd s1 s1 1 b lb cb B W h (by omega) (by omega) HBL.out hrb' (fun ad had hp => rowlt HRB.out hp ad had) (by rw [l1]; decide) (by rw [g1]; show A.length + B.length ≤ _; have := HBL.out; have := HAL.out; omega)
    obtain ⟨s2, hs2⟩ : ∃ s2, s2 = Fs.write s1 1 B := ⟨_, rfl⟩
    have e2 : s2 = [(1, ⟨A ++ B, 0⟩)] := by rw [hs2, hs1]; rfl
    have g2 : (s2.get 1).isSome = true := by rw [e2]; rfl
    rw [← hs2] at W2
    have S2 := Lib.hid fun dd c W h => by have := two_sync true true w c dd s2 s1 1 W h (by decide); rw [g2, if_pos rfl] at this; exact this
    obtain ⟨s3, hs3⟩ : ∃ s3, s3 = Fs.sync s2 1 := ⟨_, rfl⟩
    have e3 : s3 = [(1, ⟨A ++ B, (A ++ B).length⟩)] := by rw [hs3, e2]; rfl
    have g3 : s3.get 2 = none := by rw [e3]; rfl
    have l3 : s3.length = 1 := by rw [e3]; rfl
    rw [← hs3] at S2
    have W3 := Lib.hid fun dd c W h hrb' => two_write true w c dd s3 s1 2 b lb cb B W h (by omega) (by omega) HBL.out hrb' (fun ad had hp => rowlt HRB.out hp ad had) (by rw [l3]; decide) (by rw [g3]; show 0 + B.length ≤ _; have := HBL.out; omega)
    have R1 := Lib.hid fun dd W h => by have := dread true w dd s1 1 W h (by decide); rw [g1, show (some (⟨A, 0⟩ : FileM)).isSome = true from rfl, if_pos rfl] at this; exact this
    have U1 := Lib.hid fun dd W h => by have := dsure true w dd s1 1 W h (by decide); rw [g1] at this; exact this
    have F1 := Lib.hid fun dd W h => by have := dfiles true w dd s1 W h; rw [hs1, show List.map (fun x => x.1) [((1 : Int), (⟨A, 0⟩ : FileM))] = [1] from rfl] at this; exact this
    clear e1 hs1 g1 l1 hs2 e2 g2 hs3 e3 g3 l3
    have hlA : (A.length : Int) = (la : Int) := by rw [HAL.out]
    have hqa : ((la : Int) == (la : Int)) = true := by simp
    go_enter Try.func6, Try.ntmps6
    go_wp2_with fail
    refine DN.out.mono ?_
    rintro e w1 ⟨dd, rfl, hM⟩
    have HM := Lib.hid hM
    clear hM
    go_wp2_with fail
    refine (W1.out _ _ HM.out (HRA.out.below HM.out.below)).mono ?_
    rintro e w3 ⟨rfl, hM⟩
    have HM3 := Lib.hid hM
    clear hM HM
    go_wp2_with fail
    refine (CP.out _ _ HM3.out).mono ?_
    rintro e w4 ⟨c, rfl, hM⟩
    have HM4 := Lib.hid hM.swap
    clear hM HM3
    go_wp2_with fail
    refine (W2.out _ _ _ HM4.out (HRB.out.below HM4.out.one.below)).mono ?_
    rintro e w5 ⟨rfl, hM⟩
    have HM5 := Lib.hid hM
    clear hM HM4
    go_wp2_with fail
    refine (S2.out _ _ _ HM5.out).mono ?_
    rintro e w6 ⟨rfl, hM⟩
    have HM6 := Lib.hid hM
    clear hM HM5
    go_wp2_with fail
    refine (W3.out _ _ _ HM6.out (HRB.out.below HM6.out.one.below)).mono ?_
    rintro e w7 ⟨rfl, hM⟩
    have HM7 := Lib.hid hM.swap.one
    clear hM HM6
    go_wp2_with fail
    refine (R1.out _ _ HM7.out).mono ?_
    rintro e w8 ⟨v8, rfl, hb8, ho8⟩
    obtain ⟨g8, c8, rfl, hg8, hc8, hc9, hcell, hfro⟩ := own_first ho8 (by show 0 < A.length; rw [← HAL.out]; omega)
    have HM8 := Lib.hid fun u => mine_cell HM7.out hb8 hg8 0 u
    have hcl : w8.cell? ⟨g8, 0, none⟩ = some (.int .u8 ((A.getD 0 0).toNat : Int)) := hcell
    have hx0 : ((A.getD 0 0).toNat : Int) < 256 := by have := (A.getD 0 0).toNat_lt; omega
    generalize (A.getD 0 0).toNat = x0 at *
    rw [show ((Option.map (fun x => x.bytes) (some (⟨A, 0⟩ : FileM))).getD []).length = la from HAL.out.symm] at *
    clear hcell ho8 hb8 hg8
    go_wp2_with fail
    refine (R1.out _ _ (HM8.out _)).mono ?_
    rintro e w9 ⟨v9, rfl, hb9, ho9⟩
    have HM9 := Lib.hid ((HM8.out _).next hb9)
    obtain ⟨B9, ho'⟩ : ∃ B9, w9.ownsRow B9 5 1 v9 A.length (A.map e8) := ⟨_, by rw [← HAL.out]; exact ho9⟩
    have hby := bytes_of ho'
    have HBY := Lib.hid hby
    obtain ⟨a9, l9, c9, hv9⟩ := own_slice ho'
    rw [hv9]
    clear ho9 ho' hb9 hby HM8 HM7 hcl hfro hc8 hc9 hx0
    go_wp2_with fail
    refine (known_calls _).mono ?_
    rintro e w10 ⟨rfl, hb⟩
    have hM10 := HM9.out.next hb
    have hsa := str_of (w := w10) (v := .slice a la ca) (bs := A) ⟨a, ca, by rw [HAL.out], by rw [← HAL.out]; exact HRA.out.below hM10.below⟩
    have hsc : (convert 22 9 (.slice a9 l9 c9)).run Try.prog w10 = .ok (.string ⟨A.toArray⟩) w10 := by
      obtain ⟨a', c', e1, e2⟩ := HBY.out
      rw [← hv9]
      exact str_of ⟨a', c', e1, e2.below hb⟩
    have HM10 := Lib.hid hM10
    generalize (⟨A.toArray⟩ : ByteArray) = SA at *
    clear hb hM10 hv9
    go_wp2_with fail
    refine (U1.out _ _ HM10.out).mono ?_
    rintro e w11 ⟨rfl, rfl⟩
    rw [show (((Option.map (fun x => x.sure) (some (⟨A, 0⟩ : FileM))).getD 0 : Nat) : Int) = 0 from rfl]
    go_wp2_with fail
    refine (F1.out _ _ HM10.out).mono ?_
    rintro e w12 ⟨v12, rfl, ⟨a12, c12, rfl, _⟩, hb12⟩
    have HB12 := Lib.hid (HM10.out.next hb12).below
    rw [show ([1] : List Int).length = 1 from rfl]
    clear hb12
    go_wp2_with fail
    go_ret
    exact ⟨rfl, HB12.out⟩
end Go.Proofs.Ytajkjbhijikggaa.Tele
