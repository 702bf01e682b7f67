/- The walk of the law SketchCounts. No conditions. -/
import Derived.Test.YtppholbjhhlglaaPairK
import Derived.Test.YtppholbjhhlglaaKnown7
import Derived.Test.YtppholbjhhlglaaKey
import Derived.Deep.RegionHeld3
namespace Go.Proofs.Ytppholbjhhlglaa.Tele
open Go.RowKit Go.Proofs.YtppholbjhhlglaaW.PrintWords
set_option linter.unusedVariables false
set_option linter.unusedSimpArgs false

theorem set4 {w : World} {g : Nat} {t : TypeId} {a b c d a' b' c' d' : Value} (h : Blk w g t #[a, b, c, d]) : Blk ((((w.setCell ⟨g, 0, none⟩ a').setCell ⟨g, 1, none⟩ b').setCell ⟨g, 2, none⟩ c').setCell ⟨g, 3, none⟩ d') g t #[a', b', c', d'] :=
  (((h.set_ 0 a').set_ 1 b').set_ 2 c').set_ 3 d'
set_option maxRecDepth 8000 in
set_option maxHeartbeats 40000000 in
theorem sketchCounts_walk (rows width x a b : Int) (ca : Option Addr) (len cap : Nat) (cs : List Int) (na : Option Addr) (nlen ncap : Nat) (ns : List Int) (ma : Option Addr) (mlen mcap : Nat) (ms : List Int) (ka : Option Addr) (klen kcap : Nat) (ks : List ByteArray) (w : World)
    (hrows : (Lit.int .i64 rows).wf = true) (hwidth : (Lit.int .i64 width).wf = true) (hx : (Lit.int .u64 x).wf = true) (ha : (Lit.int .u8 a).wf = true) (hb : (Lit.int .u8 b).wf = true) (hc : IntRow .u8 w ca len cap cs) (hl : len * 1 ≤ 140737488351232) (hn : IntRow .u8 w na nlen ncap ns) (hnl : nlen * 1 ≤ 140737488351232)
    (hm : IntRow .u64 w ma mlen mcap ms) (hml : mlen * 8 ≤ 140737488351232) (hk : StrRow w ka klen kcap ks) (hkl : klen * 16 ≤ 140737488351232) :
    Calls Try.prog 4 #[.int .i64 rows, .int .i64 width, .int .u64 x, .int .u8 a, .int .u8 b, .slice ca len cap, .slice na nlen ncap, .slice ma mlen mcap, .slice ka klen kcap] w fun e w' => e = .returned (.bool true) ∧ Below w.heap.size w w' := by
  obtain ⟨X, rfl⟩ := u_of_wf hx
  obtain ⟨ha0, ha1⟩ := u8_of_wf ha
  obtain ⟨hb0, hb1⟩ := u8_of_wf hb
  obtain ⟨A, hA, hA1, hA2⟩ : ∃ A : Nat, (A : Int) = 1 + a % 4 ∧ 1 ≤ A ∧ A ≤ 8 := ⟨(1 + a % 4).toNat, by omega, by omega, by omega⟩
  obtain ⟨B, hB, hB1, hB2⟩ : ∃ B : Nat, (B : Int) = 1 + b % 20 ∧ 1 ≤ B ∧ B ≤ 1024 := ⟨(1 + b % 20).toNat, by omega, by omega, by omega⟩
  have HA := Lib.hid hA
  have HB := Lib.hid hB
  have HC := Lib.hid hc
  have HN := Lib.hid hn
  have HM := Lib.hid hm
  have HK := Lib.hid hk
  clear hA hB hx ha hb hc hn hm hk hrows hwidth hl hnl hml hkl
  by_cases hbig : (20 : Int) < (klen : Int)
  · go_enter Try.func4, Try.ntmps4
    go_wp2_with fail
    refine (known_calls _).mono ?_
    rintro e w2 ⟨rfl, hb⟩
    go_wp2
    go_ret
    exact ⟨rfl, hb⟩
  · by_cases hlen : (40 : Int) < (len : Int)
    · go_enter Try.func4, Try.ntmps4
      go_wp2_with fail
      refine (known_calls _).mono ?_
      rintro e w2 ⟨rfl, hb⟩
      go_wp2
      go_ret
      exact ⟨rfl, hb⟩
    · by_cases hno : rows < 1 ∨ 8 < rows ∨ width < 1 ∨ 1024 < width
      · go_enter Try.func4, Try.ntmps4
        go_wp2_with fail
        refine (known_calls _).mono ?_
        rintro e w1 ⟨rfl, hb1⟩
        go_wp2_with fail
        refine (new_no rows width X _ hno).mono ?_
        rintro e w_ ⟨rfl, rfl⟩
        go_wp2_with fail
        refine (none_no rows width _ hno).mono ?_
        rintro e w3 ⟨rfl, hb2⟩
        have hb3 := bnext hb1 hb2
        clear hb1 hb2 hno
        go_wp2_with fail
        rw [← HA.out, ← HB.out]
        refine (new_any A B X _ hA1 hA2 hB1 hB2).mono ?_
        rintro e w4 ⟨p, c, rfl, hb4, hs, hp, hcc⟩
        have hp' := Nat.le_trans hb3.size hp
        have hcc' := Nat.le_trans hb3.size hcc
        have hb4' := bnext hb3 hb4
        clear hb3 hb4 hp hcc
        go_wp2_with fail
        rw [← HA.out, ← HB.out]
        refine (rnew A B X _ hA1 hA2 hB1 hB2).mono ?_
        rintro e w5 ⟨v, rfl, hR, hb5⟩
        have hP0 := pair_start (w0 := w) hb4' hp' hcc' hs hR hb5
        have hP := (hP0.alloc (.cells #[v, .int .i64 ((Sk.new A B X).W : Int), uv (Sk.new A B X).seed, nv (Sk.new A B X).total] 37)).fewer (G' := fun q => q = w5.heap.size) (fun q hq => .inr hq)
        have HP := Lib.hid hP
        have HG := Lib.hid (Blk.new w5 37 #[v, .int .i64 ((Sk.new A B X).W : Int), uv (Sk.new A B X).seed, nv (Sk.new A B X).total])
        obtain ⟨a0, c0, rfl⟩ := hP.slice
        clear hP hP0 hR hb5 hb4' hs hp' hcc'
        generalize Sk.new A B X = s0 at *
        go_wp2_with fail
        generalize w5.heap.size = g at *
        generalize w5.alloc _ = w6 at *
        go_loopw [22] (fun i wr => ∃ (k : Nat) (v : Value) (s : Sk), k ≤ len ∧ i = .int .i64 (k : Int) ∧ Hid (PairK w wr p c (fun q => q = g) v s s) ∧ Hid (Blk wr g 37 #[v, .int .i64 (s.W : Int), uv s.seed, nv s.total])) (fun i _ => len - (intOf i).toNat)
        case atStart => exact ⟨0, _, s0, by omega, rfl, HP, HG⟩
        case round =>
          clear HP HG
          obtain ⟨k, v, s, hk, rfl, HT, HG⟩ := hrel
          by_cases hlt : (k : Int) < (len : Int)
          · have hr := HC.out.1.below HT.out.below
            have hcell := hr.cell k (by omega)
            have hidx := fun W => hr.index Try.prog 23 5 Try.underlying23 (by kernel_rfl) k (by omega) W
            obtain ⟨hx0, hx1⟩ := u8_of_wf (HC.out.2 _ (getD_mem_or (j := k) (by rw [HC.out.1.1]; omega)))
            generalize cs.getD k 0 = x at *
            clear hr
            go_wp2_with fail
            refine (key_calls x _ hx0 hx1).mono ?_
            rintro e w7 ⟨rfl, hb7⟩
            have HT7 := Lib.hid (HT.out.next hb7).1
            have HG7 := Lib.hid (HG.out.next hb7)
            clear hb7 HT HG hcell hidx
            by_cases hkk : (k : Int) < (klen : Int)
            · have hrk := HK.out.1.below HT7.out.below
              have hck := hrk.cell k (by omega)
              have hik := fun W => hrk.index Try.prog 33 9 Try.underlying33 (by kernel_rfl) k (by omega) W
              generalize ks.getD k ByteArray.empty = y at *
              clear hrk
              by_cases hy : (y.size : Int) < 50
              · by_cases hkn : (k : Int) < (nlen : Int)
                · by_cases hkm : (k : Int) < (mlen : Int)
                  · have hrn := HN.out.1.below HT7.out.below
                    have hrm := HM.out.1.below HT7.out.below
                    have hcn := hrn.cell k (by omega)
                    have hcm := hrm.cell k (by omega)
                    have hin := fun W => hrn.index Try.prog 23 5 Try.underlying23 (by kernel_rfl) k (by omega) W
                    have him := fun W => hrm.index Try.prog 32 22 Try.underlying32 (by kernel_rfl) k (by omega) W
                    have hbn : ∀ W, Below w7.heap.size w7 W → W.cell? (adr na k) = some (.int .u8 (ns.getD k 0)) ∧ W.cell? (adr ma k) = some (.int .u64 (ms.getD k 0)) ∧ Below w7.heap.size w7 W := fun W h => ⟨(HN.out.1.below (bnext HT7.out.below h)).cell k (by omega), (HM.out.1.below (bnext HT7.out.below h)).cell k (by omega), h⟩
                    obtain ⟨q0, q1⟩ := u8_of_wf (HN.out.2 _ (getD_mem_or (j := k) (by rw [HN.out.1.1]; omega)))
                    obtain ⟨mk, hmk, hmk2⟩ := nat_of_wf (HM.out.2 _ (getD_mem_or (j := k) (by rw [HM.out.1.1]; omega)))
                    obtain ⟨nk, hnk⟩ : ∃ nk : Nat, ns.getD k 0 = (nk : Int) := ⟨(ns.getD k 0).toNat, by omega⟩
                    rw [hnk] at hcn hbn q0 q1
                    rw [hmk] at hcm hbn
                    have HBN := Lib.hid hbn
                    have HBI := Lib.hid fun W => big_calls nk mk W (by omega) hmk2
                    have hM9 := bigN_le nk mk hmk2
                    generalize bigN nk mk = M9 at *
                    clear hnk hmk hrn hrm hbn
                    go_upto_region 17 with fail
                    go_region_held3 (fun W => W.cell? (adr na k) = some (.int .u8 (nk : Int)) ∧ W.cell? (adr ma k) = some (nv mk) ∧ Below w7.heap.size w7 W)
                      (first | assumption | exact HBN.out _ (Below.drew (Below.refl _ _)) | exact HBN.out _ (bnext hbl hb8) | go_keep)
                      (first | (go_at_call 17; obtain ⟨_, _, hbl⟩ := ‹_ ∧ _ ∧ Below w7.heap.size w7 _›; (with_reducible refine (HBI.out _).mono ?_); rintro e w8 ⟨rfl, hb8⟩))
                    have HT8 := Lib.hid (HT7.out.next (bnext hbl hb8)).1
                    have HG8 := Lib.hid (HG7.out.next (bnext hbl hb8))
                    clear HT7 HG7 hbl hb8 HBN HBI hin him hcn hcm
                    have HA8 := Lib.hid (kadd (y) (M9) HT8.out (by omega) hM9)
                    obtain ⟨s2, hs2⟩ : ∃ s2, s2 = s.add (y).data.toList (M9) := ⟨_, rfl⟩
                    have HR8 := Lib.hid fun (W : World) (h : PairK w W p c (fun q => q = g) v s2 s) => radd (y) (M9) h (by omega) hM9
                    rw [← hs2] at HA8 HR8
                    clear hs2
                    go_wp2_with fail
                    refine HA8.out.mono ?_
                    rintro e w10 ⟨rfl, hp10, hk10⟩
                    have hg10 := HG8.out.kept hk10 rfl
                    have HR9 := Lib.hid (HR8.out _ hp10)
                    have HG10 := Lib.hid hg10
                    obtain ⟨av, cv, hv⟩ := hp10.slice
                    rw [hv] at HR9
                    have c0 : w10.cell? ⟨g, 0, none⟩ = some (v) := hg10.cell 0
                    have c1 : w10.cell? ⟨g, 1, none⟩ = some (.int .i64 (s.W : Int)) := hg10.cell 1
                    have c2 : w10.cell? ⟨g, 2, none⟩ = some (uv s.seed) := hg10.cell 2
                    have c3 : w10.cell? ⟨g, 3, none⟩ = some (nv s.total) := hg10.cell 3
                    rw [hv] at c0
                    clear hg10 hk10 HA8 HR8 HT8 HG8 hp10 hv
                    go_wp2_with fail
                    refine HR9.out.mono ?_
                    rintro e w11 ⟨v11, rfl, hp11, hk11⟩
                    have hg11 := HG10.out.kept hk11 rfl
                    have d0 : w11.cell? ⟨g, 0, none⟩ = some (v) := hg11.cell 0
                    have d1 : w11.cell? ⟨g, 1, none⟩ = some (.int .i64 (s.W : Int)) := hg11.cell 1
                    have d2 : w11.cell? ⟨g, 2, none⟩ = some (uv s.seed) := hg11.cell 2
                    have d3 : w11.cell? ⟨g, 3, none⟩ = some (nv s.total) := hg11.cell 3
                    have f0 := hg11.frozen 0
                    have f1 := hg11.frozen 1
                    have f2 := hg11.frozen 2
                    have f3 := hg11.frozen 3
                    have HPX := Lib.hid (hp11.set4 rfl v11 (.int .i64 (s2.W : Int)) (uv s2.seed) (nv s2.total))
                    have HGX := Lib.hid (set4 (a' := v11) (b' := .int .i64 (s2.W : Int)) (c' := uv s2.seed) (d' := nv s2.total) hg11)
                    obtain ⟨a11, k11, rfl⟩ := hp11.slice
                    clear hp11 hk11 hg11 HR9 HG10 c0 c1 c2 c3
                    go_wp2_with fail
                    clear f0 f1 f2 f3 d0 d1 d2 d3
                    generalize ((((w11.setCell ⟨g, 0, none⟩ (.slice a11 s2.rows k11)).setCell ⟨g, 1, none⟩ (.int .i64 (s2.W : Int))).setCell ⟨g, 2, none⟩ (uv s2.seed)).setCell ⟨g, 3, none⟩ (nv s2.total)) = w12 at *
                    have hg12 := HGX.out
                    have c0 : w12.cell? ⟨g, 0, none⟩ = some (.slice a11 s2.rows k11) := hg12.cell 0
                    have c1 : w12.cell? ⟨g, 1, none⟩ = some (.int .i64 (s2.W : Int)) := hg12.cell 1
                    have c2 : w12.cell? ⟨g, 2, none⟩ = some (uv s2.seed) := hg12.cell 2
                    have c3 : w12.cell? ⟨g, 3, none⟩ = some (nv s2.total) := hg12.cell 3
                    have HCN := Lib.hid fun W hW => kcount (y) (HPX.out.next (w' := W) hW).1 (by omega)
                    have HRC := Lib.hid fun W hW => rcount (y) (HPX.out.next (w' := W) hW).1 (by omega)
                    have HTO := Lib.hid fun W hW => ktotal (HPX.out.next (w' := W) hW).1
                    have HC4 : Hid (∀ W, Below w12.heap.size w12 W → W.cell? ⟨g, 0, none⟩ = some (.slice a11 s2.rows k11) ∧ W.cell? ⟨g, 1, none⟩ = some (.int .i64 (s2.W : Int)) ∧ W.cell? ⟨g, 2, none⟩ = some (uv s2.seed) ∧ W.cell? ⟨g, 3, none⟩ = some (nv s2.total) ∧ Below w12.heap.size w12 W) := Lib.hid fun W h => ⟨(h.cell (p := ⟨g, 0, none⟩) hg12.lt).trans c0, (h.cell (p := ⟨g, 1, none⟩) hg12.lt).trans c1, (h.cell (p := ⟨g, 2, none⟩) hg12.lt).trans c2, (h.cell (p := ⟨g, 3, none⟩) hg12.lt).trans c3, h⟩
                    generalize hn9 : s2.count (y).data.toList = n9 at *
                    have hx1 : ((n9 : Int) != (n9 : Int)) = false := by simp
                    have hx2 : ((s2.total : Int) != (s2.total : Int)) = false := by simp
                    clear hn9 hg12
                    go_region_held3 (fun W => W.cell? ⟨g, 0, none⟩ = some (.slice a11 s2.rows k11) ∧ W.cell? ⟨g, 1, none⟩ = some (.int .i64 (s2.W : Int)) ∧ W.cell? ⟨g, 2, none⟩ = some (uv s2.seed) ∧ W.cell? ⟨g, 3, none⟩ = some (nv s2.total) ∧ Below w12.heap.size w12 W)
                      (first | assumption | exact HC4.out _ (Below.drew (Below.refl _ _)) | exact HC4.out _ (bnext hbl hb13) | go_keep)
                      (first | (go_at_call 11; obtain ⟨_, _, _, _, hbl⟩ := ‹_ ∧ _ ∧ _ ∧ _ ∧ Below w12.heap.size w12 _›; (with_reducible refine (HCN.out _ hbl).mono ?_); rintro e w13 ⟨rfl, hb13⟩) | (go_at_call 19; obtain ⟨_, _, _, _, hbl⟩ := ‹_ ∧ _ ∧ _ ∧ _ ∧ Below w12.heap.size w12 _›; (with_reducible refine (HRC.out _ hbl).mono ?_); rintro e w13 ⟨rfl, hb13⟩) | (go_at_call 12; obtain ⟨_, _, _, _, hbl⟩ := ‹_ ∧ _ ∧ _ ∧ _ ∧ Below w12.heap.size w12 _›; (with_reducible refine (HTO.out _ hbl).mono ?_); rintro e w13 ⟨rfl, rfl⟩))
                    go_wp2_with fail
                    go_roundw
                    case rel => exact ⟨k + 1, _, s2, by omega, by go_num, Lib.hid (HPX.out.next hbl).1, Lib.hid (HGX.out.next hbl)⟩
                    case measure => simp [intOf]; omega
                  · have HA8 := Lib.hid (kadd (y) (1) HT7.out (by omega) (by omega))
                    obtain ⟨s2, hs2⟩ : ∃ s2, s2 = s.add (y).data.toList (1) := ⟨_, rfl⟩
                    have HR8 := Lib.hid fun (W : World) (h : PairK w W p c (fun q => q = g) v s2 s) => radd (y) (1) h (by omega) (by omega)
                    rw [← hs2] at HA8 HR8
                    clear hs2
                    go_wp2_with fail
                    refine HA8.out.mono ?_
                    rintro e w10 ⟨rfl, hp10, hk10⟩
                    have hg10 := HG7.out.kept hk10 rfl
                    have HR9 := Lib.hid (HR8.out _ hp10)
                    have HG10 := Lib.hid hg10
                    obtain ⟨av, cv, hv⟩ := hp10.slice
                    rw [hv] at HR9
                    have c0 : w10.cell? ⟨g, 0, none⟩ = some (v) := hg10.cell 0
                    have c1 : w10.cell? ⟨g, 1, none⟩ = some (.int .i64 (s.W : Int)) := hg10.cell 1
                    have c2 : w10.cell? ⟨g, 2, none⟩ = some (uv s.seed) := hg10.cell 2
                    have c3 : w10.cell? ⟨g, 3, none⟩ = some (nv s.total) := hg10.cell 3
                    rw [hv] at c0
                    clear hg10 hk10 HA8 HR8 HT7 HG7 hp10 hv
                    go_wp2_with fail
                    refine HR9.out.mono ?_
                    rintro e w11 ⟨v11, rfl, hp11, hk11⟩
                    have hg11 := HG10.out.kept hk11 rfl
                    have d0 : w11.cell? ⟨g, 0, none⟩ = some (v) := hg11.cell 0
                    have d1 : w11.cell? ⟨g, 1, none⟩ = some (.int .i64 (s.W : Int)) := hg11.cell 1
                    have d2 : w11.cell? ⟨g, 2, none⟩ = some (uv s.seed) := hg11.cell 2
                    have d3 : w11.cell? ⟨g, 3, none⟩ = some (nv s.total) := hg11.cell 3
                    have f0 := hg11.frozen 0
                    have f1 := hg11.frozen 1
                    have f2 := hg11.frozen 2
                    have f3 := hg11.frozen 3
                    have HPX := Lib.hid (hp11.set4 rfl v11 (.int .i64 (s2.W : Int)) (uv s2.seed) (nv s2.total))
                    have HGX := Lib.hid (set4 (a' := v11) (b' := .int .i64 (s2.W : Int)) (c' := uv s2.seed) (d' := nv s2.total) hg11)
                    obtain ⟨a11, k11, rfl⟩ := hp11.slice
                    clear hp11 hk11 hg11 HR9 HG10 c0 c1 c2 c3
                    go_wp2_with fail
                    clear f0 f1 f2 f3 d0 d1 d2 d3
                    generalize ((((w11.setCell ⟨g, 0, none⟩ (.slice a11 s2.rows k11)).setCell ⟨g, 1, none⟩ (.int .i64 (s2.W : Int))).setCell ⟨g, 2, none⟩ (uv s2.seed)).setCell ⟨g, 3, none⟩ (nv s2.total)) = w12 at *
                    have hg12 := HGX.out
                    have c0 : w12.cell? ⟨g, 0, none⟩ = some (.slice a11 s2.rows k11) := hg12.cell 0
                    have c1 : w12.cell? ⟨g, 1, none⟩ = some (.int .i64 (s2.W : Int)) := hg12.cell 1
                    have c2 : w12.cell? ⟨g, 2, none⟩ = some (uv s2.seed) := hg12.cell 2
                    have c3 : w12.cell? ⟨g, 3, none⟩ = some (nv s2.total) := hg12.cell 3
                    have HCN := Lib.hid fun W hW => kcount (y) (HPX.out.next (w' := W) hW).1 (by omega)
                    have HRC := Lib.hid fun W hW => rcount (y) (HPX.out.next (w' := W) hW).1 (by omega)
                    have HTO := Lib.hid fun W hW => ktotal (HPX.out.next (w' := W) hW).1
                    have HC4 : Hid (∀ W, Below w12.heap.size w12 W → W.cell? ⟨g, 0, none⟩ = some (.slice a11 s2.rows k11) ∧ W.cell? ⟨g, 1, none⟩ = some (.int .i64 (s2.W : Int)) ∧ W.cell? ⟨g, 2, none⟩ = some (uv s2.seed) ∧ W.cell? ⟨g, 3, none⟩ = some (nv s2.total) ∧ Below w12.heap.size w12 W) := Lib.hid fun W h => ⟨(h.cell (p := ⟨g, 0, none⟩) hg12.lt).trans c0, (h.cell (p := ⟨g, 1, none⟩) hg12.lt).trans c1, (h.cell (p := ⟨g, 2, none⟩) hg12.lt).trans c2, (h.cell (p := ⟨g, 3, none⟩) hg12.lt).trans c3, h⟩
                    generalize hn9 : s2.count (y).data.toList = n9 at *
                    have hx1 : ((n9 : Int) != (n9 : Int)) = false := by simp
                    have hx2 : ((s2.total : Int) != (s2.total : Int)) = false := by simp
                    clear hn9 hg12
                    go_region_held3 (fun W => W.cell? ⟨g, 0, none⟩ = some (.slice a11 s2.rows k11) ∧ W.cell? ⟨g, 1, none⟩ = some (.int .i64 (s2.W : Int)) ∧ W.cell? ⟨g, 2, none⟩ = some (uv s2.seed) ∧ W.cell? ⟨g, 3, none⟩ = some (nv s2.total) ∧ Below w12.heap.size w12 W)
                      (first | assumption | exact HC4.out _ (Below.drew (Below.refl _ _)) | exact HC4.out _ (bnext hbl hb13) | go_keep)
                      (first | (go_at_call 11; obtain ⟨_, _, _, _, hbl⟩ := ‹_ ∧ _ ∧ _ ∧ _ ∧ Below w12.heap.size w12 _›; (with_reducible refine (HCN.out _ hbl).mono ?_); rintro e w13 ⟨rfl, hb13⟩) | (go_at_call 19; obtain ⟨_, _, _, _, hbl⟩ := ‹_ ∧ _ ∧ _ ∧ _ ∧ Below w12.heap.size w12 _›; (with_reducible refine (HRC.out _ hbl).mono ?_); rintro e w13 ⟨rfl, hb13⟩) | (go_at_call 12; obtain ⟨_, _, _, _, hbl⟩ := ‹_ ∧ _ ∧ _ ∧ _ ∧ Below w12.heap.size w12 _›; (with_reducible refine (HTO.out _ hbl).mono ?_); rintro e w13 ⟨rfl, rfl⟩))
                    go_wp2_with fail
                    go_roundw
                    case rel => exact ⟨k + 1, _, s2, by omega, by go_num, Lib.hid (HPX.out.next hbl).1, Lib.hid (HGX.out.next hbl)⟩
                    case measure => simp [intOf]; omega
                · have HA8 := Lib.hid (kadd (y) (1) HT7.out (by omega) (by omega))
                  obtain ⟨s2, hs2⟩ : ∃ s2, s2 = s.add (y).data.toList (1) := ⟨_, rfl⟩
                  have HR8 := Lib.hid fun (W : World) (h : PairK w W p c (fun q => q = g) v s2 s) => radd (y) (1) h (by omega) (by omega)
                  rw [← hs2] at HA8 HR8
                  clear hs2
                  go_wp2_with fail
                  refine HA8.out.mono ?_
                  rintro e w10 ⟨rfl, hp10, hk10⟩
                  have hg10 := HG7.out.kept hk10 rfl
                  have HR9 := Lib.hid (HR8.out _ hp10)
                  have HG10 := Lib.hid hg10
                  obtain ⟨av, cv, hv⟩ := hp10.slice
                  rw [hv] at HR9
                  have c0 : w10.cell? ⟨g, 0, none⟩ = some (v) := hg10.cell 0
                  have c1 : w10.cell? ⟨g, 1, none⟩ = some (.int .i64 (s.W : Int)) := hg10.cell 1
                  have c2 : w10.cell? ⟨g, 2, none⟩ = some (uv s.seed) := hg10.cell 2
                  have c3 : w10.cell? ⟨g, 3, none⟩ = some (nv s.total) := hg10.cell 3
                  rw [hv] at c0
                  clear hg10 hk10 HA8 HR8 HT7 HG7 hp10 hv
                  go_wp2_with fail
                  refine HR9.out.mono ?_
                  rintro e w11 ⟨v11, rfl, hp11, hk11⟩
                  have hg11 := HG10.out.kept hk11 rfl
                  have d0 : w11.cell? ⟨g, 0, none⟩ = some (v) := hg11.cell 0
                  have d1 : w11.cell? ⟨g, 1, none⟩ = some (.int .i64 (s.W : Int)) := hg11.cell 1
                  have d2 : w11.cell? ⟨g, 2, none⟩ = some (uv s.seed) := hg11.cell 2
                  have d3 : w11.cell? ⟨g, 3, none⟩ = some (nv s.total) := hg11.cell 3
                  have f0 := hg11.frozen 0
                  have f1 := hg11.frozen 1
                  have f2 := hg11.frozen 2
                  have f3 := hg11.frozen 3
                  have HPX := Lib.hid (hp11.set4 rfl v11 (.int .i64 (s2.W : Int)) (uv s2.seed) (nv s2.total))
                  have HGX := Lib.hid (set4 (a' := v11) (b' := .int .i64 (s2.W : Int)) (c' := uv s2.seed) (d' := nv s2.total) hg11)
                  obtain ⟨a11, k11, rfl⟩ := hp11.slice
                  clear hp11 hk11 hg11 HR9 HG10 c0 c1 c2 c3
                  go_wp2_with fail
                  clear f0 f1 f2 f3 d0 d1 d2 d3
                  generalize ((((w11.setCell ⟨g, 0, none⟩ (.slice a11 s2.rows k11)).setCell ⟨g, 1, none⟩ (.int .i64 (s2.W : Int))).setCell ⟨g, 2, none⟩ (uv s2.seed)).setCell ⟨g, 3, none⟩ (nv s2.total)) = w12 at *
                  have hg12 := HGX.out
                  have c0 : w12.cell? ⟨g, 0, none⟩ = some (.slice a11 s2.rows k11) := hg12.cell 0
                  have c1 : w12.cell? ⟨g, 1, none⟩ = some (.int .i64 (s2.W : Int)) := hg12.cell 1
                  have c2 : w12.cell? ⟨g, 2, none⟩ = some (uv s2.seed) := hg12.cell 2
                  have c3 : w12.cell? ⟨g, 3, none⟩ = some (nv s2.total) := hg12.cell 3
                  have HCN := Lib.hid fun W hW => kcount (y) (HPX.out.next (w' := W) hW).1 (by omega)
                  have HRC := Lib.hid fun W hW => rcount (y) (HPX.out.next (w' := W) hW).1 (by omega)
                  have HTO := Lib.hid fun W hW => ktotal (HPX.out.next (w' := W) hW).1
                  have HC4 : Hid (∀ W, Below w12.heap.size w12 W → W.cell? ⟨g, 0, none⟩ = some (.slice a11 s2.rows k11) ∧ W.cell? ⟨g, 1, none⟩ = some (.int .i64 (s2.W : Int)) ∧ W.cell? ⟨g, 2, none⟩ = some (uv s2.seed) ∧ W.cell? ⟨g, 3, none⟩ = some (nv s2.total) ∧ Below w12.heap.size w12 W) := Lib.hid fun W h => ⟨(h.cell (p := ⟨g, 0, none⟩) hg12.lt).trans c0, (h.cell (p := ⟨g, 1, none⟩) hg12.lt).trans c1, (h.cell (p := ⟨g, 2, none⟩) hg12.lt).trans c2, (h.cell (p := ⟨g, 3, none⟩) hg12.lt).trans c3, h⟩
                  generalize hn9 : s2.count (y).data.toList = n9 at *
                  have hx1 : ((n9 : Int) != (n9 : Int)) = false := by simp
                  have hx2 : ((s2.total : Int) != (s2.total : Int)) = false := by simp
                  clear hn9 hg12
                  go_region_held3 (fun W => W.cell? ⟨g, 0, none⟩ = some (.slice a11 s2.rows k11) ∧ W.cell? ⟨g, 1, none⟩ = some (.int .i64 (s2.W : Int)) ∧ W.cell? ⟨g, 2, none⟩ = some (uv s2.seed) ∧ W.cell? ⟨g, 3, none⟩ = some (nv s2.total) ∧ Below w12.heap.size w12 W)
                    (first | assumption | exact HC4.out _ (Below.drew (Below.refl _ _)) | exact HC4.out _ (bnext hbl hb13) | go_keep)
                    (first | (go_at_call 11; obtain ⟨_, _, _, _, hbl⟩ := ‹_ ∧ _ ∧ _ ∧ _ ∧ Below w12.heap.size w12 _›; (with_reducible refine (HCN.out _ hbl).mono ?_); rintro e w13 ⟨rfl, hb13⟩) | (go_at_call 19; obtain ⟨_, _, _, _, hbl⟩ := ‹_ ∧ _ ∧ _ ∧ _ ∧ Below w12.heap.size w12 _›; (with_reducible refine (HRC.out _ hbl).mono ?_); rintro e w13 ⟨rfl, hb13⟩) | (go_at_call 12; obtain ⟨_, _, _, _, hbl⟩ := ‹_ ∧ _ ∧ _ ∧ _ ∧ Below w12.heap.size w12 _›; (with_reducible refine (HTO.out _ hbl).mono ?_); rintro e w13 ⟨rfl, rfl⟩))
                  go_wp2_with fail
                  go_roundw
                  case rel => exact ⟨k + 1, _, s2, by omega, by go_num, Lib.hid (HPX.out.next hbl).1, Lib.hid (HGX.out.next hbl)⟩
                  case measure => simp [intOf]; omega
              · by_cases hkn : (k : Int) < (nlen : Int)
                · by_cases hkm : (k : Int) < (mlen : Int)
                  · have hrn := HN.out.1.below HT7.out.below
                    have hrm := HM.out.1.below HT7.out.below
                    have hcn := hrn.cell k (by omega)
                    have hcm := hrm.cell k (by omega)
                    have hin := fun W => hrn.index Try.prog 23 5 Try.underlying23 (by kernel_rfl) k (by omega) W
                    have him := fun W => hrm.index Try.prog 32 22 Try.underlying32 (by kernel_rfl) k (by omega) W
                    have hbn : ∀ W, Below w7.heap.size w7 W → W.cell? (adr na k) = some (.int .u8 (ns.getD k 0)) ∧ W.cell? (adr ma k) = some (.int .u64 (ms.getD k 0)) ∧ Below w7.heap.size w7 W := fun W h => ⟨(HN.out.1.below (bnext HT7.out.below h)).cell k (by omega), (HM.out.1.below (bnext HT7.out.below h)).cell k (by omega), h⟩
                    obtain ⟨q0, q1⟩ := u8_of_wf (HN.out.2 _ (getD_mem_or (j := k) (by rw [HN.out.1.1]; omega)))
                    obtain ⟨mk, hmk, hmk2⟩ := nat_of_wf (HM.out.2 _ (getD_mem_or (j := k) (by rw [HM.out.1.1]; omega)))
                    obtain ⟨nk, hnk⟩ : ∃ nk : Nat, ns.getD k 0 = (nk : Int) := ⟨(ns.getD k 0).toNat, by omega⟩
                    rw [hnk] at hcn hbn q0 q1
                    rw [hmk] at hcm hbn
                    have HBN := Lib.hid hbn
                    have HBI := Lib.hid fun W => big_calls nk mk W (by omega) hmk2
                    have hM9 := bigN_le nk mk hmk2
                    generalize bigN nk mk = M9 at *
                    clear hnk hmk hrn hrm hbn
                    go_upto_region 17 with fail
                    go_region_held3 (fun W => W.cell? (adr na k) = some (.int .u8 (nk : Int)) ∧ W.cell? (adr ma k) = some (nv mk) ∧ Below w7.heap.size w7 W)
                      (first | assumption | exact HBN.out _ (Below.drew (Below.refl _ _)) | exact HBN.out _ (bnext hbl hb8) | go_keep)
                      (first | (go_at_call 17; obtain ⟨_, _, hbl⟩ := ‹_ ∧ _ ∧ Below w7.heap.size w7 _›; (with_reducible refine (HBI.out _).mono ?_); rintro e w8 ⟨rfl, hb8⟩))
                    have HT8 := Lib.hid (HT7.out.next (bnext hbl hb8)).1
                    have HG8 := Lib.hid (HG7.out.next (bnext hbl hb8))
                    clear HT7 HG7 hbl hb8 HBN HBI hin him hcn hcm
                    have HA8 := Lib.hid (kadd (keyS x) (M9) HT8.out (keyS_size x) hM9)
                    obtain ⟨s2, hs2⟩ : ∃ s2, s2 = s.add (keyS x).data.toList (M9) := ⟨_, rfl⟩
                    have HR8 := Lib.hid fun (W : World) (h : PairK w W p c (fun q => q = g) v s2 s) => radd (keyS x) (M9) h (keyS_size x) hM9
                    rw [← hs2] at HA8 HR8
                    clear hs2
                    go_wp2_with fail
                    refine HA8.out.mono ?_
                    rintro e w10 ⟨rfl, hp10, hk10⟩
                    have hg10 := HG8.out.kept hk10 rfl
                    have HR9 := Lib.hid (HR8.out _ hp10)
                    have HG10 := Lib.hid hg10
                    obtain ⟨av, cv, hv⟩ := hp10.slice
                    rw [hv] at HR9
                    have c0 : w10.cell? ⟨g, 0, none⟩ = some (v) := hg10.cell 0
                    have c1 : w10.cell? ⟨g, 1, none⟩ = some (.int .i64 (s.W : Int)) := hg10.cell 1
                    have c2 : w10.cell? ⟨g, 2, none⟩ = some (uv s.seed) := hg10.cell 2
                    have c3 : w10.cell? ⟨g, 3, none⟩ = some (nv s.total) := hg10.cell 3
                    rw [hv] at c0
                    clear hg10 hk10 HA8 HR8 HT8 HG8 hp10 hv
                    go_wp2_with fail
                    refine HR9.out.mono ?_
                    rintro e w11 ⟨v11, rfl, hp11, hk11⟩
                    have hg11 := HG10.out.kept hk11 rfl
                    have d0 : w11.cell? ⟨g, 0, none⟩ = some (v) := hg11.cell 0
                    have d1 : w11.cell? ⟨g, 1, none⟩ = some (.int .i64 (s.W : Int)) := hg11.cell 1
                    have d2 : w11.cell? ⟨g, 2, none⟩ = some (uv s.seed) := hg11.cell 2
                    have d3 : w11.cell? ⟨g, 3, none⟩ = some (nv s.total) := hg11.cell 3
                    have f0 := hg11.frozen 0
                    have f1 := hg11.frozen 1
                    have f2 := hg11.frozen 2
                    have f3 := hg11.frozen 3
                    have HPX := Lib.hid (hp11.set4 rfl v11 (.int .i64 (s2.W : Int)) (uv s2.seed) (nv s2.total))
                    have HGX := Lib.hid (set4 (a' := v11) (b' := .int .i64 (s2.W : Int)) (c' := uv s2.seed) (d' := nv s2.total) hg11)
                    obtain ⟨a11, k11, rfl⟩ := hp11.slice
                    clear hp11 hk11 hg11 HR9 HG10 c0 c1 c2 c3
                    go_wp2_with fail
                    clear f0 f1 f2 f3 d0 d1 d2 d3
                    generalize ((((w11.setCell ⟨g, 0, none⟩ (.slice a11 s2.rows k11)).setCell ⟨g, 1, none⟩ (.int .i64 (s2.W : Int))).setCell ⟨g, 2, none⟩ (uv s2.seed)).setCell ⟨g, 3, none⟩ (nv s2.total)) = w12 at *
                    have hg12 := HGX.out
                    have c0 : w12.cell? ⟨g, 0, none⟩ = some (.slice a11 s2.rows k11) := hg12.cell 0
                    have c1 : w12.cell? ⟨g, 1, none⟩ = some (.int .i64 (s2.W : Int)) := hg12.cell 1
                    have c2 : w12.cell? ⟨g, 2, none⟩ = some (uv s2.seed) := hg12.cell 2
                    have c3 : w12.cell? ⟨g, 3, none⟩ = some (nv s2.total) := hg12.cell 3
                    have HCN := Lib.hid fun W hW => kcount (keyS x) (HPX.out.next (w' := W) hW).1 (keyS_size x)
                    have HRC := Lib.hid fun W hW => rcount (keyS x) (HPX.out.next (w' := W) hW).1 (keyS_size x)
                    have HTO := Lib.hid fun W hW => ktotal (HPX.out.next (w' := W) hW).1
                    have HC4 : Hid (∀ W, Below w12.heap.size w12 W → W.cell? ⟨g, 0, none⟩ = some (.slice a11 s2.rows k11) ∧ W.cell? ⟨g, 1, none⟩ = some (.int .i64 (s2.W : Int)) ∧ W.cell? ⟨g, 2, none⟩ = some (uv s2.seed) ∧ W.cell? ⟨g, 3, none⟩ = some (nv s2.total) ∧ Below w12.heap.size w12 W) := Lib.hid fun W h => ⟨(h.cell (p := ⟨g, 0, none⟩) hg12.lt).trans c0, (h.cell (p := ⟨g, 1, none⟩) hg12.lt).trans c1, (h.cell (p := ⟨g, 2, none⟩) hg12.lt).trans c2, (h.cell (p := ⟨g, 3, none⟩) hg12.lt).trans c3, h⟩
                    generalize hn9 : s2.count (keyS x).data.toList = n9 at *
                    have hx1 : ((n9 : Int) != (n9 : Int)) = false := by simp
                    have hx2 : ((s2.total : Int) != (s2.total : Int)) = false := by simp
                    clear hn9 hg12
                    go_region_held3 (fun W => W.cell? ⟨g, 0, none⟩ = some (.slice a11 s2.rows k11) ∧ W.cell? ⟨g, 1, none⟩ = some (.int .i64 (s2.W : Int)) ∧ W.cell? ⟨g, 2, none⟩ = some (uv s2.seed) ∧ W.cell? ⟨g, 3, none⟩ = some (nv s2.total) ∧ Below w12.heap.size w12 W)
                      (first | assumption | exact HC4.out _ (Below.drew (Below.refl _ _)) | exact HC4.out _ (bnext hbl hb13) | go_keep)
                      (first | (go_at_call 11; obtain ⟨_, _, _, _, hbl⟩ := ‹_ ∧ _ ∧ _ ∧ _ ∧ Below w12.heap.size w12 _›; (with_reducible refine (HCN.out _ hbl).mono ?_); rintro e w13 ⟨rfl, hb13⟩) | (go_at_call 19; obtain ⟨_, _, _, _, hbl⟩ := ‹_ ∧ _ ∧ _ ∧ _ ∧ Below w12.heap.size w12 _›; (with_reducible refine (HRC.out _ hbl).mono ?_); rintro e w13 ⟨rfl, hb13⟩) | (go_at_call 12; obtain ⟨_, _, _, _, hbl⟩ := ‹_ ∧ _ ∧ _ ∧ _ ∧ Below w12.heap.size w12 _›; (with_reducible refine (HTO.out _ hbl).mono ?_); rintro e w13 ⟨rfl, rfl⟩))
                    go_wp2_with fail
                    go_roundw
                    case rel => exact ⟨k + 1, _, s2, by omega, by go_num, Lib.hid (HPX.out.next hbl).1, Lib.hid (HGX.out.next hbl)⟩
                    case measure => simp [intOf]; omega
                  · have HA8 := Lib.hid (kadd (keyS x) (1) HT7.out (keyS_size x) (by omega))
                    obtain ⟨s2, hs2⟩ : ∃ s2, s2 = s.add (keyS x).data.toList (1) := ⟨_, rfl⟩
                    have HR8 := Lib.hid fun (W : World) (h : PairK w W p c (fun q => q = g) v s2 s) => radd (keyS x) (1) h (keyS_size x) (by omega)
                    rw [← hs2] at HA8 HR8
                    clear hs2
                    go_wp2_with fail
                    refine HA8.out.mono ?_
                    rintro e w10 ⟨rfl, hp10, hk10⟩
                    have hg10 := HG7.out.kept hk10 rfl
                    have HR9 := Lib.hid (HR8.out _ hp10)
                    have HG10 := Lib.hid hg10
                    obtain ⟨av, cv, hv⟩ := hp10.slice
                    rw [hv] at HR9
                    have c0 : w10.cell? ⟨g, 0, none⟩ = some (v) := hg10.cell 0
                    have c1 : w10.cell? ⟨g, 1, none⟩ = some (.int .i64 (s.W : Int)) := hg10.cell 1
                    have c2 : w10.cell? ⟨g, 2, none⟩ = some (uv s.seed) := hg10.cell 2
                    have c3 : w10.cell? ⟨g, 3, none⟩ = some (nv s.total) := hg10.cell 3
                    rw [hv] at c0
                    clear hg10 hk10 HA8 HR8 HT7 HG7 hp10 hv
                    go_wp2_with fail
                    refine HR9.out.mono ?_
                    rintro e w11 ⟨v11, rfl, hp11, hk11⟩
                    have hg11 := HG10.out.kept hk11 rfl
                    have d0 : w11.cell? ⟨g, 0, none⟩ = some (v) := hg11.cell 0
                    have d1 : w11.cell? ⟨g, 1, none⟩ = some (.int .i64 (s.W : Int)) := hg11.cell 1
                    have d2 : w11.cell? ⟨g, 2, none⟩ = some (uv s.seed) := hg11.cell 2
                    have d3 : w11.cell? ⟨g, 3, none⟩ = some (nv s.total) := hg11.cell 3
                    have f0 := hg11.frozen 0
                    have f1 := hg11.frozen 1
                    have f2 := hg11.frozen 2
                    have f3 := hg11.frozen 3
                    have HPX := Lib.hid (hp11.set4 rfl v11 (.int .i64 (s2.W : Int)) (uv s2.seed) (nv s2.total))
                    have HGX := Lib.hid (set4 (a' := v11) (b' := .int .i64 (s2.W : Int)) (c' := uv s2.seed) (d' := nv s2.total) hg11)
                    obtain ⟨a11, k11, rfl⟩ := hp11.slice
                    clear hp11 hk11 hg11 HR9 HG10 c0 c1 c2 c3
                    go_wp2_with fail
                    clear f0 f1 f2 f3 d0 d1 d2 d3
                    generalize ((((w11.setCell ⟨g, 0, none⟩ (.slice a11 s2.rows k11)).setCell ⟨g, 1, none⟩ (.int .i64 (s2.W : Int))).setCell ⟨g, 2, none⟩ (uv s2.seed)).setCell ⟨g, 3, none⟩ (nv s2.total)) = w12 at *
                    have hg12 := HGX.out
                    have c0 : w12.cell? ⟨g, 0, none⟩ = some (.slice a11 s2.rows k11) := hg12.cell 0
                    have c1 : w12.cell? ⟨g, 1, none⟩ = some (.int .i64 (s2.W : Int)) := hg12.cell 1
                    have c2 : w12.cell? ⟨g, 2, none⟩ = some (uv s2.seed) := hg12.cell 2
                    have c3 : w12.cell? ⟨g, 3, none⟩ = some (nv s2.total) := hg12.cell 3
                    have HCN := Lib.hid fun W hW => kcount (keyS x) (HPX.out.next (w' := W) hW).1 (keyS_size x)
                    have HRC := Lib.hid fun W hW => rcount (keyS x) (HPX.out.next (w' := W) hW).1 (keyS_size x)
                    have HTO := Lib.hid fun W hW => ktotal (HPX.out.next (w' := W) hW).1
                    have HC4 : Hid (∀ W, Below w12.heap.size w12 W → W.cell? ⟨g, 0, none⟩ = some (.slice a11 s2.rows k11) ∧ W.cell? ⟨g, 1, none⟩ = some (.int .i64 (s2.W : Int)) ∧ W.cell? ⟨g, 2, none⟩ = some (uv s2.seed) ∧ W.cell? ⟨g, 3, none⟩ = some (nv s2.total) ∧ Below w12.heap.size w12 W) := Lib.hid fun W h => ⟨(h.cell (p := ⟨g, 0, none⟩) hg12.lt).trans c0, (h.cell (p := ⟨g, 1, none⟩) hg12.lt).trans c1, (h.cell (p := ⟨g, 2, none⟩) hg12.lt).trans c2, (h.cell (p := ⟨g, 3, none⟩) hg12.lt).trans c3, h⟩
                    generalize hn9 : s2.count (keyS x).data.toList = n9 at *
                    have hx1 : ((n9 : Int) != (n9 : Int)) = false := by simp
                    have hx2 : ((s2.total : Int) != (s2.total : Int)) = false := by simp
                    clear hn9 hg12
                    go_region_held3 (fun W => W.cell? ⟨g, 0, none⟩ = some (.slice a11 s2.rows k11) ∧ W.cell? ⟨g, 1, none⟩ = some (.int .i64 (s2.W : Int)) ∧ W.cell? ⟨g, 2, none⟩ = some (uv s2.seed) ∧ W.cell? ⟨g, 3, none⟩ = some (nv s2.total) ∧ Below w12.heap.size w12 W)
                      (first | assumption | exact HC4.out _ (Below.drew (Below.refl _ _)) | exact HC4.out _ (bnext hbl hb13) | go_keep)
                      (first | (go_at_call 11; obtain ⟨_, _, _, _, hbl⟩ := ‹_ ∧ _ ∧ _ ∧ _ ∧ Below w12.heap.size w12 _›; (with_reducible refine (HCN.out _ hbl).mono ?_); rintro e w13 ⟨rfl, hb13⟩) | (go_at_call 19; obtain ⟨_, _, _, _, hbl⟩ := ‹_ ∧ _ ∧ _ ∧ _ ∧ Below w12.heap.size w12 _›; (with_reducible refine (HRC.out _ hbl).mono ?_); rintro e w13 ⟨rfl, hb13⟩) | (go_at_call 12; obtain ⟨_, _, _, _, hbl⟩ := ‹_ ∧ _ ∧ _ ∧ _ ∧ Below w12.heap.size w12 _›; (with_reducible refine (HTO.out _ hbl).mono ?_); rintro e w13 ⟨rfl, rfl⟩))
                    go_wp2_with fail
                    go_roundw
                    case rel => exact ⟨k + 1, _, s2, by omega, by go_num, Lib.hid (HPX.out.next hbl).1, Lib.hid (HGX.out.next hbl)⟩
                    case measure => simp [intOf]; omega
                · have HA8 := Lib.hid (kadd (keyS x) (1) HT7.out (keyS_size x) (by omega))
                  obtain ⟨s2, hs2⟩ : ∃ s2, s2 = s.add (keyS x).data.toList (1) := ⟨_, rfl⟩
                  have HR8 := Lib.hid fun (W : World) (h : PairK w W p c (fun q => q = g) v s2 s) => radd (keyS x) (1) h (keyS_size x) (by omega)
                  rw [← hs2] at HA8 HR8
                  clear hs2
                  go_wp2_with fail
                  refine HA8.out.mono ?_
                  rintro e w10 ⟨rfl, hp10, hk10⟩
                  have hg10 := HG7.out.kept hk10 rfl
                  have HR9 := Lib.hid (HR8.out _ hp10)
                  have HG10 := Lib.hid hg10
                  obtain ⟨av, cv, hv⟩ := hp10.slice
                  rw [hv] at HR9
                  have c0 : w10.cell? ⟨g, 0, none⟩ = some (v) := hg10.cell 0
                  have c1 : w10.cell? ⟨g, 1, none⟩ = some (.int .i64 (s.W : Int)) := hg10.cell 1
                  have c2 : w10.cell? ⟨g, 2, none⟩ = some (uv s.seed) := hg10.cell 2
                  have c3 : w10.cell? ⟨g, 3, none⟩ = some (nv s.total) := hg10.cell 3
                  rw [hv] at c0
                  clear hg10 hk10 HA8 HR8 HT7 HG7 hp10 hv
                  go_wp2_with fail
                  refine HR9.out.mono ?_
                  rintro e w11 ⟨v11, rfl, hp11, hk11⟩
                  have hg11 := HG10.out.kept hk11 rfl
                  have d0 : w11.cell? ⟨g, 0, none⟩ = some (v) := hg11.cell 0
                  have d1 : w11.cell? ⟨g, 1, none⟩ = some (.int .i64 (s.W : Int)) := hg11.cell 1
                  have d2 : w11.cell? ⟨g, 2, none⟩ = some (uv s.seed) := hg11.cell 2
                  have d3 : w11.cell? ⟨g, 3, none⟩ = some (nv s.total) := hg11.cell 3
                  have f0 := hg11.frozen 0
                  have f1 := hg11.frozen 1
                  have f2 := hg11.frozen 2
                  have f3 := hg11.frozen 3
                  have HPX := Lib.hid (hp11.set4 rfl v11 (.int .i64 (s2.W : Int)) (uv s2.seed) (nv s2.total))
                  have HGX := Lib.hid (set4 (a' := v11) (b' := .int .i64 (s2.W : Int)) (c' := uv s2.seed) (d' := nv s2.total) hg11)
                  obtain ⟨a11, k11, rfl⟩ := hp11.slice
                  clear hp11 hk11 hg11 HR9 HG10 c0 c1 c2 c3
                  go_wp2_with fail
                  clear f0 f1 f2 f3 d0 d1 d2 d3
                  generalize ((((w11.setCell ⟨g, 0, none⟩ (.slice a11 s2.rows k11)).setCell ⟨g, 1, none⟩ (.int .i64 (s2.W : Int))).setCell ⟨g, 2, none⟩ (uv s2.seed)).setCell ⟨g, 3, none⟩ (nv s2.total)) = w12 at *
                  have hg12 := HGX.out
                  have c0 : w12.cell? ⟨g, 0, none⟩ = some (.slice a11 s2.rows k11) := hg12.cell 0
                  have c1 : w12.cell? ⟨g, 1, none⟩ = some (.int .i64 (s2.W : Int)) := hg12.cell 1
                  have c2 : w12.cell? ⟨g, 2, none⟩ = some (uv s2.seed) := hg12.cell 2
                  have c3 : w12.cell? ⟨g, 3, none⟩ = some (nv s2.total) := hg12.cell 3
                  have HCN := Lib.hid fun W hW => kcount (keyS x) (HPX.out.next (w' := W) hW).1 (keyS_size x)
                  have HRC := Lib.hid fun W hW => rcount (keyS x) (HPX.out.next (w' := W) hW).1 (keyS_size x)
                  have HTO := Lib.hid fun W hW => ktotal (HPX.out.next (w' := W) hW).1
                  have HC4 : Hid (∀ W, Below w12.heap.size w12 W → W.cell? ⟨g, 0, none⟩ = some (.slice a11 s2.rows k11) ∧ W.cell? ⟨g, 1, none⟩ = some (.int .i64 (s2.W : Int)) ∧ W.cell? ⟨g, 2, none⟩ = some (uv s2.seed) ∧ W.cell? ⟨g, 3, none⟩ = some (nv s2.total) ∧ Below w12.heap.size w12 W) := Lib.hid fun W h => ⟨(h.cell (p := ⟨g, 0, none⟩) hg12.lt).trans c0, (h.cell (p := ⟨g, 1, none⟩) hg12.lt).trans c1, (h.cell (p := ⟨g, 2, none⟩) hg12.lt).trans c2, (h.cell (p := ⟨g, 3, none⟩) hg12.lt).trans c3, h⟩
                  generalize hn9 : s2.count (keyS x).data.toList = n9 at *
                  have hx1 : ((n9 : Int) != (n9 : Int)) = false := by simp
                  have hx2 : ((s2.total : Int) != (s2.total : Int)) = false := by simp
                  clear hn9 hg12
                  go_region_held3 (fun W => W.cell? ⟨g, 0, none⟩ = some (.slice a11 s2.rows k11) ∧ W.cell? ⟨g, 1, none⟩ = some (.int .i64 (s2.W : Int)) ∧ W.cell? ⟨g, 2, none⟩ = some (uv s2.seed) ∧ W.cell? ⟨g, 3, none⟩ = some (nv s2.total) ∧ Below w12.heap.size w12 W)
                    (first | assumption | exact HC4.out _ (Below.drew (Below.refl _ _)) | exact HC4.out _ (bnext hbl hb13) | go_keep)
                    (first | (go_at_call 11; obtain ⟨_, _, _, _, hbl⟩ := ‹_ ∧ _ ∧ _ ∧ _ ∧ Below w12.heap.size w12 _›; (with_reducible refine (HCN.out _ hbl).mono ?_); rintro e w13 ⟨rfl, hb13⟩) | (go_at_call 19; obtain ⟨_, _, _, _, hbl⟩ := ‹_ ∧ _ ∧ _ ∧ _ ∧ Below w12.heap.size w12 _›; (with_reducible refine (HRC.out _ hbl).mono ?_); rintro e w13 ⟨rfl, hb13⟩) | (go_at_call 12; obtain ⟨_, _, _, _, hbl⟩ := ‹_ ∧ _ ∧ _ ∧ _ ∧ Below w12.heap.size w12 _›; (with_reducible refine (HTO.out _ hbl).mono ?_); rintro e w13 ⟨rfl, rfl⟩))
                  go_wp2_with fail
                  go_roundw
                  case rel => exact ⟨k + 1, _, s2, by omega, by go_num, Lib.hid (HPX.out.next hbl).1, Lib.hid (HGX.out.next hbl)⟩
                  case measure => simp [intOf]; omega
            · by_cases hkn : (k : Int) < (nlen : Int)
              · by_cases hkm : (k : Int) < (mlen : Int)
                · have hrn := HN.out.1.below HT7.out.below
                  have hrm := HM.out.1.below HT7.out.below
                  have hcn := hrn.cell k (by omega)
                  have hcm := hrm.cell k (by omega)
                  have hin := fun W => hrn.index Try.prog 23 5 Try.underlying23 (by kernel_rfl) k (by omega) W
                  have him := fun W => hrm.index Try.prog 32 22 Try.underlying32 (by kernel_rfl) k (by omega) W
                  have hbn : ∀ W, Below w7.heap.size w7 W → W.cell? (adr na k) = some (.int .u8 (ns.getD k 0)) ∧ W.cell? (adr ma k) = some (.int .u64 (ms.getD k 0)) ∧ Below w7.heap.size w7 W := fun W h => ⟨(HN.out.1.below (bnext HT7.out.below h)).cell k (by omega), (HM.out.1.below (bnext HT7.out.below h)).cell k (by omega), h⟩
                  obtain ⟨q0, q1⟩ := u8_of_wf (HN.out.2 _ (getD_mem_or (j := k) (by rw [HN.out.1.1]; omega)))
                  obtain ⟨mk, hmk, hmk2⟩ := nat_of_wf (HM.out.2 _ (getD_mem_or (j := k) (by rw [HM.out.1.1]; omega)))
                  obtain ⟨nk, hnk⟩ : ∃ nk : Nat, ns.getD k 0 = (nk : Int) := ⟨(ns.getD k 0).toNat, by omega⟩
                  rw [hnk] at hcn hbn q0 q1
                  rw [hmk] at hcm hbn
                  have HBN := Lib.hid hbn
                  have HBI := Lib.hid fun W => big_calls nk mk W (by omega) hmk2
                  have hM9 := bigN_le nk mk hmk2
                  generalize bigN nk mk = M9 at *
                  clear hnk hmk hrn hrm hbn
                  go_upto_region 17 with fail
                  go_region_held3 (fun W => W.cell? (adr na k) = some (.int .u8 (nk : Int)) ∧ W.cell? (adr ma k) = some (nv mk) ∧ Below w7.heap.size w7 W)
                    (first | assumption | exact HBN.out _ (Below.drew (Below.refl _ _)) | exact HBN.out _ (bnext hbl hb8) | go_keep)
                    (first | (go_at_call 17; obtain ⟨_, _, hbl⟩ := ‹_ ∧ _ ∧ Below w7.heap.size w7 _›; (with_reducible refine (HBI.out _).mono ?_); rintro e w8 ⟨rfl, hb8⟩))
                  have HT8 := Lib.hid (HT7.out.next (bnext hbl hb8)).1
                  have HG8 := Lib.hid (HG7.out.next (bnext hbl hb8))
                  clear HT7 HG7 hbl hb8 HBN HBI hin him hcn hcm
                  have HA8 := Lib.hid (kadd (keyS x) (M9) HT8.out (keyS_size x) hM9)
                  obtain ⟨s2, hs2⟩ : ∃ s2, s2 = s.add (keyS x).data.toList (M9) := ⟨_, rfl⟩
                  have HR8 := Lib.hid fun (W : World) (h : PairK w W p c (fun q => q = g) v s2 s) => radd (keyS x) (M9) h (keyS_size x) hM9
                  rw [← hs2] at HA8 HR8
                  clear hs2
                  go_wp2_with fail
                  refine HA8.out.mono ?_
                  rintro e w10 ⟨rfl, hp10, hk10⟩
                  have hg10 := HG8.out.kept hk10 rfl
                  have HR9 := Lib.hid (HR8.out _ hp10)
                  have HG10 := Lib.hid hg10
                  obtain ⟨av, cv, hv⟩ := hp10.slice
                  rw [hv] at HR9
                  have c0 : w10.cell? ⟨g, 0, none⟩ = some (v) := hg10.cell 0
                  have c1 : w10.cell? ⟨g, 1, none⟩ = some (.int .i64 (s.W : Int)) := hg10.cell 1
                  have c2 : w10.cell? ⟨g, 2, none⟩ = some (uv s.seed) := hg10.cell 2
                  have c3 : w10.cell? ⟨g, 3, none⟩ = some (nv s.total) := hg10.cell 3
                  rw [hv] at c0
                  clear hg10 hk10 HA8 HR8 HT8 HG8 hp10 hv
                  go_wp2_with fail
                  refine HR9.out.mono ?_
                  rintro e w11 ⟨v11, rfl, hp11, hk11⟩
                  have hg11 := HG10.out.kept hk11 rfl
                  have d0 : w11.cell? ⟨g, 0, none⟩ = some (v) := hg11.cell 0
                  have d1 : w11.cell? ⟨g, 1, none⟩ = some (.int .i64 (s.W : Int)) := hg11.cell 1
                  have d2 : w11.cell? ⟨g, 2, none⟩ = some (uv s.seed) := hg11.cell 2
                  have d3 : w11.cell? ⟨g, 3, none⟩ = some (nv s.total) := hg11.cell 3
                  have f0 := hg11.frozen 0
                  have f1 := hg11.frozen 1
                  have f2 := hg11.frozen 2
                  have f3 := hg11.frozen 3
                  have HPX := Lib.hid (hp11.set4 rfl v11 (.int .i64 (s2.W : Int)) (uv s2.seed) (nv s2.total))
                  have HGX := Lib.hid (set4 (a' := v11) (b' := .int .i64 (s2.W : Int)) (c' := uv s2.seed) (d' := nv s2.total) hg11)
                  obtain ⟨a11, k11, rfl⟩ := hp11.slice
                  clear hp11 hk11 hg11 HR9 HG10 c0 c1 c2 c3
                  go_wp2_with fail
                  clear f0 f1 f2 f3 d0 d1 d2 d3
                  generalize ((((w11.setCell ⟨g, 0, none⟩ (.slice a11 s2.rows k11)).setCell ⟨g, 1, none⟩ (.int .i64 (s2.W : Int))).setCell ⟨g, 2, none⟩ (uv s2.seed)).setCell ⟨g, 3, none⟩ (nv s2.total)) = w12 at *
                  have hg12 := HGX.out
                  have c0 : w12.cell? ⟨g, 0, none⟩ = some (.slice a11 s2.rows k11) := hg12.cell 0
                  have c1 : w12.cell? ⟨g, 1, none⟩ = some (.int .i64 (s2.W : Int)) := hg12.cell 1
                  have c2 : w12.cell? ⟨g, 2, none⟩ = some (uv s2.seed) := hg12.cell 2
                  have c3 : w12.cell? ⟨g, 3, none⟩ = some (nv s2.total) := hg12.cell 3
                  have HCN := Lib.hid fun W hW => kcount (keyS x) (HPX.out.next (w' := W) hW).1 (keyS_size x)
                  have HRC := Lib.hid fun W hW => rcount (keyS x) (HPX.out.next (w' := W) hW).1 (keyS_size x)
                  have HTO := Lib.hid fun W hW => ktotal (HPX.out.next (w' := W) hW).1
                  have HC4 : Hid (∀ W, Below w12.heap.size w12 W → W.cell? ⟨g, 0, none⟩ = some (.slice a11 s2.rows k11) ∧ W.cell? ⟨g, 1, none⟩ = some (.int .i64 (s2.W : Int)) ∧ W.cell? ⟨g, 2, none⟩ = some (uv s2.seed) ∧ W.cell? ⟨g, 3, none⟩ = some (nv s2.total) ∧ Below w12.heap.size w12 W) := Lib.hid fun W h => ⟨(h.cell (p := ⟨g, 0, none⟩) hg12.lt).trans c0, (h.cell (p := ⟨g, 1, none⟩) hg12.lt).trans c1, (h.cell (p := ⟨g, 2, none⟩) hg12.lt).trans c2, (h.cell (p := ⟨g, 3, none⟩) hg12.lt).trans c3, h⟩
                  generalize hn9 : s2.count (keyS x).data.toList = n9 at *
                  have hx1 : ((n9 : Int) != (n9 : Int)) = false := by simp
                  have hx2 : ((s2.total : Int) != (s2.total : Int)) = false := by simp
                  clear hn9 hg12
                  go_region_held3 (fun W => W.cell? ⟨g, 0, none⟩ = some (.slice a11 s2.rows k11) ∧ W.cell? ⟨g, 1, none⟩ = some (.int .i64 (s2.W : Int)) ∧ W.cell? ⟨g, 2, none⟩ = some (uv s2.seed) ∧ W.cell? ⟨g, 3, none⟩ = some (nv s2.total) ∧ Below w12.heap.size w12 W)
                    (first | assumption | exact HC4.out _ (Below.drew (Below.refl _ _)) | exact HC4.out _ (bnext hbl hb13) | go_keep)
                    (first | (go_at_call 11; obtain ⟨_, _, _, _, hbl⟩ := ‹_ ∧ _ ∧ _ ∧ _ ∧ Below w12.heap.size w12 _›; (with_reducible refine (HCN.out _ hbl).mono ?_); rintro e w13 ⟨rfl, hb13⟩) | (go_at_call 19; obtain ⟨_, _, _, _, hbl⟩ := ‹_ ∧ _ ∧ _ ∧ _ ∧ Below w12.heap.size w12 _›; (with_reducible refine (HRC.out _ hbl).mono ?_); rintro e w13 ⟨rfl, hb13⟩) | (go_at_call 12; obtain ⟨_, _, _, _, hbl⟩ := ‹_ ∧ _ ∧ _ ∧ _ ∧ Below w12.heap.size w12 _›; (with_reducible refine (HTO.out _ hbl).mono ?_); rintro e w13 ⟨rfl, rfl⟩))
                  go_wp2_with fail
                  go_roundw
                  case rel => exact ⟨k + 1, _, s2, by omega, by go_num, Lib.hid (HPX.out.next hbl).1, Lib.hid (HGX.out.next hbl)⟩
                  case measure => simp [intOf]; omega
                · have HA8 := Lib.hid (kadd (keyS x) (1) HT7.out (keyS_size x) (by omega))
                  obtain ⟨s2, hs2⟩ : ∃ s2, s2 = s.add (keyS x).data.toList (1) := ⟨_, rfl⟩
                  have HR8 := Lib.hid fun (W : World) (h : PairK w W p c (fun q => q = g) v s2 s) => radd (keyS x) (1) h (keyS_size x) (by omega)
                  rw [← hs2] at HA8 HR8
                  clear hs2
                  go_wp2_with fail
                  refine HA8.out.mono ?_
                  rintro e w10 ⟨rfl, hp10, hk10⟩
                  have hg10 := HG7.out.kept hk10 rfl
                  have HR9 := Lib.hid (HR8.out _ hp10)
                  have HG10 := Lib.hid hg10
                  obtain ⟨av, cv, hv⟩ := hp10.slice
                  rw [hv] at HR9
                  have c0 : w10.cell? ⟨g, 0, none⟩ = some (v) := hg10.cell 0
                  have c1 : w10.cell? ⟨g, 1, none⟩ = some (.int .i64 (s.W : Int)) := hg10.cell 1
                  have c2 : w10.cell? ⟨g, 2, none⟩ = some (uv s.seed) := hg10.cell 2
                  have c3 : w10.cell? ⟨g, 3, none⟩ = some (nv s.total) := hg10.cell 3
                  rw [hv] at c0
                  clear hg10 hk10 HA8 HR8 HT7 HG7 hp10 hv
                  go_wp2_with fail
                  refine HR9.out.mono ?_
                  rintro e w11 ⟨v11, rfl, hp11, hk11⟩
                  have hg11 := HG10.out.kept hk11 rfl
                  have d0 : w11.cell? ⟨g, 0, none⟩ = some (v) := hg11.cell 0
                  have d1 : w11.cell? ⟨g, 1, none⟩ = some (.int .i64 (s.W : Int)) := hg11.cell 1
                  have d2 : w11.cell? ⟨g, 2, none⟩ = some (uv s.seed) := hg11.cell 2
                  have d3 : w11.cell? ⟨g, 3, none⟩ = some (nv s.total) := hg11.cell 3
                  have f0 := hg11.frozen 0
                  have f1 := hg11.frozen 1
                  have f2 := hg11.frozen 2
                  have f3 := hg11.frozen 3
                  have HPX := Lib.hid (hp11.set4 rfl v11 (.int .i64 (s2.W : Int)) (uv s2.seed) (nv s2.total))
                  have HGX := Lib.hid (set4 (a' := v11) (b' := .int .i64 (s2.W : Int)) (c' := uv s2.seed) (d' := nv s2.total) hg11)
                  obtain ⟨a11, k11, rfl⟩ := hp11.slice
                  clear hp11 hk11 hg11 HR9 HG10 c0 c1 c2 c3
                  go_wp2_with fail
                  clear f0 f1 f2 f3 d0 d1 d2 d3
                  generalize ((((w11.setCell ⟨g, 0, none⟩ (.slice a11 s2.rows k11)).setCell ⟨g, 1, none⟩ (.int .i64 (s2.W : Int))).setCell ⟨g, 2, none⟩ (uv s2.seed)).setCell ⟨g, 3, none⟩ (nv s2.total)) = w12 at *
                  have hg12 := HGX.out
                  have c0 : w12.cell? ⟨g, 0, none⟩ = some (.slice a11 s2.rows k11) := hg12.cell 0
                  have c1 : w12.cell? ⟨g, 1, none⟩ = some (.int .i64 (s2.W : Int)) := hg12.cell 1
                  have c2 : w12.cell? ⟨g, 2, none⟩ = some (uv s2.seed) := hg12.cell 2
                  have c3 : w12.cell? ⟨g, 3, none⟩ = some (nv s2.total) := hg12.cell 3
                  have HCN := Lib.hid fun W hW => kcount (keyS x) (HPX.out.next (w' := W) hW).1 (keyS_size x)
                  have HRC := Lib.hid fun W hW => rcount (keyS x) (HPX.out.next (w' := W) hW).1 (keyS_size x)
                  have HTO := Lib.hid fun W hW => ktotal (HPX.out.next (w' := W) hW).1
                  have HC4 : Hid (∀ W, Below w12.heap.size w12 W → W.cell? ⟨g, 0, none⟩ = some (.slice a11 s2.rows k11) ∧ W.cell? ⟨g, 1, none⟩ = some (.int .i64 (s2.W : Int)) ∧ W.cell? ⟨g, 2, none⟩ = some (uv s2.seed) ∧ W.cell? ⟨g, 3, none⟩ = some (nv s2.total) ∧ Below w12.heap.size w12 W) := Lib.hid fun W h => ⟨(h.cell (p := ⟨g, 0, none⟩) hg12.lt).trans c0, (h.cell (p := ⟨g, 1, none⟩) hg12.lt).trans c1, (h.cell (p := ⟨g, 2, none⟩) hg12.lt).trans c2, (h.cell (p := ⟨g, 3, none⟩) hg12.lt).trans c3, h⟩
                  generalize hn9 : s2.count (keyS x).data.toList = n9 at *
                  have hx1 : ((n9 : Int) != (n9 : Int)) = false := by simp
                  have hx2 : ((s2.total : Int) != (s2.total : Int)) = false := by simp
                  clear hn9 hg12
                  go_region_held3 (fun W => W.cell? ⟨g, 0, none⟩ = some (.slice a11 s2.rows k11) ∧ W.cell? ⟨g, 1, none⟩ = some (.int .i64 (s2.W : Int)) ∧ W.cell? ⟨g, 2, none⟩ = some (uv s2.seed) ∧ W.cell? ⟨g, 3, none⟩ = some (nv s2.total) ∧ Below w12.heap.size w12 W)
                    (first | assumption | exact HC4.out _ (Below.drew (Below.refl _ _)) | exact HC4.out _ (bnext hbl hb13) | go_keep)
                    (first | (go_at_call 11; obtain ⟨_, _, _, _, hbl⟩ := ‹_ ∧ _ ∧ _ ∧ _ ∧ Below w12.heap.size w12 _›; (with_reducible refine (HCN.out _ hbl).mono ?_); rintro e w13 ⟨rfl, hb13⟩) | (go_at_call 19; obtain ⟨_, _, _, _, hbl⟩ := ‹_ ∧ _ ∧ _ ∧ _ ∧ Below w12.heap.size w12 _›; (with_reducible refine (HRC.out _ hbl).mono ?_); rintro e w13 ⟨rfl, hb13⟩) | (go_at_call 12; obtain ⟨_, _, _, _, hbl⟩ := ‹_ ∧ _ ∧ _ ∧ _ ∧ Below w12.heap.size w12 _›; (with_reducible refine (HTO.out _ hbl).mono ?_); rintro e w13 ⟨rfl, rfl⟩))
                  go_wp2_with fail
                  go_roundw
                  case rel => exact ⟨k + 1, _, s2, by omega, by go_num, Lib.hid (HPX.out.next hbl).1, Lib.hid (HGX.out.next hbl)⟩
                  case measure => simp [intOf]; omega
              · have HA8 := Lib.hid (kadd (keyS x) (1) HT7.out (keyS_size x) (by omega))
                obtain ⟨s2, hs2⟩ : ∃ s2, s2 = s.add (keyS x).data.toList (1) := ⟨_, rfl⟩
                have HR8 := Lib.hid fun (W : World) (h : PairK w W p c (fun q => q = g) v s2 s) => radd (keyS x) (1) h (keyS_size x) (by omega)
                rw [← hs2] at HA8 HR8
                clear hs2
                go_wp2_with fail
                refine HA8.out.mono ?_
                rintro e w10 ⟨rfl, hp10, hk10⟩
                have hg10 := HG7.out.kept hk10 rfl
                have HR9 := Lib.hid (HR8.out _ hp10)
                have HG10 := Lib.hid hg10
                obtain ⟨av, cv, hv⟩ := hp10.slice
                rw [hv] at HR9
                have c0 : w10.cell? ⟨g, 0, none⟩ = some (v) := hg10.cell 0
                have c1 : w10.cell? ⟨g, 1, none⟩ = some (.int .i64 (s.W : Int)) := hg10.cell 1
                have c2 : w10.cell? ⟨g, 2, none⟩ = some (uv s.seed) := hg10.cell 2
                have c3 : w10.cell? ⟨g, 3, none⟩ = some (nv s.total) := hg10.cell 3
                rw [hv] at c0
                clear hg10 hk10 HA8 HR8 HT7 HG7 hp10 hv
                go_wp2_with fail
                refine HR9.out.mono ?_
                rintro e w11 ⟨v11, rfl, hp11, hk11⟩
                have hg11 := HG10.out.kept hk11 rfl
                have d0 : w11.cell? ⟨g, 0, none⟩ = some (v) := hg11.cell 0
                have d1 : w11.cell? ⟨g, 1, none⟩ = some (.int .i64 (s.W : Int)) := hg11.cell 1
                have d2 : w11.cell? ⟨g, 2, none⟩ = some (uv s.seed) := hg11.cell 2
                have d3 : w11.cell? ⟨g, 3, none⟩ = some (nv s.total) := hg11.cell 3
                have f0 := hg11.frozen 0
                have f1 := hg11.frozen 1
                have f2 := hg11.frozen 2
                have f3 := hg11.frozen 3
                have HPX := Lib.hid (hp11.set4 rfl v11 (.int .i64 (s2.W : Int)) (uv s2.seed) (nv s2.total))
                have HGX := Lib.hid (set4 (a' := v11) (b' := .int .i64 (s2.W : Int)) (c' := uv s2.seed) (d' := nv s2.total) hg11)
                obtain ⟨a11, k11, rfl⟩ := hp11.slice
                clear hp11 hk11 hg11 HR9 HG10 c0 c1 c2 c3
                go_wp2_with fail
                clear f0 f1 f2 f3 d0 d1 d2 d3
                generalize ((((w11.setCell ⟨g, 0, none⟩ (.slice a11 s2.rows k11)).setCell ⟨g, 1, none⟩ (.int .i64 (s2.W : Int))).setCell ⟨g, 2, none⟩ (uv s2.seed)).setCell ⟨g, 3, none⟩ (nv s2.total)) = w12 at *
                have hg12 := HGX.out
                have c0 : w12.cell? ⟨g, 0, none⟩ = some (.slice a11 s2.rows k11) := hg12.cell 0
                have c1 : w12.cell? ⟨g, 1, none⟩ = some (.int .i64 (s2.W : Int)) := hg12.cell 1
                have c2 : w12.cell? ⟨g, 2, none⟩ = some (uv s2.seed) := hg12.cell 2
                have c3 : w12.cell? ⟨g, 3, none⟩ = some (nv s2.total) := hg12.cell 3
                have HCN := Lib.hid fun W hW => kcount (keyS x) (HPX.out.next (w' := W) hW).1 (keyS_size x)
                have HRC := Lib.hid fun W hW => rcount (keyS x) (HPX.out.next (w' := W) hW).1 (keyS_size x)
                have HTO := Lib.hid fun W hW => ktotal (HPX.out.next (w' := W) hW).1
                have HC4 : Hid (∀ W, Below w12.heap.size w12 W → W.cell? ⟨g, 0, none⟩ = some (.slice a11 s2.rows k11) ∧ W.cell? ⟨g, 1, none⟩ = some (.int .i64 (s2.W : Int)) ∧ W.cell? ⟨g, 2, none⟩ = some (uv s2.seed) ∧ W.cell? ⟨g, 3, none⟩ = some (nv s2.total) ∧ Below w12.heap.size w12 W) := Lib.hid fun W h => ⟨(h.cell (p := ⟨g, 0, none⟩) hg12.lt).trans c0, (h.cell (p := ⟨g, 1, none⟩) hg12.lt).trans c1, (h.cell (p := ⟨g, 2, none⟩) hg12.lt).trans c2, (h.cell (p := ⟨g, 3, none⟩) hg12.lt).trans c3, h⟩
                generalize hn9 : s2.count (keyS x).data.toList = n9 at *
                have hx1 : ((n9 : Int) != (n9 : Int)) = false := by simp
                have hx2 : ((s2.total : Int) != (s2.total : Int)) = false := by simp
                clear hn9 hg12
                go_region_held3 (fun W => W.cell? ⟨g, 0, none⟩ = some (.slice a11 s2.rows k11) ∧ W.cell? ⟨g, 1, none⟩ = some (.int .i64 (s2.W : Int)) ∧ W.cell? ⟨g, 2, none⟩ = some (uv s2.seed) ∧ W.cell? ⟨g, 3, none⟩ = some (nv s2.total) ∧ Below w12.heap.size w12 W)
                  (first | assumption | exact HC4.out _ (Below.drew (Below.refl _ _)) | exact HC4.out _ (bnext hbl hb13) | go_keep)
                  (first | (go_at_call 11; obtain ⟨_, _, _, _, hbl⟩ := ‹_ ∧ _ ∧ _ ∧ _ ∧ Below w12.heap.size w12 _›; (with_reducible refine (HCN.out _ hbl).mono ?_); rintro e w13 ⟨rfl, hb13⟩) | (go_at_call 19; obtain ⟨_, _, _, _, hbl⟩ := ‹_ ∧ _ ∧ _ ∧ _ ∧ Below w12.heap.size w12 _›; (with_reducible refine (HRC.out _ hbl).mono ?_); rintro e w13 ⟨rfl, hb13⟩) | (go_at_call 12; obtain ⟨_, _, _, _, hbl⟩ := ‹_ ∧ _ ∧ _ ∧ _ ∧ Below w12.heap.size w12 _›; (with_reducible refine (HTO.out _ hbl).mono ?_); rintro e w13 ⟨rfl, rfl⟩))
                go_wp2_with fail
                go_roundw
                case rel => exact ⟨k + 1, _, s2, by omega, by go_num, Lib.hid (HPX.out.next hbl).1, Lib.hid (HGX.out.next hbl)⟩
                case measure => simp [intOf]; omega
          · go_wp2
            go_loopw [25] (fun i wr => ∃ (j : Nat), j ≤ 12 ∧ i = .int .i64 (j : Int) ∧ Hid (PairK w wr p c (fun q => q = g) v s s) ∧ Hid (Blk wr g 37 #[v, .int .i64 (s.W : Int), uv s.seed, nv s.total])) (fun i _ => 12 - (intOf i).toNat)
            case atStart => exact ⟨0, by omega, rfl, HT, HG⟩
            case round =>
              clear HT HG
              obtain ⟨j, hj, rfl, HT, HG⟩ := hrel
              by_cases hlt : j < 12
              · obtain ⟨av, cv, rfl⟩ := HT.out.slice
                have hg12 := HG.out
                have c0 : wr.cell? ⟨g, 0, none⟩ = some (.slice av s.rows cv) := hg12.cell 0
                have c1 : wr.cell? ⟨g, 1, none⟩ = some (.int .i64 (s.W : Int)) := hg12.cell 1
                have c2 : wr.cell? ⟨g, 2, none⟩ = some (uv s.seed) := hg12.cell 2
                have c3 : wr.cell? ⟨g, 3, none⟩ = some (nv s.total) := hg12.cell 3
                have HCN := Lib.hid fun W hW => kcount (keyS j) (HT.out.next (w' := W) hW).1 (keyS_size j)
                have HRC := Lib.hid fun W hW => rcount (keyS j) (HT.out.next (w' := W) hW).1 (keyS_size j)
                have HKE : Hid (∀ (W : World) (u : Int), u = (j : Int) → Calls Try.prog 14 #[.int .u8 u] W fun e w' => e = .returned (.string (keyS (j : Int))) ∧ Below W.heap.size W w') := Lib.hid fun W u hu => by rw [hu]; exact key_calls (j : Int) W (by omega) (by omega)
                have HC4 : Hid (∀ W, Below wr.heap.size wr W → W.cell? ⟨g, 0, none⟩ = some (.slice av s.rows cv) ∧ W.cell? ⟨g, 1, none⟩ = some (.int .i64 (s.W : Int)) ∧ W.cell? ⟨g, 2, none⟩ = some (uv s.seed) ∧ W.cell? ⟨g, 3, none⟩ = some (nv s.total) ∧ Below wr.heap.size wr W) := Lib.hid fun W h => ⟨(h.cell (p := ⟨g, 0, none⟩) hg12.lt).trans c0, (h.cell (p := ⟨g, 1, none⟩) hg12.lt).trans c1, (h.cell (p := ⟨g, 2, none⟩) hg12.lt).trans c2, (h.cell (p := ⟨g, 3, none⟩) hg12.lt).trans c3, h⟩
                generalize hn9 : s.count (keyS (j : Int)).data.toList = n9 at *
                have hx1 : ((n9 : Int) != (n9 : Int)) = false := by simp
                clear hn9 hg12
                go_upto_region 25 with fail
                go_region_held3 (fun W => W.cell? ⟨g, 0, none⟩ = some (.slice av s.rows cv) ∧ W.cell? ⟨g, 1, none⟩ = some (.int .i64 (s.W : Int)) ∧ W.cell? ⟨g, 2, none⟩ = some (uv s.seed) ∧ W.cell? ⟨g, 3, none⟩ = some (nv s.total) ∧ Below wr.heap.size wr W)
                  (first | assumption | exact HC4.out _ (Below.drew (Below.refl _ _)) | exact HC4.out _ (bnext hbl hb13) | go_keep)
                  (first | (go_at_call 14; obtain ⟨_, _, _, _, hbl⟩ := ‹_ ∧ _ ∧ _ ∧ _ ∧ Below wr.heap.size wr _›; (with_reducible refine (HKE.out _ _ (by first | rfl | omega | (simp [IntKind.wrap, IntKind.bits, IntKind.signed, IntKind.min, IntKind.max]; omega))).mono ?_); rintro e w13 ⟨rfl, hb13⟩) | (go_at_call 11; obtain ⟨_, _, _, _, hbl⟩ := ‹_ ∧ _ ∧ _ ∧ _ ∧ Below wr.heap.size wr _›; (with_reducible refine (HCN.out _ hbl).mono ?_); rintro e w13 ⟨rfl, hb13⟩) | (go_at_call 19; obtain ⟨_, _, _, _, hbl⟩ := ‹_ ∧ _ ∧ _ ∧ _ ∧ Below wr.heap.size wr _›; (with_reducible refine (HRC.out _ hbl).mono ?_); rintro e w13 ⟨rfl, hb13⟩))
                go_wp2_with fail
                go_roundw
                case rel => exact ⟨j + 1, by omega, by go_num, Lib.hid (HT.out.next (bnext hbl hb13)).1, Lib.hid (HG.out.next (bnext hbl hb13))⟩
                case measure => simp [intOf]; omega
              · have hbw := HT.out.below
                go_wp2
                go_ret
                exact ⟨rfl, hbw⟩
      · obtain ⟨R, hR, hR1, hR2⟩ : ∃ R : Nat, rows = (R : Int) ∧ 1 ≤ R ∧ R ≤ 8 := ⟨rows.toNat, by omega, by omega, by omega⟩
        obtain ⟨V, hV, hV1, hV2⟩ : ∃ V : Nat, width = (V : Int) ∧ 1 ≤ V ∧ V ≤ 1024 := ⟨width.toNat, by omega, by omega, by omega⟩
        subst hR hV
        clear hno
        go_enter Try.func4, Try.ntmps4
        go_wp2_with fail
        refine (known_calls _).mono ?_
        rintro e w1 ⟨rfl, hb1⟩
        go_wp2_with fail
        refine (new_any R V X _ hR1 hR2 hV1 hV2).mono ?_
        rintro e w2 ⟨p0, q0, rfl, hb2, _, _, _⟩
        go_wp2_with fail
        refine (none_yes R V _ hR1 hR2 hV1 hV2).mono ?_
        rintro e w3 ⟨rfl, hb2'⟩
        have hb3 := bnext (bnext hb1 hb2) hb2'
        clear hb1 hb2 hb2'
        go_wp2_with fail
        rw [← HA.out, ← HB.out]
        refine (new_any A B X _ hA1 hA2 hB1 hB2).mono ?_
        rintro e w4 ⟨p, c, rfl, hb4, hs, hp, hcc⟩
        have hp' := Nat.le_trans hb3.size hp
        have hcc' := Nat.le_trans hb3.size hcc
        have hb4' := bnext hb3 hb4
        clear hb3 hb4 hp hcc
        go_wp2_with fail
        rw [← HA.out, ← HB.out]
        refine (rnew A B X _ hA1 hA2 hB1 hB2).mono ?_
        rintro e w5 ⟨v, rfl, hR, hb5⟩
        have hP0 := pair_start (w0 := w) hb4' hp' hcc' hs hR hb5
        have hP := (hP0.alloc (.cells #[v, .int .i64 ((Sk.new A B X).W : Int), uv (Sk.new A B X).seed, nv (Sk.new A B X).total] 37)).fewer (G' := fun q => q = w5.heap.size) (fun q hq => .inr hq)
        have HP := Lib.hid hP
        have HG := Lib.hid (Blk.new w5 37 #[v, .int .i64 ((Sk.new A B X).W : Int), uv (Sk.new A B X).seed, nv (Sk.new A B X).total])
        obtain ⟨a0, c0, rfl⟩ := hP.slice
        clear hP hP0 hR hb5 hb4' hs hp' hcc'
        generalize Sk.new A B X = s0 at *
        go_wp2_with fail
        generalize w5.heap.size = g at *
        generalize w5.alloc _ = w6 at *
        go_loopw [22] (fun i wr => ∃ (k : Nat) (v : Value) (s : Sk), k ≤ len ∧ i = .int .i64 (k : Int) ∧ Hid (PairK w wr p c (fun q => q = g) v s s) ∧ Hid (Blk wr g 37 #[v, .int .i64 (s.W : Int), uv s.seed, nv s.total])) (fun i _ => len - (intOf i).toNat)
        case atStart => exact ⟨0, _, s0, by omega, rfl, HP, HG⟩
        case round =>
          clear HP HG
          obtain ⟨k, v, s, hk, rfl, HT, HG⟩ := hrel
          by_cases hlt : (k : Int) < (len : Int)
          · have hr := HC.out.1.below HT.out.below
            have hcell := hr.cell k (by omega)
            have hidx := fun W => hr.index Try.prog 23 5 Try.underlying23 (by kernel_rfl) k (by omega) W
            obtain ⟨hx0, hx1⟩ := u8_of_wf (HC.out.2 _ (getD_mem_or (j := k) (by rw [HC.out.1.1]; omega)))
            generalize cs.getD k 0 = x at *
            clear hr
            go_wp2_with fail
            refine (key_calls x _ hx0 hx1).mono ?_
            rintro e w7 ⟨rfl, hb7⟩
            have HT7 := Lib.hid (HT.out.next hb7).1
            have HG7 := Lib.hid (HG.out.next hb7)
            clear hb7 HT HG hcell hidx
            by_cases hkk : (k : Int) < (klen : Int)
            · have hrk := HK.out.1.below HT7.out.below
              have hck := hrk.cell k (by omega)
              have hik := fun W => hrk.index Try.prog 33 9 Try.underlying33 (by kernel_rfl) k (by omega) W
              generalize ks.getD k ByteArray.empty = y at *
              clear hrk
              by_cases hy : (y.size : Int) < 50
              · by_cases hkn : (k : Int) < (nlen : Int)
                · by_cases hkm : (k : Int) < (mlen : Int)
                  · have hrn := HN.out.1.below HT7.out.below
                    have hrm := HM.out.1.below HT7.out.below
                    have hcn := hrn.cell k (by omega)
                    have hcm := hrm.cell k (by omega)
                    have hin := fun W => hrn.index Try.prog 23 5 Try.underlying23 (by kernel_rfl) k (by omega) W
                    have him := fun W => hrm.index Try.prog 32 22 Try.underlying32 (by kernel_rfl) k (by omega) W
                    have hbn : ∀ W, Below w7.heap.size w7 W → W.cell? (adr na k) = some (.int .u8 (ns.getD k 0)) ∧ W.cell? (adr ma k) = some (.int .u64 (ms.getD k 0)) ∧ Below w7.heap.size w7 W := fun W h => ⟨(HN.out.1.below (bnext HT7.out.below h)).cell k (by omega), (HM.out.1.below (bnext HT7.out.below h)).cell k (by omega), h⟩
                    obtain ⟨q0, q1⟩ := u8_of_wf (HN.out.2 _ (getD_mem_or (j := k) (by rw [HN.out.1.1]; omega)))
                    obtain ⟨mk, hmk, hmk2⟩ := nat_of_wf (HM.out.2 _ (getD_mem_or (j := k) (by rw [HM.out.1.1]; omega)))
                    obtain ⟨nk, hnk⟩ : ∃ nk : Nat, ns.getD k 0 = (nk : Int) := ⟨(ns.getD k 0).toNat, by omega⟩
                    rw [hnk] at hcn hbn q0 q1
                    rw [hmk] at hcm hbn
                    have HBN := Lib.hid hbn
                    have HBI := Lib.hid fun W => big_calls nk mk W (by omega) hmk2
                    have hM9 := bigN_le nk mk hmk2
                    generalize bigN nk mk = M9 at *
                    clear hnk hmk hrn hrm hbn
                    go_upto_region 17 with fail
                    go_region_held3 (fun W => W.cell? (adr na k) = some (.int .u8 (nk : Int)) ∧ W.cell? (adr ma k) = some (nv mk) ∧ Below w7.heap.size w7 W)
                      (first | assumption | exact HBN.out _ (Below.drew (Below.refl _ _)) | exact HBN.out _ (bnext hbl hb8) | go_keep)
                      (first | (go_at_call 17; obtain ⟨_, _, hbl⟩ := ‹_ ∧ _ ∧ Below w7.heap.size w7 _›; (with_reducible refine (HBI.out _).mono ?_); rintro e w8 ⟨rfl, hb8⟩))
                    have HT8 := Lib.hid (HT7.out.next (bnext hbl hb8)).1
                    have HG8 := Lib.hid (HG7.out.next (bnext hbl hb8))
                    clear HT7 HG7 hbl hb8 HBN HBI hin him hcn hcm
                    have HA8 := Lib.hid (kadd (y) (M9) HT8.out (by omega) hM9)
                    obtain ⟨s2, hs2⟩ : ∃ s2, s2 = s.add (y).data.toList (M9) := ⟨_, rfl⟩
                    have HR8 := Lib.hid fun (W : World) (h : PairK w W p c (fun q => q = g) v s2 s) => radd (y) (M9) h (by omega) hM9
                    rw [← hs2] at HA8 HR8
                    clear hs2
                    go_wp2_with fail
                    refine HA8.out.mono ?_
                    rintro e w10 ⟨rfl, hp10, hk10⟩
                    have hg10 := HG8.out.kept hk10 rfl
                    have HR9 := Lib.hid (HR8.out _ hp10)
                    have HG10 := Lib.hid hg10
                    obtain ⟨av, cv, hv⟩ := hp10.slice
                    rw [hv] at HR9
                    have c0 : w10.cell? ⟨g, 0, none⟩ = some (v) := hg10.cell 0
                    have c1 : w10.cell? ⟨g, 1, none⟩ = some (.int .i64 (s.W : Int)) := hg10.cell 1
                    have c2 : w10.cell? ⟨g, 2, none⟩ = some (uv s.seed) := hg10.cell 2
                    have c3 : w10.cell? ⟨g, 3, none⟩ = some (nv s.total) := hg10.cell 3
                    rw [hv] at c0
                    clear hg10 hk10 HA8 HR8 HT8 HG8 hp10 hv
                    go_wp2_with fail
                    refine HR9.out.mono ?_
                    rintro e w11 ⟨v11, rfl, hp11, hk11⟩
                    have hg11 := HG10.out.kept hk11 rfl
                    have d0 : w11.cell? ⟨g, 0, none⟩ = some (v) := hg11.cell 0
                    have d1 : w11.cell? ⟨g, 1, none⟩ = some (.int .i64 (s.W : Int)) := hg11.cell 1
                    have d2 : w11.cell? ⟨g, 2, none⟩ = some (uv s.seed) := hg11.cell 2
                    have d3 : w11.cell? ⟨g, 3, none⟩ = some (nv s.total) := hg11.cell 3
                    have f0 := hg11.frozen 0
                    have f1 := hg11.frozen 1
                    have f2 := hg11.frozen 2
                    have f3 := hg11.frozen 3
                    have HPX := Lib.hid (hp11.set4 rfl v11 (.int .i64 (s2.W : Int)) (uv s2.seed) (nv s2.total))
                    have HGX := Lib.hid (set4 (a' := v11) (b' := .int .i64 (s2.W : Int)) (c' := uv s2.seed) (d' := nv s2.total) hg11)
                    obtain ⟨a11, k11, rfl⟩ := hp11.slice
                    clear hp11 hk11 hg11 HR9 HG10 c0 c1 c2 c3
                    go_wp2_with fail
                    clear f0 f1 f2 f3 d0 d1 d2 d3
                    generalize ((((w11.setCell ⟨g, 0, none⟩ (.slice a11 s2.rows k11)).setCell ⟨g, 1, none⟩ (.int .i64 (s2.W : Int))).setCell ⟨g, 2, none⟩ (uv s2.seed)).setCell ⟨g, 3, none⟩ (nv s2.total)) = w12 at *
                    have hg12 := HGX.out
                    have c0 : w12.cell? ⟨g, 0, none⟩ = some (.slice a11 s2.rows k11) := hg12.cell 0
                    have c1 : w12.cell? ⟨g, 1, none⟩ = some (.int .i64 (s2.W : Int)) := hg12.cell 1
                    have c2 : w12.cell? ⟨g, 2, none⟩ = some (uv s2.seed) := hg12.cell 2
                    have c3 : w12.cell? ⟨g, 3, none⟩ = some (nv s2.total) := hg12.cell 3
                    have HCN := Lib.hid fun W hW => kcount (y) (HPX.out.next (w' := W) hW).1 (by omega)
                    have HRC := Lib.hid fun W hW => rcount (y) (HPX.out.next (w' := W) hW).1 (by omega)
                    have HTO := Lib.hid fun W hW => ktotal (HPX.out.next (w' := W) hW).1
                    have HC4 : Hid (∀ W, Below w12.heap.size w12 W → W.cell? ⟨g, 0, none⟩ = some (.slice a11 s2.rows k11) ∧ W.cell? ⟨g, 1, none⟩ = some (.int .i64 (s2.W : Int)) ∧ W.cell? ⟨g, 2, none⟩ = some (uv s2.seed) ∧ W.cell? ⟨g, 3, none⟩ = some (nv s2.total) ∧ Below w12.heap.size w12 W) := Lib.hid fun W h => ⟨(h.cell (p := ⟨g, 0, none⟩) hg12.lt).trans c0, (h.cell (p := ⟨g, 1, none⟩) hg12.lt).trans c1, (h.cell (p := ⟨g, 2, none⟩) hg12.lt).trans c2, (h.cell (p := ⟨g, 3, none⟩) hg12.lt).trans c3, h⟩
                    generalize hn9 : s2.count (y).data.toList = n9 at *
                    have hx1 : ((n9 : Int) != (n9 : Int)) = false := by simp
                    have hx2 : ((s2.total : Int) != (s2.total : Int)) = false := by simp
                    clear hn9 hg12
                    go_region_held3 (fun W => W.cell? ⟨g, 0, none⟩ = some (.slice a11 s2.rows k11) ∧ W.cell? ⟨g, 1, none⟩ = some (.int .i64 (s2.W : Int)) ∧ W.cell? ⟨g, 2, none⟩ = some (uv s2.seed) ∧ W.cell? ⟨g, 3, none⟩ = some (nv s2.total) ∧ Below w12.heap.size w12 W)
                      (first | assumption | exact HC4.out _ (Below.drew (Below.refl _ _)) | exact HC4.out _ (bnext hbl hb13) | go_keep)
                      (first | (go_at_call 11; obtain ⟨_, _, _, _, hbl⟩ := ‹_ ∧ _ ∧ _ ∧ _ ∧ Below w12.heap.size w12 _›; (with_reducible refine (HCN.out _ hbl).mono ?_); rintro e w13 ⟨rfl, hb13⟩) | (go_at_call 19; obtain ⟨_, _, _, _, hbl⟩ := ‹_ ∧ _ ∧ _ ∧ _ ∧ Below w12.heap.size w12 _›; (with_reducible refine (HRC.out _ hbl).mono ?_); rintro e w13 ⟨rfl, hb13⟩) | (go_at_call 12; obtain ⟨_, _, _, _, hbl⟩ := ‹_ ∧ _ ∧ _ ∧ _ ∧ Below w12.heap.size w12 _›; (with_reducible refine (HTO.out _ hbl).mono ?_); rintro e w13 ⟨rfl, rfl⟩))
                    go_wp2_with fail
                    go_roundw
                    case rel => exact ⟨k + 1, _, s2, by omega, by go_num, Lib.hid (HPX.out.next hbl).1, Lib.hid (HGX.out.next hbl)⟩
                    case measure => simp [intOf]; omega
                  · have HA8 := Lib.hid (kadd (y) (1) HT7.out (by omega) (by omega))
                    obtain ⟨s2, hs2⟩ : ∃ s2, s2 = s.add (y).data.toList (1) := ⟨_, rfl⟩
                    have HR8 := Lib.hid fun (W : World) (h : PairK w W p c (fun q => q = g) v s2 s) => radd (y) (1) h (by omega) (by omega)
                    rw [← hs2] at HA8 HR8
                    clear hs2
                    go_wp2_with fail
                    refine HA8.out.mono ?_
                    rintro e w10 ⟨rfl, hp10, hk10⟩
                    have hg10 := HG7.out.kept hk10 rfl
                    have HR9 := Lib.hid (HR8.out _ hp10)
                    have HG10 := Lib.hid hg10
                    obtain ⟨av, cv, hv⟩ := hp10.slice
                    rw [hv] at HR9
                    have c0 : w10.cell? ⟨g, 0, none⟩ = some (v) := hg10.cell 0
                    have c1 : w10.cell? ⟨g, 1, none⟩ = some (.int .i64 (s.W : Int)) := hg10.cell 1
                    have c2 : w10.cell? ⟨g, 2, none⟩ = some (uv s.seed) := hg10.cell 2
                    have c3 : w10.cell? ⟨g, 3, none⟩ = some (nv s.total) := hg10.cell 3
                    rw [hv] at c0
                    clear hg10 hk10 HA8 HR8 HT7 HG7 hp10 hv
                    go_wp2_with fail
                    refine HR9.out.mono ?_
                    rintro e w11 ⟨v11, rfl, hp11, hk11⟩
                    have hg11 := HG10.out.kept hk11 rfl
                    have d0 : w11.cell? ⟨g, 0, none⟩ = some (v) := hg11.cell 0
                    have d1 : w11.cell? ⟨g, 1, none⟩ = some (.int .i64 (s.W : Int)) := hg11.cell 1
                    have d2 : w11.cell? ⟨g, 2, none⟩ = some (uv s.seed) := hg11.cell 2
                    have d3 : w11.cell? ⟨g, 3, none⟩ = some (nv s.total) := hg11.cell 3
                    have f0 := hg11.frozen 0
                    have f1 := hg11.frozen 1
                    have f2 := hg11.frozen 2
                    have f3 := hg11.frozen 3
                    have HPX := Lib.hid (hp11.set4 rfl v11 (.int .i64 (s2.W : Int)) (uv s2.seed) (nv s2.total))
                    have HGX := Lib.hid (set4 (a' := v11) (b' := .int .i64 (s2.W : Int)) (c' := uv s2.seed) (d' := nv s2.total) hg11)
                    obtain ⟨a11, k11, rfl⟩ := hp11.slice
                    clear hp11 hk11 hg11 HR9 HG10 c0 c1 c2 c3
                    go_wp2_with fail
                    clear f0 f1 f2 f3 d0 d1 d2 d3
                    generalize ((((w11.setCell ⟨g, 0, none⟩ (.slice a11 s2.rows k11)).setCell ⟨g, 1, none⟩ (.int .i64 (s2.W : Int))).setCell ⟨g, 2, none⟩ (uv s2.seed)).setCell ⟨g, 3, none⟩ (nv s2.total)) = w12 at *
                    have hg12 := HGX.out
                    have c0 : w12.cell? ⟨g, 0, none⟩ = some (.slice a11 s2.rows k11) := hg12.cell 0
                    have c1 : w12.cell? ⟨g, 1, none⟩ = some (.int .i64 (s2.W : Int)) := hg12.cell 1
                    have c2 : w12.cell? ⟨g, 2, none⟩ = some (uv s2.seed) := hg12.cell 2
                    have c3 : w12.cell? ⟨g, 3, none⟩ = some (nv s2.total) := hg12.cell 3
                    have HCN := Lib.hid fun W hW => kcount (y) (HPX.out.next (w' := W) hW).1 (by omega)
                    have HRC := Lib.hid fun W hW => rcount (y) (HPX.out.next (w' := W) hW).1 (by omega)
                    have HTO := Lib.hid fun W hW => ktotal (HPX.out.next (w' := W) hW).1
                    have HC4 : Hid (∀ W, Below w12.heap.size w12 W → W.cell? ⟨g, 0, none⟩ = some (.slice a11 s2.rows k11) ∧ W.cell? ⟨g, 1, none⟩ = some (.int .i64 (s2.W : Int)) ∧ W.cell? ⟨g, 2, none⟩ = some (uv s2.seed) ∧ W.cell? ⟨g, 3, none⟩ = some (nv s2.total) ∧ Below w12.heap.size w12 W) := Lib.hid fun W h => ⟨(h.cell (p := ⟨g, 0, none⟩) hg12.lt).trans c0, (h.cell (p := ⟨g, 1, none⟩) hg12.lt).trans c1, (h.cell (p := ⟨g, 2, none⟩) hg12.lt).trans c2, (h.cell (p := ⟨g, 3, none⟩) hg12.lt).trans c3, h⟩
                    generalize hn9 : s2.count (y).data.toList = n9 at *
                    have hx1 : ((n9 : Int) != (n9 : Int)) = false := by simp
                    have hx2 : ((s2.total : Int) != (s2.total : Int)) = false := by simp
                    clear hn9 hg12
                    go_region_held3 (fun W => W.cell? ⟨g, 0, none⟩ = some (.slice a11 s2.rows k11) ∧ W.cell? ⟨g, 1, none⟩ = some (.int .i64 (s2.W : Int)) ∧ W.cell? ⟨g, 2, none⟩ = some (uv s2.seed) ∧ W.cell? ⟨g, 3, none⟩ = some (nv s2.total) ∧ Below w12.heap.size w12 W)
                      (first | assumption | exact HC4.out _ (Below.drew (Below.refl _ _)) | exact HC4.out _ (bnext hbl hb13) | go_keep)
                      (first | (go_at_call 11; obtain ⟨_, _, _, _, hbl⟩ := ‹_ ∧ _ ∧ _ ∧ _ ∧ Below w12.heap.size w12 _›; (with_reducible refine (HCN.out _ hbl).mono ?_); rintro e w13 ⟨rfl, hb13⟩) | (go_at_call 19; obtain ⟨_, _, _, _, hbl⟩ := ‹_ ∧ _ ∧ _ ∧ _ ∧ Below w12.heap.size w12 _›; (with_reducible refine (HRC.out _ hbl).mono ?_); rintro e w13 ⟨rfl, hb13⟩) | (go_at_call 12; obtain ⟨_, _, _, _, hbl⟩ := ‹_ ∧ _ ∧ _ ∧ _ ∧ Below w12.heap.size w12 _›; (with_reducible refine (HTO.out _ hbl).mono ?_); rintro e w13 ⟨rfl, rfl⟩))
                    go_wp2_with fail
                    go_roundw
                    case rel => exact ⟨k + 1, _, s2, by omega, by go_num, Lib.hid (HPX.out.next hbl).1, Lib.hid (HGX.out.next hbl)⟩
                    case measure => simp [intOf]; omega
                · have HA8 := Lib.hid (kadd (y) (1) HT7.out (by omega) (by omega))
                  obtain ⟨s2, hs2⟩ : ∃ s2, s2 = s.add (y).data.toList (1) := ⟨_, rfl⟩
                  have HR8 := Lib.hid fun (W : World) (h : PairK w W p c (fun q => q = g) v s2 s) => radd (y) (1) h (by omega) (by omega)
                  rw [← hs2] at HA8 HR8
                  clear hs2
                  go_wp2_with fail
                  refine HA8.out.mono ?_
                  rintro e w10 ⟨rfl, hp10, hk10⟩
                  have hg10 := HG7.out.kept hk10 rfl
                  have HR9 := Lib.hid (HR8.out _ hp10)
                  have HG10 := Lib.hid hg10
                  obtain ⟨av, cv, hv⟩ := hp10.slice
                  rw [hv] at HR9
                  have c0 : w10.cell? ⟨g, 0, none⟩ = some (v) := hg10.cell 0
                  have c1 : w10.cell? ⟨g, 1, none⟩ = some (.int .i64 (s.W : Int)) := hg10.cell 1
                  have c2 : w10.cell? ⟨g, 2, none⟩ = some (uv s.seed) := hg10.cell 2
                  have c3 : w10.cell? ⟨g, 3, none⟩ = some (nv s.total) := hg10.cell 3
                  rw [hv] at c0
                  clear hg10 hk10 HA8 HR8 HT7 HG7 hp10 hv
                  go_wp2_with fail
                  refine HR9.out.mono ?_
                  rintro e w11 ⟨v11, rfl, hp11, hk11⟩
                  have hg11 := HG10.out.kept hk11 rfl
                  have d0 : w11.cell? ⟨g, 0, none⟩ = some (v) := hg11.cell 0
                  have d1 : w11.cell? ⟨g, 1, none⟩ = some (.int .i64 (s.W : Int)) := hg11.cell 1
                  have d2 : w11.cell? ⟨g, 2, none⟩ = some (uv s.seed) := hg11.cell 2
                  have d3 : w11.cell? ⟨g, 3, none⟩ = some (nv s.total) := hg11.cell 3
                  have f0 := hg11.frozen 0
                  have f1 := hg11.frozen 1
                  have f2 := hg11.frozen 2
                  have f3 := hg11.frozen 3
                  have HPX := Lib.hid (hp11.set4 rfl v11 (.int .i64 (s2.W : Int)) (uv s2.seed) (nv s2.total))
                  have HGX := Lib.hid (set4 (a' := v11) (b' := .int .i64 (s2.W : Int)) (c' := uv s2.seed) (d' := nv s2.total) hg11)
                  obtain ⟨a11, k11, rfl⟩ := hp11.slice
                  clear hp11 hk11 hg11 HR9 HG10 c0 c1 c2 c3
                  go_wp2_with fail
                  clear f0 f1 f2 f3 d0 d1 d2 d3
                  generalize ((((w11.setCell ⟨g, 0, none⟩ (.slice a11 s2.rows k11)).setCell ⟨g, 1, none⟩ (.int .i64 (s2.W : Int))).setCell ⟨g, 2, none⟩ (uv s2.seed)).setCell ⟨g, 3, none⟩ (nv s2.total)) = w12 at *
                  have hg12 := HGX.out
                  have c0 : w12.cell? ⟨g, 0, none⟩ = some (.slice a11 s2.rows k11) := hg12.cell 0
                  have c1 : w12.cell? ⟨g, 1, none⟩ = some (.int .i64 (s2.W : Int)) := hg12.cell 1
                  have c2 : w12.cell? ⟨g, 2, none⟩ = some (uv s2.seed) := hg12.cell 2
                  have c3 : w12.cell? ⟨g, 3, none⟩ = some (nv s2.total) := hg12.cell 3
                  have HCN := Lib.hid fun W hW => kcount (y) (HPX.out.next (w' := W) hW).1 (by omega)
                  have HRC := Lib.hid fun W hW => rcount (y) (HPX.out.next (w' := W) hW).1 (by omega)
                  have HTO := Lib.hid fun W hW => ktotal (HPX.out.next (w' := W) hW).1
                  have HC4 : Hid (∀ W, Below w12.heap.size w12 W → W.cell? ⟨g, 0, none⟩ = some (.slice a11 s2.rows k11) ∧ W.cell? ⟨g, 1, none⟩ = some (.int .i64 (s2.W : Int)) ∧ W.cell? ⟨g, 2, none⟩ = some (uv s2.seed) ∧ W.cell? ⟨g, 3, none⟩ = some (nv s2.total) ∧ Below w12.heap.size w12 W) := Lib.hid fun W h => ⟨(h.cell (p := ⟨g, 0, none⟩) hg12.lt).trans c0, (h.cell (p := ⟨g, 1, none⟩) hg12.lt).trans c1, (h.cell (p := ⟨g, 2, none⟩) hg12.lt).trans c2, (h.cell (p := ⟨g, 3, none⟩) hg12.lt).trans c3, h⟩
                  generalize hn9 : s2.count (y).data.toList = n9 at *
                  have hx1 : ((n9 : Int) != (n9 : Int)) = false := by simp
                  have hx2 : ((s2.total : Int) != (s2.total : Int)) = false := by simp
                  clear hn9 hg12
                  go_region_held3 (fun W => W.cell? ⟨g, 0, none⟩ = some (.slice a11 s2.rows k11) ∧ W.cell? ⟨g, 1, none⟩ = some (.int .i64 (s2.W : Int)) ∧ W.cell? ⟨g, 2, none⟩ = some (uv s2.seed) ∧ W.cell? ⟨g, 3, none⟩ = some (nv s2.total) ∧ Below w12.heap.size w12 W)
                    (first | assumption | exact HC4.out _ (Below.drew (Below.refl _ _)) | exact HC4.out _ (bnext hbl hb13) | go_keep)
                    (first | (go_at_call 11; obtain ⟨_, _, _, _, hbl⟩ := ‹_ ∧ _ ∧ _ ∧ _ ∧ Below w12.heap.size w12 _›; (with_reducible refine (HCN.out _ hbl).mono ?_); rintro e w13 ⟨rfl, hb13⟩) | (go_at_call 19; obtain ⟨_, _, _, _, hbl⟩ := ‹_ ∧ _ ∧ _ ∧ _ ∧ Below w12.heap.size w12 _›; (with_reducible refine (HRC.out _ hbl).mono ?_); rintro e w13 ⟨rfl, hb13⟩) | (go_at_call 12; obtain ⟨_, _, _, _, hbl⟩ := ‹_ ∧ _ ∧ _ ∧ _ ∧ Below w12.heap.size w12 _›; (with_reducible refine (HTO.out _ hbl).mono ?_); rintro e w13 ⟨rfl, rfl⟩))
                  go_wp2_with fail
                  go_roundw
                  case rel => exact ⟨k + 1, _, s2, by omega, by go_num, Lib.hid (HPX.out.next hbl).1, Lib.hid (HGX.out.next hbl)⟩
                  case measure => simp [intOf]; omega
              · by_cases hkn : (k : Int) < (nlen : Int)
                · by_cases hkm : (k : Int) < (mlen : Int)
                  · have hrn := HN.out.1.below HT7.out.below
                    have hrm := HM.out.1.below HT7.out.below
                    have hcn := hrn.cell k (by omega)
                    have hcm := hrm.cell k (by omega)
                    have hin := fun W => hrn.index Try.prog 23 5 Try.underlying23 (by kernel_rfl) k (by omega) W
                    have him := fun W => hrm.index Try.prog 32 22 Try.underlying32 (by kernel_rfl) k (by omega) W
                    have hbn : ∀ W, Below w7.heap.size w7 W → W.cell? (adr na k) = some (.int .u8 (ns.getD k 0)) ∧ W.cell? (adr ma k) = some (.int .u64 (ms.getD k 0)) ∧ Below w7.heap.size w7 W := fun W h => ⟨(HN.out.1.below (bnext HT7.out.below h)).cell k (by omega), (HM.out.1.below (bnext HT7.out.below h)).cell k (by omega), h⟩
                    obtain ⟨q0, q1⟩ := u8_of_wf (HN.out.2 _ (getD_mem_or (j := k) (by rw [HN.out.1.1]; omega)))
                    obtain ⟨mk, hmk, hmk2⟩ := nat_of_wf (HM.out.2 _ (getD_mem_or (j := k) (by rw [HM.out.1.1]; omega)))
                    obtain ⟨nk, hnk⟩ : ∃ nk : Nat, ns.getD k 0 = (nk : Int) := ⟨(ns.getD k 0).toNat, by omega⟩
                    rw [hnk] at hcn hbn q0 q1
                    rw [hmk] at hcm hbn
                    have HBN := Lib.hid hbn
                    have HBI := Lib.hid fun W => big_calls nk mk W (by omega) hmk2
                    have hM9 := bigN_le nk mk hmk2
                    generalize bigN nk mk = M9 at *
                    clear hnk hmk hrn hrm hbn
                    go_upto_region 17 with fail
                    go_region_held3 (fun W => W.cell? (adr na k) = some (.int .u8 (nk : Int)) ∧ W.cell? (adr ma k) = some (nv mk) ∧ Below w7.heap.size w7 W)
                      (first | assumption | exact HBN.out _ (Below.drew (Below.refl _ _)) | exact HBN.out _ (bnext hbl hb8) | go_keep)
                      (first | (go_at_call 17; obtain ⟨_, _, hbl⟩ := ‹_ ∧ _ ∧ Below w7.heap.size w7 _›; (with_reducible refine (HBI.out _).mono ?_); rintro e w8 ⟨rfl, hb8⟩))
                    have HT8 := Lib.hid (HT7.out.next (bnext hbl hb8)).1
                    have HG8 := Lib.hid (HG7.out.next (bnext hbl hb8))
                    clear HT7 HG7 hbl hb8 HBN HBI hin him hcn hcm
                    have HA8 := Lib.hid (kadd (keyS x) (M9) HT8.out (keyS_size x) hM9)
                    obtain ⟨s2, hs2⟩ : ∃ s2, s2 = s.add (keyS x).data.toList (M9) := ⟨_, rfl⟩
                    have HR8 := Lib.hid fun (W : World) (h : PairK w W p c (fun q => q = g) v s2 s) => radd (keyS x) (M9) h (keyS_size x) hM9
                    rw [← hs2] at HA8 HR8
                    clear hs2
                    go_wp2_with fail
                    refine HA8.out.mono ?_
                    rintro e w10 ⟨rfl, hp10, hk10⟩
                    have hg10 := HG8.out.kept hk10 rfl
                    have HR9 := Lib.hid (HR8.out _ hp10)
                    have HG10 := Lib.hid hg10
                    obtain ⟨av, cv, hv⟩ := hp10.slice
                    rw [hv] at HR9
                    have c0 : w10.cell? ⟨g, 0, none⟩ = some (v) := hg10.cell 0
                    have c1 : w10.cell? ⟨g, 1, none⟩ = some (.int .i64 (s.W : Int)) := hg10.cell 1
                    have c2 : w10.cell? ⟨g, 2, none⟩ = some (uv s.seed) := hg10.cell 2
                    have c3 : w10.cell? ⟨g, 3, none⟩ = some (nv s.total) := hg10.cell 3
                    rw [hv] at c0
                    clear hg10 hk10 HA8 HR8 HT8 HG8 hp10 hv
                    go_wp2_with fail
                    refine HR9.out.mono ?_
                    rintro e w11 ⟨v11, rfl, hp11, hk11⟩
                    have hg11 := HG10.out.kept hk11 rfl
                    have d0 : w11.cell? ⟨g, 0, none⟩ = some (v) := hg11.cell 0
                    have d1 : w11.cell? ⟨g, 1, none⟩ = some (.int .i64 (s.W : Int)) := hg11.cell 1
                    have d2 : w11.cell? ⟨g, 2, none⟩ = some (uv s.seed) := hg11.cell 2
                    have d3 : w11.cell? ⟨g, 3, none⟩ = some (nv s.total) := hg11.cell 3
                    have f0 := hg11.frozen 0
                    have f1 := hg11.frozen 1
                    have f2 := hg11.frozen 2
                    have f3 := hg11.frozen 3
                    have HPX := Lib.hid (hp11.set4 rfl v11 (.int .i64 (s2.W : Int)) (uv s2.seed) (nv s2.total))
                    have HGX := Lib.hid (set4 (a' := v11) (b' := .int .i64 (s2.W : Int)) (c' := uv s2.seed) (d' := nv s2.total) hg11)
                    obtain ⟨a11, k11, rfl⟩ := hp11.slice
                    clear hp11 hk11 hg11 HR9 HG10 c0 c1 c2 c3
                    go_wp2_with fail
                    clear f0 f1 f2 f3 d0 d1 d2 d3
                    generalize ((((w11.setCell ⟨g, 0, none⟩ (.slice a11 s2.rows k11)).setCell ⟨g, 1, none⟩ (.int .i64 (s2.W : Int))).setCell ⟨g, 2, none⟩ (uv s2.seed)).setCell ⟨g, 3, none⟩ (nv s2.total)) = w12 at *
                    have hg12 := HGX.out
                    have c0 : w12.cell? ⟨g, 0, none⟩ = some (.slice a11 s2.rows k11) := hg12.cell 0
                    have c1 : w12.cell? ⟨g, 1, none⟩ = some (.int .i64 (s2.W : Int)) := hg12.cell 1
                    have c2 : w12.cell? ⟨g, 2, none⟩ = some (uv s2.seed) := hg12.cell 2
                    have c3 : w12.cell? ⟨g, 3, none⟩ = some (nv s2.total) := hg12.cell 3
                    have HCN := Lib.hid fun W hW => kcount (keyS x) (HPX.out.next (w' := W) hW).1 (keyS_size x)
                    have HRC := Lib.hid fun W hW => rcount (keyS x) (HPX.out.next (w' := W) hW).1 (keyS_size x)
                    have HTO := Lib.hid fun W hW => ktotal (HPX.out.next (w' := W) hW).1
                    have HC4 : Hid (∀ W, Below w12.heap.size w12 W → W.cell? ⟨g, 0, none⟩ = some (.slice a11 s2.rows k11) ∧ W.cell? ⟨g, 1, none⟩ = some (.int .i64 (s2.W : Int)) ∧ W.cell? ⟨g, 2, none⟩ = some (uv s2.seed) ∧ W.cell? ⟨g, 3, none⟩ = some (nv s2.total) ∧ Below w12.heap.size w12 W) := Lib.hid fun W h => ⟨(h.cell (p := ⟨g, 0, none⟩) hg12.lt).trans c0, (h.cell (p := ⟨g, 1, none⟩) hg12.lt).trans c1, (h.cell (p := ⟨g, 2, none⟩) hg12.lt).trans c2, (h.cell (p := ⟨g, 3, none⟩) hg12.lt).trans c3, h⟩
                    generalize hn9 : s2.count (keyS x).data.toList = n9 at *
                    have hx1 : ((n9 : Int) != (n9 : Int)) = false := by simp
                    have hx2 : ((s2.total : Int) != (s2.total : Int)) = false := by simp
                    clear hn9 hg12
                    go_region_held3 (fun W => W.cell? ⟨g, 0, none⟩ = some (.slice a11 s2.rows k11) ∧ W.cell? ⟨g, 1, none⟩ = some (.int .i64 (s2.W : Int)) ∧ W.cell? ⟨g, 2, none⟩ = some (uv s2.seed) ∧ W.cell? ⟨g, 3, none⟩ = some (nv s2.total) ∧ Below w12.heap.size w12 W)
                      (first | assumption | exact HC4.out _ (Below.drew (Below.refl _ _)) | exact HC4.out _ (bnext hbl hb13) | go_keep)
                      (first | (go_at_call 11; obtain ⟨_, _, _, _, hbl⟩ := ‹_ ∧ _ ∧ _ ∧ _ ∧ Below w12.heap.size w12 _›; (with_reducible refine (HCN.out _ hbl).mono ?_); rintro e w13 ⟨rfl, hb13⟩) | (go_at_call 19; obtain ⟨_, _, _, _, hbl⟩ := ‹_ ∧ _ ∧ _ ∧ _ ∧ Below w12.heap.size w12 _›; (with_reducible refine (HRC.out _ hbl).mono ?_); rintro e w13 ⟨rfl, hb13⟩) | (go_at_call 12; obtain ⟨_, _, _, _, hbl⟩ := ‹_ ∧ _ ∧ _ ∧ _ ∧ Below w12.heap.size w12 _›; (with_reducible refine (HTO.out _ hbl).mono ?_); rintro e w13 ⟨rfl, rfl⟩))
                    go_wp2_with fail
                    go_roundw
                    case rel => exact ⟨k + 1, _, s2, by omega, by go_num, Lib.hid (HPX.out.next hbl).1, Lib.hid (HGX.out.next hbl)⟩
                    case measure => simp [intOf]; omega
                  · have HA8 := Lib.hid (kadd (keyS x) (1) HT7.out (keyS_size x) (by omega))
                    obtain ⟨s2, hs2⟩ : ∃ s2, s2 = s.add (keyS x).data.toList (1) := ⟨_, rfl⟩
                    have HR8 := Lib.hid fun (W : World) (h : PairK w W p c (fun q => q = g) v s2 s) => radd (keyS x) (1) h (keyS_size x) (by omega)
                    rw [← hs2] at HA8 HR8
                    clear hs2
                    go_wp2_with fail
                    refine HA8.out.mono ?_
                    rintro e w10 ⟨rfl, hp10, hk10⟩
                    have hg10 := HG7.out.kept hk10 rfl
                    have HR9 := Lib.hid (HR8.out _ hp10)
                    have HG10 := Lib.hid hg10
                    obtain ⟨av, cv, hv⟩ := hp10.slice
                    rw [hv] at HR9
                    have c0 : w10.cell? ⟨g, 0, none⟩ = some (v) := hg10.cell 0
                    have c1 : w10.cell? ⟨g, 1, none⟩ = some (.int .i64 (s.W : Int)) := hg10.cell 1
                    have c2 : w10.cell? ⟨g, 2, none⟩ = some (uv s.seed) := hg10.cell 2
                    have c3 : w10.cell? ⟨g, 3, none⟩ = some (nv s.total) := hg10.cell 3
                    rw [hv] at c0
                    clear hg10 hk10 HA8 HR8 HT7 HG7 hp10 hv
                    go_wp2_with fail
                    refine HR9.out.mono ?_
                    rintro e w11 ⟨v11, rfl, hp11, hk11⟩
                    have hg11 := HG10.out.kept hk11 rfl
                    have d0 : w11.cell? ⟨g, 0, none⟩ = some (v) := hg11.cell 0
                    have d1 : w11.cell? ⟨g, 1, none⟩ = some (.int .i64 (s.W : Int)) := hg11.cell 1
                    have d2 : w11.cell? ⟨g, 2, none⟩ = some (uv s.seed) := hg11.cell 2
                    have d3 : w11.cell? ⟨g, 3, none⟩ = some (nv s.total) := hg11.cell 3
                    have f0 := hg11.frozen 0
                    have f1 := hg11.frozen 1
                    have f2 := hg11.frozen 2
                    have f3 := hg11.frozen 3
                    have HPX := Lib.hid (hp11.set4 rfl v11 (.int .i64 (s2.W : Int)) (uv s2.seed) (nv s2.total))
                    have HGX := Lib.hid (set4 (a' := v11) (b' := .int .i64 (s2.W : Int)) (c' := uv s2.seed) (d' := nv s2.total) hg11)
                    obtain ⟨a11, k11, rfl⟩ := hp11.slice
                    clear hp11 hk11 hg11 HR9 HG10 c0 c1 c2 c3
                    go_wp2_with fail
                    clear f0 f1 f2 f3 d0 d1 d2 d3
                    generalize ((((w11.setCell ⟨g, 0, none⟩ (.slice a11 s2.rows k11)).setCell ⟨g, 1, none⟩ (.int .i64 (s2.W : Int))).setCell ⟨g, 2, none⟩ (uv s2.seed)).setCell ⟨g, 3, none⟩ (nv s2.total)) = w12 at *
                    have hg12 := HGX.out
                    have c0 : w12.cell? ⟨g, 0, none⟩ = some (.slice a11 s2.rows k11) := hg12.cell 0
                    have c1 : w12.cell? ⟨g, 1, none⟩ = some (.int .i64 (s2.W : Int)) := hg12.cell 1
                    have c2 : w12.cell? ⟨g, 2, none⟩ = some (uv s2.seed) := hg12.cell 2
                    have c3 : w12.cell? ⟨g, 3, none⟩ = some (nv s2.total) := hg12.cell 3
                    have HCN := Lib.hid fun W hW => kcount (keyS x) (HPX.out.next (w' := W) hW).1 (keyS_size x)
                    have HRC := Lib.hid fun W hW => rcount (keyS x) (HPX.out.next (w' := W) hW).1 (keyS_size x)
                    have HTO := Lib.hid fun W hW => ktotal (HPX.out.next (w' := W) hW).1
                    have HC4 : Hid (∀ W, Below w12.heap.size w12 W → W.cell? ⟨g, 0, none⟩ = some (.slice a11 s2.rows k11) ∧ W.cell? ⟨g, 1, none⟩ = some (.int .i64 (s2.W : Int)) ∧ W.cell? ⟨g, 2, none⟩ = some (uv s2.seed) ∧ W.cell? ⟨g, 3, none⟩ = some (nv s2.total) ∧ Below w12.heap.size w12 W) := Lib.hid fun W h => ⟨(h.cell (p := ⟨g, 0, none⟩) hg12.lt).trans c0, (h.cell (p := ⟨g, 1, none⟩) hg12.lt).trans c1, (h.cell (p := ⟨g, 2, none⟩) hg12.lt).trans c2, (h.cell (p := ⟨g, 3, none⟩) hg12.lt).trans c3, h⟩
                    generalize hn9 : s2.count (keyS x).data.toList = n9 at *
                    have hx1 : ((n9 : Int) != (n9 : Int)) = false := by simp
                    have hx2 : ((s2.total : Int) != (s2.total : Int)) = false := by simp
                    clear hn9 hg12
                    go_region_held3 (fun W => W.cell? ⟨g, 0, none⟩ = some (.slice a11 s2.rows k11) ∧ W.cell? ⟨g, 1, none⟩ = some (.int .i64 (s2.W : Int)) ∧ W.cell? ⟨g, 2, none⟩ = some (uv s2.seed) ∧ W.cell? ⟨g, 3, none⟩ = some (nv s2.total) ∧ Below w12.heap.size w12 W)
                      (first | assumption | exact HC4.out _ (Below.drew (Below.refl _ _)) | exact HC4.out _ (bnext hbl hb13) | go_keep)
                      (first | (go_at_call 11; obtain ⟨_, _, _, _, hbl⟩ := ‹_ ∧ _ ∧ _ ∧ _ ∧ Below w12.heap.size w12 _›; (with_reducible refine (HCN.out _ hbl).mono ?_); rintro e w13 ⟨rfl, hb13⟩) | (go_at_call 19; obtain ⟨_, _, _, _, hbl⟩ := ‹_ ∧ _ ∧ _ ∧ _ ∧ Below w12.heap.size w12 _›; (with_reducible refine (HRC.out _ hbl).mono ?_); rintro e w13 ⟨rfl, hb13⟩) | (go_at_call 12; obtain ⟨_, _, _, _, hbl⟩ := ‹_ ∧ _ ∧ _ ∧ _ ∧ Below w12.heap.size w12 _›; (with_reducible refine (HTO.out _ hbl).mono ?_); rintro e w13 ⟨rfl, rfl⟩))
                    go_wp2_with fail
                    go_roundw
                    case rel => exact ⟨k + 1, _, s2, by omega, by go_num, Lib.hid (HPX.out.next hbl).1, Lib.hid (HGX.out.next hbl)⟩
                    case measure => simp [intOf]; omega
                · have HA8 := Lib.hid (kadd (keyS x) (1) HT7.out (keyS_size x) (by omega))
                  obtain ⟨s2, hs2⟩ : ∃ s2, s2 = s.add (keyS x).data.toList (1) := ⟨_, rfl⟩
                  have HR8 := Lib.hid fun (W : World) (h : PairK w W p c (fun q => q = g) v s2 s) => radd (keyS x) (1) h (keyS_size x) (by omega)
                  rw [← hs2] at HA8 HR8
                  clear hs2
                  go_wp2_with fail
                  refine HA8.out.mono ?_
                  rintro e w10 ⟨rfl, hp10, hk10⟩
                  have hg10 := HG7.out.kept hk10 rfl
                  have HR9 := Lib.hid (HR8.out _ hp10)
                  have HG10 := Lib.hid hg10
                  obtain ⟨av, cv, hv⟩ := hp10.slice
                  rw [hv] at HR9
                  have c0 : w10.cell? ⟨g, 0, none⟩ = some (v) := hg10.cell 0
                  have c1 : w10.cell? ⟨g, 1, none⟩ = some (.int .i64 (s.W : Int)) := hg10.cell 1
                  have c2 : w10.cell? ⟨g, 2, none⟩ = some (uv s.seed) := hg10.cell 2
                  have c3 : w10.cell? ⟨g, 3, none⟩ = some (nv s.total) := hg10.cell 3
                  rw [hv] at c0
                  clear hg10 hk10 HA8 HR8 HT7 HG7 hp10 hv
                  go_wp2_with fail
                  refine HR9.out.mono ?_
                  rintro e w11 ⟨v11, rfl, hp11, hk11⟩
                  have hg11 := HG10.out.kept hk11 rfl
                  have d0 : w11.cell? ⟨g, 0, none⟩ = some (v) := hg11.cell 0
                  have d1 : w11.cell? ⟨g, 1, none⟩ = some (.int .i64 (s.W : Int)) := hg11.cell 1
                  have d2 : w11.cell? ⟨g, 2, none⟩ = some (uv s.seed) := hg11.cell 2
                  have d3 : w11.cell? ⟨g, 3, none⟩ = some (nv s.total) := hg11.cell 3
                  have f0 := hg11.frozen 0
                  have f1 := hg11.frozen 1
                  have f2 := hg11.frozen 2
                  have f3 := hg11.frozen 3
                  have HPX := Lib.hid (hp11.set4 rfl v11 (.int .i64 (s2.W : Int)) (uv s2.seed) (nv s2.total))
                  have HGX := Lib.hid (set4 (a' := v11) (b' := .int .i64 (s2.W : Int)) (c' := uv s2.seed) (d' := nv s2.total) hg11)
                  obtain ⟨a11, k11, rfl⟩ := hp11.slice
                  clear hp11 hk11 hg11 HR9 HG10 c0 c1 c2 c3
                  go_wp2_with fail
                  clear f0 f1 f2 f3 d0 d1 d2 d3
                  generalize ((((w11.setCell ⟨g, 0, none⟩ (.slice a11 s2.rows k11)).setCell ⟨g, 1, none⟩ (.int .i64 (s2.W : Int))).setCell ⟨g, 2, none⟩ (uv s2.seed)).setCell ⟨g, 3, none⟩ (nv s2.total)) = w12 at *
                  have hg12 := HGX.out
                  have c0 : w12.cell? ⟨g, 0, none⟩ = some (.slice a11 s2.rows k11) := hg12.cell 0
                  have c1 : w12.cell? ⟨g, 1, none⟩ = some (.int .i64 (s2.W : Int)) := hg12.cell 1
                  have c2 : w12.cell? ⟨g, 2, none⟩ = some (uv s2.seed) := hg12.cell 2
                  have c3 : w12.cell? ⟨g, 3, none⟩ = some (nv s2.total) := hg12.cell 3
                  have HCN := Lib.hid fun W hW => kcount (keyS x) (HPX.out.next (w' := W) hW).1 (keyS_size x)
                  have HRC := Lib.hid fun W hW => rcount (keyS x) (HPX.out.next (w' := W) hW).1 (keyS_size x)
                  have HTO := Lib.hid fun W hW => ktotal (HPX.out.next (w' := W) hW).1
                  have HC4 : Hid (∀ W, Below w12.heap.size w12 W → W.cell? ⟨g, 0, none⟩ = some (.slice a11 s2.rows k11) ∧ W.cell? ⟨g, 1, none⟩ = some (.int .i64 (s2.W : Int)) ∧ W.cell? ⟨g, 2, none⟩ = some (uv s2.seed) ∧ W.cell? ⟨g, 3, none⟩ = some (nv s2.total) ∧ Below w12.heap.size w12 W) := Lib.hid fun W h => ⟨(h.cell (p := ⟨g, 0, none⟩) hg12.lt).trans c0, (h.cell (p := ⟨g, 1, none⟩) hg12.lt).trans c1, (h.cell (p := ⟨g, 2, none⟩) hg12.lt).trans c2, (h.cell (p := ⟨g, 3, none⟩) hg12.lt).trans c3, h⟩
                  generalize hn9 : s2.count (keyS x).data.toList = n9 at *
                  have hx1 : ((n9 : Int) != (n9 : Int)) = false := by simp
                  have hx2 : ((s2.total : Int) != (s2.total : Int)) = false := by simp
                  clear hn9 hg12
                  go_region_held3 (fun W => W.cell? ⟨g, 0, none⟩ = some (.slice a11 s2.rows k11) ∧ W.cell? ⟨g, 1, none⟩ = some (.int .i64 (s2.W : Int)) ∧ W.cell? ⟨g, 2, none⟩ = some (uv s2.seed) ∧ W.cell? ⟨g, 3, none⟩ = some (nv s2.total) ∧ Below w12.heap.size w12 W)
                    (first | assumption | exact HC4.out _ (Below.drew (Below.refl _ _)) | exact HC4.out _ (bnext hbl hb13) | go_keep)
                    (first | (go_at_call 11; obtain ⟨_, _, _, _, hbl⟩ := ‹_ ∧ _ ∧ _ ∧ _ ∧ Below w12.heap.size w12 _›; (with_reducible refine (HCN.out _ hbl).mono ?_); rintro e w13 ⟨rfl, hb13⟩) | (go_at_call 19; obtain ⟨_, _, _, _, hbl⟩ := ‹_ ∧ _ ∧ _ ∧ _ ∧ Below w12.heap.size w12 _›; (with_reducible refine (HRC.out _ hbl).mono ?_); rintro e w13 ⟨rfl, hb13⟩) | (go_at_call 12; obtain ⟨_, _, _, _, hbl⟩ := ‹_ ∧ _ ∧ _ ∧ _ ∧ Below w12.heap.size w12 _›; (with_reducible refine (HTO.out _ hbl).mono ?_); rintro e w13 ⟨rfl, rfl⟩))
                  go_wp2_with fail
                  go_roundw
                  case rel => exact ⟨k + 1, _, s2, by omega, by go_num, Lib.hid (HPX.out.next hbl).1, Lib.hid (HGX.out.next hbl)⟩
                  case measure => simp [intOf]; omega
            · by_cases hkn : (k : Int) < (nlen : Int)
              · by_cases hkm : (k : Int) < (mlen : Int)
                · have hrn := HN.out.1.below HT7.out.below
                  have hrm := HM.out.1.below HT7.out.below
                  have hcn := hrn.cell k (by omega)
                  have hcm := hrm.cell k (by omega)
                  have hin := fun W => hrn.index Try.prog 23 5 Try.underlying23 (by kernel_rfl) k (by omega) W
                  have him := fun W => hrm.index Try.prog 32 22 Try.underlying32 (by kernel_rfl) k (by omega) W
                  have hbn : ∀ W, Below w7.heap.size w7 W → W.cell? (adr na k) = some (.int .u8 (ns.getD k 0)) ∧ W.cell? (adr ma k) = some (.int .u64 (ms.getD k 0)) ∧ Below w7.heap.size w7 W := fun W h => ⟨(HN.out.1.below (bnext HT7.out.below h)).cell k (by omega), (HM.out.1.below (bnext HT7.out.below h)).cell k (by omega), h⟩
                  obtain ⟨q0, q1⟩ := u8_of_wf (HN.out.2 _ (getD_mem_or (j := k) (by rw [HN.out.1.1]; omega)))
                  obtain ⟨mk, hmk, hmk2⟩ := nat_of_wf (HM.out.2 _ (getD_mem_or (j := k) (by rw [HM.out.1.1]; omega)))
                  obtain ⟨nk, hnk⟩ : ∃ nk : Nat, ns.getD k 0 = (nk : Int) := ⟨(ns.getD k 0).toNat, by omega⟩
                  rw [hnk] at hcn hbn q0 q1
                  rw [hmk] at hcm hbn
                  have HBN := Lib.hid hbn
                  have HBI := Lib.hid fun W => big_calls nk mk W (by omega) hmk2
                  have hM9 := bigN_le nk mk hmk2
                  generalize bigN nk mk = M9 at *
                  clear hnk hmk hrn hrm hbn
                  go_upto_region 17 with fail
                  go_region_held3 (fun W => W.cell? (adr na k) = some (.int .u8 (nk : Int)) ∧ W.cell? (adr ma k) = some (nv mk) ∧ Below w7.heap.size w7 W)
                    (first | assumption | exact HBN.out _ (Below.drew (Below.refl _ _)) | exact HBN.out _ (bnext hbl hb8) | go_keep)
                    (first | (go_at_call 17; obtain ⟨_, _, hbl⟩ := ‹_ ∧ _ ∧ Below w7.heap.size w7 _›; (with_reducible refine (HBI.out _).mono ?_); rintro e w8 ⟨rfl, hb8⟩))
                  have HT8 := Lib.hid (HT7.out.next (bnext hbl hb8)).1
                  have HG8 := Lib.hid (HG7.out.next (bnext hbl hb8))
                  clear HT7 HG7 hbl hb8 HBN HBI hin him hcn hcm
                  have HA8 := Lib.hid (kadd (keyS x) (M9) HT8.out (keyS_size x) hM9)
                  obtain ⟨s2, hs2⟩ : ∃ s2, s2 = s.add (keyS x).data.toList (M9) := ⟨_, rfl⟩
                  have HR8 := Lib.hid fun (W : World) (h : PairK w W p c (fun q => q = g) v s2 s) => radd (keyS x) (M9) h (keyS_size x) hM9
                  rw [← hs2] at HA8 HR8
                  clear hs2
                  go_wp2_with fail
                  refine HA8.out.mono ?_
                  rintro e w10 ⟨rfl, hp10, hk10⟩
                  have hg10 := HG8.out.kept hk10 rfl
                  have HR9 := Lib.hid (HR8.out _ hp10)
                  have HG10 := Lib.hid hg10
                  obtain ⟨av, cv, hv⟩ := hp10.slice
                  rw [hv] at HR9
                  have c0 : w10.cell? ⟨g, 0, none⟩ = some (v) := hg10.cell 0
                  have c1 : w10.cell? ⟨g, 1, none⟩ = some (.int .i64 (s.W : Int)) := hg10.cell 1
                  have c2 : w10.cell? ⟨g, 2, none⟩ = some (uv s.seed) := hg10.cell 2
                  have c3 : w10.cell? ⟨g, 3, none⟩ = some (nv s.total) := hg10.cell 3
                  rw [hv] at c0
                  clear hg10 hk10 HA8 HR8 HT8 HG8 hp10 hv
                  go_wp2_with fail
                  refine HR9.out.mono ?_
                  rintro e w11 ⟨v11, rfl, hp11, hk11⟩
                  have hg11 := HG10.out.kept hk11 rfl
                  have d0 : w11.cell? ⟨g, 0, none⟩ = some (v) := hg11.cell 0
                  have d1 : w11.cell? ⟨g, 1, none⟩ = some (.int .i64 (s.W : Int)) := hg11.cell 1
                  have d2 : w11.cell? ⟨g, 2, none⟩ = some (uv s.seed) := hg11.cell 2
                  have d3 : w11.cell? ⟨g, 3, none⟩ = some (nv s.total) := hg11.cell 3
                  have f0 := hg11.frozen 0
                  have f1 := hg11.frozen 1
                  have f2 := hg11.frozen 2
                  have f3 := hg11.frozen 3
                  have HPX := Lib.hid (hp11.set4 rfl v11 (.int .i64 (s2.W : Int)) (uv s2.seed) (nv s2.total))
                  have HGX := Lib.hid (set4 (a' := v11) (b' := .int .i64 (s2.W : Int)) (c' := uv s2.seed) (d' := nv s2.total) hg11)
                  obtain ⟨a11, k11, rfl⟩ := hp11.slice
                  clear hp11 hk11 hg11 HR9 HG10 c0 c1 c2 c3
                  go_wp2_with fail
                  clear f0 f1 f2 f3 d0 d1 d2 d3
                  generalize ((((w11.setCell ⟨g, 0, none⟩ (.slice a11 s2.rows k11)).setCell ⟨g, 1, none⟩ (.int .i64 (s2.W : Int))).setCell ⟨g, 2, none⟩ (uv s2.seed)).setCell ⟨g, 3, none⟩ (nv s2.total)) = w12 at *
                  have hg12 := HGX.out
                  have c0 : w12.cell? ⟨g, 0, none⟩ = some (.slice a11 s2.rows k11) := hg12.cell 0
                  have c1 : w12.cell? ⟨g, 1, none⟩ = some (.int .i64 (s2.W : Int)) := hg12.cell 1
                  have c2 : w12.cell? ⟨g, 2, none⟩ = some (uv s2.seed) := hg12.cell 2
                  have c3 : w12.cell? ⟨g, 3, none⟩ = some (nv s2.total) := hg12.cell 3
                  have HCN := Lib.hid fun W hW => kcount (keyS x) (HPX.out.next (w' := W) hW).1 (keyS_size x)
                  have HRC := Lib.hid fun W hW => rcount (keyS x) (HPX.out.next (w' := W) hW).1 (keyS_size x)
                  have HTO := Lib.hid fun W hW => ktotal (HPX.out.next (w' := W) hW).1
                  have HC4 : Hid (∀ W, Below w12.heap.size w12 W → W.cell? ⟨g, 0, none⟩ = some (.slice a11 s2.rows k11) ∧ W.cell? ⟨g, 1, none⟩ = some (.int .i64 (s2.W : Int)) ∧ W.cell? ⟨g, 2, none⟩ = some (uv s2.seed) ∧ W.cell? ⟨g, 3, none⟩ = some (nv s2.total) ∧ Below w12.heap.size w12 W) := Lib.hid fun W h => ⟨(h.cell (p := ⟨g, 0, none⟩) hg12.lt).trans c0, (h.cell (p := ⟨g, 1, none⟩) hg12.lt).trans c1, (h.cell (p := ⟨g, 2, none⟩) hg12.lt).trans c2, (h.cell (p := ⟨g, 3, none⟩) hg12.lt).trans c3, h⟩
                  generalize hn9 : s2.count (keyS x).data.toList = n9 at *
                  have hx1 : ((n9 : Int) != (n9 : Int)) = false := by simp
                  have hx2 : ((s2.total : Int) != (s2.total : Int)) = false := by simp
                  clear hn9 hg12
                  go_region_held3 (fun W => W.cell? ⟨g, 0, none⟩ = some (.slice a11 s2.rows k11) ∧ W.cell? ⟨g, 1, none⟩ = some (.int .i64 (s2.W : Int)) ∧ W.cell? ⟨g, 2, none⟩ = some (uv s2.seed) ∧ W.cell? ⟨g, 3, none⟩ = some (nv s2.total) ∧ Below w12.heap.size w12 W)
                    (first | assumption | exact HC4.out _ (Below.drew (Below.refl _ _)) | exact HC4.out _ (bnext hbl hb13) | go_keep)
                    (first | (go_at_call 11; obtain ⟨_, _, _, _, hbl⟩ := ‹_ ∧ _ ∧ _ ∧ _ ∧ Below w12.heap.size w12 _›; (with_reducible refine (HCN.out _ hbl).mono ?_); rintro e w13 ⟨rfl, hb13⟩) | (go_at_call 19; obtain ⟨_, _, _, _, hbl⟩ := ‹_ ∧ _ ∧ _ ∧ _ ∧ Below w12.heap.size w12 _›; (with_reducible refine (HRC.out _ hbl).mono ?_); rintro e w13 ⟨rfl, hb13⟩) | (go_at_call 12; obtain ⟨_, _, _, _, hbl⟩ := ‹_ ∧ _ ∧ _ ∧ _ ∧ Below w12.heap.size w12 _›; (with_reducible refine (HTO.out _ hbl).mono ?_); rintro e w13 ⟨rfl, rfl⟩))
                  go_wp2_with fail
                  go_roundw
                  case rel => exact ⟨k + 1, _, s2, by omega, by go_num, Lib.hid (HPX.out.next hbl).1, Lib.hid (HGX.out.next hbl)⟩
                  case measure => simp [intOf]; omega
                · have HA8 := Lib.hid (kadd (keyS x) (1) HT7.out (keyS_size x) (by omega))
                  obtain ⟨s2, hs2⟩ : ∃ s2, s2 = s.add (keyS x).data.toList (1) := ⟨_, rfl⟩
                  have HR8 := Lib.hid fun (W : World) (h : PairK w W p c (fun q => q = g) v s2 s) => radd (keyS x) (1) h (keyS_size x) (by omega)
                  rw [← hs2] at HA8 HR8
                  clear hs2
                  go_wp2_with fail
                  refine HA8.out.mono ?_
                  rintro e w10 ⟨rfl, hp10, hk10⟩
                  have hg10 := HG7.out.kept hk10 rfl
                  have HR9 := Lib.hid (HR8.out _ hp10)
                  have HG10 := Lib.hid hg10
                  obtain ⟨av, cv, hv⟩ := hp10.slice
                  rw [hv] at HR9
                  have c0 : w10.cell? ⟨g, 0, none⟩ = some (v) := hg10.cell 0
                  have c1 : w10.cell? ⟨g, 1, none⟩ = some (.int .i64 (s.W : Int)) := hg10.cell 1
                  have c2 : w10.cell? ⟨g, 2, none⟩ = some (uv s.seed) := hg10.cell 2
                  have c3 : w10.cell? ⟨g, 3, none⟩ = some (nv s.total) := hg10.cell 3
                  rw [hv] at c0
                  clear hg10 hk10 HA8 HR8 HT7 HG7 hp10 hv
                  go_wp2_with fail
                  refine HR9.out.mono ?_
                  rintro e w11 ⟨v11, rfl, hp11, hk11⟩
                  have hg11 := HG10.out.kept hk11 rfl
                  have d0 : w11.cell? ⟨g, 0, none⟩ = some (v) := hg11.cell 0
                  have d1 : w11.cell? ⟨g, 1, none⟩ = some (.int .i64 (s.W : Int)) := hg11.cell 1
                  have d2 : w11.cell? ⟨g, 2, none⟩ = some (uv s.seed) := hg11.cell 2
                  have d3 : w11.cell? ⟨g, 3, none⟩ = some (nv s.total) := hg11.cell 3
                  have f0 := hg11.frozen 0
                  have f1 := hg11.frozen 1
                  have f2 := hg11.frozen 2
                  have f3 := hg11.frozen 3
                  have HPX := Lib.hid (hp11.set4 rfl v11 (.int .i64 (s2.W : Int)) (uv s2.seed) (nv s2.total))
                  have HGX := Lib.hid (set4 (a' := v11) (b' := .int .i64 (s2.W : Int)) (c' := uv s2.seed) (d' := nv s2.total) hg11)
                  obtain ⟨a11, k11, rfl⟩ := hp11.slice
                  clear hp11 hk11 hg11 HR9 HG10 c0 c1 c2 c3
                  go_wp2_with fail
                  clear f0 f1 f2 f3 d0 d1 d2 d3
                  generalize ((((w11.setCell ⟨g, 0, none⟩ (.slice a11 s2.rows k11)).setCell ⟨g, 1, none⟩ (.int .i64 (s2.W : Int))).setCell ⟨g, 2, none⟩ (uv s2.seed)).setCell ⟨g, 3, none⟩ (nv s2.total)) = w12 at *
                  have hg12 := HGX.out
                  have c0 : w12.cell? ⟨g, 0, none⟩ = some (.slice a11 s2.rows k11) := hg12.cell 0
                  have c1 : w12.cell? ⟨g, 1, none⟩ = some (.int .i64 (s2.W : Int)) := hg12.cell 1
                  have c2 : w12.cell? ⟨g, 2, none⟩ = some (uv s2.seed) := hg12.cell 2
                  have c3 : w12.cell? ⟨g, 3, none⟩ = some (nv s2.total) := hg12.cell 3
                  have HCN := Lib.hid fun W hW => kcount (keyS x) (HPX.out.next (w' := W) hW).1 (keyS_size x)
                  have HRC := Lib.hid fun W hW => rcount (keyS x) (HPX.out.next (w' := W) hW).1 (keyS_size x)
                  have HTO := Lib.hid fun W hW => ktotal (HPX.out.next (w' := W) hW).1
                  have HC4 : Hid (∀ W, Below w12.heap.size w12 W → W.cell? ⟨g, 0, none⟩ = some (.slice a11 s2.rows k11) ∧ W.cell? ⟨g, 1, none⟩ = some (.int .i64 (s2.W : Int)) ∧ W.cell? ⟨g, 2, none⟩ = some (uv s2.seed) ∧ W.cell? ⟨g, 3, none⟩ = some (nv s2.total) ∧ Below w12.heap.size w12 W) := Lib.hid fun W h => ⟨(h.cell (p := ⟨g, 0, none⟩) hg12.lt).trans c0, (h.cell (p := ⟨g, 1, none⟩) hg12.lt).trans c1, (h.cell (p := ⟨g, 2, none⟩) hg12.lt).trans c2, (h.cell (p := ⟨g, 3, none⟩) hg12.lt).trans c3, h⟩
                  generalize hn9 : s2.count (keyS x).data.toList = n9 at *
                  have hx1 : ((n9 : Int) != (n9 : Int)) = false := by simp
                  have hx2 : ((s2.total : Int) != (s2.total : Int)) = false := by simp
                  clear hn9 hg12
                  go_region_held3 (fun W => W.cell? ⟨g, 0, none⟩ = some (.slice a11 s2.rows k11) ∧ W.cell? ⟨g, 1, none⟩ = some (.int .i64 (s2.W : Int)) ∧ W.cell? ⟨g, 2, none⟩ = some (uv s2.seed) ∧ W.cell? ⟨g, 3, none⟩ = some (nv s2.total) ∧ Below w12.heap.size w12 W)
                    (first | assumption | exact HC4.out _ (Below.drew (Below.refl _ _)) | exact HC4.out _ (bnext hbl hb13) | go_keep)
                    (first | (go_at_call 11; obtain ⟨_, _, _, _, hbl⟩ := ‹_ ∧ _ ∧ _ ∧ _ ∧ Below w12.heap.size w12 _›; (with_reducible refine (HCN.out _ hbl).mono ?_); rintro e w13 ⟨rfl, hb13⟩) | (go_at_call 19; obtain ⟨_, _, _, _, hbl⟩ := ‹_ ∧ _ ∧ _ ∧ _ ∧ Below w12.heap.size w12 _›; (with_reducible refine (HRC.out _ hbl).mono ?_); rintro e w13 ⟨rfl, hb13⟩) | (go_at_call 12; obtain ⟨_, _, _, _, hbl⟩ := ‹_ ∧ _ ∧ _ ∧ _ ∧ Below w12.heap.size w12 _›; (with_reducible refine (HTO.out _ hbl).mono ?_); rintro e w13 ⟨rfl, rfl⟩))
                  go_wp2_with fail
                  go_roundw
                  case rel => exact ⟨k + 1, _, s2, by omega, by go_num, Lib.hid (HPX.out.next hbl).1, Lib.hid (HGX.out.next hbl)⟩
                  case measure => simp [intOf]; omega
              · have HA8 := Lib.hid (kadd (keyS x) (1) HT7.out (keyS_size x) (by omega))
                obtain ⟨s2, hs2⟩ : ∃ s2, s2 = s.add (keyS x).data.toList (1) := ⟨_, rfl⟩
                have HR8 := Lib.hid fun (W : World) (h : PairK w W p c (fun q => q = g) v s2 s) => radd (keyS x) (1) h (keyS_size x) (by omega)
                rw [← hs2] at HA8 HR8
                clear hs2
                go_wp2_with fail
                refine HA8.out.mono ?_
                rintro e w10 ⟨rfl, hp10, hk10⟩
                have hg10 := HG7.out.kept hk10 rfl
                have HR9 := Lib.hid (HR8.out _ hp10)
                have HG10 := Lib.hid hg10
                obtain ⟨av, cv, hv⟩ := hp10.slice
                rw [hv] at HR9
                have c0 : w10.cell? ⟨g, 0, none⟩ = some (v) := hg10.cell 0
                have c1 : w10.cell? ⟨g, 1, none⟩ = some (.int .i64 (s.W : Int)) := hg10.cell 1
                have c2 : w10.cell? ⟨g, 2, none⟩ = some (uv s.seed) := hg10.cell 2
                have c3 : w10.cell? ⟨g, 3, none⟩ = some (nv s.total) := hg10.cell 3
                rw [hv] at c0
                clear hg10 hk10 HA8 HR8 HT7 HG7 hp10 hv
                go_wp2_with fail
                refine HR9.out.mono ?_
                rintro e w11 ⟨v11, rfl, hp11, hk11⟩
                have hg11 := HG10.out.kept hk11 rfl
                have d0 : w11.cell? ⟨g, 0, none⟩ = some (v) := hg11.cell 0
                have d1 : w11.cell? ⟨g, 1, none⟩ = some (.int .i64 (s.W : Int)) := hg11.cell 1
                have d2 : w11.cell? ⟨g, 2, none⟩ = some (uv s.seed) := hg11.cell 2
                have d3 : w11.cell? ⟨g, 3, none⟩ = some (nv s.total) := hg11.cell 3
                have f0 := hg11.frozen 0
                have f1 := hg11.frozen 1
                have f2 := hg11.frozen 2
                have f3 := hg11.frozen 3
                have HPX := Lib.hid (hp11.set4 rfl v11 (.int .i64 (s2.W : Int)) (uv s2.seed) (nv s2.total))
                have HGX := Lib.hid (set4 (a' := v11) (b' := .int .i64 (s2.W : Int)) (c' := uv s2.seed) (d' := nv s2.total) hg11)
                obtain ⟨a11, k11, rfl⟩ := hp11.slice
                clear hp11 hk11 hg11 HR9 HG10 c0 c1 c2 c3
                go_wp2_with fail
                clear f0 f1 f2 f3 d0 d1 d2 d3
                generalize ((((w11.setCell ⟨g, 0, none⟩ (.slice a11 s2.rows k11)).setCell ⟨g, 1, none⟩ (.int .i64 (s2.W : Int))).setCell ⟨g, 2, none⟩ (uv s2.seed)).setCell ⟨g, 3, none⟩ (nv s2.total)) = w12 at *
                have hg12 := HGX.out
                have c0 : w12.cell? ⟨g, 0, none⟩ = some (.slice a11 s2.rows k11) := hg12.cell 0
                have c1 : w12.cell? ⟨g, 1, none⟩ = some (.int .i64 (s2.W : Int)) := hg12.cell 1
                have c2 : w12.cell? ⟨g, 2, none⟩ = some (uv s2.seed) := hg12.cell 2
                have c3 : w12.cell? ⟨g, 3, none⟩ = some (nv s2.total) := hg12.cell 3
                have HCN := Lib.hid fun W hW => kcount (keyS x) (HPX.out.next (w' := W) hW).1 (keyS_size x)
                have HRC := Lib.hid fun W hW => rcount (keyS x) (HPX.out.next (w' := W) hW).1 (keyS_size x)
                have HTO := Lib.hid fun W hW => ktotal (HPX.out.next (w' := W) hW).1
                have HC4 : Hid (∀ W, Below w12.heap.size w12 W → W.cell? ⟨g, 0, none⟩ = some (.slice a11 s2.rows k11) ∧ W.cell? ⟨g, 1, none⟩ = some (.int .i64 (s2.W : Int)) ∧ W.cell? ⟨g, 2, none⟩ = some (uv s2.seed) ∧ W.cell? ⟨g, 3, none⟩ = some (nv s2.total) ∧ Below w12.heap.size w12 W) := Lib.hid fun W h => ⟨(h.cell (p := ⟨g, 0, none⟩) hg12.lt).trans c0, (h.cell (p := ⟨g, 1, none⟩) hg12.lt).trans c1, (h.cell (p := ⟨g, 2, none⟩) hg12.lt).trans c2, (h.cell (p := ⟨g, 3, none⟩) hg12.lt).trans c3, h⟩
                generalize hn9 : s2.count (keyS x).data.toList = n9 at *
                have hx1 : ((n9 : Int) != (n9 : Int)) = false := by simp
                have hx2 : ((s2.total : Int) != (s2.total : Int)) = false := by simp
                clear hn9 hg12
                go_region_held3 (fun W => W.cell? ⟨g, 0, none⟩ = some (.slice a11 s2.rows k11) ∧ W.cell? ⟨g, 1, none⟩ = some (.int .i64 (s2.W : Int)) ∧ W.cell? ⟨g, 2, none⟩ = some (uv s2.seed) ∧ W.cell? ⟨g, 3, none⟩ = some (nv s2.total) ∧ Below w12.heap.size w12 W)
                  (first | assumption | exact HC4.out _ (Below.drew (Below.refl _ _)) | exact HC4.out _ (bnext hbl hb13) | go_keep)
                  (first | (go_at_call 11; obtain ⟨_, _, _, _, hbl⟩ := ‹_ ∧ _ ∧ _ ∧ _ ∧ Below w12.heap.size w12 _›; (with_reducible refine (HCN.out _ hbl).mono ?_); rintro e w13 ⟨rfl, hb13⟩) | (go_at_call 19; obtain ⟨_, _, _, _, hbl⟩ := ‹_ ∧ _ ∧ _ ∧ _ ∧ Below w12.heap.size w12 _›; (with_reducible refine (HRC.out _ hbl).mono ?_); rintro e w13 ⟨rfl, hb13⟩) | (go_at_call 12; obtain ⟨_, _, _, _, hbl⟩ := ‹_ ∧ _ ∧ _ ∧ _ ∧ Below w12.heap.size w12 _›; (with_reducible refine (HTO.out _ hbl).mono ?_); rintro e w13 ⟨rfl, rfl⟩))
                go_wp2_with fail
                go_roundw
                case rel => exact ⟨k + 1, _, s2, by omega, by go_num, Lib.hid (HPX.out.next hbl).1, Lib.hid (HGX.out.next hbl)⟩
                case measure => simp [intOf]; omega
          · go_wp2
            go_loopw [25] (fun i wr => ∃ (j : Nat), j ≤ 12 ∧ i = .int .i64 (j : Int) ∧ Hid (PairK w wr p c (fun q => q = g) v s s) ∧ Hid (Blk wr g 37 #[v, .int .i64 (s.W : Int), uv s.seed, nv s.total])) (fun i _ => 12 - (intOf i).toNat)
            case atStart => exact ⟨0, by omega, rfl, HT, HG⟩
            case round =>
              clear HT HG
              obtain ⟨j, hj, rfl, HT, HG⟩ := hrel
              by_cases hlt : j < 12
              · obtain ⟨av, cv, rfl⟩ := HT.out.slice
                have hg12 := HG.out
                have c0 : wr.cell? ⟨g, 0, none⟩ = some (.slice av s.rows cv) := hg12.cell 0
                have c1 : wr.cell? ⟨g, 1, none⟩ = some (.int .i64 (s.W : Int)) := hg12.cell 1
                have c2 : wr.cell? ⟨g, 2, none⟩ = some (uv s.seed) := hg12.cell 2
                have c3 : wr.cell? ⟨g, 3, none⟩ = some (nv s.total) := hg12.cell 3
                have HCN := Lib.hid fun W hW => kcount (keyS j) (HT.out.next (w' := W) hW).1 (keyS_size j)
                have HRC := Lib.hid fun W hW => rcount (keyS j) (HT.out.next (w' := W) hW).1 (keyS_size j)
                have HKE : Hid (∀ (W : World) (u : Int), u = (j : Int) → Calls Try.prog 14 #[.int .u8 u] W fun e w' => e = .returned (.string (keyS (j : Int))) ∧ Below W.heap.size W w') := Lib.hid fun W u hu => by rw [hu]; exact key_calls (j : Int) W (by omega) (by omega)
                have HC4 : Hid (∀ W, Below wr.heap.size wr W → W.cell? ⟨g, 0, none⟩ = some (.slice av s.rows cv) ∧ W.cell? ⟨g, 1, none⟩ = some (.int .i64 (s.W : Int)) ∧ W.cell? ⟨g, 2, none⟩ = some (uv s.seed) ∧ W.cell? ⟨g, 3, none⟩ = some (nv s.total) ∧ Below wr.heap.size wr W) := Lib.hid fun W h => ⟨(h.cell (p := ⟨g, 0, none⟩) hg12.lt).trans c0, (h.cell (p := ⟨g, 1, none⟩) hg12.lt).trans c1, (h.cell (p := ⟨g, 2, none⟩) hg12.lt).trans c2, (h.cell (p := ⟨g, 3, none⟩) hg12.lt).trans c3, h⟩
                generalize hn9 : s.count (keyS (j : Int)).data.toList = n9 at *
                have hx1 : ((n9 : Int) != (n9 : Int)) = false := by simp
                clear hn9 hg12
                go_upto_region 25 with fail
                go_region_held3 (fun W => W.cell? ⟨g, 0, none⟩ = some (.slice av s.rows cv) ∧ W.cell? ⟨g, 1, none⟩ = some (.int .i64 (s.W : Int)) ∧ W.cell? ⟨g, 2, none⟩ = some (uv s.seed) ∧ W.cell? ⟨g, 3, none⟩ = some (nv s.total) ∧ Below wr.heap.size wr W)
                  (first | assumption | exact HC4.out _ (Below.drew (Below.refl _ _)) | exact HC4.out _ (bnext hbl hb13) | go_keep)
                  (first | (go_at_call 14; obtain ⟨_, _, _, _, hbl⟩ := ‹_ ∧ _ ∧ _ ∧ _ ∧ Below wr.heap.size wr _›; (with_reducible refine (HKE.out _ _ (by first | rfl | omega | (simp [IntKind.wrap, IntKind.bits, IntKind.signed, IntKind.min, IntKind.max]; omega))).mono ?_); rintro e w13 ⟨rfl, hb13⟩) | (go_at_call 11; obtain ⟨_, _, _, _, hbl⟩ := ‹_ ∧ _ ∧ _ ∧ _ ∧ Below wr.heap.size wr _›; (with_reducible refine (HCN.out _ hbl).mono ?_); rintro e w13 ⟨rfl, hb13⟩) | (go_at_call 19; obtain ⟨_, _, _, _, hbl⟩ := ‹_ ∧ _ ∧ _ ∧ _ ∧ Below wr.heap.size wr _›; (with_reducible refine (HRC.out _ hbl).mono ?_); rintro e w13 ⟨rfl, hb13⟩))
                go_wp2_with fail
                go_roundw
                case rel => exact ⟨j + 1, by omega, by go_num, Lib.hid (HT.out.next (bnext hbl hb13)).1, Lib.hid (HG.out.next (bnext hbl hb13))⟩
                case measure => simp [intOf]; omega
              · have hbw := HT.out.below
                go_wp2
                go_ret
                exact ⟨rfl, hbw⟩
end Go.Proofs.Ytppholbjhhlglaa.Tele
