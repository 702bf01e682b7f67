/- What the reference's functions on sketches come to, in plain words. No conditions. -/
import Derived.Test.YtjpfamminemegaaPRateAsksx2
import Derived.Test.YtjpfamminemegaaPRateAsksx3
import Derived.Test.YtjpfamminemegaaPRateAsksx4
import Derived.Test.YtjpfamminemegaaBaseB
import Derived.Test.YtjpfamminemegaaBaseA
namespace Go.Proofs.Ytjpfamminemegaa.Tele
open Go.RowKit Go.Proofs.YtjpfamminemegaaW.PrintWords Go.Proofs.YtjpfamminemegaaW.PrintLast Go.Proofs.YtjpfamminemegaaW.PrintMore Go.Proofs.Ytjpfamminemegaa.PRateAsks
set_option linter.unusedVariables false
set_option linter.unusedSimpArgs false

theorem wrap_succ (j : Nat) (h : j ≤ 9223372036854775806) : wrap64 ((j : Int) + 1) = ((j + 1 : Nat) : Int) := by unfold wrap64; omega
theorem part_f (X : U) (n : Nat) (hn : n < 64) : telemeterref06_part.f (X.toNat : Int) (n : Int) = some ((sx X n).toNat : Int) := by
  have hw : IntKind.u64.wrap (n : Int) = (n : Int) := by rw [IntKind.wrap_u64]; omega
  unfold telemeterref06_part.f
  rw [hw, if_pos (by omega)]
  unfold shr
  rw [Int.toNat_natCast, show min n IntKind.u64.bits = n from Nat.min_eq_left (Nat.le_of_lt hn), u_shr' X n _ (by rw [Int.natCast_pow]; rfl), u_xor]
  rfl
theorem mix_f (X : U) : telemeterref06_Mix.f (X.toNat : Int) = some ((mix X).toNat : Int) := by
  unfold telemeterref06_Mix.f
  have h1 := part_f X 30 (by decide)
  have h2 := part_f (sx X 30 * C1) 27 (by decide)
  have h3 := part_f (sx (sx X 30 * C1) 27 * C2) 31 (by decide)
  have e1 : IntKind.u64.wrap (((sx X 30).toNat : Int) * 13787848793156543929) = ((sx X 30 * C1).toNat : Int) := u_mul (sx X 30) C1
  have e2 : IntKind.u64.wrap (((sx (sx X 30 * C1) 27).toNat : Int) * 10723151780598845931) = ((sx (sx X 30 * C1) 27 * C2).toNat : Int) := u_mul _ C2
  rw [show ((30 : Nat) : Int) = 30 from rfl] at h1
  rw [show ((27 : Nat) : Int) = 27 from rfl] at h2
  rw [show ((31 : Nat) : Int) = 31 from rfl] at h3
  rw [h1, Option.bind_some, e1, h2, Option.bind_some, e2, h3]
  rfl
theorem bt_at (s : ByteArray) (k : Nat) (h : k < s.size) : bt s (k : Int) = (s[k].toNat : Int) := by
  unfold bt
  rw [dif_pos (by rw [Int.toNat_natCast]; exact h)]
  rfl
theorem of_l0 (X : U) (s : ByteArray) (hs : s.size ≤ 140737488351232) : ∀ (d j k : Nat), j + d = s.size → d < k → telemeterref06_Of.l0 k s ((ofK X s j).toNat : Int) (j : Int) = some ((of_ X s.data.toList).toNat : Int)
  | 0, j, k, hd, hk => by
    obtain ⟨k, rfl⟩ : ∃ m, k = m + 1 := ⟨k - 1, by omega⟩
    simp only [telemeterref06_Of.l0]
    rw [if_neg (by omega), show IntKind.u64.wrap (s.size : Int) = (s.size : Int) by rw [IntKind.wrap_u64]; omega, len_eq _ _ (by omega), mix_f, Option.bind_some, ofK_end X s j (by omega)]
  | d + 1, j, k, hd, hk => by
    obtain ⟨k, rfl⟩ : ∃ m, k = m + 1 := ⟨k - 1, by omega⟩
    simp only [telemeterref06_Of.l0]
    rw [if_pos (by omega), if_pos (by omega), bt_at s j (by omega), ofK_succ X s j (by omega), wrap_succ j (by omega)]
    exact of_l0 X s hs d (j + 1) k (by omega) (by omega)
theorem of_f (X : U) (s : ByteArray) (hs : s.size ≤ 140737488351232) (k : Nat) (hk : s.size < k) : telemeterref06_Of.f k (X.toNat : Int) s = some ((of_ X s.data.toList).toNat : Int) := by
  unfold telemeterref06_Of.f
  rw [mix_f, Option.bind_some, ← ofK_zero X s]
  exact of_l0 X s hs s.size 0 k (by omega) hk
theorem in_f (X : U) (s : ByteArray) (W : Nat) (hs : s.size ≤ 140737488351232) (h1 : 1 ≤ W) (hW : W ≤ 1024) (k : Nat) (hk : s.size < k) : telemeterref06_In.f k (X.toNat : Int) s (W : Int) = some (((in_ X s.data.toList W).toNat : Nat) : Int) := by
  have e : IntKind.u64.wrap (W : Int) = (W : Int) := by rw [IntKind.wrap_u64]; omega
  unfold telemeterref06_In.f
  rw [if_neg (by omega), of_f X s hs k hk, Option.bind_some, e, if_neg (by omega), Int.tmod_eq_emod_of_nonneg (by omega)]
  unfold in_
  rw [if_neg (by omega)]
  have h2 := Int.emod_nonneg ((of_ X s.data.toList).toNat : Int) (show (W : Int) ≠ 0 by omega)
  have h3 := Int.emod_lt_of_pos ((of_ X s.data.toList).toNat : Int) (show (0 : Int) < (W : Int) by omega)
  generalize ((of_ X s.data.toList).toNat : Int) % (W : Int) = x at *
  rw [show wrap64 x = x by unfold wrap64; omega, Int.toNat_of_nonneg h2]
/-- The column of a key in row i. -/
def Sk.col (s : Sk) (key : List UInt8) (i : Nat) : Nat := (in_ (s.seed + BitVec.ofNat 64 i) key s.W).toNat
theorem seed_plus (X : U) (i : Nat) : IntKind.u64.wrap ((X.toNat : Int) + IntKind.u64.wrap (i : Int)) = ((X + BitVec.ofNat 64 i).toNat : Int) := by
  rw [wrapU (i : Int), BitVec.ofInt_natCast, u_add]
theorem place_f (s : Sk) (h : s.Ok) (L : List (List Int)) (sum : Int) (i : Nat) (key : ByteArray) (hs : key.size ≤ 140737488351232) (k : Nat) (hk : key.size < k) :
    telemeterref07_place.f k L (s.W : Int) (s.seed.toNat : Int) sum (i : Int) key = some ((s.col key.data.toList i : Nat) : Int) := by
  unfold telemeterref07_place.f
  rw [seed_plus, in_f _ key s.W hs h.W1 h.Wm k hk, Option.bind_some]
  rfl
/-- The cells by rows. -/
def Sk.row (s : Sk) (i : Nat) : List Int := (List.range s.W).map fun j => ((s.cells.getD (i * s.W + j) 0 : Nat) : Int)
def Sk.grid (s : Sk) : List (List Int) := (List.range s.rows).map s.row
theorem grid_len (s : Sk) : s.grid.length = s.rows := by unfold Sk.grid; rw [List.length_map, List.length_range]
theorem row_len (s : Sk) (i : Nat) : (s.row i).length = s.W := by unfold Sk.row; rw [List.length_map, List.length_range]
theorem rd_grid (s : Sk) (i : Nat) (h : i < s.rows) : rd_L1 s.grid (i : Int) = s.row i := by
  unfold rd_L1 Sk.grid
  rw [Int.toNat_natCast, List.getD_eq_getElem?_getD, List.getElem?_map, List.getElem?_range h]
  rfl
theorem rd_row (s : Sk) (i j : Nat) (h : j < s.W) : rd (s.row i) (j : Int) = ((s.cells.getD (i * s.W + j) 0 : Nat) : Int) := by
  unfold rd Sk.row
  rw [Int.toNat_natCast, List.getD_eq_getElem?_getD, List.getElem?_map, List.getElem?_range h]
  rfl
theorem mn_nat (a b : Nat) : mn (a : Int) (b : Int) = ((min a b : Nat) : Int) := by unfold mn; split <;> omega
theorem mx_nat (a b : Nat) : mx (a : Int) (b : Int) = ((max a b : Nat) : Int) := by unfold mx; split <;> omega
theorem count_l0 (s : Sk) (h : s.Ok) (sum : Int) (key : ByteArray) (hs : key.size ≤ 140737488351232) : ∀ (d i k : Nat), i + d = s.rows → d + key.size + 1 < k →
    telemeterref07_Count.l0 k key ((s.countK key.data.toList i : Nat) : Int) (i : Int) s.grid (s.W : Int) (s.seed.toNat : Int) sum = some ((s.count key.data.toList : Nat) : Int)
  | 0, i, k, hd, hk => by
    obtain ⟨k, rfl⟩ : ∃ m, k = m + 1 := ⟨k - 1, by omega⟩
    obtain rfl : i = s.rows := by omega
    simp only [telemeterref07_Count.l0]
    rw [grid_len, if_neg (by omega)]
    rfl
  | d + 1, i, k, hd, hk => by
    obtain ⟨k, rfl⟩ : ∃ m, k = m + 1 := ⟨k - 1, by omega⟩
    have hlt : s.col key.data.toList i < s.W := Sk.in_lt s h _ i
    have hr := h.rows8
    simp only [telemeterref07_Count.l0]
    rw [grid_len, if_pos (by omega), if_pos (by omega), place_f s h _ _ _ _ hs k (by omega), Option.bind_some, if_pos (by omega), rd_grid s i (by omega), row_len, if_pos (by omega), rd_row s i _ hlt, mn_nat, wrap_succ i (by omega)]
    exact count_l0 s h sum key hs d (i + 1) k (by omega) (by omega)
theorem count_f (s : Sk) (h : s.Ok) (sum : Int) (key : ByteArray) (hs : key.size ≤ 140737488351232) (k : Nat) (hk : key.size + 10 < k) :
    telemeterref07_Count.f k s.grid (s.W : Int) (s.seed.toNat : Int) sum key = some ((s.count key.data.toList : Nat) : Int) := by
  unfold telemeterref07_Count.f
  have hr := h.rows8
  exact count_l0 s h sum key hs s.rows 0 k (by omega) (by omega)
theorem plus_f (a b : Nat) (ha : a ≤ 18446744073709551615) (hb : b ≤ 18446744073709551615) : telemeterref07_plus.f (a : Int) (b : Int) = some ((sat a b : Nat) : Int) := by
  unfold telemeterref07_plus.f sat
  have e : IntKind.u64.wrap (18446744073709551615 - (b : Int)) = 18446744073709551615 - (b : Int) := by rw [IntKind.wrap_u64]; omega
  rw [e]
  by_cases h : a + b ≤ 18446744073709551615
  · rw [if_neg (by omega), if_pos h, show IntKind.u64.wrap ((a : Int) + (b : Int)) = ((a + b : Nat) : Int) by rw [IntKind.wrap_u64]; omega]
  · rw [if_pos (by omega), if_neg h]
    rfl
theorem raise_cell (s : Sk) (h : s.Ok) (key : List UInt8) (m k i j : Nat) (hk : k ≤ s.rows) (hi : i < s.rows) (hj : j < s.W) :
    (s.raise key m k).getD (i * s.W + j) 0 = if i < k ∧ s.col key i = j then max (s.cells.getD (i * s.W + j) 0) m else s.cells.getD (i * s.W + j) 0 := by
  induction k with
  | zero => simp [Sk.raise]
  | succ k ih =>
    have ih := ih (by omega)
    have e1 : s.ix key k = k * s.W + s.col key k := rfl
    have hc : s.col key k < s.W := Sk.in_lt s h key k
    simp only [Sk.raise]
    rw [List.getD_eq_getElem?_getD, List.getElem?_set]
    by_cases hki : k = i
    · subst hki
      by_cases he : s.col key k = j
      · subst he
        have hlt : s.ix key k < (s.raise key m k).length := by rw [Sk.raise_len, h.len]; exact Sk.ix_lt s h key k hi
        rw [if_pos e1, if_pos hlt, Option.getD_some, e1, ih, if_neg (by omega), if_pos ⟨by omega, rfl⟩]
      · rw [if_neg (by omega), ← List.getD_eq_getElem?_getD, ih, if_neg (by omega), if_neg (by omega)]
    · have hne : s.ix key k ≠ i * s.W + j := by
        intro e
        have q1 := Sk.ix_row s h key k
        rw [e, Nat.mul_comm, Nat.mul_add_div (by omega), Nat.div_eq_of_lt hj] at q1
        omega
      rw [if_neg hne, ← List.getD_eq_getElem?_getD, ih]
      by_cases hc2 : i < k ∧ s.col key i = j
      · rw [if_pos hc2, if_pos ⟨by omega, hc2.2⟩]
      · rw [if_neg hc2, if_neg (fun hh => hc2 ⟨by omega, hh.2⟩)]
theorem row_add (s : Sk) (h : s.Ok) (key : List UInt8) (n i : Nat) (hi : i < s.rows) :
    (s.row i).set (s.col key i) (((max (s.cells.getD (i * s.W + s.col key i) 0) (sat (s.count key) n) : Nat) : Int)) = (s.add key n).row i := by
  apply List.ext_getElem?
  intro j
  have hc : s.col key i < s.W := Sk.in_lt s h key i
  rw [List.getElem?_set, row_len]
  by_cases hj : j < s.W
  · have q : ((s.add key n).row i)[j]? = some ((((s.raise key (sat (s.count key) n) s.rows).getD (i * s.W + j) 0 : Nat)) : Int) := by
      show ((List.range s.W).map fun j => (((s.raise key (sat (s.count key) n) s.rows).getD (i * s.W + j) 0 : Nat) : Int))[j]? = _
      rw [List.getElem?_map, List.getElem?_range hj]
      rfl
    have q0 : (s.row i)[j]? = some (((s.cells.getD (i * s.W + j) 0 : Nat)) : Int) := by
      unfold Sk.row
      rw [List.getElem?_map, List.getElem?_range hj]
      rfl
    rw [q, q0, raise_cell s h key _ s.rows i j (Nat.le_refl _) hi hj]
    by_cases he : s.col key i = j
    · subst he
      rw [if_pos rfl, if_pos hc, if_pos ⟨hi, rfl⟩]
    · rw [if_neg he, if_neg (fun hh => he hh.2)]
  · rw [if_neg (by omega), List.getElem?_eq_none (by rw [row_len]; omega), List.getElem?_eq_none (by rw [row_len]; show s.W ≤ j; omega)]
theorem grid_snoc (s : Sk) (i : Nat) (h : i < s.rows) : s.grid.take i ++ [s.row i] = s.grid.take (i + 1) := by
  rw [List.take_succ_eq_append_getElem (by rw [grid_len]; exact h)]
  congr 2
  unfold Sk.grid
  rw [List.getElem_map, List.getElem_range]
theorem add_l0 (s : Sk) (h : s.Ok) (key : ByteArray) (n : Nat) (sum sum' : Int) (hs : key.size ≤ 140737488351232) : ∀ (d i k : Nat), i + d = s.rows → d + key.size + 1 < k →
    telemeterref07_Add.l0 k key ((sat (s.count key.data.toList) n : Nat) : Int) (i : Int) s.grid (s.W : Int) (s.seed.toNat : Int) sum ((s.add key.data.toList n).grid.take i) (s.W : Int) (s.seed.toNat : Int) sum' = some ((s.add key.data.toList n).grid, (s.W : Int), (s.seed.toNat : Int), sum')
  | 0, i, k, hd, hk => by
    obtain ⟨k, rfl⟩ : ∃ m, k = m + 1 := ⟨k - 1, by omega⟩
    obtain rfl : i = s.rows := by omega
    simp only [telemeterref07_Add.l0]
    rw [if_neg (by rw [grid_len]; omega), List.take_of_length_le (by rw [grid_len]; exact Nat.le_refl _)]
  | d + 1, i, k, hd, hk => by
    obtain ⟨k, rfl⟩ : ∃ m, k = m + 1 := ⟨k - 1, by omega⟩
    have hlt : s.col key.data.toList i < s.W := Sk.in_lt s h _ i
    have hr := h.rows8
    have hwm := h.Wm
    have hlen : ((s.add key.data.toList n).grid.take i).length = i := by rw [List.length_take, grid_len]; show min i s.rows = i; omega
    have hi : i < s.rows := by omega
    have ih := add_l0 s h key n sum sum' hs d (i + 1) k (by omega) (by omega)
    rw [← grid_snoc (s.add key.data.toList n) i hi, ← row_add s h _ n i hi, ← wrap_succ i (by omega)] at ih
    simp only [telemeterref07_Add.l0]
    rw [if_pos (by rw [grid_len]; omega), if_pos (by omega), rd_grid s i hi, List.nil_append, if_pos (by rw [row_len]; show 0 + s.W < _; omega)]
    simp only [Option.bind_some]
    rw [place_f s h _ _ _ _ hs k (by omega), Option.bind_some, if_pos (by omega), if_pos (by rw [row_len]; omega), if_pos (by rw [hlen]; omega), rd_row s i _ hlt, mx_nat, Int.toNat_natCast]
    exact ih
theorem add_f (s : Sk) (h : s.Ok) (key : ByteArray) (n : Nat) (hs : key.size ≤ 140737488351232) (hn : n ≤ 18446744073709551615) (k : Nat) (hk : key.size + 20 < k) :
    telemeterref07_Add.f k s.grid (s.W : Int) (s.seed.toNat : Int) (s.total : Int) key (n : Int) = some ((s.add key.data.toList n).grid, (s.W : Int), (s.seed.toNat : Int), ((s.add key.data.toList n).total : Int)) := by
  have hr := h.rows8
  unfold telemeterref07_Add.f
  rw [count_f s h _ key hs k (by omega), Option.bind_some, plus_f (s.count key.data.toList) n (Sk.countK_le s _ _) hn, Option.bind_some, plus_f _ _ h.tot hn, Option.bind_some]
  exact add_l0 s h key n _ _ hs s.rows 0 k (by omega) (by omega)
theorem row_new (rows W : Nat) (seed : U) (i : Nat) : (Sk.new rows W seed).row i = List.replicate W 0 := by
  show (List.range W).map (fun j => (((List.replicate (rows * W) 0).getD (i * W + j) 0 : Nat) : Int)) = _
  rw [List.eq_replicate_iff]
  refine ⟨by rw [List.length_map, List.length_range], fun x hx => ?_⟩
  obtain ⟨j, _, rfl⟩ := List.mem_map.1 hx
  rw [List.getD_eq_getElem?_getD, List.getElem?_replicate]
  split <;> rfl
theorem grid_new (rows W : Nat) (seed : U) : (Sk.new rows W seed).grid = List.replicate rows (List.replicate W 0) := by
  show (List.range rows).map (Sk.new rows W seed).row = _
  rw [List.eq_replicate_iff]
  refine ⟨by rw [List.length_map, List.length_range], fun x hx => ?_⟩
  obtain ⟨i, _, rfl⟩ := List.mem_map.1 hx
  exact row_new rows W seed i
theorem new_l0 (rows W : Nat) (seed : Int) (hr : rows ≤ 8) (hW : W ≤ 1024) : ∀ (d i k : Nat), i + d = rows → d < k →
    telemeterref07_New.l0 k (rows : Int) (W : Int) (i : Int) (List.replicate i (List.replicate W 0)) (W : Int) seed 0 = some (List.replicate rows (List.replicate W 0), (W : Int), seed, 0, true)
  | 0, i, k, hd, hk => by
    obtain ⟨k, rfl⟩ : ∃ m, k = m + 1 := ⟨k - 1, by omega⟩
    obtain rfl : i = rows := by omega
    simp only [telemeterref07_New.l0]
    rw [if_neg (by omega)]
  | d + 1, i, k, hd, hk => by
    obtain ⟨k, rfl⟩ : ∃ m, k = m + 1 := ⟨k - 1, by omega⟩
    have ih := new_l0 rows W seed hr hW d (i + 1) k (by omega) (by omega)
    rw [← wrap_succ i (by omega), List.replicate_succ'] at ih
    simp only [telemeterref07_New.l0]
    rw [if_pos (by omega), if_pos (by omega), Int.toNat_natCast, if_pos (by omega), List.length_replicate, if_pos (by omega)]
    exact ih
theorem new_f (rows W : Nat) (seed : U) (h1 : 1 ≤ rows) (hr : rows ≤ 8) (h2 : 1 ≤ W) (hW : W ≤ 1024) (k : Nat) (hk : 10 < k) :
    telemeterref07_New.f k (rows : Int) (W : Int) (seed.toNat : Int) = some ((Sk.new rows W seed).grid, (W : Int), (seed.toNat : Int), 0, true) := by
  obtain ⟨k, rfl⟩ : ∃ m, k = m + 1 := ⟨k - 1, by omega⟩
  unfold telemeterref07_New.f
  rw [if_neg (by omega), if_neg (by omega), if_neg (by omega), decide_eq_false (by omega)]
  simp only [telemeterref07_New.j0]
  rw [if_neg (by decide), grid_new]
  exact new_l0 rows W _ hr hW rows 0 k (by omega) (by omega)
theorem new_f_no (rows W seed : Int) (h : rows < 1 ∨ 8 < rows ∨ W < 1 ∨ 1024 < W) (k : Nat) (hk : 0 < k) : telemeterref07_New.f k rows W seed = some ([], 0, 0, 0, false) := by
  obtain ⟨k, rfl⟩ : ∃ m, k = m + 1 := ⟨k - 1, by omega⟩
  have hj : telemeterref07_New.j0 (k + 1) rows W seed true = some ([], 0, 0, 0, false) := by
    simp only [telemeterref07_New.j0]
    rw [if_pos trivial]
  unfold telemeterref07_New.f
  split
  · exact hj
  · split
    · exact hj
    · split
      · exact hj
      · rw [decide_eq_true (by omega)]
        exact hj
end Go.Proofs.Ytjpfamminemegaa.Tele
