/- Merged texts of the walk: PHash, UBits, Hash1, Hash3, Blk. No conditions. -/
import Derived.Laws.BitsLemmas
import Derived.Laws.BitsAllLaws
import Derived.RowKit
import Derived.Test.YtjpfamminemegaaProg
import Derived.WalkKit
import Derived.Below
import Derived.Deep.Draws
import Derived.Laws.Rows
import Derived.Tactics
import Derived.KernelRfl
import Derived.Outline
import Derived.Laws.NewBlocks
import Derived.LoopN
import Derived.Deep.QuietTactic
import Derived.BigQuiet
import Derived.Lib.Hide
import Derived.Laws.OwnMore
import Derived.Laws.Entries
namespace Go.Proofs.Ytjpfamminemegaa.Tele

abbrev U := BitVec 64
def sx (x : U) (s : Nat) : U := x ^^^ (x >>> s)
def undo (x : U) (s : Nat) : U := x ^^^ ((x ^^^ (x >>> s)) >>> s)
def C1 : U := 13787848793156543929#64
def C2 : U := 10723151780598845931#64
def I1 : U := 10871156337175269513#64
def I2 : U := 3573116690164977347#64
def PR : U := 1099511628211#64
def IPR : U := 14886173955864302971#64
def mix (x : U) : U := sx (sx (sx x 30 * C1) 27 * C2) 31
def back (x : U) : U := undo (undo (undo x 31 * I2) 27 * I1) 30

theorem shr_shr (x : U) (a b : Nat) : x >>> a >>> b = x >>> (a + b) := (BitVec.shiftRight_add x a b).symm
theorem shr_big (x : U) (a : Nat) (h : 64 ≤ a) : x >>> a = 0#64 := BitVec.ushiftRight_eq_zero h
theorem xor_cancel (a b : U) : a ^^^ (a ^^^ b) = b := by rw [← BitVec.xor_assoc, BitVec.xor_self, BitVec.zero_xor]
theorem undo_sx (x : U) (s : Nat) (h : 64 ≤ s + s + s) : undo (sx x s) s = x := by
  unfold undo sx
  simp only [BitVec.ushiftRight_xor_distrib, shr_shr, shr_big x (s + s + s) h]
  generalize x >>> s = a
  generalize x >>> (s + s) = b
  have : x ^^^ a ^^^ (a ^^^ b ^^^ (b ^^^ 0#64)) = x ^^^ (a ^^^ (a ^^^ (b ^^^ (b ^^^ 0#64)))) := by simp only [BitVec.xor_assoc]
  rw [this, xor_cancel, xor_cancel, BitVec.xor_zero]
theorem sx_undo (x : U) (s : Nat) (h : 64 ≤ s + s + s) : sx (undo x s) s = x := by
  unfold undo sx
  simp only [BitVec.ushiftRight_xor_distrib, shr_shr, shr_big x (s + s + s) h]
  generalize x >>> s = a
  generalize x >>> (s + s) = b
  have : x ^^^ (a ^^^ b) ^^^ (a ^^^ (b ^^^ 0#64)) = x ^^^ (a ^^^ (b ^^^ (a ^^^ (b ^^^ 0#64)))) := by simp only [BitVec.xor_assoc]
  rw [this, ← BitVec.xor_assoc b a, BitVec.xor_comm b a, BitVec.xor_assoc a b, xor_cancel, xor_cancel, BitVec.xor_zero]
theorem c1_i1 (x : U) : x * C1 * I1 = x := by rw [BitVec.mul_assoc, show C1 * I1 = 1#64 from by decide, BitVec.mul_one]
theorem i1_c1 (x : U) : x * I1 * C1 = x := by rw [BitVec.mul_assoc, show I1 * C1 = 1#64 from by decide, BitVec.mul_one]
theorem c2_i2 (x : U) : x * C2 * I2 = x := by rw [BitVec.mul_assoc, show C2 * I2 = 1#64 from by decide, BitVec.mul_one]
theorem i2_c2 (x : U) : x * I2 * C2 = x := by rw [BitVec.mul_assoc, show I2 * C2 = 1#64 from by decide, BitVec.mul_one]
theorem pr_ipr (x : U) : x * PR * IPR = x := by rw [BitVec.mul_assoc, show PR * IPR = 1#64 from by decide, BitVec.mul_one]
theorem back_mix (x : U) : back (mix x) = x := by
  unfold back mix
  rw [undo_sx _ 31 (by decide), c2_i2, undo_sx _ 27 (by decide), c1_i1, undo_sx _ 30 (by decide)]
theorem mix_back (x : U) : mix (back x) = x := by
  unfold back mix
  rw [sx_undo _ 30 (by decide), i1_c1, sx_undo _ 27 (by decide), i2_c2, sx_undo _ 31 (by decide)]
theorem mix_inj (x y : U) : mix x = mix y ↔ x = y := ⟨fun h => by rw [← back_mix x, h, back_mix], fun h => by rw [h]⟩

/-- A text's number. -/
def byte (b : UInt8) : U := BitVec.ofNat 64 b.toNat
def fold1 (x : U) (b : UInt8) : U := (x ^^^ byte b) * PR
def of_ (seed : U) (s : List UInt8) : U := mix (s.foldl fold1 (mix seed) ^^^ BitVec.ofNat 64 s.length)
/-- One of so many. -/
def in_ (seed : U) (s : List UInt8) (n : Int) : Int := if n < 1 then 0 else ((of_ seed s).toNat : Int) % n
theorem in_range (seed : U) (s : List UInt8) (n : Int) (h : 1 ≤ n) : 0 ≤ in_ seed s n ∧ in_ seed s n < n := by
  unfold in_
  rw [if_neg (by omega)]
  exact ⟨Int.emod_nonneg _ (by omega), Int.emod_lt_of_pos _ (by omega)⟩
theorem in_le (seed : U) (s : List UInt8) (n : Int) : 0 ≤ in_ seed s n := by
  by_cases h : 1 ≤ n
  · exact (in_range seed s n h).1
  · unfold in_; rw [if_pos (by omega)]; exact Int.le_refl 0
theorem byte_inj (a b : UInt8) : byte a = byte b ↔ a = b := by
  constructor
  · intro h
    unfold byte at h
    have := congrArg BitVec.toNat h
    simp only [BitVec.toNat_ofNat] at this
    have ha := a.toNat_lt
    have hb := b.toNat_lt
    rw [Nat.mod_eq_of_lt (by omega), Nat.mod_eq_of_lt (by omega)] at this
    exact UInt8.toNat_inj.1 this
  · intro h; rw [h]
theorem xor_inj (a b c : U) : a ^^^ b = a ^^^ c ↔ b = c := ⟨fun h => by rw [← xor_cancel a b, h, xor_cancel], fun h => by rw [h]⟩
theorem xor_inj_r (a b c : U) : b ^^^ a = c ^^^ a ↔ b = c := by rw [BitVec.xor_comm b, BitVec.xor_comm c]; exact xor_inj a b c
theorem pr_inj (a b : U) : a * PR = b * PR ↔ a = b := ⟨fun h => by rw [← pr_ipr a, h, pr_ipr], fun h => by rw [h]⟩
theorem of_one_inj (x : U) (a b : UInt8) : of_ x [a] = of_ x [b] ↔ a = b := by
  unfold of_
  rw [mix_inj]
  simp only [List.foldl_cons, List.foldl_nil, List.length_cons, List.length_nil]
  rw [xor_inj_r]
  unfold fold1
  rw [pr_inj, xor_inj, byte_inj]
theorem of_nil_inj (x y : U) : of_ x [] = of_ y [] ↔ x = y := by
  unfold of_
  rw [mix_inj]
  simp only [List.foldl_nil]
  rw [xor_inj_r, mix_inj]

end Go.Proofs.Ytjpfamminemegaa.Tele
namespace Go.Proofs.Ytjpfamminemegaa.Tele
open Go.RowKit

/-- A number of 64 digits as Go's value. -/
abbrev uv (x : U) : Value := .int .u64 (x.toNat : Int)
theorem wrapU (z : Int) : IntKind.u64.wrap z = ((BitVec.ofInt 64 z).toNat : Int) := by
  have h1 : IntKind.u64.wrap z = z % 18446744073709551616 := by simp [IntKind.wrap, IntKind.bits, IntKind.signed]
  rw [h1, BitVec.toNat_ofInt]
  omega
theorem u_eq (x : Int) (h0 : 0 ≤ x) (h1 : x ≤ 18446744073709551615) : ∃ X : U, x = (X.toNat : Int) :=
  ⟨BitVec.ofNat 64 x.toNat, by rw [BitVec.toNat_ofNat, Nat.mod_eq_of_lt (by omega)]; omega⟩
theorem u_inj (X Y : U) : ((X.toNat : Int) = (Y.toNat : Int)) ↔ X = Y := by
  constructor
  · intro h; exact BitVec.eq_of_toNat_eq (by omega)
  · intro h; rw [h]
theorem u_lt (X : U) : 0 ≤ (X.toNat : Int) ∧ (X.toNat : Int) < 18446744073709551616 := ⟨by omega, by have := X.isLt; omega⟩
theorem u_xor (X Y : U) : bits .xor .u64 (X.toNat : Int) (Y.toNat : Int) = ((X ^^^ Y).toNat : Int) := by
  rw [u64_xor_nat _ _ X.isLt Y.isLt, BitVec.toNat_xor]
theorem u_or (X Y : U) : bits .or .u64 (X.toNat : Int) (Y.toNat : Int) = ((X ||| Y).toNat : Int) := by
  rw [u64_or_nat _ _ X.isLt Y.isLt, BitVec.toNat_or]
theorem u_and (X Y : U) : bits .and .u64 (X.toNat : Int) (Y.toNat : Int) = ((X &&& Y).toNat : Int) := by
  rw [u64_and_nat _ _ X.isLt Y.isLt, BitVec.toNat_and]
theorem u_mul (X Y : U) : IntKind.u64.wrap ((X.toNat : Int) * (Y.toNat : Int)) = ((X * Y).toNat : Int) := by
  rw [wrapU, BitVec.ofInt_mul, BitVec.ofInt_natCast, BitVec.ofInt_natCast, BitVec.ofNat_toNat, BitVec.ofNat_toNat, BitVec.setWidth_eq, BitVec.setWidth_eq]
theorem u_add (X Y : U) : IntKind.u64.wrap ((X.toNat : Int) + (Y.toNat : Int)) = ((X + Y).toNat : Int) := by
  rw [wrapU, BitVec.ofInt_add, BitVec.ofInt_natCast, BitVec.ofInt_natCast, BitVec.ofNat_toNat, BitVec.ofNat_toNat, BitVec.setWidth_eq, BitVec.setWidth_eq]
theorem u_sub (X Y : U) : IntKind.u64.wrap ((X.toNat : Int) - (Y.toNat : Int)) = ((X - Y).toNat : Int) := by
  rw [wrapU, BitVec.toNat_ofInt, BitVec.toNat_sub]
  have := X.isLt
  have := Y.isLt
  omega
theorem u_shr (X : U) (s : Nat) : (X.toNat : Int) / ((2 ^ s : Nat) : Int) = ((X >>> s).toNat : Int) := by
  rw [BitVec.toNat_ushiftRight, Nat.shiftRight_eq_div_pow]; rfl
theorem u_shr' (X : U) (s : Nat) (p : Int) (hp : p = ((2 ^ s : Nat) : Int)) : (X.toNat : Int) / p = ((X >>> s).toNat : Int) := by rw [hp, u_shr]

def sxI (x p c : Int) : Int := IntKind.u64.wrap (bits .xor .u64 x (x / p) * c)
theorem sxI_eq (X : U) (s : Nat) (p : Int) (hp : p = ((2 ^ s : Nat) : Int)) (c : Int) (C : U) (hc : c = (C.toNat : Int)) : sxI (X.toNat : Int) p c = ((sx X s * C).toNat : Int) := by
  unfold sxI
  rw [u_shr' X s p hp, u_xor, hc, u_mul]
  rfl
end Go.Proofs.Ytjpfamminemegaa.Tele
namespace Go.Proofs.Ytjpfamminemegaa.Tele
open Go.RowKit
set_option linter.unusedVariables false
set_option linter.unusedSimpArgs false

theorem quiet_add_same {P : Program} {f : FuncId} {args : Array Value} {w : World} {a n : Nat} {v : Value}
    (h : Calls P f args (w.drewN (a + n)) fun e w' => e = .returned v ∧ w' = w.drewN (a + n)) :
    Calls P f args (w.drewN (a + n)) fun e w'' => e = .returned v ∧ ∃ m, w'' = w.drewN (a + m) :=
  h.mono fun _ _ ⟨he, hm⟩ => ⟨he, n, hm⟩
theorem pw_below_drewN {B : Nat} {w W : World} (h : Below B w W) (n : Nat) : Below B w (W.drewN n) := ⟨h.os, h.tape, h.output, h.size, h.block⟩

def stepsV : Value := .agg #[.int .u64 30, .int .u64 13787848793156543929, .int .u64 27, .int .u64 10723151780598845931, .int .u64 31, .int .u64 1]

theorem steps_calls (w : World) : Calls Try.prog 56 #[] w fun e w' => e = .returned stepsV ∧ w' = w.alloc (.cells #[.int .u64 30, .int .u64 13787848793156543929, .int .u64 27, .int .u64 10723151780598845931, .int .u64 31, .int .u64 1] 98) := by
  go_enter Try.func56, Try.ntmps56
  go_wp2
  refine bodyPost_ret (results_cell_row rfl _ _ w.heap.size 98 _ (0,0) _ rfl (heap_alloc_new w _) Try.underlying98 rfl ?_) rfl ⟨rfl, rfl⟩
  kernel_rfl

theorem mixI_eq (X : U) : sxI (sxI (sxI (X.toNat : Int) 1073741824 13787848793156543929) 134217728 10723151780598845931) 2147483648 1 = ((mix X).toNat : Int) := by
  rw [sxI_eq X 30 1073741824 rfl 13787848793156543929 C1 rfl, sxI_eq _ 27 134217728 rfl 10723151780598845931 C2 rfl, sxI_eq _ 31 2147483648 rfl 1 1#64 rfl, BitVec.mul_one]
  rfl

theorem mix_calls (X : U) (w : World) : Calls Try.prog 54 #[uv X] w fun e w' => e = .returned (uv (mix X)) ∧ Below w.heap.size w w' := by
  have i0 : ∀ w, (Instr.index 98 stepsV (.int .i64 0)).run Try.prog w = .ok (.agg #[.int .u64 30, .int .u64 13787848793156543929]) w := fun _ => by kernel_rfl
  have i1 : ∀ w, (Instr.index 98 stepsV (.int .i64 1)).run Try.prog w = .ok (.agg #[.int .u64 27, .int .u64 10723151780598845931]) w := fun _ => by kernel_rfl
  have i2 : ∀ w, (Instr.index 98 stepsV (.int .i64 2)).run Try.prog w = .ok (.agg #[.int .u64 31, .int .u64 1]) w := fun _ => by kernel_rfl
  have HE := mixI_eq X
  unfold uv
  rw [← HE]
  clear HE
  generalize (X.toNat : Int) = x
  go_enter Try.func54, Try.ntmps54
  go_wp2_with (go_at_call 56; refine (steps_calls _).mono ?_; rintro e w' ⟨rfl, rfl⟩)
  refine wp_loop_rounds 4 ?_
  rw [rounds_succ]
  go_wp2
  rw [rounds_succ]
  go_wp2
  rw [rounds_succ]
  go_wp2
  rw [rounds_succ]
  go_wp2
  go_ret
  refine ⟨by simp [sxI], ?_⟩
  exact ((((Below.refl _ _).alloc (Nat.le_refl _) _).alloc (by simp) _).alloc (by simp; omega) _).alloc (by simp; omega) _
end Go.Proofs.Ytjpfamminemegaa.Tele
namespace Go.Proofs.Ytjpfamminemegaa.Tele
open Go.RowKit

theorem take_snoc (s : ByteArray) (k : Nat) (h : k < s.size) : s.data.toList.take (k + 1) = s.data.toList.take k ++ [s[k]] := by
  rw [List.take_succ_eq_append_getElem (by simpa using h)]; rfl
theorem fold1_eq (X : U) (b : UInt8) : IntKind.u64.wrap (bits .xor .u64 (X.toNat : Int) (IntKind.u64.wrap (b.toNat : Int)) * 1099511628211) = ((fold1 X b).toNat : Int) := by
  rw [wrapU (b.toNat : Int), BitVec.ofInt_natCast, u_xor]
  exact u_mul _ PR
theorem len_eq (X : U) (n : Nat) (hn : n ≤ 9223372036854775807) : bits .xor .u64 (X.toNat : Int) (n : Int) = ((X ^^^ BitVec.ofNat 64 n).toNat : Int) := by
  rw [← u_xor, BitVec.toNat_ofNat, Nat.mod_eq_of_lt (by omega)]

/-- What has been stirred behind k bytes. -/
def ofK (X : U) (s : ByteArray) (k : Nat) : U := (s.data.toList.take k).foldl fold1 (mix X)
theorem ofK_zero (X : U) (s : ByteArray) : ofK X s 0 = mix X := rfl
theorem ofK_succ (X : U) (s : ByteArray) (k : Nat) (h : k < s.size) : IntKind.u64.wrap (bits .xor .u64 ((ofK X s k).toNat : Int) (IntKind.u64.wrap (s[k].toNat : Int)) * 1099511628211) = ((ofK X s (k + 1)).toNat : Int) := by
  rw [fold1_eq]
  unfold ofK
  rw [take_snoc s k h, List.foldl_append]
  rfl
theorem ofK_end (X : U) (s : ByteArray) (k : Nat) (h : s.size ≤ k) : mix (ofK X s k ^^^ BitVec.ofNat 64 s.size) = of_ X s.data.toList := by
  unfold ofK of_
  rw [List.take_of_length_le (by simpa using h)]
  simp
theorem of_calls (X : U) (s : ByteArray) (w : World) (hs : s.size ≤ 140737488351232) : Calls Try.prog 52 #[uv X, .string s] w fun e w' => e = .returned (uv (of_ X s.data.toList)) ∧ Below w.heap.size w w' := by
  go_enter Try.func52, Try.ntmps52
  go_wp2_with (go_at_call 54; refine (mix_calls X _).mono ?_; rintro e w1 ⟨rfl, hb⟩)
  go_loop [5, 11] (fun x i => ∃ k : Nat, k ≤ s.size ∧ i = .int .i64 k ∧ x = uv (ofK X s k)) (fun _ i => s.size - (intOf i).toNat)
  case atStart => exact ⟨0, Nat.zero_le _, rfl, rfl⟩
  case round =>
    obtain ⟨k, hk, rfl, rfl⟩ := hrel
    by_cases hlt : k < s.size
    · have HF := Lib.hid (ofK_succ X s k hlt)
      go_wp2
      go_round
      case rel => exact ⟨k + 1, by omega, by go_num, by rw [HF.out]⟩
      case measure => simp [intOf]; omega
    · have HE := Lib.hid (ofK_end X s k (by omega))
      have HL := Lib.hid (len_eq (ofK X s k) s.size (by omega))
      go_wp2_with fail
      rw [HL.out]
      refine (mix_calls _ _).mono ?_
      rintro e w2 ⟨rfl, hb2⟩
      go_wp2
      go_ret
      exact ⟨by rw [← HE.out]; rfl, hb.trans (hb2.mono hb.size)⟩

theorem in_lo (X : U) (s : ByteArray) (n : Int) (w : World) (hn : n < 1) : Calls Try.prog 50 #[uv X, .string s, .int .i64 n] w fun e w' => e = .returned (.int .i64 (in_ X s.data.toList n)) ∧ Below w.heap.size w w' := by
  have hE : in_ X s.data.toList n = 0 := by unfold in_; rw [if_pos hn]
  rw [hE]
  clear hE
  go_enter Try.func50, Try.ntmps50
  go_wp2
  go_ret
  exact ⟨rfl, Below.refl _ _⟩
theorem in_hi (X : U) (s : ByteArray) (n : Int) (w : World) (hs : s.size ≤ 140737488351232) (hn : 1 ≤ n) (hn' : n ≤ 9223372036854775807) : Calls Try.prog 50 #[uv X, .string s, .int .i64 n] w fun e w' => e = .returned (.int .i64 (in_ X s.data.toList n)) ∧ Below w.heap.size w w' := by
  have hE : in_ X s.data.toList n = ((of_ X s.data.toList).toNat : Int) % n := by unfold in_; rw [if_neg (by omega)]
  have hr := in_range X s.data.toList n hn
  rw [hE] at *
  clear hE
  have hof := fun w => of_calls X s w hs
  generalize of_ X s.data.toList = Y at *
  have H := Lib.hid hof
  clear hof
  go_enter Try.func50, Try.ntmps50
  go_wp2_with (go_at_call 52; refine (H.out _).mono ?_; rintro e w1 ⟨rfl, hb⟩)
  go_ret
  exact ⟨by simp, hb⟩
theorem in_calls (X : U) (s : ByteArray) (n : Int) (w : World) (hs : s.size ≤ 140737488351232) (hn' : n ≤ 9223372036854775807) : Calls Try.prog 50 #[uv X, .string s, .int .i64 n] w fun e w' => e = .returned (.int .i64 (in_ X s.data.toList n)) ∧ Below w.heap.size w w' := by
  by_cases h : n < 1
  · exact in_lo X s n w h
  · exact in_hi X s n w hs (by omega) hn'
end Go.Proofs.Ytjpfamminemegaa.Tele
set_option linter.unusedVariables false
set_option linter.unusedSimpArgs false
namespace Go.Proofs.Ytjpfamminemegaa.Tele
open Go.RowKit

/-- Block g is just these cells, none of them frozen. -/
def Blk (w : World) (g : Nat) (t : TypeId) (cs : Array Value) : Prop := w.heap[g]? = some (.cells cs t (0, 0))
section
variable {w w' : World} {g : Nat} {t : TypeId} {cs : Array Value}
theorem Blk.lt (h : Blk w g t cs) : g < w.heap.size := by
  rcases Nat.lt_or_ge g w.heap.size with hlt | hge
  · exact hlt
  · unfold Blk at h; rw [Array.getElem?_eq_none hge] at h; cases h
theorem Blk.cell (h : Blk w g t cs) (i : Nat) : w.cell? ⟨g, i, none⟩ = cs[i]? := cell_of_row w g i cs t (0, 0) h
theorem Blk.frozen (h : Blk w g t cs) (i : Nat) : w.frozen? ⟨g, i, none⟩ = false := by
  unfold Blk at h
  simp [World.frozen?, h]
theorem Blk.new (w : World) (t : TypeId) (cs : Array Value) : Blk (w.alloc (.cells cs t)) w.heap.size t cs := heap_alloc_new w _
theorem Blk.drewN (h : Blk w g t cs) (n : Nat) : Blk (w.drewN n) g t cs := h
theorem Blk.drew (h : Blk w g t cs) : Blk w.drew g t cs := h
theorem Blk.alloc (h : Blk w g t cs) (o : Obj) : Blk (w.alloc o) g t cs := (Below.heap_alloc w o g h.lt).trans h
theorem Blk.set_ (h : Blk w g t cs) (i : Nat) (u : Value) : Blk (w.setCell ⟨g, i, none⟩ u) g t (cs.setIfInBounds i u) := by
  unfold Blk at h ⊢
  simp [World.setCell, Array.getElem?_modify, h]
theorem Blk.far (h : Blk w g t cs) {p : Addr} (hp : g ≠ p.block) (u : Value) : Blk (w.setCell p u) g t cs := (Below.heap_setCell w p u g hp).trans h
theorem Blk.below {B : Nat} (h : Blk w g t cs) (hb : Below B w w') (hg : g < B) : Blk w' g t cs := (hb.block g hg).trans h
theorem Blk.next (h : Blk w g t cs) (hb : Below w.heap.size w w') : Blk w' g t cs := h.below hb h.lt
theorem Blk.ne_ {g' : Nat} {t' : TypeId} {cs' : Array Value} (h : Blk w g t cs) (h' : Blk w g' t' cs') (hne : t ≠ t') : g ≠ g' := by
  rintro rfl
  unfold Blk at h h'
  rw [h] at h'
  injection h' with h'
  injection h' with _ ht
  exact hne ht
end

/-- What was there and is not named has not turned. -/
structure Chg (S : Nat → Prop) (w w' : World) : Prop where
  os : w'.os = w.os
  tape : w'.tape = w.tape
  output : w'.output = w.output
  size : w.heap.size ≤ w'.heap.size
  block : ∀ k, k < w.heap.size → ¬ S k → w'.heap[k]? = w.heap[k]?
section
variable {S T : Nat → Prop} {w w' w1 w2 : World}
theorem Chg.refl (S : Nat → Prop) (w : World) : Chg S w w := ⟨rfl, rfl, rfl, Nat.le_refl _, fun _ _ _ => rfl⟩
theorem Chg.of_below (S : Nat → Prop) (h : Below w.heap.size w w') : Chg S w w' := ⟨h.os, h.tape, h.output, h.size, fun k hk _ => h.block k hk⟩
theorem Chg.trans (h : Chg S w w1) (k : Chg T w1 w2) (hT : ∀ j, j < w.heap.size → T j → S j) : Chg S w w2 :=
  ⟨k.os.trans h.os, k.tape.trans h.tape, k.output.trans h.output, Nat.le_trans h.size k.size, fun j hj hs => (k.block j (Nat.lt_of_lt_of_le hj h.size) (fun ht => hs (hT j hj ht))).trans (h.block j hj hs)⟩
theorem Chg.then (h : Chg S w w1) (k : Chg S w1 w2) : Chg S w w2 := h.trans k fun _ _ hs => hs
theorem Chg.thenB (h : Chg S w w1) (k : Below w1.heap.size w1 w2) : Chg S w w2 := h.then (.of_below S k)
theorem Chg.mono (h : Chg S w w') (hS : ∀ j, j < w.heap.size → S j → T j) : Chg T w w' := ⟨h.os, h.tape, h.output, h.size, fun k hk hs => h.block k hk fun hh => hs (hS k hk hh)⟩
theorem Chg.setCell (h : Chg S w w') {p : Addr} (hp : S p.block ∨ w.heap.size ≤ p.block) (u : Value) : Chg S w (w'.setCell p u) :=
  ⟨h.os, h.tape, h.output, by simpa [World.setCell] using h.size, fun k hk hs => (Below.heap_setCell w' p u k (by
    rintro rfl
    rcases hp with hp | hp
    · exact hs hp
    · omega)).trans (h.block k hk hs)⟩
theorem Chg.alloc (h : Chg S w w') (o : Obj) : Chg S w (w'.alloc o) :=
  ⟨h.os, h.tape, h.output, Nat.le_trans h.size (by simp), fun k hk hs => (Below.heap_alloc w' o k (Nat.lt_of_lt_of_le hk h.size)).trans (h.block k hk hs)⟩
theorem Chg.drew (h : Chg S w w') : Chg S w w'.drew := ⟨h.os, h.tape, h.output, h.size, h.block⟩
theorem Chg.drewN (h : Chg S w w') (n : Nat) : Chg S w (w'.drewN n) := ⟨h.os, h.tape, h.output, h.size, h.block⟩
theorem Chg.below (h : Chg S w w') {B : Nat} (hB : B ≤ w.heap.size) (hS : ∀ j, S j → B ≤ j) : Below B w w' := ⟨h.os, h.tape, h.output, h.size, fun k hk => h.block k (by omega) (fun hs => by have := hS k hs; omega)⟩
theorem Blk.chg {g : Nat} {t : TypeId} {cs : Array Value} (h : Blk w g t cs) (k : Chg S w w') (hg : ¬ S g) : Blk w' g t cs := (k.block g h.lt hg).trans h
end
theorem bnext {w w1 w2 : World} (h : Below w.heap.size w w1) (k : Below w1.heap.size w1 w2) : Below w.heap.size w w2 := h.trans (k.mono h.size)
theorem bl_alloc {w W : World} (h : Below w.heap.size w W) (o : Obj) : Below w.heap.size w (W.alloc o) := h.alloc h.size o
theorem bchg {w w1 w2 : World} {S : Nat → Prop} (h : Below w.heap.size w w1) (k : Chg S w1 w2) (hS : ∀ j, S j → w.heap.size ≤ j) : Below w.heap.size w w2 := h.trans ((k.mono (T := S) fun _ _ hs => hs).below h.size hS)
end Go.Proofs.Ytjpfamminemegaa.Tele
