/- The walk of the law SendAnew. No conditions. -/
import Derived.Test.YtelodofjokmfjaaSend4
namespace Go.Proofs.Ytelodofjokmfjaa.Tele
open Go.RowKit
set_option linter.unusedVariables false
set_option linter.unusedSimpArgs false

theorem mine_done (w0 : World) (p : Nat) (s : St) (k : Int) (f : Fl) (w : World) (h : Mine w0 w p s) (hk : (Lit.int .i64 k).wf = true) (hf : s.find k = some f) (hfl : f.flies = true → 1 ≤ s.flying) (hfl2 : s.flying ≤ 1000000) :
    Calls Try.prog 18 #[.pointer (some ⟨p, 0, none⟩), .int .i64 k] w fun e w' => e = .returned (.bool true) ∧ Mine w0 w' p (s.done k) := by
  obtain ⟨O, h1, h2, h3⟩ := h
  refine (done_yes O p s k f w h2 hk hf hfl hfl2).mono ?_
  rintro e w' ⟨rfl, hS, hc⟩
  exact ⟨rfl, O, h1, hS, bchg h3 hc h1⟩
theorem mine_next (w0 : World) (p : Nat) (s : St) (w : World) (h : Mine w0 w p s) :
    Calls Try.prog 17 #[.pointer (some ⟨p, 0, none⟩)] w fun e w' => ∃ o : Option Int, e = .returned (.tuple #[.int .i64 (o.getD 0), .bool o.isSome]) ∧ Best s.l (fun _ => True) o ∧ Mine w0 w' p s := by
  have h' := h
  obtain ⟨O, h1, h2, h3⟩ := h
  refine (next_calls O p s w h2).mono ?_
  rintro e w' ⟨o, rfl, hb, hw⟩
  exact ⟨o, rfl, hb, h'.next hw⟩
/-- The one batch of this law. -/
def Lone (s : St) (k : Int) (n : Nat) (now : Int) : Prop :=
  s.fly = 2 ∧ s.base = 3 ∧ s.most = 1000 ∧ ∃ f, s.l = [(k, f)] ∧ f.times ≤ n ∧ ((f.flies = true ∧ s.flying = 1 ∧ f.at_ ≤ now) ∨ (f.flies = false ∧ s.flying = 0))
theorem lone_due (s : St) (k : Int) (n : Nat) (now : Int) (d : U) (h : Lone s k n now) : s.outs now d = [k] ∧ Lone (s.sendAll now d) k (n + 1) (now + 2000) := by
  obtain ⟨h1, h2, h3, f, h4, h5, h6⟩ := h
  have hd : St.due s.fly now f s.flying = true := by
    unfold St.due
    rcases h6 with ⟨a, b, c⟩ | ⟨a, b⟩
    · rw [a, if_pos rfl]; exact decide_eq_true c
    · rw [a, b, h1, if_neg (by decide)]; decide
  have hg : s.go now d s.flying s.l = ([(k, s.sent now d k f)], if f.flies then s.flying else s.flying + 1, [k]) := by
    rw [h4, St.go_yes (p := (k, f)) hd]
    rfl
  have hle := dly_le s.base s.most f.times (mix (d + BitVec.ofInt 64 k)).toNat
  have hwl := wait_le s.base s.most f.times
  refine ⟨by rw [St.outs_go, hg], ?_⟩
  rw [St.sendAll_go, hg]
  refine ⟨h1, h2, h3, s.sent now d k f, rfl, Nat.succ_le_succ h5, .inl ⟨rfl, ?_, ?_⟩⟩
  · show (if f.flies then s.flying else s.flying + 1) = 1
    rcases h6 with ⟨a, b, c⟩ | ⟨a, b⟩
    · rw [a, b]; rfl
    · rw [a, b]; rfl
  · show now + ((dly s.base s.most f.times _ : Nat) : Int) ≤ _
    omega
theorem lone_start (k : Int) (hk : 0 ≤ k) (now : Int) : Lone ((⟨[], 2, 3, 1000, 0⟩ : St).put k) k 0 now := by
  have e : (⟨[], 2, 3, 1000, 0⟩ : St).put k = ⟨[(k, St.fresh)], 2, 3, 1000, 0⟩ := by
    unfold St.put
    rw [if_neg (by simp [St.has]; omega)]
    rfl
  rw [e]
  exact ⟨rfl, rfl, rfl, St.fresh, rfl, Nat.le_refl _, .inr ⟨rfl, rfl⟩⟩
theorem lone_done (s : St) (k : Int) (n : Nat) (now : Int) (h : Lone s k n now) : ∃ f, s.find k = some f ∧ (f.flies = true → 1 ≤ s.flying) ∧ s.flying ≤ 1000000 ∧ s.done k = ⟨[], 2, 3, 1000, 0⟩ := by
  obtain ⟨h1, h2, h3, f, h4, h5, h6⟩ := h
  have hf : s.find k = some f := by unfold St.find; rw [h4]; simp
  have hd : s.done k = { s with l := s.l.filter fun p => !(p.1 == k), flying := if f.flies then s.flying - 1 else s.flying } := by unfold St.done; rw [hf]
  refine ⟨f, hf, ?_, ?_, ?_⟩
  · intro hfl
    rcases h6 with ⟨a, b, c⟩ | ⟨a, b⟩
    · omega
    · rw [a] at hfl; simp at hfl
  · rcases h6 with ⟨a, b, c⟩ | ⟨a, b⟩ <;> omega
  · rw [hd, h4]
    obtain ⟨l, fly, base, most, flying⟩ := s
    simp only at h1 h2 h3 h6
    subst h1 h2 h3
    rcases h6 with ⟨a, b, c⟩ | ⟨a, b⟩
    · simp [a, b]
    · simp [a, b]
theorem lone_last (k : Int) (hk : 0 ≤ k) (now : Int) (d : U) (o : Option Int) (h : Best (((⟨[], 2, 3, 1000, 0⟩ : St).put k).sendAll now d).l (fun _ => True) o) : ∃ a, o = some a ∧ now + 3 ≤ a ∧ a ≤ now + 6 := by
  have hf : ((⟨[], 2, 3, 1000, 0⟩ : St).put k).Fresh := St.put_fresh _ k ⟨by simp, List.Pairwise.nil, rfl⟩
  obtain ⟨e1, e2, e3, e4⟩ := St.put_same (⟨[], 2, 3, 1000, 0⟩ : St) k
  obtain ⟨_, f2⟩ := St.first_look _ now d hf
  have hA := St.sent_fresh _ now d hf (by rw [e2]; decide) (by rw [e2, e3]; decide)
  have hl : ((⟨[], 2, 3, 1000, 0⟩ : St).put k).l = [(k, St.fresh)] := by
    unfold St.put
    rw [if_neg (by simp [St.has]; omega)]
    rfl
  rw [f2] at h
  rw [e1, hl] at h hA
  obtain ⟨b1, b2⟩ := h
  have hm : ((⟨[], 2, 3, 1000, 0⟩ : St).put k).sentP now d (k, St.fresh) ∈ ([(k, St.fresh)].take 2).map (((⟨[], 2, 3, 1000, 0⟩ : St).put k).sentP now d) := by simp
  obtain ⟨a1, a2, a3, a4⟩ := hA _ hm
  obtain ⟨a, ha, hle⟩ := b1 _ (List.mem_append_left _ hm) trivial a1
  refine ⟨a, ha, ?_⟩
  obtain ⟨q, hq, _, _, hqa⟩ := b2 a ha
  have hq' : q ∈ ([(k, St.fresh)].take 2).map (((⟨[], 2, 3, 1000, 0⟩ : St).put k).sentP now d) := by
    rcases List.mem_append.1 hq with hq | hq
    · exact hq
    · simp at hq
  obtain ⟨c1, c2, c3, c4⟩ := hA _ hq'
  rw [e2] at c3 c4
  simp only at c3 c4
  omega
set_option maxRecDepth 8000 in
set_option maxHeartbeats 2000000 in
theorem sendAnew_walk (k t : Int) (w : World) (hk : (Lit.int .u8 k).wf = true) (ht : (Lit.int .u8 t).wf = true) :
    Calls Try.prog 8 #[.int .u8 k, .int .u8 t] w fun e w' => e = .returned (.bool true) ∧ Below w.heap.size w w' := by
  obtain ⟨hk0, hk1⟩ := u8_of_wf hk
  obtain ⟨ht0, ht1⟩ := u8_of_wf ht
  obtain ⟨n, hn, hn7⟩ : ∃ n : Nat, t % 8 = (n : Int) ∧ n ≤ 7 := ⟨(t % 8).toNat, by omega, by omega⟩
  have HN := Lib.hid fun w => mine_new 2 3 1000 w (by omega) (by omega) (by omega) (by omega) (by omega)
  have hwk : (Lit.int .i64 k).wf = true := wf_i64 (by omega) (by omega)
  obtain ⟨s0, hs0⟩ : ∃ s0 : St, s0 = ⟨[], 2, 3, 1000, 0⟩ := ⟨_, rfl⟩
  rw [← hs0] at HN
  have HL0 := Lib.hid (fun now => by have := lone_start k hk0 now; rw [← hs0] at this; exact this)
  have HLL := Lib.hid (fun now o => by have := lone_last k hk0 now 0#64 o; rw [← hs0] at this; exact this)
  have HLD := Lib.hid (fun s n now h => by have := lone_done s k n now h; rw [← hs0] at this; exact this)
  have hhas : (!decide (s0.has k = true ∨ k < 0)) = true := by rw [hs0]; simp [St.has]; omega
  have HP := Lib.hid fun p W h => by
    have := mine_put w p s0 k W h hwk (by rw [hs0]; decide)
    rw [hhas] at this
    exact this
  have HDUE := Lib.hid fun (p : Nat) (s : St) (j T : Nat) (W : World) (h : Mine w W p s) (hl : Lone s k j (T : Int)) (hT : (T : Int) ≤ 1000000) (hj : j ≤ 1000) => by
    have := mine_due w p s T 0#64 W h (by omega) (fun q hq => by
      obtain ⟨_, _, _, f, h4, h5, _⟩ := hl
      rw [h4, List.mem_singleton] at hq
      rw [hq]
      show f.times ≤ _
      omega) (by obtain ⟨_, _, _, f, h4, h5, h6⟩ := hl; rcases h6 with ⟨_, b, _⟩ | ⟨_, b⟩ <;> omega)
    rw [(lone_due s k j T 0#64 hl).1] at this
    exact this
  have HDN := Lib.hid fun (p : Nat) (s : St) (j : Nat) (T : Int) (W : World) (h : Mine w W p s) (hl : Lone s k j T) => by
    obtain ⟨f, a1, a2, a3, a4⟩ := HLD.out s j T hl
    have := mine_done w p s k f W h hwk a1 a2 a3
    rw [a4] at this
    exact this
  have HNX := Lib.hid fun (p : Nat) (s : St) (W : World) (h : Mine w W p s) => mine_next w p s W h
  clear hs0 hhas hwk hk ht
  go_enter Try.func8, Try.ntmps8
  go_wp2_with fail
  refine (HN.out _).mono ?_
  rintro e w1 ⟨p, rfl, hM⟩
  have HM := Lib.hid hM
  clear hM
  go_wp2_with fail
  refine (HP.out _ _ HM.out).mono ?_
  rintro e w2 ⟨rfl, hM⟩
  have HM2 := Lib.hid hM
  clear hM HM
  go_wp2_with fail
  go_loopw [6, 7] (fun a i wr => ∃ (j T : Nat) (s : St), j ≤ n ∧ T = 2000 * j ∧ a = .int .i64 (T : Int) ∧ i = .int .i64 (j : Int) ∧ Hid (Lone s k j (T : Int)) ∧ Hid (Mine w wr p s)) (fun _ i _ => n - (intOf i).toNat)
  case atStart => exact ⟨0, 0, _, by omega, rfl, rfl, rfl, Lib.hid (HL0.out 0), HM2⟩
  case round =>
    clear HM2
    obtain ⟨j, T, s, hj, hT, rfl, rfl, HL, HM⟩ := hrel
    have hT9 : (T : Int) ≤ 14000 := by omega
    have HT := Lib.hid hT
    clear hT
    by_cases hlt : j < n
    · go_wp2_with fail
      refine (HDUE.out p s j T _ HM.out HL.out (by omega) (by omega)).mono ?_
      rintro e w3 ⟨v, O, rfl, ⟨a, cap, rfl, _, _⟩, hM, _⟩
      rw [show ([k] : List Int).length = 1 from rfl]
      have HM3 := Lib.hid hM
      have HL3 := Lib.hid (lone_due s k j T 0#64 HL.out).2
      clear hM
      go_wp2_with fail
      go_roundw
      case rel => exact ⟨j + 1, T + 2000, _, by omega, by rw [HT.out]; omega, by go_num, by go_num, Lib.hid HL3.out, HM3⟩
      case measure => simp [intOf]; omega
    · go_wp2_with fail
      refine (HDN.out p s j T _ HM.out HL.out).mono ?_
      rintro e w3 ⟨rfl, hM⟩
      have HM3 := Lib.hid hM
      clear hM
      go_wp2_with fail
      refine (HP.out _ _ HM3.out).mono ?_
      rintro e w4 ⟨rfl, hM⟩
      have HM4 := Lib.hid hM
      clear hM HM3
      go_wp2_with fail
      refine (HDUE.out p _ 0 T _ HM4.out (HL0.out T) (by omega) (by omega)).mono ?_
      rintro e w5 ⟨v, O, rfl, ⟨a, cap, rfl, _, _⟩, hM, _⟩
      rw [show ([k] : List Int).length = 1 from rfl]
      have HM5 := Lib.hid hM
      clear hM HM4
      go_wp2_with fail
      refine (HNX.out p _ _ HM5.out).mono ?_
      rintro e w6 ⟨o, rfl, hbest, hM⟩
      obtain ⟨at_, rfl, hat1, hat2⟩ := HLL.out T o hbest
      rw [show (some at_ : Option Int).getD 0 = at_ from rfl, show (some at_ : Option Int).isSome = true from rfl]
      have HM6 := Lib.hid hM
      clear hM HM5 hbest
      go_wp2_with fail
      refine (known_calls _).mono ?_
      rintro e w7 ⟨rfl, hb⟩
      go_wp2
      go_ret
      obtain ⟨O, h1, h2, h3⟩ := HM6.out
      exact ⟨rfl, bnext h3 hb⟩
end Go.Proofs.Ytelodofjokmfjaa.Tele
