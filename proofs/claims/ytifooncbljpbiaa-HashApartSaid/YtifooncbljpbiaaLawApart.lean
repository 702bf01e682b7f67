/- The walk of the law HashApart. No conditions. -/
import Derived.Test.YtifooncbljpbiaaLaw6
import Derived.Deep.RegionWith
import Derived.Deep.DrawnRows
import Derived.Laws.BytesArg
import Derived.Deep.RegionHeld3
namespace Go.Proofs.Ytifooncbljpbiaa.Tele
open Go.RowKit
set_option linter.unusedVariables false
set_option linter.unusedSimpArgs false
attribute [local go_sem ↓] Go.wp_at_zero Go.wp_at_succ

theorem bcell {W w1 : World} (hb : Below W.heap.size W w1) : (∀ b o, b < W.heap.size → w1.cell? ⟨b, o, none⟩ = W.cell? ⟨b, o, none⟩) ∧ (∀ b o, b < W.heap.size → w1.frozen? ⟨b, o, none⟩ = W.frozen? ⟨b, o, none⟩) :=
  ⟨fun b o h => hb.cell (p := ⟨b, o, none⟩) h, fun b o h => hb.frozen (p := ⟨b, o, none⟩) h⟩
theorem bl_alloc {w W : World} (h : Below w.heap.size w W) (o : Obj) : Below w.heap.size w (W.alloc o) := h.alloc h.size o
/-- A text of one byte. -/
def oneS (n : Int) : ByteArray := strOfNums [n]
theorem oneS_list (n : Int) : (oneS n).data.toList = [UInt8.ofNat n.toNat] := rfl
theorem conv_one (W : World) (g : Nat) (n : Int) (h : W.cell? ⟨g, 0, none⟩ = some (.int .u8 n)) : (convert 31 9 (.slice (some ⟨g, 0, none⟩) 1 1)).run Try.prog W = .ok (.string (oneS n)) W :=
  run_convert_bytes_arg W 31 5 Try.underlying31 Try.underlying5 g 0 1 1 [n] rfl (fun i hi => by
    have e : i = 0 := by omega
    subst e
    exact h) 9 Try.underlying9
theorem of_one (X : U) (n : Int) (w : World) : Calls Try.prog 13 #[uv X, .string (oneS n)] w fun e w' => e = .returned (uv (of_ X [UInt8.ofNat n.toNat])) ∧ Below w.heap.size w w' :=
  of_calls X (oneS n) w (by unfold oneS; rw [strOfNums_size]; simp)
theorem of_none (X : U) (w : World) : Calls Try.prog 13 #[uv X, .string ⟨#[]⟩] w fun e w' => e = .returned (uv (of_ X [])) ∧ Below w.heap.size w w' :=
  of_calls X ⟨#[]⟩ w (by decide)
set_option maxHeartbeats 4000000 in
theorem apart_walk (X Y MX MY AX BX NX NY : U) (a b : Int) (w : World)
    (hmx : Hid (∀ w : World, Calls Try.prog 9 #[uv X] w fun e w' => e = .returned (uv MX) ∧ Below w.heap.size w w'))
    (hmy : Hid (∀ w : World, Calls Try.prog 9 #[uv Y] w fun e w' => e = .returned (uv MY) ∧ Below w.heap.size w w'))
    (hax : Hid (∀ w : World, Calls Try.prog 13 #[uv X, .string (oneS a)] w fun e w' => e = .returned (uv AX) ∧ Below w.heap.size w w'))
    (hbx : Hid (∀ w : World, Calls Try.prog 13 #[uv X, .string (oneS b)] w fun e w' => e = .returned (uv BX) ∧ Below w.heap.size w w'))
    (hnx : Hid (∀ w : World, Calls Try.prog 13 #[uv X, .string ⟨#[]⟩] w fun e w' => e = .returned (uv NX) ∧ Below w.heap.size w w'))
    (hny : Hid (∀ w : World, Calls Try.prog 13 #[uv Y, .string ⟨#[]⟩] w fun e w' => e = .returned (uv NY) ∧ Below w.heap.size w w'))
    (e1 : (((MX.toNat : Int) == (MY.toNat : Int)) == ((X.toNat : Int) == (Y.toNat : Int))) = true)
    (e2 : (((AX.toNat : Int) == (BX.toNat : Int)) == (a == b)) = true)
    (e3 : (((NX.toNat : Int) == (NY.toNat : Int)) == ((X.toNat : Int) == (Y.toNat : Int))) = true) :
    Calls Try.prog 6 #[uv X, uv Y, .int .u8 a, .int .u8 b] w fun e w' => e = .returned (.bool true) ∧ Below w.heap.size w w' := by
  have hnn : ∀ n : Nat, n < n + 1 + 1 := fun n => by omega
  have hca := fun W g h => conv_one W g a h
  have hcb := fun W g h => conv_one W g b h
  go_enter Try.func6, Try.ntmps6
  go_wp2
  refine wp_region_noPanic ?_
  refine wp_region_held_drew (S := fun _ => True) (by kernel_rfl) trivial (fun _ => ?_)
  refine wpAnyH_ready (rs := [0]) (by kernel_rfl) (by simp) ?_
  refine AllReadyH.cons (o := ({ dst := (some 9), op := (Op.call { callee := (Callee.value (Operand.func 8)), args := #[], argTypes := #[] }), type := 4, pos := "law.go:35", after := #[], guard := none } : Oper)) rfl (fun K hK => ?_) ?_
  · go_simp
    (with_reducible refine (known_calls _).mono ?_)
    rintro e w1 ⟨rfl, hb⟩
    replace hb := bnext (Below.drew (Below.refl _ _)) hb
    go_wp2_with fail
    refine hK.out _ _ trivial (fun _ => ?_)
    clear hK K
    try simp only [Act.put, List.setIfInBounds_toArray, List.set_cons_zero, List.set_cons_succ]
    refine wpAnyH_take (i := 1) (oi := ({ dst := (some 10), op := (Op.move (Operand.tmp 9)), type := 4, pos := "law.go:35", after := #[{ on := 0, ground := Ground.data }, { on := 0, ground := Ground.chain }], guard := none } : Oper)) (v := ?_) rfl (by kernel_rfl) (by kernel_rfl) (by kernel_rfl) (fun _ _ _ h => h) (Or.inl ⟨by rfl, ?_⟩) trivial ?_
    rotate_left
    · (intro w_ _; go_simp; try with_reducible rfl)
    try simp only [Act.put, List.setIfInBounds_toArray, List.set_cons_zero, List.set_cons_succ]
    refine wpAnyH_take (i := 2) (oi := ({ dst := (some 11), op := (Op.move (Operand.tmp 0)), type := 22, pos := "law.go:35", after := #[{ on := 1, ground := Ground.guard }], guard := (some (1, true)) } : Oper)) (v := ?_) rfl (by kernel_rfl) (by kernel_rfl) (by kernel_rfl) (fun _ _ _ h => h) (Or.inl ⟨by rfl, ?_⟩) trivial ?_
    rotate_left
    · (intro w_ _; go_simp; try with_reducible rfl)
    try simp only [Act.put, List.setIfInBounds_toArray, List.set_cons_zero, List.set_cons_succ]
    refine wpAnyH_take (i := 4) (oi := ({ dst := (some 13), op := (Op.move (Operand.tmp 1)), type := 22, pos := "law.go:35", after := #[{ on := 1, ground := Ground.guard }], guard := (some (1, true)) } : Oper)) (v := ?_) rfl (by kernel_rfl) (by kernel_rfl) (by kernel_rfl) (fun _ _ _ h => h) (Or.inl ⟨by rfl, ?_⟩) trivial ?_
    rotate_left
    · (intro w_ _; go_simp; try with_reducible rfl)
    try simp only [Act.put, List.setIfInBounds_toArray, List.set_cons_zero, List.set_cons_succ]
    refine wpAnyH_take (i := 7) (oi := ({ dst := (some 16), op := (Op.move (Operand.tmp 0)), type := 22, pos := "law.go:35", after := #[{ on := 1, ground := Ground.guard }], guard := (some (1, true)) } : Oper)) (v := ?_) rfl (by kernel_rfl) (by kernel_rfl) (by kernel_rfl) (fun _ _ _ h => h) (Or.inl ⟨by rfl, ?_⟩) trivial ?_
    rotate_left
    · (intro w_ _; go_simp; try with_reducible rfl)
    try simp only [Act.put, List.setIfInBounds_toArray, List.set_cons_zero, List.set_cons_succ]
    refine wpAnyH_take (i := 8) (oi := ({ dst := (some 17), op := (Op.move (Operand.tmp 1)), type := 22, pos := "law.go:35", after := #[{ on := 1, ground := Ground.guard }], guard := (some (1, true)) } : Oper)) (v := ?_) rfl (by kernel_rfl) (by kernel_rfl) (by kernel_rfl) (fun _ _ _ h => h) (Or.inl ⟨by rfl, ?_⟩) trivial ?_
    rotate_left
    · (intro w_ _; go_simp; try with_reducible rfl)
    try simp only [Act.put, List.setIfInBounds_toArray, List.set_cons_zero, List.set_cons_succ]
    refine wpAnyH_take (i := 9) (oi := ({ dst := (some 18), op := (Op.binOp BinOp.eql 22 (Operand.tmp 16) (Operand.tmp 17) 22), type := 4, pos := "law.go:35", after := #[{ on := 7, ground := Ground.data }, { on := 8, ground := Ground.data }, { on := 1, ground := Ground.guard }], guard := (some (1, true)) } : Oper)) (v := ?_) rfl (by kernel_rfl) (by kernel_rfl) (by kernel_rfl) (fun _ _ _ h => h) (Or.inl ⟨by rfl, ?_⟩) trivial ?_
    rotate_left
    · (intro w_ _; go_simp; try with_reducible rfl)
    try simp only [Act.put, List.setIfInBounds_toArray, List.set_cons_zero, List.set_cons_succ]
    refine wpAnyH_ready (rs := [3]) (by kernel_rfl) (by simp) ?_
    refine AllReadyH.cons (o := ({ dst := (some 12), op := (Op.call { callee := (Callee.value (Operand.func 9)), args := #[(Operand.tmp 11)], argTypes := #[22] }), type := 22, pos := "law.go:35", after := #[{ on := 2, ground := Ground.data }, { on := 1, ground := Ground.chain }, { on := 1, ground := Ground.guard }], guard := (some (1, true)) } : Oper)) rfl (fun K hK => ?_) ?_
    · go_simp
      (with_reducible refine (hmx.out _).mono ?_)
      rintro e w2 ⟨rfl, hb2⟩
      (first | replace hb := bnext hb hb2 | replace hb := bnext (bl_alloc hb _) hb2 | replace hb := bnext (bl_alloc (bl_alloc hb _) _) hb2)
      clear hb2
      go_wp2_with fail
      refine hK.out _ _ trivial (fun _ => ?_)
      clear hK K
      try simp only [Act.put, List.setIfInBounds_toArray, List.set_cons_zero, List.set_cons_succ]
      refine wpAnyH_ready (rs := [5]) (by kernel_rfl) (by simp) ?_
      refine AllReadyH.cons (o := ({ dst := (some 14), op := (Op.call { callee := (Callee.value (Operand.func 9)), args := #[(Operand.tmp 13)], argTypes := #[22] }), type := 22, pos := "law.go:35", after := #[{ on := 4, ground := Ground.data }, { on := 3, ground := Ground.chain }, { on := 1, ground := Ground.guard }], guard := (some (1, true)) } : Oper)) rfl (fun K hK => ?_) ?_
      · go_simp
        (with_reducible refine (hmy.out _).mono ?_)
        rintro e w3 ⟨rfl, hb2⟩
        (first | replace hb := bnext hb hb2 | replace hb := bnext (bl_alloc hb _) hb2 | replace hb := bnext (bl_alloc (bl_alloc hb _) _) hb2)
        clear hb2
        go_wp2_with fail
        refine hK.out _ _ trivial (fun _ => ?_)
        clear hK K
        try simp only [Act.put, List.setIfInBounds_toArray, List.set_cons_zero, List.set_cons_succ]
        refine wpAnyH_take (i := 6) (oi := ({ dst := (some 15), op := (Op.binOp BinOp.eql 22 (Operand.tmp 12) (Operand.tmp 14) 22), type := 4, pos := "law.go:35", after := #[{ on := 3, ground := Ground.data }, { on := 5, ground := Ground.data }, { on := 1, ground := Ground.guard }], guard := (some (1, true)) } : Oper)) (v := ?_) rfl (by kernel_rfl) (by kernel_rfl) (by kernel_rfl) (fun _ _ _ h => h) (Or.inl ⟨by rfl, ?_⟩) trivial ?_
        rotate_left
        · (intro w_ _; go_simp; try with_reducible rfl)
        try simp only [Act.put, List.setIfInBounds_toArray, List.set_cons_zero, List.set_cons_succ]
        refine wpAnyH_take (i := 10) (oi := ({ dst := (some 19), op := (Op.binOp BinOp.eql 4 (Operand.tmp 15) (Operand.tmp 18) 4), type := 4, pos := "law.go:35", after := #[{ on := 6, ground := Ground.data }, { on := 9, ground := Ground.data }, { on := 1, ground := Ground.guard }], guard := (some (1, true)) } : Oper)) (v := ?_) rfl (by kernel_rfl) (by kernel_rfl) (by kernel_rfl) (fun _ _ _ h => h) (Or.inl ⟨by rfl, ?_⟩) trivial ?_
        rotate_left
        · (intro w_ _; go_simp; try with_reducible rfl)
        try simp only [Act.put, List.setIfInBounds_toArray, List.set_cons_zero, List.set_cons_succ]
        refine wpAnyH_take (i := 11) (oi := ({ dst := (some 20), op := (Op.pick (Operand.tmp 10) (Operand.tmp 19) (Operand.const (Value.bool false))), type := 4, pos := "law.go:35", after := #[{ on := 1, ground := Ground.data }, { on := 10, ground := Ground.data }], guard := none } : Oper)) (v := ?_) rfl (by kernel_rfl) (by kernel_rfl) (by kernel_rfl) (fun _ _ _ h => h) (Or.inl ⟨by rfl, ?_⟩) trivial ?_
        rotate_left
        · (intro w_ _; go_simp; try with_reducible rfl)
        try simp only [Act.put, List.setIfInBounds_toArray, List.set_cons_zero, List.set_cons_succ]
        refine wpAnyH_take (i := 12) (oi := ({ dst := (some 21), op := (Op.move (Operand.tmp 20)), type := 4, pos := "law.go:35", after := #[{ on := 11, ground := Ground.data }, { on := 5, ground := Ground.chain }], guard := none } : Oper)) (v := ?_) rfl (by kernel_rfl) (by kernel_rfl) (by kernel_rfl) (fun _ _ _ h => h) (Or.inl ⟨by rfl, ?_⟩) trivial ?_
        rotate_left
        · (intro w_ _; go_simp; try with_reducible rfl)
        try simp only [Act.put, List.setIfInBounds_toArray, List.set_cons_zero, List.set_cons_succ]
        refine wpAnyH_take (i := 13) (oi := ({ dst := (some 22), op := (Op.move (Operand.tmp 0)), type := 22, pos := "law.go:35", after := #[{ on := 12, ground := Ground.guard }], guard := (some (12, true)) } : Oper)) (v := ?_) rfl (by kernel_rfl) (by kernel_rfl) (by kernel_rfl) (fun _ _ _ h => h) (Or.inl ⟨by rfl, ?_⟩) trivial ?_
        rotate_left
        · (intro w_ _; go_simp; try with_reducible rfl)
        try simp only [Act.put, List.setIfInBounds_toArray, List.set_cons_zero, List.set_cons_succ]
        refine wpAnyH_take (i := 14) (oi := ({ dst := (some 23), op := (Op.move (Operand.tmp 2)), type := 5, pos := "law.go:35", after := #[{ on := 12, ground := Ground.guard }], guard := (some (12, true)) } : Oper)) (v := ?_) rfl (by kernel_rfl) (by kernel_rfl) (by kernel_rfl) (fun _ _ _ h => h) (Or.inl ⟨by rfl, ?_⟩) trivial ?_
        rotate_left
        · (intro w_ _; go_simp; try with_reducible rfl)
        try simp only [Act.put, List.setIfInBounds_toArray, List.set_cons_zero, List.set_cons_succ]
        refine wpAnyH_take (i := 18) (oi := ({ dst := (some 27), op := (Op.move (Operand.tmp 0)), type := 22, pos := "law.go:35", after := #[{ on := 12, ground := Ground.guard }], guard := (some (12, true)) } : Oper)) (v := ?_) rfl (by kernel_rfl) (by kernel_rfl) (by kernel_rfl) (fun _ _ _ h => h) (Or.inl ⟨by rfl, ?_⟩) trivial ?_
        rotate_left
        · (intro w_ _; go_simp; try with_reducible rfl)
        try simp only [Act.put, List.setIfInBounds_toArray, List.set_cons_zero, List.set_cons_succ]
        refine wpAnyH_take (i := 19) (oi := ({ dst := (some 28), op := (Op.move (Operand.tmp 3)), type := 5, pos := "law.go:35", after := #[{ on := 12, ground := Ground.guard }], guard := (some (12, true)) } : Oper)) (v := ?_) rfl (by kernel_rfl) (by kernel_rfl) (by kernel_rfl) (fun _ _ _ h => h) (Or.inl ⟨by rfl, ?_⟩) trivial ?_
        rotate_left
        · (intro w_ _; go_simp; try with_reducible rfl)
        try simp only [Act.put, List.setIfInBounds_toArray, List.set_cons_zero, List.set_cons_succ]
        refine wpAnyH_take (i := 24) (oi := ({ dst := (some 33), op := (Op.move (Operand.tmp 2)), type := 5, pos := "law.go:35", after := #[{ on := 12, ground := Ground.guard }], guard := (some (12, true)) } : Oper)) (v := ?_) rfl (by kernel_rfl) (by kernel_rfl) (by kernel_rfl) (fun _ _ _ h => h) (Or.inl ⟨by rfl, ?_⟩) trivial ?_
        rotate_left
        · (intro w_ _; go_simp; try with_reducible rfl)
        try simp only [Act.put, List.setIfInBounds_toArray, List.set_cons_zero, List.set_cons_succ]
        refine wpAnyH_take (i := 25) (oi := ({ dst := (some 34), op := (Op.move (Operand.tmp 3)), type := 5, pos := "law.go:35", after := #[{ on := 12, ground := Ground.guard }], guard := (some (12, true)) } : Oper)) (v := ?_) rfl (by kernel_rfl) (by kernel_rfl) (by kernel_rfl) (fun _ _ _ h => h) (Or.inl ⟨by rfl, ?_⟩) trivial ?_
        rotate_left
        · (intro w_ _; go_simp; try with_reducible rfl)
        try simp only [Act.put, List.setIfInBounds_toArray, List.set_cons_zero, List.set_cons_succ]
        refine wpAnyH_take (i := 26) (oi := ({ dst := (some 35), op := (Op.binOp BinOp.eql 5 (Operand.tmp 33) (Operand.tmp 34) 5), type := 4, pos := "law.go:35", after := #[{ on := 24, ground := Ground.data }, { on := 25, ground := Ground.data }, { on := 12, ground := Ground.guard }], guard := (some (12, true)) } : Oper)) (v := ?_) rfl (by kernel_rfl) (by kernel_rfl) (by kernel_rfl) (fun _ _ _ h => h) (Or.inl ⟨by rfl, ?_⟩) trivial ?_
        rotate_left
        · (intro w_ _; go_simp; try with_reducible rfl)
        try simp only [Act.put, List.setIfInBounds_toArray, List.set_cons_zero, List.set_cons_succ]
        refine wpAnyH_ready (rs := [15, 20]) (by kernel_rfl) (by simp) ?_
        refine AllReadyH.cons (o := ({ dst := (some 24), op := (Op.buildSlice 31 1 #[(0, (Operand.tmp 23))]), type := 31, pos := "law.go:35", after := #[{ on := 14, ground := Ground.data }, { on := 12, ground := Ground.guard }], guard := (some (12, true)) } : Oper)) rfl (fun K hK => ?_) ?_
        · go_simp
          refine hK.out _ _ trivial (fun _ => ?_)
          clear hK K
          try simp only [Act.put, List.setIfInBounds_toArray, List.set_cons_zero, List.set_cons_succ]
          refine wpAnyH_ready (rs := [16, 20]) (by kernel_rfl) (by simp) ?_
          refine AllReadyH.cons (o := ({ dst := (some 25), op := (Op.convert 31 9 (Operand.tmp 24)), type := 9, pos := "law.go:35", after := #[{ on := 15, ground := Ground.data }, { on := 12, ground := Ground.guard }], guard := (some (12, true)) } : Oper)) rfl (fun K hK => ?_) ?_
          · go_simp
            refine hK.out _ _ trivial (fun _ => ?_)
            clear hK K
            try simp only [Act.put, List.setIfInBounds_toArray, List.set_cons_zero, List.set_cons_succ]
            refine wpAnyH_ready (rs := [17, 20]) (by kernel_rfl) (by simp) ?_
            refine AllReadyH.cons (o := ({ dst := (some 26), op := (Op.call { callee := (Callee.value (Operand.func 13)), args := #[(Operand.tmp 22), (Operand.tmp 25)], argTypes := #[22, 9] }), type := 22, pos := "law.go:35", after := #[{ on := 13, ground := Ground.data }, { on := 16, ground := Ground.data }, { on := 12, ground := Ground.chain }, { on := 12, ground := Ground.guard }], guard := (some (12, true)) } : Oper)) rfl (fun K hK => ?_) ?_
            · go_simp
              (with_reducible refine (hax.out _).mono ?_)
              rintro e w4 ⟨rfl, hb2⟩
              have hc4 := (bcell hb2).1
              (first | replace hb := bnext hb hb2 | replace hb := bnext (bl_alloc hb _) hb2 | replace hb := bnext (bl_alloc (bl_alloc hb _) _) hb2)
              clear hb2
              go_wp2_with fail
              refine hK.out _ _ trivial (fun _ => ?_)
              clear hK K
              try simp only [Act.put, List.setIfInBounds_toArray, List.set_cons_zero, List.set_cons_succ]
              refine wpAnyH_ready (rs := [20]) (by kernel_rfl) (by simp) ?_
              refine AllReadyH.cons (o := ({ dst := (some 29), op := (Op.buildSlice 31 1 #[(0, (Operand.tmp 28))]), type := 31, pos := "law.go:35", after := #[{ on := 19, ground := Ground.data }, { on := 12, ground := Ground.guard }], guard := (some (12, true)) } : Oper)) rfl (fun K hK => ?_) ?_
              · go_simp
                refine hK.out _ _ trivial (fun _ => ?_)
                clear hK K
                try simp only [Act.put, List.setIfInBounds_toArray, List.set_cons_zero, List.set_cons_succ]
                refine wpAnyH_ready (rs := [21]) (by kernel_rfl) (by simp) ?_
                refine AllReadyH.cons (o := ({ dst := (some 30), op := (Op.convert 31 9 (Operand.tmp 29)), type := 9, pos := "law.go:35", after := #[{ on := 20, ground := Ground.data }, { on := 12, ground := Ground.guard }], guard := (some (12, true)) } : Oper)) rfl (fun K hK => ?_) ?_
                · go_simp
                  refine hK.out _ _ trivial (fun _ => ?_)
                  clear hK K
                  try simp only [Act.put, List.setIfInBounds_toArray, List.set_cons_zero, List.set_cons_succ]
                  refine wpAnyH_ready (rs := [22]) (by kernel_rfl) (by simp) ?_
                  refine AllReadyH.cons (o := ({ dst := (some 31), op := (Op.call { callee := (Callee.value (Operand.func 13)), args := #[(Operand.tmp 27), (Operand.tmp 30)], argTypes := #[22, 9] }), type := 22, pos := "law.go:35", after := #[{ on := 18, ground := Ground.data }, { on := 21, ground := Ground.data }, { on := 17, ground := Ground.chain }, { on := 12, ground := Ground.guard }], guard := (some (12, true)) } : Oper)) rfl (fun K hK => ?_) ?_
                  · go_simp
                    (with_reducible refine (hbx.out _).mono ?_)
                    rintro e w5 ⟨rfl, hb2⟩
                    (first | replace hb := bnext hb hb2 | replace hb := bnext (bl_alloc hb _) hb2 | replace hb := bnext (bl_alloc (bl_alloc hb _) _) hb2)
                    clear hb2
                    go_wp2_with fail
                    refine hK.out _ _ trivial (fun _ => ?_)
                    clear hK K
                    try simp only [Act.put, List.setIfInBounds_toArray, List.set_cons_zero, List.set_cons_succ]
                    refine wpAnyH_take (i := 23) (oi := ({ dst := (some 32), op := (Op.binOp BinOp.eql 22 (Operand.tmp 26) (Operand.tmp 31) 22), type := 4, pos := "law.go:35", after := #[{ on := 17, ground := Ground.data }, { on := 22, ground := Ground.data }, { on := 12, ground := Ground.guard }], guard := (some (12, true)) } : Oper)) (v := ?_) rfl (by kernel_rfl) (by kernel_rfl) (by kernel_rfl) (fun _ _ _ h => h) (Or.inl ⟨by rfl, ?_⟩) trivial ?_
                    rotate_left
                    · (intro w_ _; go_simp; try with_reducible rfl)
                    try simp only [Act.put, List.setIfInBounds_toArray, List.set_cons_zero, List.set_cons_succ]
                    refine wpAnyH_take (i := 27) (oi := ({ dst := (some 36), op := (Op.binOp BinOp.eql 4 (Operand.tmp 32) (Operand.tmp 35) 4), type := 4, pos := "law.go:35", after := #[{ on := 23, ground := Ground.data }, { on := 26, ground := Ground.data }, { on := 12, ground := Ground.guard }], guard := (some (12, true)) } : Oper)) (v := ?_) rfl (by kernel_rfl) (by kernel_rfl) (by kernel_rfl) (fun _ _ _ h => h) (Or.inl ⟨by rfl, ?_⟩) trivial ?_
                    rotate_left
                    · (intro w_ _; go_simp; try with_reducible rfl)
                    try simp only [Act.put, List.setIfInBounds_toArray, List.set_cons_zero, List.set_cons_succ]
                    refine wpAnyH_take (i := 28) (oi := ({ dst := (some 37), op := (Op.pick (Operand.tmp 21) (Operand.tmp 36) (Operand.const (Value.bool false))), type := 4, pos := "law.go:35", after := #[{ on := 12, ground := Ground.data }, { on := 27, ground := Ground.data }], guard := none } : Oper)) (v := ?_) rfl (by kernel_rfl) (by kernel_rfl) (by kernel_rfl) (fun _ _ _ h => h) (Or.inl ⟨by rfl, ?_⟩) trivial ?_
                    rotate_left
                    · (intro w_ _; go_simp; try with_reducible rfl)
                    try simp only [Act.put, List.setIfInBounds_toArray, List.set_cons_zero, List.set_cons_succ]
                    refine wpAnyH_take (i := 29) (oi := ({ dst := (some 38), op := (Op.move (Operand.tmp 37)), type := 4, pos := "law.go:35", after := #[{ on := 28, ground := Ground.data }, { on := 22, ground := Ground.chain }], guard := none } : Oper)) (v := ?_) rfl (by kernel_rfl) (by kernel_rfl) (by kernel_rfl) (fun _ _ _ h => h) (Or.inl ⟨by rfl, ?_⟩) trivial ?_
                    rotate_left
                    · (intro w_ _; go_simp; try with_reducible rfl)
                    try simp only [Act.put, List.setIfInBounds_toArray, List.set_cons_zero, List.set_cons_succ]
                    refine wpAnyH_take (i := 30) (oi := ({ dst := (some 39), op := (Op.move (Operand.tmp 0)), type := 22, pos := "law.go:35", after := #[{ on := 29, ground := Ground.guard }], guard := (some (29, true)) } : Oper)) (v := ?_) rfl (by kernel_rfl) (by kernel_rfl) (by kernel_rfl) (fun _ _ _ h => h) (Or.inl ⟨by rfl, ?_⟩) trivial ?_
                    rotate_left
                    · (intro w_ _; go_simp; try with_reducible rfl)
                    try simp only [Act.put, List.setIfInBounds_toArray, List.set_cons_zero, List.set_cons_succ]
                    refine wpAnyH_take (i := 32) (oi := ({ dst := (some 41), op := (Op.move (Operand.tmp 1)), type := 22, pos := "law.go:35", after := #[{ on := 29, ground := Ground.guard }], guard := (some (29, true)) } : Oper)) (v := ?_) rfl (by kernel_rfl) (by kernel_rfl) (by kernel_rfl) (fun _ _ _ h => h) (Or.inl ⟨by rfl, ?_⟩) trivial ?_
                    rotate_left
                    · (intro w_ _; go_simp; try with_reducible rfl)
                    try simp only [Act.put, List.setIfInBounds_toArray, List.set_cons_zero, List.set_cons_succ]
                    refine wpAnyH_take (i := 35) (oi := ({ dst := (some 44), op := (Op.move (Operand.tmp 0)), type := 22, pos := "law.go:35", after := #[{ on := 29, ground := Ground.guard }], guard := (some (29, true)) } : Oper)) (v := ?_) rfl (by kernel_rfl) (by kernel_rfl) (by kernel_rfl) (fun _ _ _ h => h) (Or.inl ⟨by rfl, ?_⟩) trivial ?_
                    rotate_left
                    · (intro w_ _; go_simp; try with_reducible rfl)
                    try simp only [Act.put, List.setIfInBounds_toArray, List.set_cons_zero, List.set_cons_succ]
                    refine wpAnyH_take (i := 36) (oi := ({ dst := (some 45), op := (Op.move (Operand.tmp 1)), type := 22, pos := "law.go:35", after := #[{ on := 29, ground := Ground.guard }], guard := (some (29, true)) } : Oper)) (v := ?_) rfl (by kernel_rfl) (by kernel_rfl) (by kernel_rfl) (fun _ _ _ h => h) (Or.inl ⟨by rfl, ?_⟩) trivial ?_
                    rotate_left
                    · (intro w_ _; go_simp; try with_reducible rfl)
                    try simp only [Act.put, List.setIfInBounds_toArray, List.set_cons_zero, List.set_cons_succ]
                    refine wpAnyH_take (i := 37) (oi := ({ dst := (some 46), op := (Op.binOp BinOp.eql 22 (Operand.tmp 44) (Operand.tmp 45) 22), type := 4, pos := "law.go:35", after := #[{ on := 35, ground := Ground.data }, { on := 36, ground := Ground.data }, { on := 29, ground := Ground.guard }], guard := (some (29, true)) } : Oper)) (v := ?_) rfl (by kernel_rfl) (by kernel_rfl) (by kernel_rfl) (fun _ _ _ h => h) (Or.inl ⟨by rfl, ?_⟩) trivial ?_
                    rotate_left
                    · (intro w_ _; go_simp; try with_reducible rfl)
                    try simp only [Act.put, List.setIfInBounds_toArray, List.set_cons_zero, List.set_cons_succ]
                    refine wpAnyH_ready (rs := [31]) (by kernel_rfl) (by simp) ?_
                    refine AllReadyH.cons (o := ({ dst := (some 40), op := (Op.call { callee := (Callee.value (Operand.func 13)), args := #[(Operand.tmp 39), (Operand.const (Value.string { data := #[] }))], argTypes := #[22, 9] }), type := 22, pos := "law.go:35", after := #[{ on := 30, ground := Ground.data }, { on := 29, ground := Ground.chain }, { on := 29, ground := Ground.guard }], guard := (some (29, true)) } : Oper)) rfl (fun K hK => ?_) ?_
                    · go_simp
                      (with_reducible refine (hnx.out _).mono ?_)
                      rintro e w6 ⟨rfl, hb2⟩
                      (first | replace hb := bnext hb hb2 | replace hb := bnext (bl_alloc hb _) hb2 | replace hb := bnext (bl_alloc (bl_alloc hb _) _) hb2)
                      clear hb2
                      go_wp2_with fail
                      refine hK.out _ _ trivial (fun _ => ?_)
                      clear hK K
                      try simp only [Act.put, List.setIfInBounds_toArray, List.set_cons_zero, List.set_cons_succ]
                      refine wpAnyH_ready (rs := [33]) (by kernel_rfl) (by simp) ?_
                      refine AllReadyH.cons (o := ({ dst := (some 42), op := (Op.call { callee := (Callee.value (Operand.func 13)), args := #[(Operand.tmp 41), (Operand.const (Value.string { data := #[] }))], argTypes := #[22, 9] }), type := 22, pos := "law.go:35", after := #[{ on := 32, ground := Ground.data }, { on := 31, ground := Ground.chain }, { on := 29, ground := Ground.guard }], guard := (some (29, true)) } : Oper)) rfl (fun K hK => ?_) ?_
                      · go_simp
                        (with_reducible refine (hny.out _).mono ?_)
                        rintro e w7 ⟨rfl, hb2⟩
                        (first | replace hb := bnext hb hb2 | replace hb := bnext (bl_alloc hb _) hb2 | replace hb := bnext (bl_alloc (bl_alloc hb _) _) hb2)
                        clear hb2
                        go_wp2_with fail
                        refine hK.out _ _ trivial (fun _ => ?_)
                        clear hK K
                        try simp only [Act.put, List.setIfInBounds_toArray, List.set_cons_zero, List.set_cons_succ]
                        refine wpAnyH_take (i := 34) (oi := ({ dst := (some 43), op := (Op.binOp BinOp.eql 22 (Operand.tmp 40) (Operand.tmp 42) 22), type := 4, pos := "law.go:35", after := #[{ on := 31, ground := Ground.data }, { on := 33, ground := Ground.data }, { on := 29, ground := Ground.guard }], guard := (some (29, true)) } : Oper)) (v := ?_) rfl (by kernel_rfl) (by kernel_rfl) (by kernel_rfl) (fun _ _ _ h => h) (Or.inl ⟨by rfl, ?_⟩) trivial ?_
                        rotate_left
                        · (intro w_ _; go_simp; try with_reducible rfl)
                        try simp only [Act.put, List.setIfInBounds_toArray, List.set_cons_zero, List.set_cons_succ]
                        refine wpAnyH_take (i := 38) (oi := ({ dst := (some 47), op := (Op.binOp BinOp.eql 4 (Operand.tmp 43) (Operand.tmp 46) 4), type := 4, pos := "law.go:35", after := #[{ on := 34, ground := Ground.data }, { on := 37, ground := Ground.data }, { on := 29, ground := Ground.guard }], guard := (some (29, true)) } : Oper)) (v := ?_) rfl (by kernel_rfl) (by kernel_rfl) (by kernel_rfl) (fun _ _ _ h => h) (Or.inl ⟨by rfl, ?_⟩) trivial ?_
                        rotate_left
                        · (intro w_ _; go_simp; try with_reducible rfl)
                        try simp only [Act.put, List.setIfInBounds_toArray, List.set_cons_zero, List.set_cons_succ]
                        refine wpAnyH_take (i := 39) (oi := ({ dst := (some 48), op := (Op.pick (Operand.tmp 38) (Operand.tmp 47) (Operand.const (Value.bool false))), type := 4, pos := "law.go:35", after := #[{ on := 29, ground := Ground.data }, { on := 38, ground := Ground.data }], guard := none } : Oper)) (v := ?_) rfl (by kernel_rfl) (by kernel_rfl) (by kernel_rfl) (fun _ _ _ h => h) (Or.inl ⟨by rfl, ?_⟩) trivial ?_
                        rotate_left
                        · (intro w_ _; go_simp; try with_reducible rfl)
                        try simp only [Act.put, List.setIfInBounds_toArray, List.set_cons_zero, List.set_cons_succ]
                        refine wpAnyH_take (i := 40) (oi := ({ dst := (some 8), op := (Op.assign (Operand.tmp 48)), type := 4, pos := "law.go:35", after := #[{ on := 39, ground := Ground.data }, { on := 33, ground := Ground.chain }, { on := 0, ground := Ground.phase }, { on := 1, ground := Ground.phase }, { on := 2, ground := Ground.phase }, { on := 3, ground := Ground.phase }, { on := 4, ground := Ground.phase }, { on := 5, ground := Ground.phase }, { on := 6, ground := Ground.phase }, { on := 7, ground := Ground.phase }, { on := 8, ground := Ground.phase }, { on := 9, ground := Ground.phase }, { on := 10, ground := Ground.phase }, { on := 11, ground := Ground.phase }, { on := 12, ground := Ground.phase }, { on := 13, ground := Ground.phase }, { on := 14, ground := Ground.phase }, { on := 15, ground := Ground.phase }, { on := 16, ground := Ground.phase }, { on := 17, ground := Ground.phase }, { on := 18, ground := Ground.phase }, { on := 19, ground := Ground.phase }, { on := 20, ground := Ground.phase }, { on := 21, ground := Ground.phase }, { on := 22, ground := Ground.phase }, { on := 23, ground := Ground.phase }, { on := 24, ground := Ground.phase }, { on := 25, ground := Ground.phase }, { on := 26, ground := Ground.phase }, { on := 27, ground := Ground.phase }, { on := 28, ground := Ground.phase }, { on := 29, ground := Ground.phase }, { on := 30, ground := Ground.phase }, { on := 31, ground := Ground.phase }, { on := 32, ground := Ground.phase }, { on := 33, ground := Ground.phase }, { on := 34, ground := Ground.phase }, { on := 35, ground := Ground.phase }, { on := 36, ground := Ground.phase }, { on := 37, ground := Ground.phase }, { on := 38, ground := Ground.phase }, { on := 39, ground := Ground.phase }], guard := none } : Oper)) (v := ?_) rfl (by kernel_rfl) (by kernel_rfl) (by kernel_rfl) (fun _ _ _ h => h) (Or.inl ⟨by rfl, ?_⟩) trivial ?_
                        rotate_left
                        · (intro w_ _; go_simp; try with_reducible rfl)
                        try simp only [Act.put, List.setIfInBounds_toArray, List.set_cons_zero, List.set_cons_succ]
                        refine wpAnyH_done (by kernel_rfl) ?_ _
                        refine NoPanic.normal ?_
                        go_wp2
                        go_ret
                        exact ⟨rfl, hb⟩
                      exact AllReadyH.nil
                    exact AllReadyH.nil
                  exact AllReadyH.nil
                exact AllReadyH.nil
              exact AllReadyH.nil
            refine AllReadyH.cons (o := ({ dst := (some 29), op := (Op.buildSlice 31 1 #[(0, (Operand.tmp 28))]), type := 31, pos := "law.go:35", after := #[{ on := 19, ground := Ground.data }, { on := 12, ground := Ground.guard }], guard := (some (12, true)) } : Oper)) rfl (fun K hK => ?_) ?_
            · go_simp
              refine hK.out _ _ trivial (fun _ => ?_)
              clear hK K
              try simp only [Act.put, List.setIfInBounds_toArray, List.set_cons_zero, List.set_cons_succ]
              refine wpAnyH_ready (rs := [17, 21]) (by kernel_rfl) (by simp) ?_
              refine AllReadyH.cons (o := ({ dst := (some 26), op := (Op.call { callee := (Callee.value (Operand.func 13)), args := #[(Operand.tmp 22), (Operand.tmp 25)], argTypes := #[22, 9] }), type := 22, pos := "law.go:35", after := #[{ on := 13, ground := Ground.data }, { on := 16, ground := Ground.data }, { on := 12, ground := Ground.chain }, { on := 12, ground := Ground.guard }], guard := (some (12, true)) } : Oper)) rfl (fun K hK => ?_) ?_
              · go_simp
                (with_reducible refine (hax.out _).mono ?_)
                rintro e w4 ⟨rfl, hb2⟩
                have hc4 := (bcell hb2).1
                (first | replace hb := bnext hb hb2 | replace hb := bnext (bl_alloc hb _) hb2 | replace hb := bnext (bl_alloc (bl_alloc hb _) _) hb2)
                clear hb2
                go_wp2_with fail
                refine hK.out _ _ trivial (fun _ => ?_)
                clear hK K
                try simp only [Act.put, List.setIfInBounds_toArray, List.set_cons_zero, List.set_cons_succ]
                refine wpAnyH_ready (rs := [21]) (by kernel_rfl) (by simp) ?_
                refine AllReadyH.cons (o := ({ dst := (some 30), op := (Op.convert 31 9 (Operand.tmp 29)), type := 9, pos := "law.go:35", after := #[{ on := 20, ground := Ground.data }, { on := 12, ground := Ground.guard }], guard := (some (12, true)) } : Oper)) rfl (fun K hK => ?_) ?_
                · go_simp
                  refine hK.out _ _ trivial (fun _ => ?_)
                  clear hK K
                  try simp only [Act.put, List.setIfInBounds_toArray, List.set_cons_zero, List.set_cons_succ]
                  refine wpAnyH_ready (rs := [22]) (by kernel_rfl) (by simp) ?_
                  refine AllReadyH.cons (o := ({ dst := (some 31), op := (Op.call { callee := (Callee.value (Operand.func 13)), args := #[(Operand.tmp 27), (Operand.tmp 30)], argTypes := #[22, 9] }), type := 22, pos := "law.go:35", after := #[{ on := 18, ground := Ground.data }, { on := 21, ground := Ground.data }, { on := 17, ground := Ground.chain }, { on := 12, ground := Ground.guard }], guard := (some (12, true)) } : Oper)) rfl (fun K hK => ?_) ?_
                  · go_simp
                    (with_reducible refine (hbx.out _).mono ?_)
                    rintro e w5 ⟨rfl, hb2⟩
                    (first | replace hb := bnext hb hb2 | replace hb := bnext (bl_alloc hb _) hb2 | replace hb := bnext (bl_alloc (bl_alloc hb _) _) hb2)
                    clear hb2
                    go_wp2_with fail
                    refine hK.out _ _ trivial (fun _ => ?_)
                    clear hK K
                    try simp only [Act.put, List.setIfInBounds_toArray, List.set_cons_zero, List.set_cons_succ]
                    refine wpAnyH_take (i := 23) (oi := ({ dst := (some 32), op := (Op.binOp BinOp.eql 22 (Operand.tmp 26) (Operand.tmp 31) 22), type := 4, pos := "law.go:35", after := #[{ on := 17, ground := Ground.data }, { on := 22, ground := Ground.data }, { on := 12, ground := Ground.guard }], guard := (some (12, true)) } : Oper)) (v := ?_) rfl (by kernel_rfl) (by kernel_rfl) (by kernel_rfl) (fun _ _ _ h => h) (Or.inl ⟨by rfl, ?_⟩) trivial ?_
                    rotate_left
                    · (intro w_ _; go_simp; try with_reducible rfl)
                    try simp only [Act.put, List.setIfInBounds_toArray, List.set_cons_zero, List.set_cons_succ]
                    refine wpAnyH_take (i := 27) (oi := ({ dst := (some 36), op := (Op.binOp BinOp.eql 4 (Operand.tmp 32) (Operand.tmp 35) 4), type := 4, pos := "law.go:35", after := #[{ on := 23, ground := Ground.data }, { on := 26, ground := Ground.data }, { on := 12, ground := Ground.guard }], guard := (some (12, true)) } : Oper)) (v := ?_) rfl (by kernel_rfl) (by kernel_rfl) (by kernel_rfl) (fun _ _ _ h => h) (Or.inl ⟨by rfl, ?_⟩) trivial ?_
                    rotate_left
                    · (intro w_ _; go_simp; try with_reducible rfl)
                    try simp only [Act.put, List.setIfInBounds_toArray, List.set_cons_zero, List.set_cons_succ]
                    refine wpAnyH_take (i := 28) (oi := ({ dst := (some 37), op := (Op.pick (Operand.tmp 21) (Operand.tmp 36) (Operand.const (Value.bool false))), type := 4, pos := "law.go:35", after := #[{ on := 12, ground := Ground.data }, { on := 27, ground := Ground.data }], guard := none } : Oper)) (v := ?_) rfl (by kernel_rfl) (by kernel_rfl) (by kernel_rfl) (fun _ _ _ h => h) (Or.inl ⟨by rfl, ?_⟩) trivial ?_
                    rotate_left
                    · (intro w_ _; go_simp; try with_reducible rfl)
                    try simp only [Act.put, List.setIfInBounds_toArray, List.set_cons_zero, List.set_cons_succ]
                    refine wpAnyH_take (i := 29) (oi := ({ dst := (some 38), op := (Op.move (Operand.tmp 37)), type := 4, pos := "law.go:35", after := #[{ on := 28, ground := Ground.data }, { on := 22, ground := Ground.chain }], guard := none } : Oper)) (v := ?_) rfl (by kernel_rfl) (by kernel_rfl) (by kernel_rfl) (fun _ _ _ h => h) (Or.inl ⟨by rfl, ?_⟩) trivial ?_
                    rotate_left
                    · (intro w_ _; go_simp; try with_reducible rfl)
                    try simp only [Act.put, List.setIfInBounds_toArray, List.set_cons_zero, List.set_cons_succ]
                    refine wpAnyH_take (i := 30) (oi := ({ dst := (some 39), op := (Op.move (Operand.tmp 0)), type := 22, pos := "law.go:35", after := #[{ on := 29, ground := Ground.guard }], guard := (some (29, true)) } : Oper)) (v := ?_) rfl (by kernel_rfl) (by kernel_rfl) (by kernel_rfl) (fun _ _ _ h => h) (Or.inl ⟨by rfl, ?_⟩) trivial ?_
                    rotate_left
                    · (intro w_ _; go_simp; try with_reducible rfl)
                    try simp only [Act.put, List.setIfInBounds_toArray, List.set_cons_zero, List.set_cons_succ]
                    refine wpAnyH_take (i := 32) (oi := ({ dst := (some 41), op := (Op.move (Operand.tmp 1)), type := 22, pos := "law.go:35", after := #[{ on := 29, ground := Ground.guard }], guard := (some (29, true)) } : Oper)) (v := ?_) rfl (by kernel_rfl) (by kernel_rfl) (by kernel_rfl) (fun _ _ _ h => h) (Or.inl ⟨by rfl, ?_⟩) trivial ?_
                    rotate_left
                    · (intro w_ _; go_simp; try with_reducible rfl)
                    try simp only [Act.put, List.setIfInBounds_toArray, List.set_cons_zero, List.set_cons_succ]
                    refine wpAnyH_take (i := 35) (oi := ({ dst := (some 44), op := (Op.move (Operand.tmp 0)), type := 22, pos := "law.go:35", after := #[{ on := 29, ground := Ground.guard }], guard := (some (29, true)) } : Oper)) (v := ?_) rfl (by kernel_rfl) (by kernel_rfl) (by kernel_rfl) (fun _ _ _ h => h) (Or.inl ⟨by rfl, ?_⟩) trivial ?_
                    rotate_left
                    · (intro w_ _; go_simp; try with_reducible rfl)
                    try simp only [Act.put, List.setIfInBounds_toArray, List.set_cons_zero, List.set_cons_succ]
                    refine wpAnyH_take (i := 36) (oi := ({ dst := (some 45), op := (Op.move (Operand.tmp 1)), type := 22, pos := "law.go:35", after := #[{ on := 29, ground := Ground.guard }], guard := (some (29, true)) } : Oper)) (v := ?_) rfl (by kernel_rfl) (by kernel_rfl) (by kernel_rfl) (fun _ _ _ h => h) (Or.inl ⟨by rfl, ?_⟩) trivial ?_
                    rotate_left
                    · (intro w_ _; go_simp; try with_reducible rfl)
                    try simp only [Act.put, List.setIfInBounds_toArray, List.set_cons_zero, List.set_cons_succ]
                    refine wpAnyH_take (i := 37) (oi := ({ dst := (some 46), op := (Op.binOp BinOp.eql 22 (Operand.tmp 44) (Operand.tmp 45) 22), type := 4, pos := "law.go:35", after := #[{ on := 35, ground := Ground.data }, { on := 36, ground := Ground.data }, { on := 29, ground := Ground.guard }], guard := (some (29, true)) } : Oper)) (v := ?_) rfl (by kernel_rfl) (by kernel_rfl) (by kernel_rfl) (fun _ _ _ h => h) (Or.inl ⟨by rfl, ?_⟩) trivial ?_
                    rotate_left
                    · (intro w_ _; go_simp; try with_reducible rfl)
                    try simp only [Act.put, List.setIfInBounds_toArray, List.set_cons_zero, List.set_cons_succ]
                    refine wpAnyH_ready (rs := [31]) (by kernel_rfl) (by simp) ?_
                    refine AllReadyH.cons (o := ({ dst := (some 40), op := (Op.call { callee := (Callee.value (Operand.func 13)), args := #[(Operand.tmp 39), (Operand.const (Value.string { data := #[] }))], argTypes := #[22, 9] }), type := 22, pos := "law.go:35", after := #[{ on := 30, ground := Ground.data }, { on := 29, ground := Ground.chain }, { on := 29, ground := Ground.guard }], guard := (some (29, true)) } : Oper)) rfl (fun K hK => ?_) ?_
                    · go_simp
                      (with_reducible refine (hnx.out _).mono ?_)
                      rintro e w6 ⟨rfl, hb2⟩
                      (first | replace hb := bnext hb hb2 | replace hb := bnext (bl_alloc hb _) hb2 | replace hb := bnext (bl_alloc (bl_alloc hb _) _) hb2)
                      clear hb2
                      go_wp2_with fail
                      refine hK.out _ _ trivial (fun _ => ?_)
                      clear hK K
                      try simp only [Act.put, List.setIfInBounds_toArray, List.set_cons_zero, List.set_cons_succ]
                      refine wpAnyH_ready (rs := [33]) (by kernel_rfl) (by simp) ?_
                      refine AllReadyH.cons (o := ({ dst := (some 42), op := (Op.call { callee := (Callee.value (Operand.func 13)), args := #[(Operand.tmp 41), (Operand.const (Value.string { data := #[] }))], argTypes := #[22, 9] }), type := 22, pos := "law.go:35", after := #[{ on := 32, ground := Ground.data }, { on := 31, ground := Ground.chain }, { on := 29, ground := Ground.guard }], guard := (some (29, true)) } : Oper)) rfl (fun K hK => ?_) ?_
                      · go_simp
                        (with_reducible refine (hny.out _).mono ?_)
                        rintro e w7 ⟨rfl, hb2⟩
                        (first | replace hb := bnext hb hb2 | replace hb := bnext (bl_alloc hb _) hb2 | replace hb := bnext (bl_alloc (bl_alloc hb _) _) hb2)
                        clear hb2
                        go_wp2_with fail
                        refine hK.out _ _ trivial (fun _ => ?_)
                        clear hK K
                        try simp only [Act.put, List.setIfInBounds_toArray, List.set_cons_zero, List.set_cons_succ]
                        refine wpAnyH_take (i := 34) (oi := ({ dst := (some 43), op := (Op.binOp BinOp.eql 22 (Operand.tmp 40) (Operand.tmp 42) 22), type := 4, pos := "law.go:35", after := #[{ on := 31, ground := Ground.data }, { on := 33, ground := Ground.data }, { on := 29, ground := Ground.guard }], guard := (some (29, true)) } : Oper)) (v := ?_) rfl (by kernel_rfl) (by kernel_rfl) (by kernel_rfl) (fun _ _ _ h => h) (Or.inl ⟨by rfl, ?_⟩) trivial ?_
                        rotate_left
                        · (intro w_ _; go_simp; try with_reducible rfl)
                        try simp only [Act.put, List.setIfInBounds_toArray, List.set_cons_zero, List.set_cons_succ]
                        refine wpAnyH_take (i := 38) (oi := ({ dst := (some 47), op := (Op.binOp BinOp.eql 4 (Operand.tmp 43) (Operand.tmp 46) 4), type := 4, pos := "law.go:35", after := #[{ on := 34, ground := Ground.data }, { on := 37, ground := Ground.data }, { on := 29, ground := Ground.guard }], guard := (some (29, true)) } : Oper)) (v := ?_) rfl (by kernel_rfl) (by kernel_rfl) (by kernel_rfl) (fun _ _ _ h => h) (Or.inl ⟨by rfl, ?_⟩) trivial ?_
                        rotate_left
                        · (intro w_ _; go_simp; try with_reducible rfl)
                        try simp only [Act.put, List.setIfInBounds_toArray, List.set_cons_zero, List.set_cons_succ]
                        refine wpAnyH_take (i := 39) (oi := ({ dst := (some 48), op := (Op.pick (Operand.tmp 38) (Operand.tmp 47) (Operand.const (Value.bool false))), type := 4, pos := "law.go:35", after := #[{ on := 29, ground := Ground.data }, { on := 38, ground := Ground.data }], guard := none } : Oper)) (v := ?_) rfl (by kernel_rfl) (by kernel_rfl) (by kernel_rfl) (fun _ _ _ h => h) (Or.inl ⟨by rfl, ?_⟩) trivial ?_
                        rotate_left
                        · (intro w_ _; go_simp; try with_reducible rfl)
                        try simp only [Act.put, List.setIfInBounds_toArray, List.set_cons_zero, List.set_cons_succ]
                        refine wpAnyH_take (i := 40) (oi := ({ dst := (some 8), op := (Op.assign (Operand.tmp 48)), type := 4, pos := "law.go:35", after := #[{ on := 39, ground := Ground.data }, { on := 33, ground := Ground.chain }, { on := 0, ground := Ground.phase }, { on := 1, ground := Ground.phase }, { on := 2, ground := Ground.phase }, { on := 3, ground := Ground.phase }, { on := 4, ground := Ground.phase }, { on := 5, ground := Ground.phase }, { on := 6, ground := Ground.phase }, { on := 7, ground := Ground.phase }, { on := 8, ground := Ground.phase }, { on := 9, ground := Ground.phase }, { on := 10, ground := Ground.phase }, { on := 11, ground := Ground.phase }, { on := 12, ground := Ground.phase }, { on := 13, ground := Ground.phase }, { on := 14, ground := Ground.phase }, { on := 15, ground := Ground.phase }, { on := 16, ground := Ground.phase }, { on := 17, ground := Ground.phase }, { on := 18, ground := Ground.phase }, { on := 19, ground := Ground.phase }, { on := 20, ground := Ground.phase }, { on := 21, ground := Ground.phase }, { on := 22, ground := Ground.phase }, { on := 23, ground := Ground.phase }, { on := 24, ground := Ground.phase }, { on := 25, ground := Ground.phase }, { on := 26, ground := Ground.phase }, { on := 27, ground := Ground.phase }, { on := 28, ground := Ground.phase }, { on := 29, ground := Ground.phase }, { on := 30, ground := Ground.phase }, { on := 31, ground := Ground.phase }, { on := 32, ground := Ground.phase }, { on := 33, ground := Ground.phase }, { on := 34, ground := Ground.phase }, { on := 35, ground := Ground.phase }, { on := 36, ground := Ground.phase }, { on := 37, ground := Ground.phase }, { on := 38, ground := Ground.phase }, { on := 39, ground := Ground.phase }], guard := none } : Oper)) (v := ?_) rfl (by kernel_rfl) (by kernel_rfl) (by kernel_rfl) (fun _ _ _ h => h) (Or.inl ⟨by rfl, ?_⟩) trivial ?_
                        rotate_left
                        · (intro w_ _; go_simp; try with_reducible rfl)
                        try simp only [Act.put, List.setIfInBounds_toArray, List.set_cons_zero, List.set_cons_succ]
                        refine wpAnyH_done (by kernel_rfl) ?_ _
                        refine NoPanic.normal ?_
                        go_wp2
                        go_ret
                        exact ⟨rfl, hb⟩
                      exact AllReadyH.nil
                    exact AllReadyH.nil
                  exact AllReadyH.nil
                exact AllReadyH.nil
              refine AllReadyH.cons (o := ({ dst := (some 30), op := (Op.convert 31 9 (Operand.tmp 29)), type := 9, pos := "law.go:35", after := #[{ on := 20, ground := Ground.data }, { on := 12, ground := Ground.guard }], guard := (some (12, true)) } : Oper)) rfl (fun K hK => ?_) ?_
              · go_simp
                refine hK.out _ _ trivial (fun _ => ?_)
                clear hK K
                try simp only [Act.put, List.setIfInBounds_toArray, List.set_cons_zero, List.set_cons_succ]
                refine wpAnyH_ready (rs := [17]) (by kernel_rfl) (by simp) ?_
                refine AllReadyH.cons (o := ({ dst := (some 26), op := (Op.call { callee := (Callee.value (Operand.func 13)), args := #[(Operand.tmp 22), (Operand.tmp 25)], argTypes := #[22, 9] }), type := 22, pos := "law.go:35", after := #[{ on := 13, ground := Ground.data }, { on := 16, ground := Ground.data }, { on := 12, ground := Ground.chain }, { on := 12, ground := Ground.guard }], guard := (some (12, true)) } : Oper)) rfl (fun K hK => ?_) ?_
                · go_simp
                  (with_reducible refine (hax.out _).mono ?_)
                  rintro e w4 ⟨rfl, hb2⟩
                  have hc4 := (bcell hb2).1
                  (first | replace hb := bnext hb hb2 | replace hb := bnext (bl_alloc hb _) hb2 | replace hb := bnext (bl_alloc (bl_alloc hb _) _) hb2)
                  clear hb2
                  go_wp2_with fail
                  refine hK.out _ _ trivial (fun _ => ?_)
                  clear hK K
                  try simp only [Act.put, List.setIfInBounds_toArray, List.set_cons_zero, List.set_cons_succ]
                  refine wpAnyH_ready (rs := [22]) (by kernel_rfl) (by simp) ?_
                  refine AllReadyH.cons (o := ({ dst := (some 31), op := (Op.call { callee := (Callee.value (Operand.func 13)), args := #[(Operand.tmp 27), (Operand.tmp 30)], argTypes := #[22, 9] }), type := 22, pos := "law.go:35", after := #[{ on := 18, ground := Ground.data }, { on := 21, ground := Ground.data }, { on := 17, ground := Ground.chain }, { on := 12, ground := Ground.guard }], guard := (some (12, true)) } : Oper)) rfl (fun K hK => ?_) ?_
                  · go_simp
                    (with_reducible refine (hbx.out _).mono ?_)
                    rintro e w5 ⟨rfl, hb2⟩
                    (first | replace hb := bnext hb hb2 | replace hb := bnext (bl_alloc hb _) hb2 | replace hb := bnext (bl_alloc (bl_alloc hb _) _) hb2)
                    clear hb2
                    go_wp2_with fail
                    refine hK.out _ _ trivial (fun _ => ?_)
                    clear hK K
                    try simp only [Act.put, List.setIfInBounds_toArray, List.set_cons_zero, List.set_cons_succ]
                    refine wpAnyH_take (i := 23) (oi := ({ dst := (some 32), op := (Op.binOp BinOp.eql 22 (Operand.tmp 26) (Operand.tmp 31) 22), type := 4, pos := "law.go:35", after := #[{ on := 17, ground := Ground.data }, { on := 22, ground := Ground.data }, { on := 12, ground := Ground.guard }], guard := (some (12, true)) } : Oper)) (v := ?_) rfl (by kernel_rfl) (by kernel_rfl) (by kernel_rfl) (fun _ _ _ h => h) (Or.inl ⟨by rfl, ?_⟩) trivial ?_
                    rotate_left
                    · (intro w_ _; go_simp; try with_reducible rfl)
                    try simp only [Act.put, List.setIfInBounds_toArray, List.set_cons_zero, List.set_cons_succ]
                    refine wpAnyH_take (i := 27) (oi := ({ dst := (some 36), op := (Op.binOp BinOp.eql 4 (Operand.tmp 32) (Operand.tmp 35) 4), type := 4, pos := "law.go:35", after := #[{ on := 23, ground := Ground.data }, { on := 26, ground := Ground.data }, { on := 12, ground := Ground.guard }], guard := (some (12, true)) } : Oper)) (v := ?_) rfl (by kernel_rfl) (by kernel_rfl) (by kernel_rfl) (fun _ _ _ h => h) (Or.inl ⟨by rfl, ?_⟩) trivial ?_
                    rotate_left
                    · (intro w_ _; go_simp; try with_reducible rfl)
                    try simp only [Act.put, List.setIfInBounds_toArray, List.set_cons_zero, List.set_cons_succ]
                    refine wpAnyH_take (i := 28) (oi := ({ dst := (some 37), op := (Op.pick (Operand.tmp 21) (Operand.tmp 36) (Operand.const (Value.bool false))), type := 4, pos := "law.go:35", after := #[{ on := 12, ground := Ground.data }, { on := 27, ground := Ground.data }], guard := none } : Oper)) (v := ?_) rfl (by kernel_rfl) (by kernel_rfl) (by kernel_rfl) (fun _ _ _ h => h) (Or.inl ⟨by rfl, ?_⟩) trivial ?_
                    rotate_left
                    · (intro w_ _; go_simp; try with_reducible rfl)
                    try simp only [Act.put, List.setIfInBounds_toArray, List.set_cons_zero, List.set_cons_succ]
                    refine wpAnyH_take (i := 29) (oi := ({ dst := (some 38), op := (Op.move (Operand.tmp 37)), type := 4, pos := "law.go:35", after := #[{ on := 28, ground := Ground.data }, { on := 22, ground := Ground.chain }], guard := none } : Oper)) (v := ?_) rfl (by kernel_rfl) (by kernel_rfl) (by kernel_rfl) (fun _ _ _ h => h) (Or.inl ⟨by rfl, ?_⟩) trivial ?_
                    rotate_left
                    · (intro w_ _; go_simp; try with_reducible rfl)
                    try simp only [Act.put, List.setIfInBounds_toArray, List.set_cons_zero, List.set_cons_succ]
                    refine wpAnyH_take (i := 30) (oi := ({ dst := (some 39), op := (Op.move (Operand.tmp 0)), type := 22, pos := "law.go:35", after := #[{ on := 29, ground := Ground.guard }], guard := (some (29, true)) } : Oper)) (v := ?_) rfl (by kernel_rfl) (by kernel_rfl) (by kernel_rfl) (fun _ _ _ h => h) (Or.inl ⟨by rfl, ?_⟩) trivial ?_
                    rotate_left
                    · (intro w_ _; go_simp; try with_reducible rfl)
                    try simp only [Act.put, List.setIfInBounds_toArray, List.set_cons_zero, List.set_cons_succ]
                    refine wpAnyH_take (i := 32) (oi := ({ dst := (some 41), op := (Op.move (Operand.tmp 1)), type := 22, pos := "law.go:35", after := #[{ on := 29, ground := Ground.guard }], guard := (some (29, true)) } : Oper)) (v := ?_) rfl (by kernel_rfl) (by kernel_rfl) (by kernel_rfl) (fun _ _ _ h => h) (Or.inl ⟨by rfl, ?_⟩) trivial ?_
                    rotate_left
                    · (intro w_ _; go_simp; try with_reducible rfl)
                    try simp only [Act.put, List.setIfInBounds_toArray, List.set_cons_zero, List.set_cons_succ]
                    refine wpAnyH_take (i := 35) (oi := ({ dst := (some 44), op := (Op.move (Operand.tmp 0)), type := 22, pos := "law.go:35", after := #[{ on := 29, ground := Ground.guard }], guard := (some (29, true)) } : Oper)) (v := ?_) rfl (by kernel_rfl) (by kernel_rfl) (by kernel_rfl) (fun _ _ _ h => h) (Or.inl ⟨by rfl, ?_⟩) trivial ?_
                    rotate_left
                    · (intro w_ _; go_simp; try with_reducible rfl)
                    try simp only [Act.put, List.setIfInBounds_toArray, List.set_cons_zero, List.set_cons_succ]
                    refine wpAnyH_take (i := 36) (oi := ({ dst := (some 45), op := (Op.move (Operand.tmp 1)), type := 22, pos := "law.go:35", after := #[{ on := 29, ground := Ground.guard }], guard := (some (29, true)) } : Oper)) (v := ?_) rfl (by kernel_rfl) (by kernel_rfl) (by kernel_rfl) (fun _ _ _ h => h) (Or.inl ⟨by rfl, ?_⟩) trivial ?_
                    rotate_left
                    · (intro w_ _; go_simp; try with_reducible rfl)
                    try simp only [Act.put, List.setIfInBounds_toArray, List.set_cons_zero, List.set_cons_succ]
                    refine wpAnyH_take (i := 37) (oi := ({ dst := (some 46), op := (Op.binOp BinOp.eql 22 (Operand.tmp 44) (Operand.tmp 45) 22), type := 4, pos := "law.go:35", after := #[{ on := 35, ground := Ground.data }, { on := 36, ground := Ground.data }, { on := 29, ground := Ground.guard }], guard := (some (29, true)) } : Oper)) (v := ?_) rfl (by kernel_rfl) (by kernel_rfl) (by kernel_rfl) (fun _ _ _ h => h) (Or.inl ⟨by rfl, ?_⟩) trivial ?_
                    rotate_left
                    · (intro w_ _; go_simp; try with_reducible rfl)
                    try simp only [Act.put, List.setIfInBounds_toArray, List.set_cons_zero, List.set_cons_succ]
                    refine wpAnyH_ready (rs := [31]) (by kernel_rfl) (by simp) ?_
                    refine AllReadyH.cons (o := ({ dst := (some 40), op := (Op.call { callee := (Callee.value (Operand.func 13)), args := #[(Operand.tmp 39), (Operand.const (Value.string { data := #[] }))], argTypes := #[22, 9] }), type := 22, pos := "law.go:35", after := #[{ on := 30, ground := Ground.data }, { on := 29, ground := Ground.chain }, { on := 29, ground := Ground.guard }], guard := (some (29, true)) } : Oper)) rfl (fun K hK => ?_) ?_
                    · go_simp
                      (with_reducible refine (hnx.out _).mono ?_)
                      rintro e w6 ⟨rfl, hb2⟩
                      (first | replace hb := bnext hb hb2 | replace hb := bnext (bl_alloc hb _) hb2 | replace hb := bnext (bl_alloc (bl_alloc hb _) _) hb2)
                      clear hb2
                      go_wp2_with fail
                      refine hK.out _ _ trivial (fun _ => ?_)
                      clear hK K
                      try simp only [Act.put, List.setIfInBounds_toArray, List.set_cons_zero, List.set_cons_succ]
                      refine wpAnyH_ready (rs := [33]) (by kernel_rfl) (by simp) ?_
                      refine AllReadyH.cons (o := ({ dst := (some 42), op := (Op.call { callee := (Callee.value (Operand.func 13)), args := #[(Operand.tmp 41), (Operand.const (Value.string { data := #[] }))], argTypes := #[22, 9] }), type := 22, pos := "law.go:35", after := #[{ on := 32, ground := Ground.data }, { on := 31, ground := Ground.chain }, { on := 29, ground := Ground.guard }], guard := (some (29, true)) } : Oper)) rfl (fun K hK => ?_) ?_
                      · go_simp
                        (with_reducible refine (hny.out _).mono ?_)
                        rintro e w7 ⟨rfl, hb2⟩
                        (first | replace hb := bnext hb hb2 | replace hb := bnext (bl_alloc hb _) hb2 | replace hb := bnext (bl_alloc (bl_alloc hb _) _) hb2)
                        clear hb2
                        go_wp2_with fail
                        refine hK.out _ _ trivial (fun _ => ?_)
                        clear hK K
                        try simp only [Act.put, List.setIfInBounds_toArray, List.set_cons_zero, List.set_cons_succ]
                        refine wpAnyH_take (i := 34) (oi := ({ dst := (some 43), op := (Op.binOp BinOp.eql 22 (Operand.tmp 40) (Operand.tmp 42) 22), type := 4, pos := "law.go:35", after := #[{ on := 31, ground := Ground.data }, { on := 33, ground := Ground.data }, { on := 29, ground := Ground.guard }], guard := (some (29, true)) } : Oper)) (v := ?_) rfl (by kernel_rfl) (by kernel_rfl) (by kernel_rfl) (fun _ _ _ h => h) (Or.inl ⟨by rfl, ?_⟩) trivial ?_
                        rotate_left
                        · (intro w_ _; go_simp; try with_reducible rfl)
                        try simp only [Act.put, List.setIfInBounds_toArray, List.set_cons_zero, List.set_cons_succ]
                        refine wpAnyH_take (i := 38) (oi := ({ dst := (some 47), op := (Op.binOp BinOp.eql 4 (Operand.tmp 43) (Operand.tmp 46) 4), type := 4, pos := "law.go:35", after := #[{ on := 34, ground := Ground.data }, { on := 37, ground := Ground.data }, { on := 29, ground := Ground.guard }], guard := (some (29, true)) } : Oper)) (v := ?_) rfl (by kernel_rfl) (by kernel_rfl) (by kernel_rfl) (fun _ _ _ h => h) (Or.inl ⟨by rfl, ?_⟩) trivial ?_
                        rotate_left
                        · (intro w_ _; go_simp; try with_reducible rfl)
                        try simp only [Act.put, List.setIfInBounds_toArray, List.set_cons_zero, List.set_cons_succ]
                        refine wpAnyH_take (i := 39) (oi := ({ dst := (some 48), op := (Op.pick (Operand.tmp 38) (Operand.tmp 47) (Operand.const (Value.bool false))), type := 4, pos := "law.go:35", after := #[{ on := 29, ground := Ground.data }, { on := 38, ground := Ground.data }], guard := none } : Oper)) (v := ?_) rfl (by kernel_rfl) (by kernel_rfl) (by kernel_rfl) (fun _ _ _ h => h) (Or.inl ⟨by rfl, ?_⟩) trivial ?_
                        rotate_left
                        · (intro w_ _; go_simp; try with_reducible rfl)
                        try simp only [Act.put, List.setIfInBounds_toArray, List.set_cons_zero, List.set_cons_succ]
                        refine wpAnyH_take (i := 40) (oi := ({ dst := (some 8), op := (Op.assign (Operand.tmp 48)), type := 4, pos := "law.go:35", after := #[{ on := 39, ground := Ground.data }, { on := 33, ground := Ground.chain }, { on := 0, ground := Ground.phase }, { on := 1, ground := Ground.phase }, { on := 2, ground := Ground.phase }, { on := 3, ground := Ground.phase }, { on := 4, ground := Ground.phase }, { on := 5, ground := Ground.phase }, { on := 6, ground := Ground.phase }, { on := 7, ground := Ground.phase }, { on := 8, ground := Ground.phase }, { on := 9, ground := Ground.phase }, { on := 10, ground := Ground.phase }, { on := 11, ground := Ground.phase }, { on := 12, ground := Ground.phase }, { on := 13, ground := Ground.phase }, { on := 14, ground := Ground.phase }, { on := 15, ground := Ground.phase }, { on := 16, ground := Ground.phase }, { on := 17, ground := Ground.phase }, { on := 18, ground := Ground.phase }, { on := 19, ground := Ground.phase }, { on := 20, ground := Ground.phase }, { on := 21, ground := Ground.phase }, { on := 22, ground := Ground.phase }, { on := 23, ground := Ground.phase }, { on := 24, ground := Ground.phase }, { on := 25, ground := Ground.phase }, { on := 26, ground := Ground.phase }, { on := 27, ground := Ground.phase }, { on := 28, ground := Ground.phase }, { on := 29, ground := Ground.phase }, { on := 30, ground := Ground.phase }, { on := 31, ground := Ground.phase }, { on := 32, ground := Ground.phase }, { on := 33, ground := Ground.phase }, { on := 34, ground := Ground.phase }, { on := 35, ground := Ground.phase }, { on := 36, ground := Ground.phase }, { on := 37, ground := Ground.phase }, { on := 38, ground := Ground.phase }, { on := 39, ground := Ground.phase }], guard := none } : Oper)) (v := ?_) rfl (by kernel_rfl) (by kernel_rfl) (by kernel_rfl) (fun _ _ _ h => h) (Or.inl ⟨by rfl, ?_⟩) trivial ?_
                        rotate_left
                        · (intro w_ _; go_simp; try with_reducible rfl)
                        try simp only [Act.put, List.setIfInBounds_toArray, List.set_cons_zero, List.set_cons_succ]
                        refine wpAnyH_done (by kernel_rfl) ?_ _
                        refine NoPanic.normal ?_
                        go_wp2
                        go_ret
                        exact ⟨rfl, hb⟩
                      exact AllReadyH.nil
                    exact AllReadyH.nil
                  exact AllReadyH.nil
                exact AllReadyH.nil
              exact AllReadyH.nil
            exact AllReadyH.nil
          refine AllReadyH.cons (o := ({ dst := (some 29), op := (Op.buildSlice 31 1 #[(0, (Operand.tmp 28))]), type := 31, pos := "law.go:35", after := #[{ on := 19, ground := Ground.data }, { on := 12, ground := Ground.guard }], guard := (some (12, true)) } : Oper)) rfl (fun K hK => ?_) ?_
          · go_simp
            refine hK.out _ _ trivial (fun _ => ?_)
            clear hK K
            try simp only [Act.put, List.setIfInBounds_toArray, List.set_cons_zero, List.set_cons_succ]
            refine wpAnyH_ready (rs := [16, 21]) (by kernel_rfl) (by simp) ?_
            refine AllReadyH.cons (o := ({ dst := (some 25), op := (Op.convert 31 9 (Operand.tmp 24)), type := 9, pos := "law.go:35", after := #[{ on := 15, ground := Ground.data }, { on := 12, ground := Ground.guard }], guard := (some (12, true)) } : Oper)) rfl (fun K hK => ?_) ?_
            · go_simp
              refine hK.out _ _ trivial (fun _ => ?_)
              clear hK K
              try simp only [Act.put, List.setIfInBounds_toArray, List.set_cons_zero, List.set_cons_succ]
              refine wpAnyH_ready (rs := [17, 21]) (by kernel_rfl) (by simp) ?_
              refine AllReadyH.cons (o := ({ dst := (some 26), op := (Op.call { callee := (Callee.value (Operand.func 13)), args := #[(Operand.tmp 22), (Operand.tmp 25)], argTypes := #[22, 9] }), type := 22, pos := "law.go:35", after := #[{ on := 13, ground := Ground.data }, { on := 16, ground := Ground.data }, { on := 12, ground := Ground.chain }, { on := 12, ground := Ground.guard }], guard := (some (12, true)) } : Oper)) rfl (fun K hK => ?_) ?_
              · go_simp
                (with_reducible refine (hax.out _).mono ?_)
                rintro e w4 ⟨rfl, hb2⟩
                have hc4 := (bcell hb2).1
                (first | replace hb := bnext hb hb2 | replace hb := bnext (bl_alloc hb _) hb2 | replace hb := bnext (bl_alloc (bl_alloc hb _) _) hb2)
                clear hb2
                go_wp2_with fail
                refine hK.out _ _ trivial (fun _ => ?_)
                clear hK K
                try simp only [Act.put, List.setIfInBounds_toArray, List.set_cons_zero, List.set_cons_succ]
                refine wpAnyH_ready (rs := [21]) (by kernel_rfl) (by simp) ?_
                refine AllReadyH.cons (o := ({ dst := (some 30), op := (Op.convert 31 9 (Operand.tmp 29)), type := 9, pos := "law.go:35", after := #[{ on := 20, ground := Ground.data }, { on := 12, ground := Ground.guard }], guard := (some (12, true)) } : Oper)) rfl (fun K hK => ?_) ?_
                · go_simp
                  refine hK.out _ _ trivial (fun _ => ?_)
                  clear hK K
                  try simp only [Act.put, List.setIfInBounds_toArray, List.set_cons_zero, List.set_cons_succ]
                  refine wpAnyH_ready (rs := [22]) (by kernel_rfl) (by simp) ?_
                  refine AllReadyH.cons (o := ({ dst := (some 31), op := (Op.call { callee := (Callee.value (Operand.func 13)), args := #[(Operand.tmp 27), (Operand.tmp 30)], argTypes := #[22, 9] }), type := 22, pos := "law.go:35", after := #[{ on := 18, ground := Ground.data }, { on := 21, ground := Ground.data }, { on := 17, ground := Ground.chain }, { on := 12, ground := Ground.guard }], guard := (some (12, true)) } : Oper)) rfl (fun K hK => ?_) ?_
                  · go_simp
                    (with_reducible refine (hbx.out _).mono ?_)
                    rintro e w5 ⟨rfl, hb2⟩
                    (first | replace hb := bnext hb hb2 | replace hb := bnext (bl_alloc hb _) hb2 | replace hb := bnext (bl_alloc (bl_alloc hb _) _) hb2)
                    clear hb2
                    go_wp2_with fail
                    refine hK.out _ _ trivial (fun _ => ?_)
                    clear hK K
                    try simp only [Act.put, List.setIfInBounds_toArray, List.set_cons_zero, List.set_cons_succ]
                    refine wpAnyH_take (i := 23) (oi := ({ dst := (some 32), op := (Op.binOp BinOp.eql 22 (Operand.tmp 26) (Operand.tmp 31) 22), type := 4, pos := "law.go:35", after := #[{ on := 17, ground := Ground.data }, { on := 22, ground := Ground.data }, { on := 12, ground := Ground.guard }], guard := (some (12, true)) } : Oper)) (v := ?_) rfl (by kernel_rfl) (by kernel_rfl) (by kernel_rfl) (fun _ _ _ h => h) (Or.inl ⟨by rfl, ?_⟩) trivial ?_
                    rotate_left
                    · (intro w_ _; go_simp; try with_reducible rfl)
                    try simp only [Act.put, List.setIfInBounds_toArray, List.set_cons_zero, List.set_cons_succ]
                    refine wpAnyH_take (i := 27) (oi := ({ dst := (some 36), op := (Op.binOp BinOp.eql 4 (Operand.tmp 32) (Operand.tmp 35) 4), type := 4, pos := "law.go:35", after := #[{ on := 23, ground := Ground.data }, { on := 26, ground := Ground.data }, { on := 12, ground := Ground.guard }], guard := (some (12, true)) } : Oper)) (v := ?_) rfl (by kernel_rfl) (by kernel_rfl) (by kernel_rfl) (fun _ _ _ h => h) (Or.inl ⟨by rfl, ?_⟩) trivial ?_
                    rotate_left
                    · (intro w_ _; go_simp; try with_reducible rfl)
                    try simp only [Act.put, List.setIfInBounds_toArray, List.set_cons_zero, List.set_cons_succ]
                    refine wpAnyH_take (i := 28) (oi := ({ dst := (some 37), op := (Op.pick (Operand.tmp 21) (Operand.tmp 36) (Operand.const (Value.bool false))), type := 4, pos := "law.go:35", after := #[{ on := 12, ground := Ground.data }, { on := 27, ground := Ground.data }], guard := none } : Oper)) (v := ?_) rfl (by kernel_rfl) (by kernel_rfl) (by kernel_rfl) (fun _ _ _ h => h) (Or.inl ⟨by rfl, ?_⟩) trivial ?_
                    rotate_left
                    · (intro w_ _; go_simp; try with_reducible rfl)
                    try simp only [Act.put, List.setIfInBounds_toArray, List.set_cons_zero, List.set_cons_succ]
                    refine wpAnyH_take (i := 29) (oi := ({ dst := (some 38), op := (Op.move (Operand.tmp 37)), type := 4, pos := "law.go:35", after := #[{ on := 28, ground := Ground.data }, { on := 22, ground := Ground.chain }], guard := none } : Oper)) (v := ?_) rfl (by kernel_rfl) (by kernel_rfl) (by kernel_rfl) (fun _ _ _ h => h) (Or.inl ⟨by rfl, ?_⟩) trivial ?_
                    rotate_left
                    · (intro w_ _; go_simp; try with_reducible rfl)
                    try simp only [Act.put, List.setIfInBounds_toArray, List.set_cons_zero, List.set_cons_succ]
                    refine wpAnyH_take (i := 30) (oi := ({ dst := (some 39), op := (Op.move (Operand.tmp 0)), type := 22, pos := "law.go:35", after := #[{ on := 29, ground := Ground.guard }], guard := (some (29, true)) } : Oper)) (v := ?_) rfl (by kernel_rfl) (by kernel_rfl) (by kernel_rfl) (fun _ _ _ h => h) (Or.inl ⟨by rfl, ?_⟩) trivial ?_
                    rotate_left
                    · (intro w_ _; go_simp; try with_reducible rfl)
                    try simp only [Act.put, List.setIfInBounds_toArray, List.set_cons_zero, List.set_cons_succ]
                    refine wpAnyH_take (i := 32) (oi := ({ dst := (some 41), op := (Op.move (Operand.tmp 1)), type := 22, pos := "law.go:35", after := #[{ on := 29, ground := Ground.guard }], guard := (some (29, true)) } : Oper)) (v := ?_) rfl (by kernel_rfl) (by kernel_rfl) (by kernel_rfl) (fun _ _ _ h => h) (Or.inl ⟨by rfl, ?_⟩) trivial ?_
                    rotate_left
                    · (intro w_ _; go_simp; try with_reducible rfl)
                    try simp only [Act.put, List.setIfInBounds_toArray, List.set_cons_zero, List.set_cons_succ]
                    refine wpAnyH_take (i := 35) (oi := ({ dst := (some 44), op := (Op.move (Operand.tmp 0)), type := 22, pos := "law.go:35", after := #[{ on := 29, ground := Ground.guard }], guard := (some (29, true)) } : Oper)) (v := ?_) rfl (by kernel_rfl) (by kernel_rfl) (by kernel_rfl) (fun _ _ _ h => h) (Or.inl ⟨by rfl, ?_⟩) trivial ?_
                    rotate_left
                    · (intro w_ _; go_simp; try with_reducible rfl)
                    try simp only [Act.put, List.setIfInBounds_toArray, List.set_cons_zero, List.set_cons_succ]
                    refine wpAnyH_take (i := 36) (oi := ({ dst := (some 45), op := (Op.move (Operand.tmp 1)), type := 22, pos := "law.go:35", after := #[{ on := 29, ground := Ground.guard }], guard := (some (29, true)) } : Oper)) (v := ?_) rfl (by kernel_rfl) (by kernel_rfl) (by kernel_rfl) (fun _ _ _ h => h) (Or.inl ⟨by rfl, ?_⟩) trivial ?_
                    rotate_left
                    · (intro w_ _; go_simp; try with_reducible rfl)
                    try simp only [Act.put, List.setIfInBounds_toArray, List.set_cons_zero, List.set_cons_succ]
                    refine wpAnyH_take (i := 37) (oi := ({ dst := (some 46), op := (Op.binOp BinOp.eql 22 (Operand.tmp 44) (Operand.tmp 45) 22), type := 4, pos := "law.go:35", after := #[{ on := 35, ground := Ground.data }, { on := 36, ground := Ground.data }, { on := 29, ground := Ground.guard }], guard := (some (29, true)) } : Oper)) (v := ?_) rfl (by kernel_rfl) (by kernel_rfl) (by kernel_rfl) (fun _ _ _ h => h) (Or.inl ⟨by rfl, ?_⟩) trivial ?_
                    rotate_left
                    · (intro w_ _; go_simp; try with_reducible rfl)
                    try simp only [Act.put, List.setIfInBounds_toArray, List.set_cons_zero, List.set_cons_succ]
                    refine wpAnyH_ready (rs := [31]) (by kernel_rfl) (by simp) ?_
                    refine AllReadyH.cons (o := ({ dst := (some 40), op := (Op.call { callee := (Callee.value (Operand.func 13)), args := #[(Operand.tmp 39), (Operand.const (Value.string { data := #[] }))], argTypes := #[22, 9] }), type := 22, pos := "law.go:35", after := #[{ on := 30, ground := Ground.data }, { on := 29, ground := Ground.chain }, { on := 29, ground := Ground.guard }], guard := (some (29, true)) } : Oper)) rfl (fun K hK => ?_) ?_
                    · go_simp
                      (with_reducible refine (hnx.out _).mono ?_)
                      rintro e w6 ⟨rfl, hb2⟩
                      (first | replace hb := bnext hb hb2 | replace hb := bnext (bl_alloc hb _) hb2 | replace hb := bnext (bl_alloc (bl_alloc hb _) _) hb2)
                      clear hb2
                      go_wp2_with fail
                      refine hK.out _ _ trivial (fun _ => ?_)
                      clear hK K
                      try simp only [Act.put, List.setIfInBounds_toArray, List.set_cons_zero, List.set_cons_succ]
                      refine wpAnyH_ready (rs := [33]) (by kernel_rfl) (by simp) ?_
                      refine AllReadyH.cons (o := ({ dst := (some 42), op := (Op.call { callee := (Callee.value (Operand.func 13)), args := #[(Operand.tmp 41), (Operand.const (Value.string { data := #[] }))], argTypes := #[22, 9] }), type := 22, pos := "law.go:35", after := #[{ on := 32, ground := Ground.data }, { on := 31, ground := Ground.chain }, { on := 29, ground := Ground.guard }], guard := (some (29, true)) } : Oper)) rfl (fun K hK => ?_) ?_
                      · go_simp
                        (with_reducible refine (hny.out _).mono ?_)
                        rintro e w7 ⟨rfl, hb2⟩
                        (first | replace hb := bnext hb hb2 | replace hb := bnext (bl_alloc hb _) hb2 | replace hb := bnext (bl_alloc (bl_alloc hb _) _) hb2)
                        clear hb2
                        go_wp2_with fail
                        refine hK.out _ _ trivial (fun _ => ?_)
                        clear hK K
                        try simp only [Act.put, List.setIfInBounds_toArray, List.set_cons_zero, List.set_cons_succ]
                        refine wpAnyH_take (i := 34) (oi := ({ dst := (some 43), op := (Op.binOp BinOp.eql 22 (Operand.tmp 40) (Operand.tmp 42) 22), type := 4, pos := "law.go:35", after := #[{ on := 31, ground := Ground.data }, { on := 33, ground := Ground.data }, { on := 29, ground := Ground.guard }], guard := (some (29, true)) } : Oper)) (v := ?_) rfl (by kernel_rfl) (by kernel_rfl) (by kernel_rfl) (fun _ _ _ h => h) (Or.inl ⟨by rfl, ?_⟩) trivial ?_
                        rotate_left
                        · (intro w_ _; go_simp; try with_reducible rfl)
                        try simp only [Act.put, List.setIfInBounds_toArray, List.set_cons_zero, List.set_cons_succ]
                        refine wpAnyH_take (i := 38) (oi := ({ dst := (some 47), op := (Op.binOp BinOp.eql 4 (Operand.tmp 43) (Operand.tmp 46) 4), type := 4, pos := "law.go:35", after := #[{ on := 34, ground := Ground.data }, { on := 37, ground := Ground.data }, { on := 29, ground := Ground.guard }], guard := (some (29, true)) } : Oper)) (v := ?_) rfl (by kernel_rfl) (by kernel_rfl) (by kernel_rfl) (fun _ _ _ h => h) (Or.inl ⟨by rfl, ?_⟩) trivial ?_
                        rotate_left
                        · (intro w_ _; go_simp; try with_reducible rfl)
                        try simp only [Act.put, List.setIfInBounds_toArray, List.set_cons_zero, List.set_cons_succ]
                        refine wpAnyH_take (i := 39) (oi := ({ dst := (some 48), op := (Op.pick (Operand.tmp 38) (Operand.tmp 47) (Operand.const (Value.bool false))), type := 4, pos := "law.go:35", after := #[{ on := 29, ground := Ground.data }, { on := 38, ground := Ground.data }], guard := none } : Oper)) (v := ?_) rfl (by kernel_rfl) (by kernel_rfl) (by kernel_rfl) (fun _ _ _ h => h) (Or.inl ⟨by rfl, ?_⟩) trivial ?_
                        rotate_left
                        · (intro w_ _; go_simp; try with_reducible rfl)
                        try simp only [Act.put, List.setIfInBounds_toArray, List.set_cons_zero, List.set_cons_succ]
                        refine wpAnyH_take (i := 40) (oi := ({ dst := (some 8), op := (Op.assign (Operand.tmp 48)), type := 4, pos := "law.go:35", after := #[{ on := 39, ground := Ground.data }, { on := 33, ground := Ground.chain }, { on := 0, ground := Ground.phase }, { on := 1, ground := Ground.phase }, { on := 2, ground := Ground.phase }, { on := 3, ground := Ground.phase }, { on := 4, ground := Ground.phase }, { on := 5, ground := Ground.phase }, { on := 6, ground := Ground.phase }, { on := 7, ground := Ground.phase }, { on := 8, ground := Ground.phase }, { on := 9, ground := Ground.phase }, { on := 10, ground := Ground.phase }, { on := 11, ground := Ground.phase }, { on := 12, ground := Ground.phase }, { on := 13, ground := Ground.phase }, { on := 14, ground := Ground.phase }, { on := 15, ground := Ground.phase }, { on := 16, ground := Ground.phase }, { on := 17, ground := Ground.phase }, { on := 18, ground := Ground.phase }, { on := 19, ground := Ground.phase }, { on := 20, ground := Ground.phase }, { on := 21, ground := Ground.phase }, { on := 22, ground := Ground.phase }, { on := 23, ground := Ground.phase }, { on := 24, ground := Ground.phase }, { on := 25, ground := Ground.phase }, { on := 26, ground := Ground.phase }, { on := 27, ground := Ground.phase }, { on := 28, ground := Ground.phase }, { on := 29, ground := Ground.phase }, { on := 30, ground := Ground.phase }, { on := 31, ground := Ground.phase }, { on := 32, ground := Ground.phase }, { on := 33, ground := Ground.phase }, { on := 34, ground := Ground.phase }, { on := 35, ground := Ground.phase }, { on := 36, ground := Ground.phase }, { on := 37, ground := Ground.phase }, { on := 38, ground := Ground.phase }, { on := 39, ground := Ground.phase }], guard := none } : Oper)) (v := ?_) rfl (by kernel_rfl) (by kernel_rfl) (by kernel_rfl) (fun _ _ _ h => h) (Or.inl ⟨by rfl, ?_⟩) trivial ?_
                        rotate_left
                        · (intro w_ _; go_simp; try with_reducible rfl)
                        try simp only [Act.put, List.setIfInBounds_toArray, List.set_cons_zero, List.set_cons_succ]
                        refine wpAnyH_done (by kernel_rfl) ?_ _
                        refine NoPanic.normal ?_
                        go_wp2
                        go_ret
                        exact ⟨rfl, hb⟩
                      exact AllReadyH.nil
                    exact AllReadyH.nil
                  exact AllReadyH.nil
                exact AllReadyH.nil
              refine AllReadyH.cons (o := ({ dst := (some 30), op := (Op.convert 31 9 (Operand.tmp 29)), type := 9, pos := "law.go:35", after := #[{ on := 20, ground := Ground.data }, { on := 12, ground := Ground.guard }], guard := (some (12, true)) } : Oper)) rfl (fun K hK => ?_) ?_
              · go_simp
                refine hK.out _ _ trivial (fun _ => ?_)
                clear hK K
                try simp only [Act.put, List.setIfInBounds_toArray, List.set_cons_zero, List.set_cons_succ]
                refine wpAnyH_ready (rs := [17]) (by kernel_rfl) (by simp) ?_
                refine AllReadyH.cons (o := ({ dst := (some 26), op := (Op.call { callee := (Callee.value (Operand.func 13)), args := #[(Operand.tmp 22), (Operand.tmp 25)], argTypes := #[22, 9] }), type := 22, pos := "law.go:35", after := #[{ on := 13, ground := Ground.data }, { on := 16, ground := Ground.data }, { on := 12, ground := Ground.chain }, { on := 12, ground := Ground.guard }], guard := (some (12, true)) } : Oper)) rfl (fun K hK => ?_) ?_
                · go_simp
                  (with_reducible refine (hax.out _).mono ?_)
                  rintro e w4 ⟨rfl, hb2⟩
                  have hc4 := (bcell hb2).1
                  (first | replace hb := bnext hb hb2 | replace hb := bnext (bl_alloc hb _) hb2 | replace hb := bnext (bl_alloc (bl_alloc hb _) _) hb2)
                  clear hb2
                  go_wp2_with fail
                  refine hK.out _ _ trivial (fun _ => ?_)
                  clear hK K
                  try simp only [Act.put, List.setIfInBounds_toArray, List.set_cons_zero, List.set_cons_succ]
                  refine wpAnyH_ready (rs := [22]) (by kernel_rfl) (by simp) ?_
                  refine AllReadyH.cons (o := ({ dst := (some 31), op := (Op.call { callee := (Callee.value (Operand.func 13)), args := #[(Operand.tmp 27), (Operand.tmp 30)], argTypes := #[22, 9] }), type := 22, pos := "law.go:35", after := #[{ on := 18, ground := Ground.data }, { on := 21, ground := Ground.data }, { on := 17, ground := Ground.chain }, { on := 12, ground := Ground.guard }], guard := (some (12, true)) } : Oper)) rfl (fun K hK => ?_) ?_
                  · go_simp
                    (with_reducible refine (hbx.out _).mono ?_)
                    rintro e w5 ⟨rfl, hb2⟩
                    (first | replace hb := bnext hb hb2 | replace hb := bnext (bl_alloc hb _) hb2 | replace hb := bnext (bl_alloc (bl_alloc hb _) _) hb2)
                    clear hb2
                    go_wp2_with fail
                    refine hK.out _ _ trivial (fun _ => ?_)
                    clear hK K
                    try simp only [Act.put, List.setIfInBounds_toArray, List.set_cons_zero, List.set_cons_succ]
                    refine wpAnyH_take (i := 23) (oi := ({ dst := (some 32), op := (Op.binOp BinOp.eql 22 (Operand.tmp 26) (Operand.tmp 31) 22), type := 4, pos := "law.go:35", after := #[{ on := 17, ground := Ground.data }, { on := 22, ground := Ground.data }, { on := 12, ground := Ground.guard }], guard := (some (12, true)) } : Oper)) (v := ?_) rfl (by kernel_rfl) (by kernel_rfl) (by kernel_rfl) (fun _ _ _ h => h) (Or.inl ⟨by rfl, ?_⟩) trivial ?_
                    rotate_left
                    · (intro w_ _; go_simp; try with_reducible rfl)
                    try simp only [Act.put, List.setIfInBounds_toArray, List.set_cons_zero, List.set_cons_succ]
                    refine wpAnyH_take (i := 27) (oi := ({ dst := (some 36), op := (Op.binOp BinOp.eql 4 (Operand.tmp 32) (Operand.tmp 35) 4), type := 4, pos := "law.go:35", after := #[{ on := 23, ground := Ground.data }, { on := 26, ground := Ground.data }, { on := 12, ground := Ground.guard }], guard := (some (12, true)) } : Oper)) (v := ?_) rfl (by kernel_rfl) (by kernel_rfl) (by kernel_rfl) (fun _ _ _ h => h) (Or.inl ⟨by rfl, ?_⟩) trivial ?_
                    rotate_left
                    · (intro w_ _; go_simp; try with_reducible rfl)
                    try simp only [Act.put, List.setIfInBounds_toArray, List.set_cons_zero, List.set_cons_succ]
                    refine wpAnyH_take (i := 28) (oi := ({ dst := (some 37), op := (Op.pick (Operand.tmp 21) (Operand.tmp 36) (Operand.const (Value.bool false))), type := 4, pos := "law.go:35", after := #[{ on := 12, ground := Ground.data }, { on := 27, ground := Ground.data }], guard := none } : Oper)) (v := ?_) rfl (by kernel_rfl) (by kernel_rfl) (by kernel_rfl) (fun _ _ _ h => h) (Or.inl ⟨by rfl, ?_⟩) trivial ?_
                    rotate_left
                    · (intro w_ _; go_simp; try with_reducible rfl)
                    try simp only [Act.put, List.setIfInBounds_toArray, List.set_cons_zero, List.set_cons_succ]
                    refine wpAnyH_take (i := 29) (oi := ({ dst := (some 38), op := (Op.move (Operand.tmp 37)), type := 4, pos := "law.go:35", after := #[{ on := 28, ground := Ground.data }, { on := 22, ground := Ground.chain }], guard := none } : Oper)) (v := ?_) rfl (by kernel_rfl) (by kernel_rfl) (by kernel_rfl) (fun _ _ _ h => h) (Or.inl ⟨by rfl, ?_⟩) trivial ?_
                    rotate_left
                    · (intro w_ _; go_simp; try with_reducible rfl)
                    try simp only [Act.put, List.setIfInBounds_toArray, List.set_cons_zero, List.set_cons_succ]
                    refine wpAnyH_take (i := 30) (oi := ({ dst := (some 39), op := (Op.move (Operand.tmp 0)), type := 22, pos := "law.go:35", after := #[{ on := 29, ground := Ground.guard }], guard := (some (29, true)) } : Oper)) (v := ?_) rfl (by kernel_rfl) (by kernel_rfl) (by kernel_rfl) (fun _ _ _ h => h) (Or.inl ⟨by rfl, ?_⟩) trivial ?_
                    rotate_left
                    · (intro w_ _; go_simp; try with_reducible rfl)
                    try simp only [Act.put, List.setIfInBounds_toArray, List.set_cons_zero, List.set_cons_succ]
                    refine wpAnyH_take (i := 32) (oi := ({ dst := (some 41), op := (Op.move (Operand.tmp 1)), type := 22, pos := "law.go:35", after := #[{ on := 29, ground := Ground.guard }], guard := (some (29, true)) } : Oper)) (v := ?_) rfl (by kernel_rfl) (by kernel_rfl) (by kernel_rfl) (fun _ _ _ h => h) (Or.inl ⟨by rfl, ?_⟩) trivial ?_
                    rotate_left
                    · (intro w_ _; go_simp; try with_reducible rfl)
                    try simp only [Act.put, List.setIfInBounds_toArray, List.set_cons_zero, List.set_cons_succ]
                    refine wpAnyH_take (i := 35) (oi := ({ dst := (some 44), op := (Op.move (Operand.tmp 0)), type := 22, pos := "law.go:35", after := #[{ on := 29, ground := Ground.guard }], guard := (some (29, true)) } : Oper)) (v := ?_) rfl (by kernel_rfl) (by kernel_rfl) (by kernel_rfl) (fun _ _ _ h => h) (Or.inl ⟨by rfl, ?_⟩) trivial ?_
                    rotate_left
                    · (intro w_ _; go_simp; try with_reducible rfl)
                    try simp only [Act.put, List.setIfInBounds_toArray, List.set_cons_zero, List.set_cons_succ]
                    refine wpAnyH_take (i := 36) (oi := ({ dst := (some 45), op := (Op.move (Operand.tmp 1)), type := 22, pos := "law.go:35", after := #[{ on := 29, ground := Ground.guard }], guard := (some (29, true)) } : Oper)) (v := ?_) rfl (by kernel_rfl) (by kernel_rfl) (by kernel_rfl) (fun _ _ _ h => h) (Or.inl ⟨by rfl, ?_⟩) trivial ?_
                    rotate_left
                    · (intro w_ _; go_simp; try with_reducible rfl)
                    try simp only [Act.put, List.setIfInBounds_toArray, List.set_cons_zero, List.set_cons_succ]
                    refine wpAnyH_take (i := 37) (oi := ({ dst := (some 46), op := (Op.binOp BinOp.eql 22 (Operand.tmp 44) (Operand.tmp 45) 22), type := 4, pos := "law.go:35", after := #[{ on := 35, ground := Ground.data }, { on := 36, ground := Ground.data }, { on := 29, ground := Ground.guard }], guard := (some (29, true)) } : Oper)) (v := ?_) rfl (by kernel_rfl) (by kernel_rfl) (by kernel_rfl) (fun _ _ _ h => h) (Or.inl ⟨by rfl, ?_⟩) trivial ?_
                    rotate_left
                    · (intro w_ _; go_simp; try with_reducible rfl)
                    try simp only [Act.put, List.setIfInBounds_toArray, List.set_cons_zero, List.set_cons_succ]
                    refine wpAnyH_ready (rs := [31]) (by kernel_rfl) (by simp) ?_
                    refine AllReadyH.cons (o := ({ dst := (some 40), op := (Op.call { callee := (Callee.value (Operand.func 13)), args := #[(Operand.tmp 39), (Operand.const (Value.string { data := #[] }))], argTypes := #[22, 9] }), type := 22, pos := "law.go:35", after := #[{ on := 30, ground := Ground.data }, { on := 29, ground := Ground.chain }, { on := 29, ground := Ground.guard }], guard := (some (29, true)) } : Oper)) rfl (fun K hK => ?_) ?_
                    · go_simp
                      (with_reducible refine (hnx.out _).mono ?_)
                      rintro e w6 ⟨rfl, hb2⟩
                      (first | replace hb := bnext hb hb2 | replace hb := bnext (bl_alloc hb _) hb2 | replace hb := bnext (bl_alloc (bl_alloc hb _) _) hb2)
                      clear hb2
                      go_wp2_with fail
                      refine hK.out _ _ trivial (fun _ => ?_)
                      clear hK K
                      try simp only [Act.put, List.setIfInBounds_toArray, List.set_cons_zero, List.set_cons_succ]
                      refine wpAnyH_ready (rs := [33]) (by kernel_rfl) (by simp) ?_
                      refine AllReadyH.cons (o := ({ dst := (some 42), op := (Op.call { callee := (Callee.value (Operand.func 13)), args := #[(Operand.tmp 41), (Operand.const (Value.string { data := #[] }))], argTypes := #[22, 9] }), type := 22, pos := "law.go:35", after := #[{ on := 32, ground := Ground.data }, { on := 31, ground := Ground.chain }, { on := 29, ground := Ground.guard }], guard := (some (29, true)) } : Oper)) rfl (fun K hK => ?_) ?_
                      · go_simp
                        (with_reducible refine (hny.out _).mono ?_)
                        rintro e w7 ⟨rfl, hb2⟩
                        (first | replace hb := bnext hb hb2 | replace hb := bnext (bl_alloc hb _) hb2 | replace hb := bnext (bl_alloc (bl_alloc hb _) _) hb2)
                        clear hb2
                        go_wp2_with fail
                        refine hK.out _ _ trivial (fun _ => ?_)
                        clear hK K
                        try simp only [Act.put, List.setIfInBounds_toArray, List.set_cons_zero, List.set_cons_succ]
                        refine wpAnyH_take (i := 34) (oi := ({ dst := (some 43), op := (Op.binOp BinOp.eql 22 (Operand.tmp 40) (Operand.tmp 42) 22), type := 4, pos := "law.go:35", after := #[{ on := 31, ground := Ground.data }, { on := 33, ground := Ground.data }, { on := 29, ground := Ground.guard }], guard := (some (29, true)) } : Oper)) (v := ?_) rfl (by kernel_rfl) (by kernel_rfl) (by kernel_rfl) (fun _ _ _ h => h) (Or.inl ⟨by rfl, ?_⟩) trivial ?_
                        rotate_left
                        · (intro w_ _; go_simp; try with_reducible rfl)
                        try simp only [Act.put, List.setIfInBounds_toArray, List.set_cons_zero, List.set_cons_succ]
                        refine wpAnyH_take (i := 38) (oi := ({ dst := (some 47), op := (Op.binOp BinOp.eql 4 (Operand.tmp 43) (Operand.tmp 46) 4), type := 4, pos := "law.go:35", after := #[{ on := 34, ground := Ground.data }, { on := 37, ground := Ground.data }, { on := 29, ground := Ground.guard }], guard := (some (29, true)) } : Oper)) (v := ?_) rfl (by kernel_rfl) (by kernel_rfl) (by kernel_rfl) (fun _ _ _ h => h) (Or.inl ⟨by rfl, ?_⟩) trivial ?_
                        rotate_left
                        · (intro w_ _; go_simp; try with_reducible rfl)
                        try simp only [Act.put, List.setIfInBounds_toArray, List.set_cons_zero, List.set_cons_succ]
                        refine wpAnyH_take (i := 39) (oi := ({ dst := (some 48), op := (Op.pick (Operand.tmp 38) (Operand.tmp 47) (Operand.const (Value.bool false))), type := 4, pos := "law.go:35", after := #[{ on := 29, ground := Ground.data }, { on := 38, ground := Ground.data }], guard := none } : Oper)) (v := ?_) rfl (by kernel_rfl) (by kernel_rfl) (by kernel_rfl) (fun _ _ _ h => h) (Or.inl ⟨by rfl, ?_⟩) trivial ?_
                        rotate_left
                        · (intro w_ _; go_simp; try with_reducible rfl)
                        try simp only [Act.put, List.setIfInBounds_toArray, List.set_cons_zero, List.set_cons_succ]
                        refine wpAnyH_take (i := 40) (oi := ({ dst := (some 8), op := (Op.assign (Operand.tmp 48)), type := 4, pos := "law.go:35", after := #[{ on := 39, ground := Ground.data }, { on := 33, ground := Ground.chain }, { on := 0, ground := Ground.phase }, { on := 1, ground := Ground.phase }, { on := 2, ground := Ground.phase }, { on := 3, ground := Ground.phase }, { on := 4, ground := Ground.phase }, { on := 5, ground := Ground.phase }, { on := 6, ground := Ground.phase }, { on := 7, ground := Ground.phase }, { on := 8, ground := Ground.phase }, { on := 9, ground := Ground.phase }, { on := 10, ground := Ground.phase }, { on := 11, ground := Ground.phase }, { on := 12, ground := Ground.phase }, { on := 13, ground := Ground.phase }, { on := 14, ground := Ground.phase }, { on := 15, ground := Ground.phase }, { on := 16, ground := Ground.phase }, { on := 17, ground := Ground.phase }, { on := 18, ground := Ground.phase }, { on := 19, ground := Ground.phase }, { on := 20, ground := Ground.phase }, { on := 21, ground := Ground.phase }, { on := 22, ground := Ground.phase }, { on := 23, ground := Ground.phase }, { on := 24, ground := Ground.phase }, { on := 25, ground := Ground.phase }, { on := 26, ground := Ground.phase }, { on := 27, ground := Ground.phase }, { on := 28, ground := Ground.phase }, { on := 29, ground := Ground.phase }, { on := 30, ground := Ground.phase }, { on := 31, ground := Ground.phase }, { on := 32, ground := Ground.phase }, { on := 33, ground := Ground.phase }, { on := 34, ground := Ground.phase }, { on := 35, ground := Ground.phase }, { on := 36, ground := Ground.phase }, { on := 37, ground := Ground.phase }, { on := 38, ground := Ground.phase }, { on := 39, ground := Ground.phase }], guard := none } : Oper)) (v := ?_) rfl (by kernel_rfl) (by kernel_rfl) (by kernel_rfl) (fun _ _ _ h => h) (Or.inl ⟨by rfl, ?_⟩) trivial ?_
                        rotate_left
                        · (intro w_ _; go_simp; try with_reducible rfl)
                        try simp only [Act.put, List.setIfInBounds_toArray, List.set_cons_zero, List.set_cons_succ]
                        refine wpAnyH_done (by kernel_rfl) ?_ _
                        refine NoPanic.normal ?_
                        go_wp2
                        go_ret
                        exact ⟨rfl, hb⟩
                      exact AllReadyH.nil
                    exact AllReadyH.nil
                  exact AllReadyH.nil
                exact AllReadyH.nil
              exact AllReadyH.nil
            refine AllReadyH.cons (o := ({ dst := (some 30), op := (Op.convert 31 9 (Operand.tmp 29)), type := 9, pos := "law.go:35", after := #[{ on := 20, ground := Ground.data }, { on := 12, ground := Ground.guard }], guard := (some (12, true)) } : Oper)) rfl (fun K hK => ?_) ?_
            · go_simp
              refine hK.out _ _ trivial (fun _ => ?_)
              clear hK K
              try simp only [Act.put, List.setIfInBounds_toArray, List.set_cons_zero, List.set_cons_succ]
              refine wpAnyH_ready (rs := [16]) (by kernel_rfl) (by simp) ?_
              refine AllReadyH.cons (o := ({ dst := (some 25), op := (Op.convert 31 9 (Operand.tmp 24)), type := 9, pos := "law.go:35", after := #[{ on := 15, ground := Ground.data }, { on := 12, ground := Ground.guard }], guard := (some (12, true)) } : Oper)) rfl (fun K hK => ?_) ?_
              · go_simp
                refine hK.out _ _ trivial (fun _ => ?_)
                clear hK K
                try simp only [Act.put, List.setIfInBounds_toArray, List.set_cons_zero, List.set_cons_succ]
                refine wpAnyH_ready (rs := [17]) (by kernel_rfl) (by simp) ?_
                refine AllReadyH.cons (o := ({ dst := (some 26), op := (Op.call { callee := (Callee.value (Operand.func 13)), args := #[(Operand.tmp 22), (Operand.tmp 25)], argTypes := #[22, 9] }), type := 22, pos := "law.go:35", after := #[{ on := 13, ground := Ground.data }, { on := 16, ground := Ground.data }, { on := 12, ground := Ground.chain }, { on := 12, ground := Ground.guard }], guard := (some (12, true)) } : Oper)) rfl (fun K hK => ?_) ?_
                · go_simp
                  (with_reducible refine (hax.out _).mono ?_)
                  rintro e w4 ⟨rfl, hb2⟩
                  have hc4 := (bcell hb2).1
                  (first | replace hb := bnext hb hb2 | replace hb := bnext (bl_alloc hb _) hb2 | replace hb := bnext (bl_alloc (bl_alloc hb _) _) hb2)
                  clear hb2
                  go_wp2_with fail
                  refine hK.out _ _ trivial (fun _ => ?_)
                  clear hK K
                  try simp only [Act.put, List.setIfInBounds_toArray, List.set_cons_zero, List.set_cons_succ]
                  refine wpAnyH_ready (rs := [22]) (by kernel_rfl) (by simp) ?_
                  refine AllReadyH.cons (o := ({ dst := (some 31), op := (Op.call { callee := (Callee.value (Operand.func 13)), args := #[(Operand.tmp 27), (Operand.tmp 30)], argTypes := #[22, 9] }), type := 22, pos := "law.go:35", after := #[{ on := 18, ground := Ground.data }, { on := 21, ground := Ground.data }, { on := 17, ground := Ground.chain }, { on := 12, ground := Ground.guard }], guard := (some (12, true)) } : Oper)) rfl (fun K hK => ?_) ?_
                  · go_simp
                    (with_reducible refine (hbx.out _).mono ?_)
                    rintro e w5 ⟨rfl, hb2⟩
                    (first | replace hb := bnext hb hb2 | replace hb := bnext (bl_alloc hb _) hb2 | replace hb := bnext (bl_alloc (bl_alloc hb _) _) hb2)
                    clear hb2
                    go_wp2_with fail
                    refine hK.out _ _ trivial (fun _ => ?_)
                    clear hK K
                    try simp only [Act.put, List.setIfInBounds_toArray, List.set_cons_zero, List.set_cons_succ]
                    refine wpAnyH_take (i := 23) (oi := ({ dst := (some 32), op := (Op.binOp BinOp.eql 22 (Operand.tmp 26) (Operand.tmp 31) 22), type := 4, pos := "law.go:35", after := #[{ on := 17, ground := Ground.data }, { on := 22, ground := Ground.data }, { on := 12, ground := Ground.guard }], guard := (some (12, true)) } : Oper)) (v := ?_) rfl (by kernel_rfl) (by kernel_rfl) (by kernel_rfl) (fun _ _ _ h => h) (Or.inl ⟨by rfl, ?_⟩) trivial ?_
                    rotate_left
                    · (intro w_ _; go_simp; try with_reducible rfl)
                    try simp only [Act.put, List.setIfInBounds_toArray, List.set_cons_zero, List.set_cons_succ]
                    refine wpAnyH_take (i := 27) (oi := ({ dst := (some 36), op := (Op.binOp BinOp.eql 4 (Operand.tmp 32) (Operand.tmp 35) 4), type := 4, pos := "law.go:35", after := #[{ on := 23, ground := Ground.data }, { on := 26, ground := Ground.data }, { on := 12, ground := Ground.guard }], guard := (some (12, true)) } : Oper)) (v := ?_) rfl (by kernel_rfl) (by kernel_rfl) (by kernel_rfl) (fun _ _ _ h => h) (Or.inl ⟨by rfl, ?_⟩) trivial ?_
                    rotate_left
                    · (intro w_ _; go_simp; try with_reducible rfl)
                    try simp only [Act.put, List.setIfInBounds_toArray, List.set_cons_zero, List.set_cons_succ]
                    refine wpAnyH_take (i := 28) (oi := ({ dst := (some 37), op := (Op.pick (Operand.tmp 21) (Operand.tmp 36) (Operand.const (Value.bool false))), type := 4, pos := "law.go:35", after := #[{ on := 12, ground := Ground.data }, { on := 27, ground := Ground.data }], guard := none } : Oper)) (v := ?_) rfl (by kernel_rfl) (by kernel_rfl) (by kernel_rfl) (fun _ _ _ h => h) (Or.inl ⟨by rfl, ?_⟩) trivial ?_
                    rotate_left
                    · (intro w_ _; go_simp; try with_reducible rfl)
                    try simp only [Act.put, List.setIfInBounds_toArray, List.set_cons_zero, List.set_cons_succ]
                    refine wpAnyH_take (i := 29) (oi := ({ dst := (some 38), op := (Op.move (Operand.tmp 37)), type := 4, pos := "law.go:35", after := #[{ on := 28, ground := Ground.data }, { on := 22, ground := Ground.chain }], guard := none } : Oper)) (v := ?_) rfl (by kernel_rfl) (by kernel_rfl) (by kernel_rfl) (fun _ _ _ h => h) (Or.inl ⟨by rfl, ?_⟩) trivial ?_
                    rotate_left
                    · (intro w_ _; go_simp; try with_reducible rfl)
                    try simp only [Act.put, List.setIfInBounds_toArray, List.set_cons_zero, List.set_cons_succ]
                    refine wpAnyH_take (i := 30) (oi := ({ dst := (some 39), op := (Op.move (Operand.tmp 0)), type := 22, pos := "law.go:35", after := #[{ on := 29, ground := Ground.guard }], guard := (some (29, true)) } : Oper)) (v := ?_) rfl (by kernel_rfl) (by kernel_rfl) (by kernel_rfl) (fun _ _ _ h => h) (Or.inl ⟨by rfl, ?_⟩) trivial ?_
                    rotate_left
                    · (intro w_ _; go_simp; try with_reducible rfl)
                    try simp only [Act.put, List.setIfInBounds_toArray, List.set_cons_zero, List.set_cons_succ]
                    refine wpAnyH_take (i := 32) (oi := ({ dst := (some 41), op := (Op.move (Operand.tmp 1)), type := 22, pos := "law.go:35", after := #[{ on := 29, ground := Ground.guard }], guard := (some (29, true)) } : Oper)) (v := ?_) rfl (by kernel_rfl) (by kernel_rfl) (by kernel_rfl) (fun _ _ _ h => h) (Or.inl ⟨by rfl, ?_⟩) trivial ?_
                    rotate_left
                    · (intro w_ _; go_simp; try with_reducible rfl)
                    try simp only [Act.put, List.setIfInBounds_toArray, List.set_cons_zero, List.set_cons_succ]
                    refine wpAnyH_take (i := 35) (oi := ({ dst := (some 44), op := (Op.move (Operand.tmp 0)), type := 22, pos := "law.go:35", after := #[{ on := 29, ground := Ground.guard }], guard := (some (29, true)) } : Oper)) (v := ?_) rfl (by kernel_rfl) (by kernel_rfl) (by kernel_rfl) (fun _ _ _ h => h) (Or.inl ⟨by rfl, ?_⟩) trivial ?_
                    rotate_left
                    · (intro w_ _; go_simp; try with_reducible rfl)
                    try simp only [Act.put, List.setIfInBounds_toArray, List.set_cons_zero, List.set_cons_succ]
                    refine wpAnyH_take (i := 36) (oi := ({ dst := (some 45), op := (Op.move (Operand.tmp 1)), type := 22, pos := "law.go:35", after := #[{ on := 29, ground := Ground.guard }], guard := (some (29, true)) } : Oper)) (v := ?_) rfl (by kernel_rfl) (by kernel_rfl) (by kernel_rfl) (fun _ _ _ h => h) (Or.inl ⟨by rfl, ?_⟩) trivial ?_
                    rotate_left
                    · (intro w_ _; go_simp; try with_reducible rfl)
                    try simp only [Act.put, List.setIfInBounds_toArray, List.set_cons_zero, List.set_cons_succ]
                    refine wpAnyH_take (i := 37) (oi := ({ dst := (some 46), op := (Op.binOp BinOp.eql 22 (Operand.tmp 44) (Operand.tmp 45) 22), type := 4, pos := "law.go:35", after := #[{ on := 35, ground := Ground.data }, { on := 36, ground := Ground.data }, { on := 29, ground := Ground.guard }], guard := (some (29, true)) } : Oper)) (v := ?_) rfl (by kernel_rfl) (by kernel_rfl) (by kernel_rfl) (fun _ _ _ h => h) (Or.inl ⟨by rfl, ?_⟩) trivial ?_
                    rotate_left
                    · (intro w_ _; go_simp; try with_reducible rfl)
                    try simp only [Act.put, List.setIfInBounds_toArray, List.set_cons_zero, List.set_cons_succ]
                    refine wpAnyH_ready (rs := [31]) (by kernel_rfl) (by simp) ?_
                    refine AllReadyH.cons (o := ({ dst := (some 40), op := (Op.call { callee := (Callee.value (Operand.func 13)), args := #[(Operand.tmp 39), (Operand.const (Value.string { data := #[] }))], argTypes := #[22, 9] }), type := 22, pos := "law.go:35", after := #[{ on := 30, ground := Ground.data }, { on := 29, ground := Ground.chain }, { on := 29, ground := Ground.guard }], guard := (some (29, true)) } : Oper)) rfl (fun K hK => ?_) ?_
                    · go_simp
                      (with_reducible refine (hnx.out _).mono ?_)
                      rintro e w6 ⟨rfl, hb2⟩
                      (first | replace hb := bnext hb hb2 | replace hb := bnext (bl_alloc hb _) hb2 | replace hb := bnext (bl_alloc (bl_alloc hb _) _) hb2)
                      clear hb2
                      go_wp2_with fail
                      refine hK.out _ _ trivial (fun _ => ?_)
                      clear hK K
                      try simp only [Act.put, List.setIfInBounds_toArray, List.set_cons_zero, List.set_cons_succ]
                      refine wpAnyH_ready (rs := [33]) (by kernel_rfl) (by simp) ?_
                      refine AllReadyH.cons (o := ({ dst := (some 42), op := (Op.call { callee := (Callee.value (Operand.func 13)), args := #[(Operand.tmp 41), (Operand.const (Value.string { data := #[] }))], argTypes := #[22, 9] }), type := 22, pos := "law.go:35", after := #[{ on := 32, ground := Ground.data }, { on := 31, ground := Ground.chain }, { on := 29, ground := Ground.guard }], guard := (some (29, true)) } : Oper)) rfl (fun K hK => ?_) ?_
                      · go_simp
                        (with_reducible refine (hny.out _).mono ?_)
                        rintro e w7 ⟨rfl, hb2⟩
                        (first | replace hb := bnext hb hb2 | replace hb := bnext (bl_alloc hb _) hb2 | replace hb := bnext (bl_alloc (bl_alloc hb _) _) hb2)
                        clear hb2
                        go_wp2_with fail
                        refine hK.out _ _ trivial (fun _ => ?_)
                        clear hK K
                        try simp only [Act.put, List.setIfInBounds_toArray, List.set_cons_zero, List.set_cons_succ]
                        refine wpAnyH_take (i := 34) (oi := ({ dst := (some 43), op := (Op.binOp BinOp.eql 22 (Operand.tmp 40) (Operand.tmp 42) 22), type := 4, pos := "law.go:35", after := #[{ on := 31, ground := Ground.data }, { on := 33, ground := Ground.data }, { on := 29, ground := Ground.guard }], guard := (some (29, true)) } : Oper)) (v := ?_) rfl (by kernel_rfl) (by kernel_rfl) (by kernel_rfl) (fun _ _ _ h => h) (Or.inl ⟨by rfl, ?_⟩) trivial ?_
                        rotate_left
                        · (intro w_ _; go_simp; try with_reducible rfl)
                        try simp only [Act.put, List.setIfInBounds_toArray, List.set_cons_zero, List.set_cons_succ]
                        refine wpAnyH_take (i := 38) (oi := ({ dst := (some 47), op := (Op.binOp BinOp.eql 4 (Operand.tmp 43) (Operand.tmp 46) 4), type := 4, pos := "law.go:35", after := #[{ on := 34, ground := Ground.data }, { on := 37, ground := Ground.data }, { on := 29, ground := Ground.guard }], guard := (some (29, true)) } : Oper)) (v := ?_) rfl (by kernel_rfl) (by kernel_rfl) (by kernel_rfl) (fun _ _ _ h => h) (Or.inl ⟨by rfl, ?_⟩) trivial ?_
                        rotate_left
                        · (intro w_ _; go_simp; try with_reducible rfl)
                        try simp only [Act.put, List.setIfInBounds_toArray, List.set_cons_zero, List.set_cons_succ]
                        refine wpAnyH_take (i := 39) (oi := ({ dst := (some 48), op := (Op.pick (Operand.tmp 38) (Operand.tmp 47) (Operand.const (Value.bool false))), type := 4, pos := "law.go:35", after := #[{ on := 29, ground := Ground.data }, { on := 38, ground := Ground.data }], guard := none } : Oper)) (v := ?_) rfl (by kernel_rfl) (by kernel_rfl) (by kernel_rfl) (fun _ _ _ h => h) (Or.inl ⟨by rfl, ?_⟩) trivial ?_
                        rotate_left
                        · (intro w_ _; go_simp; try with_reducible rfl)
                        try simp only [Act.put, List.setIfInBounds_toArray, List.set_cons_zero, List.set_cons_succ]
                        refine wpAnyH_take (i := 40) (oi := ({ dst := (some 8), op := (Op.assign (Operand.tmp 48)), type := 4, pos := "law.go:35", after := #[{ on := 39, ground := Ground.data }, { on := 33, ground := Ground.chain }, { on := 0, ground := Ground.phase }, { on := 1, ground := Ground.phase }, { on := 2, ground := Ground.phase }, { on := 3, ground := Ground.phase }, { on := 4, ground := Ground.phase }, { on := 5, ground := Ground.phase }, { on := 6, ground := Ground.phase }, { on := 7, ground := Ground.phase }, { on := 8, ground := Ground.phase }, { on := 9, ground := Ground.phase }, { on := 10, ground := Ground.phase }, { on := 11, ground := Ground.phase }, { on := 12, ground := Ground.phase }, { on := 13, ground := Ground.phase }, { on := 14, ground := Ground.phase }, { on := 15, ground := Ground.phase }, { on := 16, ground := Ground.phase }, { on := 17, ground := Ground.phase }, { on := 18, ground := Ground.phase }, { on := 19, ground := Ground.phase }, { on := 20, ground := Ground.phase }, { on := 21, ground := Ground.phase }, { on := 22, ground := Ground.phase }, { on := 23, ground := Ground.phase }, { on := 24, ground := Ground.phase }, { on := 25, ground := Ground.phase }, { on := 26, ground := Ground.phase }, { on := 27, ground := Ground.phase }, { on := 28, ground := Ground.phase }, { on := 29, ground := Ground.phase }, { on := 30, ground := Ground.phase }, { on := 31, ground := Ground.phase }, { on := 32, ground := Ground.phase }, { on := 33, ground := Ground.phase }, { on := 34, ground := Ground.phase }, { on := 35, ground := Ground.phase }, { on := 36, ground := Ground.phase }, { on := 37, ground := Ground.phase }, { on := 38, ground := Ground.phase }, { on := 39, ground := Ground.phase }], guard := none } : Oper)) (v := ?_) rfl (by kernel_rfl) (by kernel_rfl) (by kernel_rfl) (fun _ _ _ h => h) (Or.inl ⟨by rfl, ?_⟩) trivial ?_
                        rotate_left
                        · (intro w_ _; go_simp; try with_reducible rfl)
                        try simp only [Act.put, List.setIfInBounds_toArray, List.set_cons_zero, List.set_cons_succ]
                        refine wpAnyH_done (by kernel_rfl) ?_ _
                        refine NoPanic.normal ?_
                        go_wp2
                        go_ret
                        exact ⟨rfl, hb⟩
                      exact AllReadyH.nil
                    exact AllReadyH.nil
                  exact AllReadyH.nil
                exact AllReadyH.nil
              exact AllReadyH.nil
            exact AllReadyH.nil
          exact AllReadyH.nil
        refine AllReadyH.cons (o := ({ dst := (some 29), op := (Op.buildSlice 31 1 #[(0, (Operand.tmp 28))]), type := 31, pos := "law.go:35", after := #[{ on := 19, ground := Ground.data }, { on := 12, ground := Ground.guard }], guard := (some (12, true)) } : Oper)) rfl (fun K hK => ?_) ?_
        · go_simp
          refine hK.out _ _ trivial (fun _ => ?_)
          clear hK K
          try simp only [Act.put, List.setIfInBounds_toArray, List.set_cons_zero, List.set_cons_succ]
          refine wpAnyH_ready (rs := [15, 21]) (by kernel_rfl) (by simp) ?_
          refine AllReadyH.cons (o := ({ dst := (some 24), op := (Op.buildSlice 31 1 #[(0, (Operand.tmp 23))]), type := 31, pos := "law.go:35", after := #[{ on := 14, ground := Ground.data }, { on := 12, ground := Ground.guard }], guard := (some (12, true)) } : Oper)) rfl (fun K hK => ?_) ?_
          · go_simp
            refine hK.out _ _ trivial (fun _ => ?_)
            clear hK K
            try simp only [Act.put, List.setIfInBounds_toArray, List.set_cons_zero, List.set_cons_succ]
            refine wpAnyH_ready (rs := [16, 21]) (by kernel_rfl) (by simp) ?_
            refine AllReadyH.cons (o := ({ dst := (some 25), op := (Op.convert 31 9 (Operand.tmp 24)), type := 9, pos := "law.go:35", after := #[{ on := 15, ground := Ground.data }, { on := 12, ground := Ground.guard }], guard := (some (12, true)) } : Oper)) rfl (fun K hK => ?_) ?_
            · go_simp
              refine hK.out _ _ trivial (fun _ => ?_)
              clear hK K
              try simp only [Act.put, List.setIfInBounds_toArray, List.set_cons_zero, List.set_cons_succ]
              refine wpAnyH_ready (rs := [17, 21]) (by kernel_rfl) (by simp) ?_
              refine AllReadyH.cons (o := ({ dst := (some 26), op := (Op.call { callee := (Callee.value (Operand.func 13)), args := #[(Operand.tmp 22), (Operand.tmp 25)], argTypes := #[22, 9] }), type := 22, pos := "law.go:35", after := #[{ on := 13, ground := Ground.data }, { on := 16, ground := Ground.data }, { on := 12, ground := Ground.chain }, { on := 12, ground := Ground.guard }], guard := (some (12, true)) } : Oper)) rfl (fun K hK => ?_) ?_
              · go_simp
                (with_reducible refine (hax.out _).mono ?_)
                rintro e w4 ⟨rfl, hb2⟩
                have hc4 := (bcell hb2).1
                (first | replace hb := bnext hb hb2 | replace hb := bnext (bl_alloc hb _) hb2 | replace hb := bnext (bl_alloc (bl_alloc hb _) _) hb2)
                clear hb2
                go_wp2_with fail
                refine hK.out _ _ trivial (fun _ => ?_)
                clear hK K
                try simp only [Act.put, List.setIfInBounds_toArray, List.set_cons_zero, List.set_cons_succ]
                refine wpAnyH_ready (rs := [21]) (by kernel_rfl) (by simp) ?_
                refine AllReadyH.cons (o := ({ dst := (some 30), op := (Op.convert 31 9 (Operand.tmp 29)), type := 9, pos := "law.go:35", after := #[{ on := 20, ground := Ground.data }, { on := 12, ground := Ground.guard }], guard := (some (12, true)) } : Oper)) rfl (fun K hK => ?_) ?_
                · go_simp
                  refine hK.out _ _ trivial (fun _ => ?_)
                  clear hK K
                  try simp only [Act.put, List.setIfInBounds_toArray, List.set_cons_zero, List.set_cons_succ]
                  refine wpAnyH_ready (rs := [22]) (by kernel_rfl) (by simp) ?_
                  refine AllReadyH.cons (o := ({ dst := (some 31), op := (Op.call { callee := (Callee.value (Operand.func 13)), args := #[(Operand.tmp 27), (Operand.tmp 30)], argTypes := #[22, 9] }), type := 22, pos := "law.go:35", after := #[{ on := 18, ground := Ground.data }, { on := 21, ground := Ground.data }, { on := 17, ground := Ground.chain }, { on := 12, ground := Ground.guard }], guard := (some (12, true)) } : Oper)) rfl (fun K hK => ?_) ?_
                  · go_simp
                    (with_reducible refine (hbx.out _).mono ?_)
                    rintro e w5 ⟨rfl, hb2⟩
                    (first | replace hb := bnext hb hb2 | replace hb := bnext (bl_alloc hb _) hb2 | replace hb := bnext (bl_alloc (bl_alloc hb _) _) hb2)
                    clear hb2
                    go_wp2_with fail
                    refine hK.out _ _ trivial (fun _ => ?_)
                    clear hK K
                    try simp only [Act.put, List.setIfInBounds_toArray, List.set_cons_zero, List.set_cons_succ]
                    refine wpAnyH_take (i := 23) (oi := ({ dst := (some 32), op := (Op.binOp BinOp.eql 22 (Operand.tmp 26) (Operand.tmp 31) 22), type := 4, pos := "law.go:35", after := #[{ on := 17, ground := Ground.data }, { on := 22, ground := Ground.data }, { on := 12, ground := Ground.guard }], guard := (some (12, true)) } : Oper)) (v := ?_) rfl (by kernel_rfl) (by kernel_rfl) (by kernel_rfl) (fun _ _ _ h => h) (Or.inl ⟨by rfl, ?_⟩) trivial ?_
                    rotate_left
                    · (intro w_ _; go_simp; try with_reducible rfl)
                    try simp only [Act.put, List.setIfInBounds_toArray, List.set_cons_zero, List.set_cons_succ]
                    refine wpAnyH_take (i := 27) (oi := ({ dst := (some 36), op := (Op.binOp BinOp.eql 4 (Operand.tmp 32) (Operand.tmp 35) 4), type := 4, pos := "law.go:35", after := #[{ on := 23, ground := Ground.data }, { on := 26, ground := Ground.data }, { on := 12, ground := Ground.guard }], guard := (some (12, true)) } : Oper)) (v := ?_) rfl (by kernel_rfl) (by kernel_rfl) (by kernel_rfl) (fun _ _ _ h => h) (Or.inl ⟨by rfl, ?_⟩) trivial ?_
                    rotate_left
                    · (intro w_ _; go_simp; try with_reducible rfl)
                    try simp only [Act.put, List.setIfInBounds_toArray, List.set_cons_zero, List.set_cons_succ]
                    refine wpAnyH_take (i := 28) (oi := ({ dst := (some 37), op := (Op.pick (Operand.tmp 21) (Operand.tmp 36) (Operand.const (Value.bool false))), type := 4, pos := "law.go:35", after := #[{ on := 12, ground := Ground.data }, { on := 27, ground := Ground.data }], guard := none } : Oper)) (v := ?_) rfl (by kernel_rfl) (by kernel_rfl) (by kernel_rfl) (fun _ _ _ h => h) (Or.inl ⟨by rfl, ?_⟩) trivial ?_
                    rotate_left
                    · (intro w_ _; go_simp; try with_reducible rfl)
                    try simp only [Act.put, List.setIfInBounds_toArray, List.set_cons_zero, List.set_cons_succ]
                    refine wpAnyH_take (i := 29) (oi := ({ dst := (some 38), op := (Op.move (Operand.tmp 37)), type := 4, pos := "law.go:35", after := #[{ on := 28, ground := Ground.data }, { on := 22, ground := Ground.chain }], guard := none } : Oper)) (v := ?_) rfl (by kernel_rfl) (by kernel_rfl) (by kernel_rfl) (fun _ _ _ h => h) (Or.inl ⟨by rfl, ?_⟩) trivial ?_
                    rotate_left
                    · (intro w_ _; go_simp; try with_reducible rfl)
                    try simp only [Act.put, List.setIfInBounds_toArray, List.set_cons_zero, List.set_cons_succ]
                    refine wpAnyH_take (i := 30) (oi := ({ dst := (some 39), op := (Op.move (Operand.tmp 0)), type := 22, pos := "law.go:35", after := #[{ on := 29, ground := Ground.guard }], guard := (some (29, true)) } : Oper)) (v := ?_) rfl (by kernel_rfl) (by kernel_rfl) (by kernel_rfl) (fun _ _ _ h => h) (Or.inl ⟨by rfl, ?_⟩) trivial ?_
                    rotate_left
                    · (intro w_ _; go_simp; try with_reducible rfl)
                    try simp only [Act.put, List.setIfInBounds_toArray, List.set_cons_zero, List.set_cons_succ]
                    refine wpAnyH_take (i := 32) (oi := ({ dst := (some 41), op := (Op.move (Operand.tmp 1)), type := 22, pos := "law.go:35", after := #[{ on := 29, ground := Ground.guard }], guard := (some (29, true)) } : Oper)) (v := ?_) rfl (by kernel_rfl) (by kernel_rfl) (by kernel_rfl) (fun _ _ _ h => h) (Or.inl ⟨by rfl, ?_⟩) trivial ?_
                    rotate_left
                    · (intro w_ _; go_simp; try with_reducible rfl)
                    try simp only [Act.put, List.setIfInBounds_toArray, List.set_cons_zero, List.set_cons_succ]
                    refine wpAnyH_take (i := 35) (oi := ({ dst := (some 44), op := (Op.move (Operand.tmp 0)), type := 22, pos := "law.go:35", after := #[{ on := 29, ground := Ground.guard }], guard := (some (29, true)) } : Oper)) (v := ?_) rfl (by kernel_rfl) (by kernel_rfl) (by kernel_rfl) (fun _ _ _ h => h) (Or.inl ⟨by rfl, ?_⟩) trivial ?_
                    rotate_left
                    · (intro w_ _; go_simp; try with_reducible rfl)
                    try simp only [Act.put, List.setIfInBounds_toArray, List.set_cons_zero, List.set_cons_succ]
                    refine wpAnyH_take (i := 36) (oi := ({ dst := (some 45), op := (Op.move (Operand.tmp 1)), type := 22, pos := "law.go:35", after := #[{ on := 29, ground := Ground.guard }], guard := (some (29, true)) } : Oper)) (v := ?_) rfl (by kernel_rfl) (by kernel_rfl) (by kernel_rfl) (fun _ _ _ h => h) (Or.inl ⟨by rfl, ?_⟩) trivial ?_
                    rotate_left
                    · (intro w_ _; go_simp; try with_reducible rfl)
                    try simp only [Act.put, List.setIfInBounds_toArray, List.set_cons_zero, List.set_cons_succ]
                    refine wpAnyH_take (i := 37) (oi := ({ dst := (some 46), op := (Op.binOp BinOp.eql 22 (Operand.tmp 44) (Operand.tmp 45) 22), type := 4, pos := "law.go:35", after := #[{ on := 35, ground := Ground.data }, { on := 36, ground := Ground.data }, { on := 29, ground := Ground.guard }], guard := (some (29, true)) } : Oper)) (v := ?_) rfl (by kernel_rfl) (by kernel_rfl) (by kernel_rfl) (fun _ _ _ h => h) (Or.inl ⟨by rfl, ?_⟩) trivial ?_
                    rotate_left
                    · (intro w_ _; go_simp; try with_reducible rfl)
                    try simp only [Act.put, List.setIfInBounds_toArray, List.set_cons_zero, List.set_cons_succ]
                    refine wpAnyH_ready (rs := [31]) (by kernel_rfl) (by simp) ?_
                    refine AllReadyH.cons (o := ({ dst := (some 40), op := (Op.call { callee := (Callee.value (Operand.func 13)), args := #[(Operand.tmp 39), (Operand.const (Value.string { data := #[] }))], argTypes := #[22, 9] }), type := 22, pos := "law.go:35", after := #[{ on := 30, ground := Ground.data }, { on := 29, ground := Ground.chain }, { on := 29, ground := Ground.guard }], guard := (some (29, true)) } : Oper)) rfl (fun K hK => ?_) ?_
                    · go_simp
                      (with_reducible refine (hnx.out _).mono ?_)
                      rintro e w6 ⟨rfl, hb2⟩
                      (first | replace hb := bnext hb hb2 | replace hb := bnext (bl_alloc hb _) hb2 | replace hb := bnext (bl_alloc (bl_alloc hb _) _) hb2)
                      clear hb2
                      go_wp2_with fail
                      refine hK.out _ _ trivial (fun _ => ?_)
                      clear hK K
                      try simp only [Act.put, List.setIfInBounds_toArray, List.set_cons_zero, List.set_cons_succ]
                      refine wpAnyH_ready (rs := [33]) (by kernel_rfl) (by simp) ?_
                      refine AllReadyH.cons (o := ({ dst := (some 42), op := (Op.call { callee := (Callee.value (Operand.func 13)), args := #[(Operand.tmp 41), (Operand.const (Value.string { data := #[] }))], argTypes := #[22, 9] }), type := 22, pos := "law.go:35", after := #[{ on := 32, ground := Ground.data }, { on := 31, ground := Ground.chain }, { on := 29, ground := Ground.guard }], guard := (some (29, true)) } : Oper)) rfl (fun K hK => ?_) ?_
                      · go_simp
                        (with_reducible refine (hny.out _).mono ?_)
                        rintro e w7 ⟨rfl, hb2⟩
                        (first | replace hb := bnext hb hb2 | replace hb := bnext (bl_alloc hb _) hb2 | replace hb := bnext (bl_alloc (bl_alloc hb _) _) hb2)
                        clear hb2
                        go_wp2_with fail
                        refine hK.out _ _ trivial (fun _ => ?_)
                        clear hK K
                        try simp only [Act.put, List.setIfInBounds_toArray, List.set_cons_zero, List.set_cons_succ]
                        refine wpAnyH_take (i := 34) (oi := ({ dst := (some 43), op := (Op.binOp BinOp.eql 22 (Operand.tmp 40) (Operand.tmp 42) 22), type := 4, pos := "law.go:35", after := #[{ on := 31, ground := Ground.data }, { on := 33, ground := Ground.data }, { on := 29, ground := Ground.guard }], guard := (some (29, true)) } : Oper)) (v := ?_) rfl (by kernel_rfl) (by kernel_rfl) (by kernel_rfl) (fun _ _ _ h => h) (Or.inl ⟨by rfl, ?_⟩) trivial ?_
                        rotate_left
                        · (intro w_ _; go_simp; try with_reducible rfl)
                        try simp only [Act.put, List.setIfInBounds_toArray, List.set_cons_zero, List.set_cons_succ]
                        refine wpAnyH_take (i := 38) (oi := ({ dst := (some 47), op := (Op.binOp BinOp.eql 4 (Operand.tmp 43) (Operand.tmp 46) 4), type := 4, pos := "law.go:35", after := #[{ on := 34, ground := Ground.data }, { on := 37, ground := Ground.data }, { on := 29, ground := Ground.guard }], guard := (some (29, true)) } : Oper)) (v := ?_) rfl (by kernel_rfl) (by kernel_rfl) (by kernel_rfl) (fun _ _ _ h => h) (Or.inl ⟨by rfl, ?_⟩) trivial ?_
                        rotate_left
                        · (intro w_ _; go_simp; try with_reducible rfl)
                        try simp only [Act.put, List.setIfInBounds_toArray, List.set_cons_zero, List.set_cons_succ]
                        refine wpAnyH_take (i := 39) (oi := ({ dst := (some 48), op := (Op.pick (Operand.tmp 38) (Operand.tmp 47) (Operand.const (Value.bool false))), type := 4, pos := "law.go:35", after := #[{ on := 29, ground := Ground.data }, { on := 38, ground := Ground.data }], guard := none } : Oper)) (v := ?_) rfl (by kernel_rfl) (by kernel_rfl) (by kernel_rfl) (fun _ _ _ h => h) (Or.inl ⟨by rfl, ?_⟩) trivial ?_
                        rotate_left
                        · (intro w_ _; go_simp; try with_reducible rfl)
                        try simp only [Act.put, List.setIfInBounds_toArray, List.set_cons_zero, List.set_cons_succ]
                        refine wpAnyH_take (i := 40) (oi := ({ dst := (some 8), op := (Op.assign (Operand.tmp 48)), type := 4, pos := "law.go:35", after := #[{ on := 39, ground := Ground.data }, { on := 33, ground := Ground.chain }, { on := 0, ground := Ground.phase }, { on := 1, ground := Ground.phase }, { on := 2, ground := Ground.phase }, { on := 3, ground := Ground.phase }, { on := 4, ground := Ground.phase }, { on := 5, ground := Ground.phase }, { on := 6, ground := Ground.phase }, { on := 7, ground := Ground.phase }, { on := 8, ground := Ground.phase }, { on := 9, ground := Ground.phase }, { on := 10, ground := Ground.phase }, { on := 11, ground := Ground.phase }, { on := 12, ground := Ground.phase }, { on := 13, ground := Ground.phase }, { on := 14, ground := Ground.phase }, { on := 15, ground := Ground.phase }, { on := 16, ground := Ground.phase }, { on := 17, ground := Ground.phase }, { on := 18, ground := Ground.phase }, { on := 19, ground := Ground.phase }, { on := 20, ground := Ground.phase }, { on := 21, ground := Ground.phase }, { on := 22, ground := Ground.phase }, { on := 23, ground := Ground.phase }, { on := 24, ground := Ground.phase }, { on := 25, ground := Ground.phase }, { on := 26, ground := Ground.phase }, { on := 27, ground := Ground.phase }, { on := 28, ground := Ground.phase }, { on := 29, ground := Ground.phase }, { on := 30, ground := Ground.phase }, { on := 31, ground := Ground.phase }, { on := 32, ground := Ground.phase }, { on := 33, ground := Ground.phase }, { on := 34, ground := Ground.phase }, { on := 35, ground := Ground.phase }, { on := 36, ground := Ground.phase }, { on := 37, ground := Ground.phase }, { on := 38, ground := Ground.phase }, { on := 39, ground := Ground.phase }], guard := none } : Oper)) (v := ?_) rfl (by kernel_rfl) (by kernel_rfl) (by kernel_rfl) (fun _ _ _ h => h) (Or.inl ⟨by rfl, ?_⟩) trivial ?_
                        rotate_left
                        · (intro w_ _; go_simp; try with_reducible rfl)
                        try simp only [Act.put, List.setIfInBounds_toArray, List.set_cons_zero, List.set_cons_succ]
                        refine wpAnyH_done (by kernel_rfl) ?_ _
                        refine NoPanic.normal ?_
                        go_wp2
                        go_ret
                        exact ⟨rfl, hb⟩
                      exact AllReadyH.nil
                    exact AllReadyH.nil
                  exact AllReadyH.nil
                exact AllReadyH.nil
              refine AllReadyH.cons (o := ({ dst := (some 30), op := (Op.convert 31 9 (Operand.tmp 29)), type := 9, pos := "law.go:35", after := #[{ on := 20, ground := Ground.data }, { on := 12, ground := Ground.guard }], guard := (some (12, true)) } : Oper)) rfl (fun K hK => ?_) ?_
              · go_simp
                refine hK.out _ _ trivial (fun _ => ?_)
                clear hK K
                try simp only [Act.put, List.setIfInBounds_toArray, List.set_cons_zero, List.set_cons_succ]
                refine wpAnyH_ready (rs := [17]) (by kernel_rfl) (by simp) ?_
                refine AllReadyH.cons (o := ({ dst := (some 26), op := (Op.call { callee := (Callee.value (Operand.func 13)), args := #[(Operand.tmp 22), (Operand.tmp 25)], argTypes := #[22, 9] }), type := 22, pos := "law.go:35", after := #[{ on := 13, ground := Ground.data }, { on := 16, ground := Ground.data }, { on := 12, ground := Ground.chain }, { on := 12, ground := Ground.guard }], guard := (some (12, true)) } : Oper)) rfl (fun K hK => ?_) ?_
                · go_simp
                  (with_reducible refine (hax.out _).mono ?_)
                  rintro e w4 ⟨rfl, hb2⟩
                  have hc4 := (bcell hb2).1
                  (first | replace hb := bnext hb hb2 | replace hb := bnext (bl_alloc hb _) hb2 | replace hb := bnext (bl_alloc (bl_alloc hb _) _) hb2)
                  clear hb2
                  go_wp2_with fail
                  refine hK.out _ _ trivial (fun _ => ?_)
                  clear hK K
                  try simp only [Act.put, List.setIfInBounds_toArray, List.set_cons_zero, List.set_cons_succ]
                  refine wpAnyH_ready (rs := [22]) (by kernel_rfl) (by simp) ?_
                  refine AllReadyH.cons (o := ({ dst := (some 31), op := (Op.call { callee := (Callee.value (Operand.func 13)), args := #[(Operand.tmp 27), (Operand.tmp 30)], argTypes := #[22, 9] }), type := 22, pos := "law.go:35", after := #[{ on := 18, ground := Ground.data }, { on := 21, ground := Ground.data }, { on := 17, ground := Ground.chain }, { on := 12, ground := Ground.guard }], guard := (some (12, true)) } : Oper)) rfl (fun K hK => ?_) ?_
                  · go_simp
                    (with_reducible refine (hbx.out _).mono ?_)
                    rintro e w5 ⟨rfl, hb2⟩
                    (first | replace hb := bnext hb hb2 | replace hb := bnext (bl_alloc hb _) hb2 | replace hb := bnext (bl_alloc (bl_alloc hb _) _) hb2)
                    clear hb2
                    go_wp2_with fail
                    refine hK.out _ _ trivial (fun _ => ?_)
                    clear hK K
                    try simp only [Act.put, List.setIfInBounds_toArray, List.set_cons_zero, List.set_cons_succ]
                    refine wpAnyH_take (i := 23) (oi := ({ dst := (some 32), op := (Op.binOp BinOp.eql 22 (Operand.tmp 26) (Operand.tmp 31) 22), type := 4, pos := "law.go:35", after := #[{ on := 17, ground := Ground.data }, { on := 22, ground := Ground.data }, { on := 12, ground := Ground.guard }], guard := (some (12, true)) } : Oper)) (v := ?_) rfl (by kernel_rfl) (by kernel_rfl) (by kernel_rfl) (fun _ _ _ h => h) (Or.inl ⟨by rfl, ?_⟩) trivial ?_
                    rotate_left
                    · (intro w_ _; go_simp; try with_reducible rfl)
                    try simp only [Act.put, List.setIfInBounds_toArray, List.set_cons_zero, List.set_cons_succ]
                    refine wpAnyH_take (i := 27) (oi := ({ dst := (some 36), op := (Op.binOp BinOp.eql 4 (Operand.tmp 32) (Operand.tmp 35) 4), type := 4, pos := "law.go:35", after := #[{ on := 23, ground := Ground.data }, { on := 26, ground := Ground.data }, { on := 12, ground := Ground.guard }], guard := (some (12, true)) } : Oper)) (v := ?_) rfl (by kernel_rfl) (by kernel_rfl) (by kernel_rfl) (fun _ _ _ h => h) (Or.inl ⟨by rfl, ?_⟩) trivial ?_
                    rotate_left
                    · (intro w_ _; go_simp; try with_reducible rfl)
                    try simp only [Act.put, List.setIfInBounds_toArray, List.set_cons_zero, List.set_cons_succ]
                    refine wpAnyH_take (i := 28) (oi := ({ dst := (some 37), op := (Op.pick (Operand.tmp 21) (Operand.tmp 36) (Operand.const (Value.bool false))), type := 4, pos := "law.go:35", after := #[{ on := 12, ground := Ground.data }, { on := 27, ground := Ground.data }], guard := none } : Oper)) (v := ?_) rfl (by kernel_rfl) (by kernel_rfl) (by kernel_rfl) (fun _ _ _ h => h) (Or.inl ⟨by rfl, ?_⟩) trivial ?_
                    rotate_left
                    · (intro w_ _; go_simp; try with_reducible rfl)
                    try simp only [Act.put, List.setIfInBounds_toArray, List.set_cons_zero, List.set_cons_succ]
                    refine wpAnyH_take (i := 29) (oi := ({ dst := (some 38), op := (Op.move (Operand.tmp 37)), type := 4, pos := "law.go:35", after := #[{ on := 28, ground := Ground.data }, { on := 22, ground := Ground.chain }], guard := none } : Oper)) (v := ?_) rfl (by kernel_rfl) (by kernel_rfl) (by kernel_rfl) (fun _ _ _ h => h) (Or.inl ⟨by rfl, ?_⟩) trivial ?_
                    rotate_left
                    · (intro w_ _; go_simp; try with_reducible rfl)
                    try simp only [Act.put, List.setIfInBounds_toArray, List.set_cons_zero, List.set_cons_succ]
                    refine wpAnyH_take (i := 30) (oi := ({ dst := (some 39), op := (Op.move (Operand.tmp 0)), type := 22, pos := "law.go:35", after := #[{ on := 29, ground := Ground.guard }], guard := (some (29, true)) } : Oper)) (v := ?_) rfl (by kernel_rfl) (by kernel_rfl) (by kernel_rfl) (fun _ _ _ h => h) (Or.inl ⟨by rfl, ?_⟩) trivial ?_
                    rotate_left
                    · (intro w_ _; go_simp; try with_reducible rfl)
                    try simp only [Act.put, List.setIfInBounds_toArray, List.set_cons_zero, List.set_cons_succ]
                    refine wpAnyH_take (i := 32) (oi := ({ dst := (some 41), op := (Op.move (Operand.tmp 1)), type := 22, pos := "law.go:35", after := #[{ on := 29, ground := Ground.guard }], guard := (some (29, true)) } : Oper)) (v := ?_) rfl (by kernel_rfl) (by kernel_rfl) (by kernel_rfl) (fun _ _ _ h => h) (Or.inl ⟨by rfl, ?_⟩) trivial ?_
                    rotate_left
                    · (intro w_ _; go_simp; try with_reducible rfl)
                    try simp only [Act.put, List.setIfInBounds_toArray, List.set_cons_zero, List.set_cons_succ]
                    refine wpAnyH_take (i := 35) (oi := ({ dst := (some 44), op := (Op.move (Operand.tmp 0)), type := 22, pos := "law.go:35", after := #[{ on := 29, ground := Ground.guard }], guard := (some (29, true)) } : Oper)) (v := ?_) rfl (by kernel_rfl) (by kernel_rfl) (by kernel_rfl) (fun _ _ _ h => h) (Or.inl ⟨by rfl, ?_⟩) trivial ?_
                    rotate_left
                    · (intro w_ _; go_simp; try with_reducible rfl)
                    try simp only [Act.put, List.setIfInBounds_toArray, List.set_cons_zero, List.set_cons_succ]
                    refine wpAnyH_take (i := 36) (oi := ({ dst := (some 45), op := (Op.move (Operand.tmp 1)), type := 22, pos := "law.go:35", after := #[{ on := 29, ground := Ground.guard }], guard := (some (29, true)) } : Oper)) (v := ?_) rfl (by kernel_rfl) (by kernel_rfl) (by kernel_rfl) (fun _ _ _ h => h) (Or.inl ⟨by rfl, ?_⟩) trivial ?_
                    rotate_left
                    · (intro w_ _; go_simp; try with_reducible rfl)
                    try simp only [Act.put, List.setIfInBounds_toArray, List.set_cons_zero, List.set_cons_succ]
                    refine wpAnyH_take (i := 37) (oi := ({ dst := (some 46), op := (Op.binOp BinOp.eql 22 (Operand.tmp 44) (Operand.tmp 45) 22), type := 4, pos := "law.go:35", after := #[{ on := 35, ground := Ground.data }, { on := 36, ground := Ground.data }, { on := 29, ground := Ground.guard }], guard := (some (29, true)) } : Oper)) (v := ?_) rfl (by kernel_rfl) (by kernel_rfl) (by kernel_rfl) (fun _ _ _ h => h) (Or.inl ⟨by rfl, ?_⟩) trivial ?_
                    rotate_left
                    · (intro w_ _; go_simp; try with_reducible rfl)
                    try simp only [Act.put, List.setIfInBounds_toArray, List.set_cons_zero, List.set_cons_succ]
                    refine wpAnyH_ready (rs := [31]) (by kernel_rfl) (by simp) ?_
                    refine AllReadyH.cons (o := ({ dst := (some 40), op := (Op.call { callee := (Callee.value (Operand.func 13)), args := #[(Operand.tmp 39), (Operand.const (Value.string { data := #[] }))], argTypes := #[22, 9] }), type := 22, pos := "law.go:35", after := #[{ on := 30, ground := Ground.data }, { on := 29, ground := Ground.chain }, { on := 29, ground := Ground.guard }], guard := (some (29, true)) } : Oper)) rfl (fun K hK => ?_) ?_
                    · go_simp
                      (with_reducible refine (hnx.out _).mono ?_)
                      rintro e w6 ⟨rfl, hb2⟩
                      (first | replace hb := bnext hb hb2 | replace hb := bnext (bl_alloc hb _) hb2 | replace hb := bnext (bl_alloc (bl_alloc hb _) _) hb2)
                      clear hb2
                      go_wp2_with fail
                      refine hK.out _ _ trivial (fun _ => ?_)
                      clear hK K
                      try simp only [Act.put, List.setIfInBounds_toArray, List.set_cons_zero, List.set_cons_succ]
                      refine wpAnyH_ready (rs := [33]) (by kernel_rfl) (by simp) ?_
                      refine AllReadyH.cons (o := ({ dst := (some 42), op := (Op.call { callee := (Callee.value (Operand.func 13)), args := #[(Operand.tmp 41), (Operand.const (Value.string { data := #[] }))], argTypes := #[22, 9] }), type := 22, pos := "law.go:35", after := #[{ on := 32, ground := Ground.data }, { on := 31, ground := Ground.chain }, { on := 29, ground := Ground.guard }], guard := (some (29, true)) } : Oper)) rfl (fun K hK => ?_) ?_
                      · go_simp
                        (with_reducible refine (hny.out _).mono ?_)
                        rintro e w7 ⟨rfl, hb2⟩
                        (first | replace hb := bnext hb hb2 | replace hb := bnext (bl_alloc hb _) hb2 | replace hb := bnext (bl_alloc (bl_alloc hb _) _) hb2)
                        clear hb2
                        go_wp2_with fail
                        refine hK.out _ _ trivial (fun _ => ?_)
                        clear hK K
                        try simp only [Act.put, List.setIfInBounds_toArray, List.set_cons_zero, List.set_cons_succ]
                        refine wpAnyH_take (i := 34) (oi := ({ dst := (some 43), op := (Op.binOp BinOp.eql 22 (Operand.tmp 40) (Operand.tmp 42) 22), type := 4, pos := "law.go:35", after := #[{ on := 31, ground := Ground.data }, { on := 33, ground := Ground.data }, { on := 29, ground := Ground.guard }], guard := (some (29, true)) } : Oper)) (v := ?_) rfl (by kernel_rfl) (by kernel_rfl) (by kernel_rfl) (fun _ _ _ h => h) (Or.inl ⟨by rfl, ?_⟩) trivial ?_
                        rotate_left
                        · (intro w_ _; go_simp; try with_reducible rfl)
                        try simp only [Act.put, List.setIfInBounds_toArray, List.set_cons_zero, List.set_cons_succ]
                        refine wpAnyH_take (i := 38) (oi := ({ dst := (some 47), op := (Op.binOp BinOp.eql 4 (Operand.tmp 43) (Operand.tmp 46) 4), type := 4, pos := "law.go:35", after := #[{ on := 34, ground := Ground.data }, { on := 37, ground := Ground.data }, { on := 29, ground := Ground.guard }], guard := (some (29, true)) } : Oper)) (v := ?_) rfl (by kernel_rfl) (by kernel_rfl) (by kernel_rfl) (fun _ _ _ h => h) (Or.inl ⟨by rfl, ?_⟩) trivial ?_
                        rotate_left
                        · (intro w_ _; go_simp; try with_reducible rfl)
                        try simp only [Act.put, List.setIfInBounds_toArray, List.set_cons_zero, List.set_cons_succ]
                        refine wpAnyH_take (i := 39) (oi := ({ dst := (some 48), op := (Op.pick (Operand.tmp 38) (Operand.tmp 47) (Operand.const (Value.bool false))), type := 4, pos := "law.go:35", after := #[{ on := 29, ground := Ground.data }, { on := 38, ground := Ground.data }], guard := none } : Oper)) (v := ?_) rfl (by kernel_rfl) (by kernel_rfl) (by kernel_rfl) (fun _ _ _ h => h) (Or.inl ⟨by rfl, ?_⟩) trivial ?_
                        rotate_left
                        · (intro w_ _; go_simp; try with_reducible rfl)
                        try simp only [Act.put, List.setIfInBounds_toArray, List.set_cons_zero, List.set_cons_succ]
                        refine wpAnyH_take (i := 40) (oi := ({ dst := (some 8), op := (Op.assign (Operand.tmp 48)), type := 4, pos := "law.go:35", after := #[{ on := 39, ground := Ground.data }, { on := 33, ground := Ground.chain }, { on := 0, ground := Ground.phase }, { on := 1, ground := Ground.phase }, { on := 2, ground := Ground.phase }, { on := 3, ground := Ground.phase }, { on := 4, ground := Ground.phase }, { on := 5, ground := Ground.phase }, { on := 6, ground := Ground.phase }, { on := 7, ground := Ground.phase }, { on := 8, ground := Ground.phase }, { on := 9, ground := Ground.phase }, { on := 10, ground := Ground.phase }, { on := 11, ground := Ground.phase }, { on := 12, ground := Ground.phase }, { on := 13, ground := Ground.phase }, { on := 14, ground := Ground.phase }, { on := 15, ground := Ground.phase }, { on := 16, ground := Ground.phase }, { on := 17, ground := Ground.phase }, { on := 18, ground := Ground.phase }, { on := 19, ground := Ground.phase }, { on := 20, ground := Ground.phase }, { on := 21, ground := Ground.phase }, { on := 22, ground := Ground.phase }, { on := 23, ground := Ground.phase }, { on := 24, ground := Ground.phase }, { on := 25, ground := Ground.phase }, { on := 26, ground := Ground.phase }, { on := 27, ground := Ground.phase }, { on := 28, ground := Ground.phase }, { on := 29, ground := Ground.phase }, { on := 30, ground := Ground.phase }, { on := 31, ground := Ground.phase }, { on := 32, ground := Ground.phase }, { on := 33, ground := Ground.phase }, { on := 34, ground := Ground.phase }, { on := 35, ground := Ground.phase }, { on := 36, ground := Ground.phase }, { on := 37, ground := Ground.phase }, { on := 38, ground := Ground.phase }, { on := 39, ground := Ground.phase }], guard := none } : Oper)) (v := ?_) rfl (by kernel_rfl) (by kernel_rfl) (by kernel_rfl) (fun _ _ _ h => h) (Or.inl ⟨by rfl, ?_⟩) trivial ?_
                        rotate_left
                        · (intro w_ _; go_simp; try with_reducible rfl)
                        try simp only [Act.put, List.setIfInBounds_toArray, List.set_cons_zero, List.set_cons_succ]
                        refine wpAnyH_done (by kernel_rfl) ?_ _
                        refine NoPanic.normal ?_
                        go_wp2
                        go_ret
                        exact ⟨rfl, hb⟩
                      exact AllReadyH.nil
                    exact AllReadyH.nil
                  exact AllReadyH.nil
                exact AllReadyH.nil
              exact AllReadyH.nil
            refine AllReadyH.cons (o := ({ dst := (some 30), op := (Op.convert 31 9 (Operand.tmp 29)), type := 9, pos := "law.go:35", after := #[{ on := 20, ground := Ground.data }, { on := 12, ground := Ground.guard }], guard := (some (12, true)) } : Oper)) rfl (fun K hK => ?_) ?_
            · go_simp
              refine hK.out _ _ trivial (fun _ => ?_)
              clear hK K
              try simp only [Act.put, List.setIfInBounds_toArray, List.set_cons_zero, List.set_cons_succ]
              refine wpAnyH_ready (rs := [16]) (by kernel_rfl) (by simp) ?_
              refine AllReadyH.cons (o := ({ dst := (some 25), op := (Op.convert 31 9 (Operand.tmp 24)), type := 9, pos := "law.go:35", after := #[{ on := 15, ground := Ground.data }, { on := 12, ground := Ground.guard }], guard := (some (12, true)) } : Oper)) rfl (fun K hK => ?_) ?_
              · go_simp
                refine hK.out _ _ trivial (fun _ => ?_)
                clear hK K
                try simp only [Act.put, List.setIfInBounds_toArray, List.set_cons_zero, List.set_cons_succ]
                refine wpAnyH_ready (rs := [17]) (by kernel_rfl) (by simp) ?_
                refine AllReadyH.cons (o := ({ dst := (some 26), op := (Op.call { callee := (Callee.value (Operand.func 13)), args := #[(Operand.tmp 22), (Operand.tmp 25)], argTypes := #[22, 9] }), type := 22, pos := "law.go:35", after := #[{ on := 13, ground := Ground.data }, { on := 16, ground := Ground.data }, { on := 12, ground := Ground.chain }, { on := 12, ground := Ground.guard }], guard := (some (12, true)) } : Oper)) rfl (fun K hK => ?_) ?_
                · go_simp
                  (with_reducible refine (hax.out _).mono ?_)
                  rintro e w4 ⟨rfl, hb2⟩
                  have hc4 := (bcell hb2).1
                  (first | replace hb := bnext hb hb2 | replace hb := bnext (bl_alloc hb _) hb2 | replace hb := bnext (bl_alloc (bl_alloc hb _) _) hb2)
                  clear hb2
                  go_wp2_with fail
                  refine hK.out _ _ trivial (fun _ => ?_)
                  clear hK K
                  try simp only [Act.put, List.setIfInBounds_toArray, List.set_cons_zero, List.set_cons_succ]
                  refine wpAnyH_ready (rs := [22]) (by kernel_rfl) (by simp) ?_
                  refine AllReadyH.cons (o := ({ dst := (some 31), op := (Op.call { callee := (Callee.value (Operand.func 13)), args := #[(Operand.tmp 27), (Operand.tmp 30)], argTypes := #[22, 9] }), type := 22, pos := "law.go:35", after := #[{ on := 18, ground := Ground.data }, { on := 21, ground := Ground.data }, { on := 17, ground := Ground.chain }, { on := 12, ground := Ground.guard }], guard := (some (12, true)) } : Oper)) rfl (fun K hK => ?_) ?_
                  · go_simp
                    (with_reducible refine (hbx.out _).mono ?_)
                    rintro e w5 ⟨rfl, hb2⟩
                    (first | replace hb := bnext hb hb2 | replace hb := bnext (bl_alloc hb _) hb2 | replace hb := bnext (bl_alloc (bl_alloc hb _) _) hb2)
                    clear hb2
                    go_wp2_with fail
                    refine hK.out _ _ trivial (fun _ => ?_)
                    clear hK K
                    try simp only [Act.put, List.setIfInBounds_toArray, List.set_cons_zero, List.set_cons_succ]
                    refine wpAnyH_take (i := 23) (oi := ({ dst := (some 32), op := (Op.binOp BinOp.eql 22 (Operand.tmp 26) (Operand.tmp 31) 22), type := 4, pos := "law.go:35", after := #[{ on := 17, ground := Ground.data }, { on := 22, ground := Ground.data }, { on := 12, ground := Ground.guard }], guard := (some (12, true)) } : Oper)) (v := ?_) rfl (by kernel_rfl) (by kernel_rfl) (by kernel_rfl) (fun _ _ _ h => h) (Or.inl ⟨by rfl, ?_⟩) trivial ?_
                    rotate_left
                    · (intro w_ _; go_simp; try with_reducible rfl)
                    try simp only [Act.put, List.setIfInBounds_toArray, List.set_cons_zero, List.set_cons_succ]
                    refine wpAnyH_take (i := 27) (oi := ({ dst := (some 36), op := (Op.binOp BinOp.eql 4 (Operand.tmp 32) (Operand.tmp 35) 4), type := 4, pos := "law.go:35", after := #[{ on := 23, ground := Ground.data }, { on := 26, ground := Ground.data }, { on := 12, ground := Ground.guard }], guard := (some (12, true)) } : Oper)) (v := ?_) rfl (by kernel_rfl) (by kernel_rfl) (by kernel_rfl) (fun _ _ _ h => h) (Or.inl ⟨by rfl, ?_⟩) trivial ?_
                    rotate_left
                    · (intro w_ _; go_simp; try with_reducible rfl)
                    try simp only [Act.put, List.setIfInBounds_toArray, List.set_cons_zero, List.set_cons_succ]
                    refine wpAnyH_take (i := 28) (oi := ({ dst := (some 37), op := (Op.pick (Operand.tmp 21) (Operand.tmp 36) (Operand.const (Value.bool false))), type := 4, pos := "law.go:35", after := #[{ on := 12, ground := Ground.data }, { on := 27, ground := Ground.data }], guard := none } : Oper)) (v := ?_) rfl (by kernel_rfl) (by kernel_rfl) (by kernel_rfl) (fun _ _ _ h => h) (Or.inl ⟨by rfl, ?_⟩) trivial ?_
                    rotate_left
                    · (intro w_ _; go_simp; try with_reducible rfl)
                    try simp only [Act.put, List.setIfInBounds_toArray, List.set_cons_zero, List.set_cons_succ]
                    refine wpAnyH_take (i := 29) (oi := ({ dst := (some 38), op := (Op.move (Operand.tmp 37)), type := 4, pos := "law.go:35", after := #[{ on := 28, ground := Ground.data }, { on := 22, ground := Ground.chain }], guard := none } : Oper)) (v := ?_) rfl (by kernel_rfl) (by kernel_rfl) (by kernel_rfl) (fun _ _ _ h => h) (Or.inl ⟨by rfl, ?_⟩) trivial ?_
                    rotate_left
                    · (intro w_ _; go_simp; try with_reducible rfl)
                    try simp only [Act.put, List.setIfInBounds_toArray, List.set_cons_zero, List.set_cons_succ]
                    refine wpAnyH_take (i := 30) (oi := ({ dst := (some 39), op := (Op.move (Operand.tmp 0)), type := 22, pos := "law.go:35", after := #[{ on := 29, ground := Ground.guard }], guard := (some (29, true)) } : Oper)) (v := ?_) rfl (by kernel_rfl) (by kernel_rfl) (by kernel_rfl) (fun _ _ _ h => h) (Or.inl ⟨by rfl, ?_⟩) trivial ?_
                    rotate_left
                    · (intro w_ _; go_simp; try with_reducible rfl)
                    try simp only [Act.put, List.setIfInBounds_toArray, List.set_cons_zero, List.set_cons_succ]
                    refine wpAnyH_take (i := 32) (oi := ({ dst := (some 41), op := (Op.move (Operand.tmp 1)), type := 22, pos := "law.go:35", after := #[{ on := 29, ground := Ground.guard }], guard := (some (29, true)) } : Oper)) (v := ?_) rfl (by kernel_rfl) (by kernel_rfl) (by kernel_rfl) (fun _ _ _ h => h) (Or.inl ⟨by rfl, ?_⟩) trivial ?_
                    rotate_left
                    · (intro w_ _; go_simp; try with_reducible rfl)
                    try simp only [Act.put, List.setIfInBounds_toArray, List.set_cons_zero, List.set_cons_succ]
                    refine wpAnyH_take (i := 35) (oi := ({ dst := (some 44), op := (Op.move (Operand.tmp 0)), type := 22, pos := "law.go:35", after := #[{ on := 29, ground := Ground.guard }], guard := (some (29, true)) } : Oper)) (v := ?_) rfl (by kernel_rfl) (by kernel_rfl) (by kernel_rfl) (fun _ _ _ h => h) (Or.inl ⟨by rfl, ?_⟩) trivial ?_
                    rotate_left
                    · (intro w_ _; go_simp; try with_reducible rfl)
                    try simp only [Act.put, List.setIfInBounds_toArray, List.set_cons_zero, List.set_cons_succ]
                    refine wpAnyH_take (i := 36) (oi := ({ dst := (some 45), op := (Op.move (Operand.tmp 1)), type := 22, pos := "law.go:35", after := #[{ on := 29, ground := Ground.guard }], guard := (some (29, true)) } : Oper)) (v := ?_) rfl (by kernel_rfl) (by kernel_rfl) (by kernel_rfl) (fun _ _ _ h => h) (Or.inl ⟨by rfl, ?_⟩) trivial ?_
                    rotate_left
                    · (intro w_ _; go_simp; try with_reducible rfl)
                    try simp only [Act.put, List.setIfInBounds_toArray, List.set_cons_zero, List.set_cons_succ]
                    refine wpAnyH_take (i := 37) (oi := ({ dst := (some 46), op := (Op.binOp BinOp.eql 22 (Operand.tmp 44) (Operand.tmp 45) 22), type := 4, pos := "law.go:35", after := #[{ on := 35, ground := Ground.data }, { on := 36, ground := Ground.data }, { on := 29, ground := Ground.guard }], guard := (some (29, true)) } : Oper)) (v := ?_) rfl (by kernel_rfl) (by kernel_rfl) (by kernel_rfl) (fun _ _ _ h => h) (Or.inl ⟨by rfl, ?_⟩) trivial ?_
                    rotate_left
                    · (intro w_ _; go_simp; try with_reducible rfl)
                    try simp only [Act.put, List.setIfInBounds_toArray, List.set_cons_zero, List.set_cons_succ]
                    refine wpAnyH_ready (rs := [31]) (by kernel_rfl) (by simp) ?_
                    refine AllReadyH.cons (o := ({ dst := (some 40), op := (Op.call { callee := (Callee.value (Operand.func 13)), args := #[(Operand.tmp 39), (Operand.const (Value.string { data := #[] }))], argTypes := #[22, 9] }), type := 22, pos := "law.go:35", after := #[{ on := 30, ground := Ground.data }, { on := 29, ground := Ground.chain }, { on := 29, ground := Ground.guard }], guard := (some (29, true)) } : Oper)) rfl (fun K hK => ?_) ?_
                    · go_simp
                      (with_reducible refine (hnx.out _).mono ?_)
                      rintro e w6 ⟨rfl, hb2⟩
                      (first | replace hb := bnext hb hb2 | replace hb := bnext (bl_alloc hb _) hb2 | replace hb := bnext (bl_alloc (bl_alloc hb _) _) hb2)
                      clear hb2
                      go_wp2_with fail
                      refine hK.out _ _ trivial (fun _ => ?_)
                      clear hK K
                      try simp only [Act.put, List.setIfInBounds_toArray, List.set_cons_zero, List.set_cons_succ]
                      refine wpAnyH_ready (rs := [33]) (by kernel_rfl) (by simp) ?_
                      refine AllReadyH.cons (o := ({ dst := (some 42), op := (Op.call { callee := (Callee.value (Operand.func 13)), args := #[(Operand.tmp 41), (Operand.const (Value.string { data := #[] }))], argTypes := #[22, 9] }), type := 22, pos := "law.go:35", after := #[{ on := 32, ground := Ground.data }, { on := 31, ground := Ground.chain }, { on := 29, ground := Ground.guard }], guard := (some (29, true)) } : Oper)) rfl (fun K hK => ?_) ?_
                      · go_simp
                        (with_reducible refine (hny.out _).mono ?_)
                        rintro e w7 ⟨rfl, hb2⟩
                        (first | replace hb := bnext hb hb2 | replace hb := bnext (bl_alloc hb _) hb2 | replace hb := bnext (bl_alloc (bl_alloc hb _) _) hb2)
                        clear hb2
                        go_wp2_with fail
                        refine hK.out _ _ trivial (fun _ => ?_)
                        clear hK K
                        try simp only [Act.put, List.setIfInBounds_toArray, List.set_cons_zero, List.set_cons_succ]
                        refine wpAnyH_take (i := 34) (oi := ({ dst := (some 43), op := (Op.binOp BinOp.eql 22 (Operand.tmp 40) (Operand.tmp 42) 22), type := 4, pos := "law.go:35", after := #[{ on := 31, ground := Ground.data }, { on := 33, ground := Ground.data }, { on := 29, ground := Ground.guard }], guard := (some (29, true)) } : Oper)) (v := ?_) rfl (by kernel_rfl) (by kernel_rfl) (by kernel_rfl) (fun _ _ _ h => h) (Or.inl ⟨by rfl, ?_⟩) trivial ?_
                        rotate_left
                        · (intro w_ _; go_simp; try with_reducible rfl)
                        try simp only [Act.put, List.setIfInBounds_toArray, List.set_cons_zero, List.set_cons_succ]
                        refine wpAnyH_take (i := 38) (oi := ({ dst := (some 47), op := (Op.binOp BinOp.eql 4 (Operand.tmp 43) (Operand.tmp 46) 4), type := 4, pos := "law.go:35", after := #[{ on := 34, ground := Ground.data }, { on := 37, ground := Ground.data }, { on := 29, ground := Ground.guard }], guard := (some (29, true)) } : Oper)) (v := ?_) rfl (by kernel_rfl) (by kernel_rfl) (by kernel_rfl) (fun _ _ _ h => h) (Or.inl ⟨by rfl, ?_⟩) trivial ?_
                        rotate_left
                        · (intro w_ _; go_simp; try with_reducible rfl)
                        try simp only [Act.put, List.setIfInBounds_toArray, List.set_cons_zero, List.set_cons_succ]
                        refine wpAnyH_take (i := 39) (oi := ({ dst := (some 48), op := (Op.pick (Operand.tmp 38) (Operand.tmp 47) (Operand.const (Value.bool false))), type := 4, pos := "law.go:35", after := #[{ on := 29, ground := Ground.data }, { on := 38, ground := Ground.data }], guard := none } : Oper)) (v := ?_) rfl (by kernel_rfl) (by kernel_rfl) (by kernel_rfl) (fun _ _ _ h => h) (Or.inl ⟨by rfl, ?_⟩) trivial ?_
                        rotate_left
                        · (intro w_ _; go_simp; try with_reducible rfl)
                        try simp only [Act.put, List.setIfInBounds_toArray, List.set_cons_zero, List.set_cons_succ]
                        refine wpAnyH_take (i := 40) (oi := ({ dst := (some 8), op := (Op.assign (Operand.tmp 48)), type := 4, pos := "law.go:35", after := #[{ on := 39, ground := Ground.data }, { on := 33, ground := Ground.chain }, { on := 0, ground := Ground.phase }, { on := 1, ground := Ground.phase }, { on := 2, ground := Ground.phase }, { on := 3, ground := Ground.phase }, { on := 4, ground := Ground.phase }, { on := 5, ground := Ground.phase }, { on := 6, ground := Ground.phase }, { on := 7, ground := Ground.phase }, { on := 8, ground := Ground.phase }, { on := 9, ground := Ground.phase }, { on := 10, ground := Ground.phase }, { on := 11, ground := Ground.phase }, { on := 12, ground := Ground.phase }, { on := 13, ground := Ground.phase }, { on := 14, ground := Ground.phase }, { on := 15, ground := Ground.phase }, { on := 16, ground := Ground.phase }, { on := 17, ground := Ground.phase }, { on := 18, ground := Ground.phase }, { on := 19, ground := Ground.phase }, { on := 20, ground := Ground.phase }, { on := 21, ground := Ground.phase }, { on := 22, ground := Ground.phase }, { on := 23, ground := Ground.phase }, { on := 24, ground := Ground.phase }, { on := 25, ground := Ground.phase }, { on := 26, ground := Ground.phase }, { on := 27, ground := Ground.phase }, { on := 28, ground := Ground.phase }, { on := 29, ground := Ground.phase }, { on := 30, ground := Ground.phase }, { on := 31, ground := Ground.phase }, { on := 32, ground := Ground.phase }, { on := 33, ground := Ground.phase }, { on := 34, ground := Ground.phase }, { on := 35, ground := Ground.phase }, { on := 36, ground := Ground.phase }, { on := 37, ground := Ground.phase }, { on := 38, ground := Ground.phase }, { on := 39, ground := Ground.phase }], guard := none } : Oper)) (v := ?_) rfl (by kernel_rfl) (by kernel_rfl) (by kernel_rfl) (fun _ _ _ h => h) (Or.inl ⟨by rfl, ?_⟩) trivial ?_
                        rotate_left
                        · (intro w_ _; go_simp; try with_reducible rfl)
                        try simp only [Act.put, List.setIfInBounds_toArray, List.set_cons_zero, List.set_cons_succ]
                        refine wpAnyH_done (by kernel_rfl) ?_ _
                        refine NoPanic.normal ?_
                        go_wp2
                        go_ret
                        exact ⟨rfl, hb⟩
                      exact AllReadyH.nil
                    exact AllReadyH.nil
                  exact AllReadyH.nil
                exact AllReadyH.nil
              exact AllReadyH.nil
            exact AllReadyH.nil
          refine AllReadyH.cons (o := ({ dst := (some 30), op := (Op.convert 31 9 (Operand.tmp 29)), type := 9, pos := "law.go:35", after := #[{ on := 20, ground := Ground.data }, { on := 12, ground := Ground.guard }], guard := (some (12, true)) } : Oper)) rfl (fun K hK => ?_) ?_
          · go_simp
            refine hK.out _ _ trivial (fun _ => ?_)
            clear hK K
            try simp only [Act.put, List.setIfInBounds_toArray, List.set_cons_zero, List.set_cons_succ]
            refine wpAnyH_ready (rs := [15]) (by kernel_rfl) (by simp) ?_
            refine AllReadyH.cons (o := ({ dst := (some 24), op := (Op.buildSlice 31 1 #[(0, (Operand.tmp 23))]), type := 31, pos := "law.go:35", after := #[{ on := 14, ground := Ground.data }, { on := 12, ground := Ground.guard }], guard := (some (12, true)) } : Oper)) rfl (fun K hK => ?_) ?_
            · go_simp
              refine hK.out _ _ trivial (fun _ => ?_)
              clear hK K
              try simp only [Act.put, List.setIfInBounds_toArray, List.set_cons_zero, List.set_cons_succ]
              refine wpAnyH_ready (rs := [16]) (by kernel_rfl) (by simp) ?_
              refine AllReadyH.cons (o := ({ dst := (some 25), op := (Op.convert 31 9 (Operand.tmp 24)), type := 9, pos := "law.go:35", after := #[{ on := 15, ground := Ground.data }, { on := 12, ground := Ground.guard }], guard := (some (12, true)) } : Oper)) rfl (fun K hK => ?_) ?_
              · go_simp
                refine hK.out _ _ trivial (fun _ => ?_)
                clear hK K
                try simp only [Act.put, List.setIfInBounds_toArray, List.set_cons_zero, List.set_cons_succ]
                refine wpAnyH_ready (rs := [17]) (by kernel_rfl) (by simp) ?_
                refine AllReadyH.cons (o := ({ dst := (some 26), op := (Op.call { callee := (Callee.value (Operand.func 13)), args := #[(Operand.tmp 22), (Operand.tmp 25)], argTypes := #[22, 9] }), type := 22, pos := "law.go:35", after := #[{ on := 13, ground := Ground.data }, { on := 16, ground := Ground.data }, { on := 12, ground := Ground.chain }, { on := 12, ground := Ground.guard }], guard := (some (12, true)) } : Oper)) rfl (fun K hK => ?_) ?_
                · go_simp
                  (with_reducible refine (hax.out _).mono ?_)
                  rintro e w4 ⟨rfl, hb2⟩
                  have hc4 := (bcell hb2).1
                  (first | replace hb := bnext hb hb2 | replace hb := bnext (bl_alloc hb _) hb2 | replace hb := bnext (bl_alloc (bl_alloc hb _) _) hb2)
                  clear hb2
                  go_wp2_with fail
                  refine hK.out _ _ trivial (fun _ => ?_)
                  clear hK K
                  try simp only [Act.put, List.setIfInBounds_toArray, List.set_cons_zero, List.set_cons_succ]
                  refine wpAnyH_ready (rs := [22]) (by kernel_rfl) (by simp) ?_
                  refine AllReadyH.cons (o := ({ dst := (some 31), op := (Op.call { callee := (Callee.value (Operand.func 13)), args := #[(Operand.tmp 27), (Operand.tmp 30)], argTypes := #[22, 9] }), type := 22, pos := "law.go:35", after := #[{ on := 18, ground := Ground.data }, { on := 21, ground := Ground.data }, { on := 17, ground := Ground.chain }, { on := 12, ground := Ground.guard }], guard := (some (12, true)) } : Oper)) rfl (fun K hK => ?_) ?_
                  · go_simp
                    (with_reducible refine (hbx.out _).mono ?_)
                    rintro e w5 ⟨rfl, hb2⟩
                    (first | replace hb := bnext hb hb2 | replace hb := bnext (bl_alloc hb _) hb2 | replace hb := bnext (bl_alloc (bl_alloc hb _) _) hb2)
                    clear hb2
                    go_wp2_with fail
                    refine hK.out _ _ trivial (fun _ => ?_)
                    clear hK K
                    try simp only [Act.put, List.setIfInBounds_toArray, List.set_cons_zero, List.set_cons_succ]
                    refine wpAnyH_take (i := 23) (oi := ({ dst := (some 32), op := (Op.binOp BinOp.eql 22 (Operand.tmp 26) (Operand.tmp 31) 22), type := 4, pos := "law.go:35", after := #[{ on := 17, ground := Ground.data }, { on := 22, ground := Ground.data }, { on := 12, ground := Ground.guard }], guard := (some (12, true)) } : Oper)) (v := ?_) rfl (by kernel_rfl) (by kernel_rfl) (by kernel_rfl) (fun _ _ _ h => h) (Or.inl ⟨by rfl, ?_⟩) trivial ?_
                    rotate_left
                    · (intro w_ _; go_simp; try with_reducible rfl)
                    try simp only [Act.put, List.setIfInBounds_toArray, List.set_cons_zero, List.set_cons_succ]
                    refine wpAnyH_take (i := 27) (oi := ({ dst := (some 36), op := (Op.binOp BinOp.eql 4 (Operand.tmp 32) (Operand.tmp 35) 4), type := 4, pos := "law.go:35", after := #[{ on := 23, ground := Ground.data }, { on := 26, ground := Ground.data }, { on := 12, ground := Ground.guard }], guard := (some (12, true)) } : Oper)) (v := ?_) rfl (by kernel_rfl) (by kernel_rfl) (by kernel_rfl) (fun _ _ _ h => h) (Or.inl ⟨by rfl, ?_⟩) trivial ?_
                    rotate_left
                    · (intro w_ _; go_simp; try with_reducible rfl)
                    try simp only [Act.put, List.setIfInBounds_toArray, List.set_cons_zero, List.set_cons_succ]
                    refine wpAnyH_take (i := 28) (oi := ({ dst := (some 37), op := (Op.pick (Operand.tmp 21) (Operand.tmp 36) (Operand.const (Value.bool false))), type := 4, pos := "law.go:35", after := #[{ on := 12, ground := Ground.data }, { on := 27, ground := Ground.data }], guard := none } : Oper)) (v := ?_) rfl (by kernel_rfl) (by kernel_rfl) (by kernel_rfl) (fun _ _ _ h => h) (Or.inl ⟨by rfl, ?_⟩) trivial ?_
                    rotate_left
                    · (intro w_ _; go_simp; try with_reducible rfl)
                    try simp only [Act.put, List.setIfInBounds_toArray, List.set_cons_zero, List.set_cons_succ]
                    refine wpAnyH_take (i := 29) (oi := ({ dst := (some 38), op := (Op.move (Operand.tmp 37)), type := 4, pos := "law.go:35", after := #[{ on := 28, ground := Ground.data }, { on := 22, ground := Ground.chain }], guard := none } : Oper)) (v := ?_) rfl (by kernel_rfl) (by kernel_rfl) (by kernel_rfl) (fun _ _ _ h => h) (Or.inl ⟨by rfl, ?_⟩) trivial ?_
                    rotate_left
                    · (intro w_ _; go_simp; try with_reducible rfl)
                    try simp only [Act.put, List.setIfInBounds_toArray, List.set_cons_zero, List.set_cons_succ]
                    refine wpAnyH_take (i := 30) (oi := ({ dst := (some 39), op := (Op.move (Operand.tmp 0)), type := 22, pos := "law.go:35", after := #[{ on := 29, ground := Ground.guard }], guard := (some (29, true)) } : Oper)) (v := ?_) rfl (by kernel_rfl) (by kernel_rfl) (by kernel_rfl) (fun _ _ _ h => h) (Or.inl ⟨by rfl, ?_⟩) trivial ?_
                    rotate_left
                    · (intro w_ _; go_simp; try with_reducible rfl)
                    try simp only [Act.put, List.setIfInBounds_toArray, List.set_cons_zero, List.set_cons_succ]
                    refine wpAnyH_take (i := 32) (oi := ({ dst := (some 41), op := (Op.move (Operand.tmp 1)), type := 22, pos := "law.go:35", after := #[{ on := 29, ground := Ground.guard }], guard := (some (29, true)) } : Oper)) (v := ?_) rfl (by kernel_rfl) (by kernel_rfl) (by kernel_rfl) (fun _ _ _ h => h) (Or.inl ⟨by rfl, ?_⟩) trivial ?_
                    rotate_left
                    · (intro w_ _; go_simp; try with_reducible rfl)
                    try simp only [Act.put, List.setIfInBounds_toArray, List.set_cons_zero, List.set_cons_succ]
                    refine wpAnyH_take (i := 35) (oi := ({ dst := (some 44), op := (Op.move (Operand.tmp 0)), type := 22, pos := "law.go:35", after := #[{ on := 29, ground := Ground.guard }], guard := (some (29, true)) } : Oper)) (v := ?_) rfl (by kernel_rfl) (by kernel_rfl) (by kernel_rfl) (fun _ _ _ h => h) (Or.inl ⟨by rfl, ?_⟩) trivial ?_
                    rotate_left
                    · (intro w_ _; go_simp; try with_reducible rfl)
                    try simp only [Act.put, List.setIfInBounds_toArray, List.set_cons_zero, List.set_cons_succ]
                    refine wpAnyH_take (i := 36) (oi := ({ dst := (some 45), op := (Op.move (Operand.tmp 1)), type := 22, pos := "law.go:35", after := #[{ on := 29, ground := Ground.guard }], guard := (some (29, true)) } : Oper)) (v := ?_) rfl (by kernel_rfl) (by kernel_rfl) (by kernel_rfl) (fun _ _ _ h => h) (Or.inl ⟨by rfl, ?_⟩) trivial ?_
                    rotate_left
                    · (intro w_ _; go_simp; try with_reducible rfl)
                    try simp only [Act.put, List.setIfInBounds_toArray, List.set_cons_zero, List.set_cons_succ]
                    refine wpAnyH_take (i := 37) (oi := ({ dst := (some 46), op := (Op.binOp BinOp.eql 22 (Operand.tmp 44) (Operand.tmp 45) 22), type := 4, pos := "law.go:35", after := #[{ on := 35, ground := Ground.data }, { on := 36, ground := Ground.data }, { on := 29, ground := Ground.guard }], guard := (some (29, true)) } : Oper)) (v := ?_) rfl (by kernel_rfl) (by kernel_rfl) (by kernel_rfl) (fun _ _ _ h => h) (Or.inl ⟨by rfl, ?_⟩) trivial ?_
                    rotate_left
                    · (intro w_ _; go_simp; try with_reducible rfl)
                    try simp only [Act.put, List.setIfInBounds_toArray, List.set_cons_zero, List.set_cons_succ]
                    refine wpAnyH_ready (rs := [31]) (by kernel_rfl) (by simp) ?_
                    refine AllReadyH.cons (o := ({ dst := (some 40), op := (Op.call { callee := (Callee.value (Operand.func 13)), args := #[(Operand.tmp 39), (Operand.const (Value.string { data := #[] }))], argTypes := #[22, 9] }), type := 22, pos := "law.go:35", after := #[{ on := 30, ground := Ground.data }, { on := 29, ground := Ground.chain }, { on := 29, ground := Ground.guard }], guard := (some (29, true)) } : Oper)) rfl (fun K hK => ?_) ?_
                    · go_simp
                      (with_reducible refine (hnx.out _).mono ?_)
                      rintro e w6 ⟨rfl, hb2⟩
                      (first | replace hb := bnext hb hb2 | replace hb := bnext (bl_alloc hb _) hb2 | replace hb := bnext (bl_alloc (bl_alloc hb _) _) hb2)
                      clear hb2
                      go_wp2_with fail
                      refine hK.out _ _ trivial (fun _ => ?_)
                      clear hK K
                      try simp only [Act.put, List.setIfInBounds_toArray, List.set_cons_zero, List.set_cons_succ]
                      refine wpAnyH_ready (rs := [33]) (by kernel_rfl) (by simp) ?_
                      refine AllReadyH.cons (o := ({ dst := (some 42), op := (Op.call { callee := (Callee.value (Operand.func 13)), args := #[(Operand.tmp 41), (Operand.const (Value.string { data := #[] }))], argTypes := #[22, 9] }), type := 22, pos := "law.go:35", after := #[{ on := 32, ground := Ground.data }, { on := 31, ground := Ground.chain }, { on := 29, ground := Ground.guard }], guard := (some (29, true)) } : Oper)) rfl (fun K hK => ?_) ?_
                      · go_simp
                        (with_reducible refine (hny.out _).mono ?_)
                        rintro e w7 ⟨rfl, hb2⟩
                        (first | replace hb := bnext hb hb2 | replace hb := bnext (bl_alloc hb _) hb2 | replace hb := bnext (bl_alloc (bl_alloc hb _) _) hb2)
                        clear hb2
                        go_wp2_with fail
                        refine hK.out _ _ trivial (fun _ => ?_)
                        clear hK K
                        try simp only [Act.put, List.setIfInBounds_toArray, List.set_cons_zero, List.set_cons_succ]
                        refine wpAnyH_take (i := 34) (oi := ({ dst := (some 43), op := (Op.binOp BinOp.eql 22 (Operand.tmp 40) (Operand.tmp 42) 22), type := 4, pos := "law.go:35", after := #[{ on := 31, ground := Ground.data }, { on := 33, ground := Ground.data }, { on := 29, ground := Ground.guard }], guard := (some (29, true)) } : Oper)) (v := ?_) rfl (by kernel_rfl) (by kernel_rfl) (by kernel_rfl) (fun _ _ _ h => h) (Or.inl ⟨by rfl, ?_⟩) trivial ?_
                        rotate_left
                        · (intro w_ _; go_simp; try with_reducible rfl)
                        try simp only [Act.put, List.setIfInBounds_toArray, List.set_cons_zero, List.set_cons_succ]
                        refine wpAnyH_take (i := 38) (oi := ({ dst := (some 47), op := (Op.binOp BinOp.eql 4 (Operand.tmp 43) (Operand.tmp 46) 4), type := 4, pos := "law.go:35", after := #[{ on := 34, ground := Ground.data }, { on := 37, ground := Ground.data }, { on := 29, ground := Ground.guard }], guard := (some (29, true)) } : Oper)) (v := ?_) rfl (by kernel_rfl) (by kernel_rfl) (by kernel_rfl) (fun _ _ _ h => h) (Or.inl ⟨by rfl, ?_⟩) trivial ?_
                        rotate_left
                        · (intro w_ _; go_simp; try with_reducible rfl)
                        try simp only [Act.put, List.setIfInBounds_toArray, List.set_cons_zero, List.set_cons_succ]
                        refine wpAnyH_take (i := 39) (oi := ({ dst := (some 48), op := (Op.pick (Operand.tmp 38) (Operand.tmp 47) (Operand.const (Value.bool false))), type := 4, pos := "law.go:35", after := #[{ on := 29, ground := Ground.data }, { on := 38, ground := Ground.data }], guard := none } : Oper)) (v := ?_) rfl (by kernel_rfl) (by kernel_rfl) (by kernel_rfl) (fun _ _ _ h => h) (Or.inl ⟨by rfl, ?_⟩) trivial ?_
                        rotate_left
                        · (intro w_ _; go_simp; try with_reducible rfl)
                        try simp only [Act.put, List.setIfInBounds_toArray, List.set_cons_zero, List.set_cons_succ]
                        refine wpAnyH_take (i := 40) (oi := ({ dst := (some 8), op := (Op.assign (Operand.tmp 48)), type := 4, pos := "law.go:35", after := #[{ on := 39, ground := Ground.data }, { on := 33, ground := Ground.chain }, { on := 0, ground := Ground.phase }, { on := 1, ground := Ground.phase }, { on := 2, ground := Ground.phase }, { on := 3, ground := Ground.phase }, { on := 4, ground := Ground.phase }, { on := 5, ground := Ground.phase }, { on := 6, ground := Ground.phase }, { on := 7, ground := Ground.phase }, { on := 8, ground := Ground.phase }, { on := 9, ground := Ground.phase }, { on := 10, ground := Ground.phase }, { on := 11, ground := Ground.phase }, { on := 12, ground := Ground.phase }, { on := 13, ground := Ground.phase }, { on := 14, ground := Ground.phase }, { on := 15, ground := Ground.phase }, { on := 16, ground := Ground.phase }, { on := 17, ground := Ground.phase }, { on := 18, ground := Ground.phase }, { on := 19, ground := Ground.phase }, { on := 20, ground := Ground.phase }, { on := 21, ground := Ground.phase }, { on := 22, ground := Ground.phase }, { on := 23, ground := Ground.phase }, { on := 24, ground := Ground.phase }, { on := 25, ground := Ground.phase }, { on := 26, ground := Ground.phase }, { on := 27, ground := Ground.phase }, { on := 28, ground := Ground.phase }, { on := 29, ground := Ground.phase }, { on := 30, ground := Ground.phase }, { on := 31, ground := Ground.phase }, { on := 32, ground := Ground.phase }, { on := 33, ground := Ground.phase }, { on := 34, ground := Ground.phase }, { on := 35, ground := Ground.phase }, { on := 36, ground := Ground.phase }, { on := 37, ground := Ground.phase }, { on := 38, ground := Ground.phase }, { on := 39, ground := Ground.phase }], guard := none } : Oper)) (v := ?_) rfl (by kernel_rfl) (by kernel_rfl) (by kernel_rfl) (fun _ _ _ h => h) (Or.inl ⟨by rfl, ?_⟩) trivial ?_
                        rotate_left
                        · (intro w_ _; go_simp; try with_reducible rfl)
                        try simp only [Act.put, List.setIfInBounds_toArray, List.set_cons_zero, List.set_cons_succ]
                        refine wpAnyH_done (by kernel_rfl) ?_ _
                        refine NoPanic.normal ?_
                        go_wp2
                        go_ret
                        exact ⟨rfl, hb⟩
                      exact AllReadyH.nil
                    exact AllReadyH.nil
                  exact AllReadyH.nil
                exact AllReadyH.nil
              exact AllReadyH.nil
            exact AllReadyH.nil
          exact AllReadyH.nil
        exact AllReadyH.nil
      exact AllReadyH.nil
    exact AllReadyH.nil
  exact AllReadyH.nil
end Go.Proofs.Ytifooncbljpbiaa.Tele
