/- Contract of the reference's Do: a pick by a number. -/
import Derived.Test.YtkokijmgikdnfaaZc
namespace Go.Proofs.Ytkokijmgikdnfaa
open Go.RowKit
set_option linter.unusedVariables false
section
variable {w : World} {base S : Nat} {v : Value} {l : List Ent} {last : Int}

set_option maxRecDepth 100000 in
set_option maxHeartbeats 4000000 in
theorem rDo2 (n m : Int) (i : Nat) (hi : i < l.length) (hn0 : 0 ≤ n) (hni : n % l.length = i) (hl : l.length ≤ 1000) (hb : base ≤ w.heap.size) (h : RS w base S v l last) :
    Calls Try.prog 12 #[.pointer (some ⟨S, 0, none⟩), act 2 n m] w (RStepped w base S l last i hi) := by
  have h0 := Lib.hid (h.below (inW_below w 2 n m))
  have hact := Lib.hid (inW_act w 2 n m)
  have hans := Lib.hid (inW_ans w 2 n m)
  have hKk := Lib.hid (RKeep.of_below (base := base) (inW_below w 2 n m))
  have hz := Lib.hid (Nat.le_trans hb (inW_below w 2 n m).size)
  obtain ⟨A, c, hv⟩ := h.form
  subst hv
  have ch := h0.out.head0
  unfold inW at h0 hact hans hKk hz ch
  have hl2 : (l.length : Int) ≤ 1000 := by omega
  have n0 : ((l.length : Int) == 0) = false := by rw [beq_eq_false_iff_ne]; omega
  have n1 : decide (n < 0) = false := decide_eq_false (by omega)
  have hnt : Int.tmod n (l.length : Int) = (i : Int) := by rw [Int.tmod_eq_emod_of_nonneg hn0]; exact hni
  have hne2 : l ≠ [] := by rintro rfl; simp at hi
  clear h hb hni
  unfold act
  go_enter Try.func12, Try.ntmps12
  go_upto_region 23 with fail
  have a1 : w.heap.size + 1 ≠ w.heap.size := by omega
  generalize (w.alloc (.cells #[.int .i64 2, .int .i64 n, .int .i64 m] 31)).alloc (.cells #[.int .i64 0, .bool false, .int .i64 0] 34) = W0 at *
  have hst := Lib.hid (rStep (w := W0.drew) i hi hl hz.out h0.out.drew)
  have e1 : W0.cell? ⟨w.heap.size, 1, none⟩ = some (.int .i64 n) := cell_of_row _ _ 1 _ _ _ hact.out
  refine wp_region_noPanic ?_
  refine wp_region_held_drew (S := (fun w' : World => w'.cell? ⟨w.heap.size, 1, none⟩ = some (.int .i64 n))) (by kernel_rfl) e1 (fun hHeld => ?_)
  refine' wpAnyH_take (i := 0) (oi := { dst := some 96, op := Go.Op.move (Go.Operand.tmp 0), type := 26, pos := "ref.go:87", after := #[], guard := none }) (v := _) rfl (by kernel_rfl) (by kernel_rfl) (by kernel_rfl) (fun _ _ _ h => h) (Or.inl ⟨by rfl, ?hy1⟩) (by assumption) ?rest1
  case hy1 => (intro w hSw; (try dsimp only at hSw); go_simp; try (with_reducible rfl))
  (try simp only [Act.put, List.setIfInBounds_toArray, List.set_cons_zero, List.set_cons_succ])
  refine' wpAnyH_take (i := 1) (oi := { dst := some 97, op := Go.Op.fieldAddr 31 (Go.Operand.tmp 3) 1, type := 0, pos := "ref.go:87", after := #[], guard := none }) (v := _) rfl (by kernel_rfl) (by kernel_rfl) (by kernel_rfl) (fun _ _ _ h => h) (Or.inl ⟨by rfl, ?hy2⟩) (by assumption) ?rest2
  case hy2 => (intro w hSw; (try dsimp only at hSw); go_simp; try (with_reducible rfl))
  (try simp only [Act.put, List.setIfInBounds_toArray, List.set_cons_zero, List.set_cons_succ])
  refine' wpAnyH_take (i := 2) (oi := { dst := some 98, op := Go.Op.load 3 (Go.Operand.tmp 97), type := 3, pos := "ref.go:87", after := #[{ on := 1, ground := Go.Ground.data }], guard := none }) (v := _) rfl (by kernel_rfl) (by kernel_rfl) (by kernel_rfl) (fun _ _ _ h => h) (Or.inl ⟨by rfl, ?hy3⟩) (by assumption) ?rest3
  case hy3 => (intro w hSw; (try dsimp only at hSw); go_simp; try (with_reducible rfl))
  (try simp only [Act.put, List.setIfInBounds_toArray, List.set_cons_zero, List.set_cons_succ])
  refine' wpAnyH_take (i := 3) (oi := { dst := some 99, op := Go.Op.move (Go.Operand.tmp 0), type := 26, pos := "ref.go:87", after := #[], guard := none }) (v := _) rfl (by kernel_rfl) (by kernel_rfl) (by kernel_rfl) (fun _ _ _ h => h) (Or.inl ⟨by rfl, ?hy4⟩) (by assumption) ?rest4
  case hy4 => (intro w hSw; (try dsimp only at hSw); go_simp; try (with_reducible rfl))
  (try simp only [Act.put, List.setIfInBounds_toArray, List.set_cons_zero, List.set_cons_succ])
  refine' wpAnyH_take (i := 4) (oi := { dst := some 100, op := Go.Op.nilCheck (Go.Operand.tmp 99), type := 0, pos := "ref.go:87", after := #[{ on := 3, ground := Go.Ground.data }], guard := none }) (v := _) rfl (by kernel_rfl) (by kernel_rfl) (by kernel_rfl) (fun _ _ _ h => h) (Or.inl ⟨by rfl, ?hy5⟩) (by assumption) ?rest5
  case hy5 => (intro w hSw; (try dsimp only at hSw); go_simp; try (with_reducible rfl))
  (try simp only [Act.put, List.setIfInBounds_toArray, List.set_cons_zero, List.set_cons_succ])
  refine' wpAnyH_take (i := 5) (oi := { dst := some 101, op := Go.Op.fieldAddr 29 (Go.Operand.tmp 100) 0, type := 0, pos := "ref.go:87", after := #[{ on := 4, ground := Go.Ground.data }], guard := none }) (v := _) rfl (by kernel_rfl) (by kernel_rfl) (by kernel_rfl) (fun _ _ _ h => h) (Or.inl ⟨by rfl, ?hy6⟩) (by assumption) ?rest6
  case hy6 => (intro w hSw; (try dsimp only at hSw); go_simp; try (with_reducible rfl))
  (try simp only [Act.put, List.setIfInBounds_toArray, List.set_cons_zero, List.set_cons_succ])
  refine wpAnyH_ready (rs := [6]) (by kernel_rfl) (by simp) ?_
  refine AllReadyH.cons (o := { dst := some 102, op := Go.Op.load 27 (Go.Operand.tmp 101), type := 27, pos := "ref.go:87", after := #[{ on := 5, ground := Go.Ground.data }], guard := none }) rfl (fun K hK => ?_) AllReadyH.nil
  go_simp
  refine hK.out _ _ e1 (fun hHeld => ?_)
  clear hK K
  (try simp only [Act.put, List.setIfInBounds_toArray, List.set_cons_zero, List.set_cons_succ])
  refine' wpAnyH_take (i := 7) (oi := { dst := some 103, op := Go.Op.call { callee := Go.Callee.builtin Go.Builtin.len, args := #[Go.Operand.tmp 102], argTypes := #[27] }, type := 3, pos := "ref.go:87", after := #[{ on := 6, ground := Go.Ground.data }], guard := none }) (v := _) rfl (by kernel_rfl) (by kernel_rfl) (by kernel_rfl) (fun _ _ _ h => h) (Or.inl ⟨by rfl, ?hy7⟩) (by assumption) ?rest7
  case hy7 => (intro w hSw; (try dsimp only at hSw); go_simp; try (with_reducible rfl))
  (try simp only [Act.put, List.setIfInBounds_toArray, List.set_cons_zero, List.set_cons_succ])
  refine' wpAnyH_take (i := 8) (oi := { dst := some 104, op := Go.Op.binOp Go.BinOp.rem 3 (Go.Operand.tmp 98) (Go.Operand.tmp 103) 3, type := 3, pos := "ref.go:87", after := #[{ on := 2, ground := Go.Ground.data }, { on := 7, ground := Go.Ground.data }], guard := none }) (v := _) rfl (by kernel_rfl) (by kernel_rfl) (by kernel_rfl) (fun _ _ _ h => h) (Or.inl ⟨by rfl, ?hy8⟩) (by assumption) ?rest8
  case hy8 => (intro w hSw; (try dsimp only at hSw); go_simp; try (with_reducible rfl))
  (try simp only [Act.put, List.setIfInBounds_toArray, List.set_cons_zero, List.set_cons_succ])
  refine wpAnyH_ready (rs := [9]) (by kernel_rfl) (by simp) ?_
  refine AllReadyH.cons (o := { dst := some 105, op := Go.Op.call { callee := Go.Callee.value (Go.Operand.func 23), args := #[Go.Operand.tmp 96, Go.Operand.tmp 104], argTypes := #[26, 3] }, type := 34, pos := "ref.go:87", after := #[{ on := 0, ground := Go.Ground.data }, { on := 8, ground := Go.Ground.data }], guard := none }) rfl (fun K hK => ?_) AllReadyH.nil
  go_simp
  refine hst.out.mono ?_
  rintro e w5 ⟨rfl, ⟨v5, h5⟩, k5⟩
  have hA : AnsAt w5 (w.heap.size + 1) 0 false 0 := k5.ansAt hans.out
  obtain ⟨fa0, fa1, fa2, z0, z1, z2⟩ := hA.facts
  have hac5 := (k5.other _ _ _ _ (show W0.drew.heap[w.heap.size]? = _ from hact.out) (by decide) (by decide)).trans hact.out
  have q4 : w5.cell? ⟨w.heap.size, 1, none⟩ = some (.int .i64 n) := cell_of_row _ _ 1 _ _ _ hac5
  have hK3 := Lib.hid (hKk.out.drew.trans k5)
  replace h5 := Lib.hid h5
  replace hA := Lib.hid hA
  clear hst k5 hac5
  unfold ans
  generalize hid1 : l[i].id = idv
  generalize hfl1 : (wrap64 (l[i].left - 1) == 0) = fl
  replace hid1 := Lib.hid hid1
  replace hfl1 := Lib.hid hfl1
  refine hK.out _ _ q4 (fun hHeld => ?_)
  clear hK K
  (try simp only [Act.put, List.setIfInBounds_toArray, List.set_cons_zero, List.set_cons_succ])
  refine wpAnyH_ready (rs := [10]) (by kernel_rfl) (by simp) ?_
  refine AllReadyH.cons (o := { dst := none, op := Go.Op.store 34 (Go.Operand.tmp 4) (Go.Operand.tmp 105), type := 0, pos := "ref.go:87", after := #[{ on := 9, ground := Go.Ground.data }, { on := 9, ground := Go.Ground.chain }, { on := 0, ground := Go.Ground.phase }, { on := 1, ground := Go.Ground.phase }, { on := 2, ground := Go.Ground.phase }, { on := 3, ground := Go.Ground.phase }, { on := 4, ground := Go.Ground.phase }, { on := 5, ground := Go.Ground.phase }, { on := 6, ground := Go.Ground.phase }, { on := 7, ground := Go.Ground.phase }, { on := 8, ground := Go.Ground.phase }, { on := 9, ground := Go.Ground.phase }], guard := none }) rfl (fun K hK => ?_) AllReadyH.nil
  go_simp
  refine hK.out _ _ (by go_simp) (fun hHeld => ?_)
  clear hK K
  (try simp only [Act.put, List.setIfInBounds_toArray, List.set_cons_zero, List.set_cons_succ])
  refine wpAnyH_done (by kernel_rfl) ?_ _
  refine NoPanic.normal ?_
  go_wp2
  refine bodyPost_ret (ret_ans rfl _ _ (w.heap.size + 1) rfl (hA.out.store idv fl 0)) rfl ?_
  exact ⟨by rw [hid1.out, hfl1.out], ⟨_, RS.ans h5.out hA.out _ _ _⟩, hK3.out.ans (Nat.le_succ _) _ _ _⟩
end
end Go.Proofs.Ytkokijmgikdnfaa
