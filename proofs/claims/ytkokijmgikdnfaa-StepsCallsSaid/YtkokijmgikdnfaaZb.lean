/- Contract of the reference's Do: the other calls. -/
import Derived.Test.YtkokijmgikdnfaaZa
import Derived.Deep.RegionWith
namespace Go.Proofs.Ytkokijmgikdnfaa
open Go.RowKit
set_option linter.unusedVariables false
section
variable {w : World} {base S : Nat} {v : Value} {l : List Ent} {last : Int}

set_option maxRecDepth 100000 in
set_option maxHeartbeats 4000000 in
theorem rDo0 (n m : Int) (hn1 : 1 ≤ n) (hn2 : n ≤ 16) (hl : l.length < 64) (hb : base ≤ w.heap.size) (h : RS w base S v l last) : Calls Try.prog 12 #[.pointer (some ⟨S, 0, none⟩), act 0 n m] w fun e w' =>
    e = .returned (ans (wrap64 (last + 1)) false 0) ∧ (∀ eb jb, ∃ v', RS w' base S v' (l ++ [⟨wrap64 (last + 1), n, 0, eb, jb, m, 0⟩]) (wrap64 (last + 1))) ∧ RKeep base w w' := by
  have h0 := h.below (inW_below w 0 n m)
  obtain ⟨A, c, hv⟩ := h.form
  subst hv
  have ch := h0.head0
  have ch1 := h0.head1
  have f1 := fz h0.head 1
  have hact := inW_act w 0 n m
  have hans := inW_ans w 0 n m
  obtain ⟨hs1, k1⟩ := h0.setLast (wrap64 (last + 1))
  have a1 : w.heap.size ≠ S := tag_ne hact h0.head (by decide)
  have a2 : w.heap.size + 1 ≠ S := tag_ne hans h0.head (by decide)
  have hact1 : ActAt ((inW w 0 n m).setCell ⟨S, 1, none⟩ (.int .i64 (wrap64 (last + 1)))) w.heap.size 0 n m := (setCell_same _ _ _ _ a1).trans hact
  have hans1 : AnsAt ((inW w 0 n m).setCell ⟨S, 1, none⟩ (.int .i64 (wrap64 (last + 1)))) (w.heap.size + 1) 0 false 0 := (setCell_same _ _ _ _ a2).trans hans
  have hK1 := Lib.hid ((RKeep.of_below (base := base) (inW_below w 0 n m)).trans k1)
  have hz1 : base ≤ ((inW w 0 n m).setCell ⟨S, 1, none⟩ (.int .i64 (wrap64 (last + 1)))).heap.size := Nat.le_trans hb hK1.out.size
  have g1 : decide (n < 1) = false := decide_eq_false (by omega)
  have g2 : decide (n > 16) = false := decide_eq_false (by omega)
  have g3 : ((l.length : Int) == 64) = false := by rw [beq_eq_false_iff_ne]; omega
  unfold inW at ch ch1 f1 hs1 hact1 hans1 hK1 hz1
  unfold act
  replace hs1 := Lib.hid hs1
  replace hact1 := Lib.hid hact1
  replace hans1 := Lib.hid hans1
  replace hz1 := Lib.hid hz1
  clear hact hans k1 h0 a1 a2 h
  go_enter Try.func12, Try.ntmps12
  go_upto_region 8 with fail
  generalize ((w.alloc (.cells #[.int .i64 0, .int .i64 n, .int .i64 m] 31)).alloc (.cells #[.int .i64 0, .bool false, .int .i64 0] 34)).setCell ⟨S, 1, none⟩ (.int .i64 (wrap64 (last + 1))) = W1 at *
  clear ch ch1 f1
  go_cut [] (fun wx => (∀ eb jb, ∃ v', RS wx base S v' (l ++ [⟨wrap64 (last + 1), n, 0, eb, jb, m, 0⟩]) (wrap64 (last + 1))) ∧ RKeep base W1 wx)
  case first =>
    have d0 := hs1.out.head0
    have d1 := hs1.out.head1
    have e1 : W1.cell? ⟨w.heap.size, 1, none⟩ = some (.int .i64 n) := cell_of_row _ _ 1 _ _ _ hact1.out
    have e2 : W1.cell? ⟨w.heap.size, 2, none⟩ = some (.int .i64 m) := cell_of_row _ _ 2 _ _ _ hact1.out
    have dA : ∀ o, (W1.alloc o).cell? ⟨S, 0, none⟩ = some (.slice A l.length c) := fun o => (World.cell?_alloc_lt _ o _ (World.block_lt_of_cell? _ _ d0)).trans d0
    have k0 := d1
    have p0 : ∀ o, (W1.alloc o).cell? ⟨S, 1, none⟩ = some (.int .i64 (wrap64 (last + 1))) := fun o => (World.cell?_alloc_lt _ o _ (World.block_lt_of_cell? _ _ d1)).trans d1
    have p1 : ∀ o, (W1.alloc o).cell? ⟨w.heap.size, 1, none⟩ = some (.int .i64 n) := fun o => (World.cell?_alloc_lt _ o _ (World.block_lt_of_cell? _ _ e1)).trans e1
    have p2 : ∀ o, (W1.alloc o).cell? ⟨w.heap.size, 2, none⟩ = some (.int .i64 m) := fun o => (World.cell?_alloc_lt _ o _ (World.block_lt_of_cell? _ _ e2)).trans e2
    have hne : w.heap.size ≠ S := tag_ne hact1.out hs1.out.head (by decide)
    clear k0
    refine wp_region_noPanic ?_
    refine wp_region_held_drew (S := (fun w' : World => w'.cell? ⟨S, 1, none⟩ = some (.int .i64 (wrap64 (last + 1))) ∧ w'.cell? ⟨w.heap.size, 1, none⟩ = some (.int .i64 n) ∧ w'.cell? ⟨w.heap.size, 2, none⟩ = some (.int .i64 m))) (by kernel_rfl) ⟨d1, e1, e2⟩ (fun hHeld => ?_)
    refine' wpAnyH_take (i := 0) (oi := { dst := some 33, op := Go.Op.move (Go.Operand.tmp 0), type := 26, pos := "ref.go:70", after := #[], guard := none }) (v := _) rfl (by kernel_rfl) (by kernel_rfl) (by kernel_rfl) (fun _ _ _ h => h) (Or.inl ⟨by rfl, ?hy1⟩) (by assumption) ?rest1
    case hy1 => (intro w hSw; (try dsimp only at hSw); go_simp; try (with_reducible rfl))
    (try simp only [Act.put, List.setIfInBounds_toArray, List.set_cons_zero, List.set_cons_succ])
    refine' wpAnyH_take (i := 1) (oi := { dst := some 34, op := Go.Op.move (Go.Operand.tmp 0), type := 26, pos := "ref.go:70", after := #[], guard := none }) (v := _) rfl (by kernel_rfl) (by kernel_rfl) (by kernel_rfl) (fun _ _ _ h => h) (Or.inl ⟨by rfl, ?hy2⟩) (by assumption) ?rest2
    case hy2 => (intro w hSw; (try dsimp only at hSw); go_simp; try (with_reducible rfl))
    (try simp only [Act.put, List.setIfInBounds_toArray, List.set_cons_zero, List.set_cons_succ])
    refine' wpAnyH_take (i := 2) (oi := { dst := some 35, op := Go.Op.nilCheck (Go.Operand.tmp 34), type := 0, pos := "ref.go:70", after := #[{ on := 1, ground := Go.Ground.data }], guard := none }) (v := _) rfl (by kernel_rfl) (by kernel_rfl) (by kernel_rfl) (fun _ _ _ h => h) (Or.inl ⟨by rfl, ?hy3⟩) (by assumption) ?rest3
    case hy3 => (intro w hSw; (try dsimp only at hSw); go_simp; try (with_reducible rfl))
    (try simp only [Act.put, List.setIfInBounds_toArray, List.set_cons_zero, List.set_cons_succ])
    refine' wpAnyH_take (i := 3) (oi := { dst := some 36, op := Go.Op.fieldAddr 29 (Go.Operand.tmp 35) 0, type := 0, pos := "ref.go:70", after := #[{ on := 2, ground := Go.Ground.data }], guard := none }) (v := _) rfl (by kernel_rfl) (by kernel_rfl) (by kernel_rfl) (fun _ _ _ h => h) (Or.inl ⟨by rfl, ?hy4⟩) (by assumption) ?rest4
    case hy4 => (intro w hSw; (try dsimp only at hSw); go_simp; try (with_reducible rfl))
    (try simp only [Act.put, List.setIfInBounds_toArray, List.set_cons_zero, List.set_cons_succ])
    refine' wpAnyH_take (i := 5) (oi := { dst := some 38, op := Go.Op.move (Go.Operand.tmp 0), type := 26, pos := "ref.go:70", after := #[], guard := none }) (v := _) rfl (by kernel_rfl) (by kernel_rfl) (by kernel_rfl) (fun _ _ _ h => h) (Or.inl ⟨by rfl, ?hy5⟩) (by assumption) ?rest5
    case hy5 => (intro w hSw; (try dsimp only at hSw); go_simp; try (with_reducible rfl))
    (try simp only [Act.put, List.setIfInBounds_toArray, List.set_cons_zero, List.set_cons_succ])
    refine' wpAnyH_take (i := 6) (oi := { dst := some 39, op := Go.Op.nilCheck (Go.Operand.tmp 38), type := 0, pos := "ref.go:70", after := #[{ on := 5, ground := Go.Ground.data }], guard := none }) (v := _) rfl (by kernel_rfl) (by kernel_rfl) (by kernel_rfl) (fun _ _ _ h => h) (Or.inl ⟨by rfl, ?hy6⟩) (by assumption) ?rest6
    case hy6 => (intro w hSw; (try dsimp only at hSw); go_simp; try (with_reducible rfl))
    (try simp only [Act.put, List.setIfInBounds_toArray, List.set_cons_zero, List.set_cons_succ])
    refine' wpAnyH_take (i := 7) (oi := { dst := some 40, op := Go.Op.fieldAddr 29 (Go.Operand.tmp 39) 1, type := 0, pos := "ref.go:70", after := #[{ on := 6, ground := Go.Ground.data }], guard := none }) (v := _) rfl (by kernel_rfl) (by kernel_rfl) (by kernel_rfl) (fun _ _ _ h => h) (Or.inl ⟨by rfl, ?hy7⟩) (by assumption) ?rest7
    case hy7 => (intro w hSw; (try dsimp only at hSw); go_simp; try (with_reducible rfl))
    (try simp only [Act.put, List.setIfInBounds_toArray, List.set_cons_zero, List.set_cons_succ])
    refine' wpAnyH_take (i := 8) (oi := { dst := some 41, op := Go.Op.load 3 (Go.Operand.tmp 40), type := 3, pos := "ref.go:70", after := #[{ on := 7, ground := Go.Ground.data }], guard := none }) (v := _) rfl (by kernel_rfl) (by kernel_rfl) (by kernel_rfl) (fun _ _ _ h => h) (Or.inl ⟨by rfl, ?hy8⟩) (by assumption) ?rest8
    case hy8 => (intro w hSw; (try dsimp only at hSw); go_simp; try (with_reducible rfl))
    (try simp only [Act.put, List.setIfInBounds_toArray, List.set_cons_zero, List.set_cons_succ])
    refine' wpAnyH_take (i := 9) (oi := { dst := some 42, op := Go.Op.fieldAddr 31 (Go.Operand.tmp 3) 1, type := 0, pos := "ref.go:70", after := #[], guard := none }) (v := _) rfl (by kernel_rfl) (by kernel_rfl) (by kernel_rfl) (fun _ _ _ h => h) (Or.inl ⟨by rfl, ?hy9⟩) (by assumption) ?rest9
    case hy9 => (intro w hSw; (try dsimp only at hSw); go_simp; try (with_reducible rfl))
    (try simp only [Act.put, List.setIfInBounds_toArray, List.set_cons_zero, List.set_cons_succ])
    refine' wpAnyH_take (i := 10) (oi := { dst := some 43, op := Go.Op.load 3 (Go.Operand.tmp 42), type := 3, pos := "ref.go:70", after := #[{ on := 9, ground := Go.Ground.data }], guard := none }) (v := _) rfl (by kernel_rfl) (by kernel_rfl) (by kernel_rfl) (fun _ _ _ h => h) (Or.inl ⟨by rfl, ?hy10⟩) (by assumption) ?rest10
    case hy10 => (intro w hSw; (try dsimp only at hSw); go_simp; try (with_reducible rfl))
    (try simp only [Act.put, List.setIfInBounds_toArray, List.set_cons_zero, List.set_cons_succ])
    refine' wpAnyH_take (i := 11) (oi := { dst := some 44, op := Go.Op.fieldAddr 31 (Go.Operand.tmp 3) 2, type := 0, pos := "ref.go:70", after := #[], guard := none }) (v := _) rfl (by kernel_rfl) (by kernel_rfl) (by kernel_rfl) (fun _ _ _ h => h) (Or.inl ⟨by rfl, ?hy11⟩) (by assumption) ?rest11
    case hy11 => (intro w hSw; (try dsimp only at hSw); go_simp; try (with_reducible rfl))
    (try simp only [Act.put, List.setIfInBounds_toArray, List.set_cons_zero, List.set_cons_succ])
    refine' wpAnyH_take (i := 12) (oi := { dst := some 45, op := Go.Op.load 3 (Go.Operand.tmp 44), type := 3, pos := "ref.go:70", after := #[{ on := 11, ground := Go.Ground.data }], guard := none }) (v := _) rfl (by kernel_rfl) (by kernel_rfl) (by kernel_rfl) (fun _ _ _ h => h) (Or.inl ⟨by rfl, ?hy12⟩) (by assumption) ?rest12
    case hy12 => (intro w hSw; (try dsimp only at hSw); go_simp; try (with_reducible rfl))
    (try simp only [Act.put, List.setIfInBounds_toArray, List.set_cons_zero, List.set_cons_succ])
    refine' wpAnyH_take (i := 13) (oi := { dst := some 46, op := Go.Op.build 61 #[(0, Go.Operand.tmp 41), (1, Go.Operand.tmp 43), (3, Go.Operand.tmp 45)], type := 61, pos := "ref.go:70", after := #[{ on := 8, ground := Go.Ground.data }, { on := 10, ground := Go.Ground.data }, { on := 12, ground := Go.Ground.data }], guard := none }) (v := _) rfl (by kernel_rfl) (by kernel_rfl) (by kernel_rfl) (fun _ _ _ h => h) (Or.inl ⟨by rfl, ?hy13⟩) (by assumption) ?rest13
    case hy13 => (intro w hSw; (try dsimp only at hSw); go_simp; try (with_reducible rfl))
    (try simp only [Act.put, List.setIfInBounds_toArray, List.set_cons_zero, List.set_cons_succ])
    refine wpAnyH_ready (rs := [4, 14]) (by kernel_rfl) (by simp) ?_
    refine AllReadyH.cons (o := { dst := some 37, op := Go.Op.load 27 (Go.Operand.tmp 36), type := 27, pos := "ref.go:70", after := #[{ on := 3, ground := Go.Ground.data }], guard := none }) rfl (fun K hK => ?_) (AllReadyH.cons (o := { dst := some 47, op := Go.Op.buildSlice 27 1 #[(0, Go.Operand.tmp 46)], type := 27, pos := "ref.go:70", after := #[{ on := 13, ground := Go.Ground.data }], guard := none }) rfl (fun K hK => ?_) AllReadyH.nil)
    · go_simp
      refine hK.out _ _ ⟨d1, e1, e2⟩ (fun hHeld => ?_)
      clear hK K
      (try simp only [Act.put, List.setIfInBounds_toArray, List.set_cons_zero, List.set_cons_succ])
      refine wpAnyH_ready (rs := [14]) (by kernel_rfl) (by simp) ?_
      refine AllReadyH.cons (o := { dst := some 47, op := Go.Op.buildSlice 27 1 #[(0, Go.Operand.tmp 46)], type := 27, pos := "ref.go:70", after := #[{ on := 13, ground := Go.Ground.data }], guard := none }) rfl (fun K hK => ?_) AllReadyH.nil
      go_simp
      refine hK.out _ _ ⟨p0 _, p1 _, p2 _⟩ (fun hHeld => ?_)
      clear hK K
      (try simp only [Act.put, List.setIfInBounds_toArray, List.set_cons_zero, List.set_cons_succ])
      refine wpAnyH_ready (rs := [15]) (by kernel_rfl) (by simp) ?_
      refine AllReadyH.cons (o := { dst := some 48, op := Go.Op.call { callee := Go.Callee.builtin Go.Builtin.append, args := #[Go.Operand.tmp 37, Go.Operand.tmp 47], argTypes := #[27, 27] }, type := 27, pos := "ref.go:70", after := #[{ on := 4, ground := Go.Ground.data }, { on := 14, ground := Go.Ground.data }], guard := none }) rfl (fun K hK => ?_) AllReadyH.nil
      refine step_rpush rfl (.tmp 37) (.tmp 47) rfl hs1.out hz1.out hl ⟨wrap64 (last + 1), n, 0, 0, 0, m, 0⟩ (by first | (simp [Act.eval]; done) | simp [Act.eval, Act.put]) W1.heap.size (by first | (simp [Act.eval]; done) | simp [Act.eval, Act.put]) rfl _ rfl ?_
      intro g1 c1 w1 hown hgr q1 q2
      obtain ⟨r1, r2, -, -, hsame⟩ := hs1.out.pushed ⟨wrap64 (last + 1), n, 0, 0, 0, m, 0⟩ _ hown hgr
      have q3 : w1.cell? ⟨S, 1, none⟩ = some (.int .i64 (wrap64 (last + 1))) := cell_of_row _ _ 1 _ _ _ ((hsame _ _ _ _ hs1.out.head (by decide)).trans hs1.out.head)
      have q4 : w1.cell? ⟨w.heap.size, 1, none⟩ = some (.int .i64 n) := cell_of_row _ _ 1 _ _ _ ((hsame _ _ _ _ hact1.out (by decide)).trans hact1.out)
      have q5 : w1.cell? ⟨w.heap.size, 2, none⟩ = some (.int .i64 m) := cell_of_row _ _ 2 _ _ _ ((hsame _ _ _ _ hact1.out (by decide)).trans hact1.out)
      replace r1 := Lib.hid r1
      replace r2 := Lib.hid r2
      refine hK.out _ _ ⟨q3, q4, q5⟩ (fun hHeld => ?_)
      clear hK K
      (try simp only [Act.put, List.setIfInBounds_toArray, List.set_cons_zero, List.set_cons_succ])
      refine' wpAnyH_take (i := 16) (oi := { dst := some 49, op := Go.Op.nilCheck (Go.Operand.tmp 33), type := 0, pos := "ref.go:70", after := #[{ on := 0, ground := Go.Ground.data }, { on := 0, ground := Go.Ground.phase }, { on := 1, ground := Go.Ground.phase }, { on := 2, ground := Go.Ground.phase }, { on := 3, ground := Go.Ground.phase }, { on := 4, ground := Go.Ground.phase }, { on := 5, ground := Go.Ground.phase }, { on := 6, ground := Go.Ground.phase }, { on := 7, ground := Go.Ground.phase }, { on := 8, ground := Go.Ground.phase }, { on := 9, ground := Go.Ground.phase }, { on := 10, ground := Go.Ground.phase }, { on := 11, ground := Go.Ground.phase }, { on := 12, ground := Go.Ground.phase }, { on := 13, ground := Go.Ground.phase }, { on := 14, ground := Go.Ground.phase }, { on := 15, ground := Go.Ground.phase }], guard := none }) (v := _) rfl (by kernel_rfl) (by kernel_rfl) (by kernel_rfl) (fun _ _ _ h => h) (Or.inl ⟨by rfl, ?hy14⟩) (by assumption) ?rest14
      case hy14 => (intro w hSw; (try dsimp only at hSw); go_simp; try (with_reducible rfl))
      (try simp only [Act.put, List.setIfInBounds_toArray, List.set_cons_zero, List.set_cons_succ])
      refine' wpAnyH_take (i := 17) (oi := { dst := some 50, op := Go.Op.fieldAddr 29 (Go.Operand.tmp 49) 0, type := 0, pos := "ref.go:70", after := #[{ on := 16, ground := Go.Ground.data }, { on := 0, ground := Go.Ground.phase }, { on := 1, ground := Go.Ground.phase }, { on := 2, ground := Go.Ground.phase }, { on := 3, ground := Go.Ground.phase }, { on := 4, ground := Go.Ground.phase }, { on := 5, ground := Go.Ground.phase }, { on := 6, ground := Go.Ground.phase }, { on := 7, ground := Go.Ground.phase }, { on := 8, ground := Go.Ground.phase }, { on := 9, ground := Go.Ground.phase }, { on := 10, ground := Go.Ground.phase }, { on := 11, ground := Go.Ground.phase }, { on := 12, ground := Go.Ground.phase }, { on := 13, ground := Go.Ground.phase }, { on := 14, ground := Go.Ground.phase }, { on := 15, ground := Go.Ground.phase }], guard := none }) (v := _) rfl (by kernel_rfl) (by kernel_rfl) (by kernel_rfl) (fun _ _ _ h => h) (Or.inl ⟨by rfl, ?hy15⟩) (by assumption) ?rest15
      case hy15 => (intro w hSw; (try dsimp only at hSw); go_simp; try (with_reducible rfl))
      (try simp only [Act.put, List.setIfInBounds_toArray, List.set_cons_zero, List.set_cons_succ])
      refine wpAnyH_ready (rs := [18]) (by kernel_rfl) (by simp) ?_
      refine AllReadyH.cons (o := { dst := none, op := Go.Op.store 27 (Go.Operand.tmp 50) (Go.Operand.tmp 48), type := 0, pos := "ref.go:70", after := #[{ on := 17, ground := Go.Ground.data }, { on := 15, ground := Go.Ground.data }, { on := 15, ground := Go.Ground.chain }, { on := 0, ground := Go.Ground.phase }, { on := 1, ground := Go.Ground.phase }, { on := 2, ground := Go.Ground.phase }, { on := 3, ground := Go.Ground.phase }, { on := 4, ground := Go.Ground.phase }, { on := 5, ground := Go.Ground.phase }, { on := 6, ground := Go.Ground.phase }, { on := 7, ground := Go.Ground.phase }, { on := 8, ground := Go.Ground.phase }, { on := 9, ground := Go.Ground.phase }, { on := 10, ground := Go.Ground.phase }, { on := 11, ground := Go.Ground.phase }, { on := 12, ground := Go.Ground.phase }, { on := 13, ground := Go.Ground.phase }, { on := 14, ground := Go.Ground.phase }, { on := 15, ground := Go.Ground.phase }], guard := none }) rfl (fun K hK => ?_) AllReadyH.nil
      go_simp
      refine hK.out _ _ ⟨by go_simp, by go_simp, by go_simp⟩ (fun hHeld => ?_)
      clear hK K
      (try simp only [Act.put, List.setIfInBounds_toArray, List.set_cons_zero, List.set_cons_succ])
      refine wpAnyH_done (by kernel_rfl) ?_ _
      refine NoPanic.normal ?_
      go_wp2_with fail
      go_meet
      exact ⟨fun eb jb => ⟨_, ⟨r1.out.low, r1.out.head, by have := r1.out.row; simp only [List.length_append, flat_append] at this ⊢; exact this⟩⟩, r2.out⟩

    · go_simp
      refine hK.out _ _ ⟨p0 _, p1 _, p2 _⟩ (fun hHeld => ?_)
      clear hK K
      (try simp only [Act.put, List.setIfInBounds_toArray, List.set_cons_zero, List.set_cons_succ])
      refine wpAnyH_ready (rs := [4]) (by kernel_rfl) (by simp) ?_
      refine AllReadyH.cons (o := { dst := some 37, op := Go.Op.load 27 (Go.Operand.tmp 36), type := 27, pos := "ref.go:70", after := #[{ on := 3, ground := Go.Ground.data }], guard := none }) rfl (fun K hK => ?_) AllReadyH.nil
      go_simp
      refine hK.out _ _ ⟨p0 _, p1 _, p2 _⟩ (fun hHeld => ?_)
      clear hK K
      (try simp only [Act.put, List.setIfInBounds_toArray, List.set_cons_zero, List.set_cons_succ])
      refine wpAnyH_ready (rs := [15]) (by kernel_rfl) (by simp) ?_
      refine AllReadyH.cons (o := { dst := some 48, op := Go.Op.call { callee := Go.Callee.builtin Go.Builtin.append, args := #[Go.Operand.tmp 37, Go.Operand.tmp 47], argTypes := #[27, 27] }, type := 27, pos := "ref.go:70", after := #[{ on := 4, ground := Go.Ground.data }, { on := 14, ground := Go.Ground.data }], guard := none }) rfl (fun K hK => ?_) AllReadyH.nil
      refine step_rpush rfl (.tmp 37) (.tmp 47) rfl hs1.out hz1.out hl ⟨wrap64 (last + 1), n, 0, 0, 0, m, 0⟩ (by first | (simp [Act.eval]; done) | simp [Act.eval, Act.put]) W1.heap.size (by first | (simp [Act.eval]; done) | simp [Act.eval, Act.put]) rfl _ rfl ?_
      intro g1 c1 w1 hown hgr q1 q2
      obtain ⟨r1, r2, -, -, hsame⟩ := hs1.out.pushed ⟨wrap64 (last + 1), n, 0, 0, 0, m, 0⟩ _ hown hgr
      have q3 : w1.cell? ⟨S, 1, none⟩ = some (.int .i64 (wrap64 (last + 1))) := cell_of_row _ _ 1 _ _ _ ((hsame _ _ _ _ hs1.out.head (by decide)).trans hs1.out.head)
      have q4 : w1.cell? ⟨w.heap.size, 1, none⟩ = some (.int .i64 n) := cell_of_row _ _ 1 _ _ _ ((hsame _ _ _ _ hact1.out (by decide)).trans hact1.out)
      have q5 : w1.cell? ⟨w.heap.size, 2, none⟩ = some (.int .i64 m) := cell_of_row _ _ 2 _ _ _ ((hsame _ _ _ _ hact1.out (by decide)).trans hact1.out)
      replace r1 := Lib.hid r1
      replace r2 := Lib.hid r2
      refine hK.out _ _ ⟨q3, q4, q5⟩ (fun hHeld => ?_)
      clear hK K
      (try simp only [Act.put, List.setIfInBounds_toArray, List.set_cons_zero, List.set_cons_succ])
      refine' wpAnyH_take (i := 16) (oi := { dst := some 49, op := Go.Op.nilCheck (Go.Operand.tmp 33), type := 0, pos := "ref.go:70", after := #[{ on := 0, ground := Go.Ground.data }, { on := 0, ground := Go.Ground.phase }, { on := 1, ground := Go.Ground.phase }, { on := 2, ground := Go.Ground.phase }, { on := 3, ground := Go.Ground.phase }, { on := 4, ground := Go.Ground.phase }, { on := 5, ground := Go.Ground.phase }, { on := 6, ground := Go.Ground.phase }, { on := 7, ground := Go.Ground.phase }, { on := 8, ground := Go.Ground.phase }, { on := 9, ground := Go.Ground.phase }, { on := 10, ground := Go.Ground.phase }, { on := 11, ground := Go.Ground.phase }, { on := 12, ground := Go.Ground.phase }, { on := 13, ground := Go.Ground.phase }, { on := 14, ground := Go.Ground.phase }, { on := 15, ground := Go.Ground.phase }], guard := none }) (v := _) rfl (by kernel_rfl) (by kernel_rfl) (by kernel_rfl) (fun _ _ _ h => h) (Or.inl ⟨by rfl, ?hy16⟩) (by assumption) ?rest16
      case hy16 => (intro w hSw; (try dsimp only at hSw); go_simp; try (with_reducible rfl))
      (try simp only [Act.put, List.setIfInBounds_toArray, List.set_cons_zero, List.set_cons_succ])
      refine' wpAnyH_take (i := 17) (oi := { dst := some 50, op := Go.Op.fieldAddr 29 (Go.Operand.tmp 49) 0, type := 0, pos := "ref.go:70", after := #[{ on := 16, ground := Go.Ground.data }, { on := 0, ground := Go.Ground.phase }, { on := 1, ground := Go.Ground.phase }, { on := 2, ground := Go.Ground.phase }, { on := 3, ground := Go.Ground.phase }, { on := 4, ground := Go.Ground.phase }, { on := 5, ground := Go.Ground.phase }, { on := 6, ground := Go.Ground.phase }, { on := 7, ground := Go.Ground.phase }, { on := 8, ground := Go.Ground.phase }, { on := 9, ground := Go.Ground.phase }, { on := 10, ground := Go.Ground.phase }, { on := 11, ground := Go.Ground.phase }, { on := 12, ground := Go.Ground.phase }, { on := 13, ground := Go.Ground.phase }, { on := 14, ground := Go.Ground.phase }, { on := 15, ground := Go.Ground.phase }], guard := none }) (v := _) rfl (by kernel_rfl) (by kernel_rfl) (by kernel_rfl) (fun _ _ _ h => h) (Or.inl ⟨by rfl, ?hy17⟩) (by assumption) ?rest17
      case hy17 => (intro w hSw; (try dsimp only at hSw); go_simp; try (with_reducible rfl))
      (try simp only [Act.put, List.setIfInBounds_toArray, List.set_cons_zero, List.set_cons_succ])
      refine wpAnyH_ready (rs := [18]) (by kernel_rfl) (by simp) ?_
      refine AllReadyH.cons (o := { dst := none, op := Go.Op.store 27 (Go.Operand.tmp 50) (Go.Operand.tmp 48), type := 0, pos := "ref.go:70", after := #[{ on := 17, ground := Go.Ground.data }, { on := 15, ground := Go.Ground.data }, { on := 15, ground := Go.Ground.chain }, { on := 0, ground := Go.Ground.phase }, { on := 1, ground := Go.Ground.phase }, { on := 2, ground := Go.Ground.phase }, { on := 3, ground := Go.Ground.phase }, { on := 4, ground := Go.Ground.phase }, { on := 5, ground := Go.Ground.phase }, { on := 6, ground := Go.Ground.phase }, { on := 7, ground := Go.Ground.phase }, { on := 8, ground := Go.Ground.phase }, { on := 9, ground := Go.Ground.phase }, { on := 10, ground := Go.Ground.phase }, { on := 11, ground := Go.Ground.phase }, { on := 12, ground := Go.Ground.phase }, { on := 13, ground := Go.Ground.phase }, { on := 14, ground := Go.Ground.phase }, { on := 15, ground := Go.Ground.phase }], guard := none }) rfl (fun K hK => ?_) AllReadyH.nil
      go_simp
      refine hK.out _ _ ⟨by go_simp, by go_simp, by go_simp⟩ (fun hHeld => ?_)
      clear hK K
      (try simp only [Act.put, List.setIfInBounds_toArray, List.set_cons_zero, List.set_cons_succ])
      refine wpAnyH_done (by kernel_rfl) ?_ _
      refine NoPanic.normal ?_
      go_wp2_with fail
      go_meet
      exact ⟨fun eb jb => ⟨_, ⟨r1.out.low, r1.out.head, by have := r1.out.row; simp only [List.length_append, flat_append] at this ⊢; exact this⟩⟩, r2.out⟩
  case rest =>
    obtain ⟨hs2, k2⟩ := hcut
    have hA : AnsAt wc (w.heap.size + 1) 0 false 0 := k2.ansAt hans1.out
    obtain ⟨v2, hs3⟩ := hs2 0 0
    have d1 := hs3.head1
    have fa0 : wc.cell? ⟨w.heap.size + 1, 0, none⟩ = some (.int .i64 0) := cell_of_row _ _ 0 _ _ _ hA
    have fa1 : wc.cell? ⟨w.heap.size + 1, 1, none⟩ = some (.bool false) := cell_of_row _ _ 1 _ _ _ hA
    have fa2 : wc.cell? ⟨w.heap.size + 1, 2, none⟩ = some (.int .i64 0) := cell_of_row _ _ 2 _ _ _ hA
    have z0 := fz hA 0
    have z1 := fz hA 1
    have z2 := fz hA 2
    have hK3 := Lib.hid (hK1.out.trans k2)
    replace hs2 := Lib.hid hs2
    replace hA := Lib.hid hA
    clear hs3 k2 hK1 hs1 hact1 hans1
    go_wp2
    refine bodyPost_ret (ret_ans rfl _ _ (w.heap.size + 1) rfl (hA.out.store (wrap64 (last + 1)) false 0)) rfl ?_
    exact ⟨rfl, fun eb jb => by obtain ⟨v', h'⟩ := hs2.out eb jb; exact ⟨v', RS.ans h' hA.out _ _ _⟩, hK3.out.ans (Nat.le_succ _) _ _ _⟩
end
end Go.Proofs.Ytkokijmgikdnfaa
