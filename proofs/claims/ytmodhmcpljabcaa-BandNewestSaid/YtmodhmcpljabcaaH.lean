/- Contracts of tegularef16.with and slices.Clone. -/
import Derived.Test.YtmodhmcpljabcaaG
namespace Go.Proofs.Ytmodhmcpljabcaa
open Go.RowKit
set_option linter.unusedVariables false

theorem Own.cellAt {w : World} {base g c n : Nat} {l : List BI} (h : Own w base (.slice (some ⟨g, 0, none⟩) n c) l) {i : Nat} (hi : i < l.length) :
    w.cell? ⟨g, i * 4, none⟩ = some (.int .i64 l[i].used) ∧ w.cell? ⟨g, i * 4 + 1, none⟩ = some (.int .i64 l[i].live) ∧
    w.cell? ⟨g, i * 4 + 2, none⟩ = some (.int .u64 l[i].age) ∧ w.cell? ⟨g, i * 4 + 3, none⟩ = some (.int .u64 l[i].wear) := by
  obtain ⟨A, c', e, hb, _⟩ := h.slice
  cases e
  obtain ⟨ad, e, c0, c1, c2, c3⟩ := hb.at_ hi
  cases e
  rw [add_plain] at c0 c1 c2 c3
  exact ⟨c0, c1, c2, c3⟩
theorem Own.len {w : World} {base g c n : Nat} {l : List BI} (h : Own w base (.slice (some ⟨g, 0, none⟩) n c) l) : n = l.length := by
  obtain ⟨A, c', e, hb, _⟩ := h.slice
  cases e
  rfl
theorem Own.base_le {w : World} {base g c n : Nat} {l : List BI} (h : Own w base (.slice (some ⟨g, 0, none⟩) n c) l) : base ≤ g := (World.ownsRow.lt h g rfl).1
theorem Own.frozenAt {w : World} {base g c n : Nat} {l : List BI} (h : Own w base (.slice (some ⟨g, 0, none⟩) n c) l) (j : Nat) : w.frozen? ⟨g, j, none⟩ = false := by
  have e := h.len
  subst e
  exact World.ownsRow.frozenAt h j
theorem Own.store4 {w : World} {base g c n : Nat} {l : List BI} (h : Own w base (.slice (some ⟨g, 0, none⟩) n c) l) {i : Nat} (hi : i < l.length) (b : BI) :
    Own ((((w.setCell ⟨g, i * 4, none⟩ (.int .i64 b.used)).setCell ⟨g, i * 4 + 1, none⟩ (.int .i64 b.live)).setCell ⟨g, i * 4 + 2, none⟩ (.int .u64 b.age)).setCell ⟨g, i * 4 + 3, none⟩ (.int .u64 b.wear))
      base (.slice (some ⟨g, 0, none⟩) n c) (l.set i b) := by
  have e := h.len
  subst e
  have h1 := (World.ownsRow.stored (World.ownsRow.stored (World.ownsRow.stored (World.ownsRow.stored h (i * 4) (.int .i64 b.used)).1 (i * 4 + 1) (.int .i64 b.live)).1 (i * 4 + 2) (.int .u64 b.age)).1 (i * 4 + 3) (.int .u64 b.wear)).1
  unfold Own
  rw [flat_set l i b hi, List.length_set]
  exact h1
theorem Own.to_ptr {w : World} {base : Nat} {v : Value} {l : List BI} (h : Own w base v l) (hne : l ≠ []) : ∃ g c, v = .slice (some ⟨g, 0, none⟩) l.length c ∧ base ≤ g := by
  obtain ⟨A, c, rfl, _, hg⟩ := h.slice
  obtain ⟨g, rfl, hb⟩ := hg hne
  exact ⟨g, c, rfl, hb⟩

theorem empty_row (W : World) (B g : Nat) (hB : B ≤ W.heap.size) (hg : g = W.heap.size) : (W.alloc (.cells #[] 35)).ownsRow B 35 4 (.slice (some ⟨g, 0, none⟩) 0 0) 0 [] := by
  subst hg
  exact World.ownsRow_made W #[] 0 hB (by simp [maxLen]) rfl

theorem wpList_copied {ops : Array Oper} {rest : List Oper} {o : Oper} {a : Act} {Q : Exit → Act → World → Prop} (Wb : World) (hgd : o.guard = none) (s x : Operand)
    (ho : o.op = .call { callee := .builtin .append, args := #[s, x], argTypes := #[22, 22] }) (g : Nat) (hs : a.eval s = .slice (some ⟨g, 0, none⟩) 0 0) (hg : g = Wb.heap.size)
    (A : Option Addr) (l : List BI) (c : Nat) (hx : a.eval x = .slice A l.length c) (hb : Bs Wb A l) (hl : l.length ≤ 1000)
    (h : ∀ v w1, Own w1 Wb.heap.size v l → Below Wb.heap.size Wb w1 → wpList Try.prog ops Q rest (a.put o.dst v) w1) : wpList Try.prog ops Q (o :: rest) a (Wb.alloc (.cells #[] 35)) := by
  obtain ⟨i0, hi0, hz0, hz1, hz2⟩ := info_parts info35
  have hb0 : Below Wb.heap.size Wb (Wb.alloc (.cells #[] 35)) := (Below.refl _ _).alloc (Nat.le_refl _) _
  refine wpList_append_any _ hgd s x _ ho Wb.heap.size 35 i0 _ 4 32 Try.underlying22 hi0 hz0 hz1 hz2 rfl (by omega) _ 0 [] hs
    (empty_row Wb _ _ (Nat.le_refl _) hg) _ A l.length c (flat l) hx (hb.below hb0).reads (flat_one l) (by simp only [maxLen]; omega) (by omega) (by simp) ?_
  intro v1 w1 hown1 hg1 hat1
  refine h v1 w1 (by simpa [Own] using hown1) (hb0.grown hg1 (by simp) (fun k hk => ?_))
  simp [Value.ownBlock] at hk
  omega

set_option maxHeartbeats 1000000 in
theorem with_ (A : Option Addr) (c : Nat) (l : List BI) (i : Nat) (b : BI) (w : World) (hl : l.length ≤ 1000) (hi : i < l.length) (h : Bs w A l) :
    Calls Try.prog 30 #[.slice A l.length c, .int .i64 i, .agg #[.int .i64 b.used, .int .i64 b.live, .int .u64 b.age, .int .u64 b.wear]] w fun e w' => ∃ v, e = .returned v ∧ Own w' w.heap.size v (l.set i b) ∧ Below w.heap.size w w' := by
  have hl0 : l.length ≤ 9223372036854775807 := by omega
  have hbx : Below w.heap.size w (w.alloc (.cells #[.int .i64 b.used, .int .i64 b.live, .int .u64 b.age, .int .u64 b.wear] 35)) := (Below.refl _ _).alloc (Nat.le_refl _) _
  have hbox : (w.alloc (.cells #[.int .i64 b.used, .int .i64 b.live, .int .u64 b.age, .int .u64 b.wear] 35)).heap[w.heap.size]? = some (.cells #[.int .i64 b.used, .int .i64 b.live, .int .u64 b.age, .int .u64 b.wear] 35 (0, 0)) := heap_alloc_new _ _
  have hx0 : _ = some (Value.int .i64 b.used) := cell_of_row _ _ 0 _ _ _ hbox
  have hx1 : _ = some (Value.int .i64 b.live) := cell_of_row _ _ 1 _ _ _ hbox
  have hx2 : _ = some (Value.int .u64 b.age) := cell_of_row _ _ 2 _ _ _ hbox
  have hx3 : _ = some (Value.int .u64 b.wear) := cell_of_row _ _ 3 _ _ _ hbox
  clear hbox
  have hr := h.below hbx
  go_enter Try.func30, Try.ntmps30
  go_wp2_with (at_builtin
               refine wpList_copied _ rfl (.tmp 8) (.tmp 9) rfl _ rfl (by simp) A l c rfl hr hl ?_
               intro v1 w1 ho hb1
               replace hx0 := cell_below hb1 hx0
               replace hx1 := cell_below hb1 hx1
               replace hx2 := cell_below hb1 hx2
               replace hx3 := cell_below hb1 hx3
               have hB1 := below_then hbx hbx.size hb1
               replace ho := ho.lower hbx.size
               obtain ⟨g, c', rfl, hgb⟩ := ho.to_ptr (by rintro rfl; simp at hi)
               obtain ⟨y0, y1, y2, y3⟩ := ho.cellAt hi
               have hfr := fun j => ho.frozenAt j
               clear hb1 hbx hr)
  go_ret
  exact ⟨_, rfl, ho.store4 hi b, ((((hB1.setCell hgb _).setCell hgb _).setCell hgb _).setCell hgb _)⟩
end Go.Proofs.Ytmodhmcpljabcaa
