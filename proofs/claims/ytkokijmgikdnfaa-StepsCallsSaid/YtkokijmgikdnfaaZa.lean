/- Contract of the reference's Do: adding a machine. -/
import Derived.Test.YtkokijmgikdnfaaY
namespace Go.Proofs.Ytkokijmgikdnfaa
open Go.RowKit
set_option linter.unusedVariables false

def act (k n m : Int) : Value := .agg #[.int .i64 k, .int .i64 n, .int .i64 m]
/-- block b holds a call -/
def ActAt (w : World) (b : Nat) (k n m : Int) : Prop := w.heap[b]? = some (.cells #[.int .i64 k, .int .i64 n, .int .i64 m] 31 (0, 0))
/-- the world behind the entry of Do -/
def inW (w : World) (k n m : Int) : World := (w.alloc (.cells #[.int .i64 k, .int .i64 n, .int .i64 m] 31)).alloc (.cells #[.int .i64 0, .bool false, .int .i64 0] 34)
theorem inW_below (w : World) (k n m : Int) : Below w.heap.size w (inW w k n m) := ((Below.refl _ _).alloc (Nat.le_refl _) _).alloc (by simp) _
theorem inW_act (w : World) (k n m : Int) : ActAt (inW w k n m) w.heap.size k n m := by
  have h := heap_alloc_new w (.cells #[.int .i64 k, .int .i64 n, .int .i64 m] 31)
  exact (((Below.refl (w.alloc (.cells #[.int .i64 k, .int .i64 n, .int .i64 m] 31)).heap.size _).alloc (Nat.le_refl _) _).block w.heap.size (by simp)).trans h
theorem two_ans (w : World) (o : Obj) (x : Int) (y : Bool) (z : Int) : AnsAt ((w.alloc o).alloc (.cells #[.int .i64 x, .bool y, .int .i64 z] 34)) (w.heap.size + 1) x y z := by
  have h := heap_alloc_new (w.alloc o) (.cells #[.int .i64 x, .bool y, .int .i64 z] 34)
  rw [show (w.alloc o).heap.size = w.heap.size + 1 by simp] at h
  exact h
theorem inW_ans (w : World) (k n m : Int) : AnsAt (inW w k n m) (w.heap.size + 1) 0 false 0 := two_ans _ _ _ _ _

section
variable {w : World} {base S : Nat} {v : Value} {l : List Ent} {last : Int}
/-- an answer that changes nothing -/
def RSame (w : World) (base S : Nat) (l : List Ent) (last : Int) (x : Int) (e : Ending) (w' : World) : Prop := e = .returned (ans 0 false x) ∧ (∃ v', RS w' base S v' l last) ∧ RKeep base w w'

set_option maxHeartbeats 1000000 in
theorem rDo0arg (n m : Int) (hn : n < 1 ∨ 16 < n) (h : RS w base S v l last) : Calls Try.prog 12 #[.pointer (some ⟨S, 0, none⟩), act 0 n m] w (RSame w base S l last 1) := by
  have hB9 : Below w.heap.size w ((w.alloc (.cells #[.int .i64 0, .int .i64 n, .int .i64 m] 31)).alloc (.cells #[.int .i64 0, .bool false, .int .i64 1] 34)) := ((Below.refl _ _).alloc (Nat.le_refl _) _).alloc (by simp) _
  have hA : AnsAt ((w.alloc (.cells #[.int .i64 0, .int .i64 n, .int .i64 m] 31)).alloc (.cells #[.int .i64 0, .bool false, .int .i64 1] 34)) (w.heap.size + 1) 0 false 1 := two_ans _ _ _ _ _
  replace hB9 := Lib.hid hB9
  replace hA := Lib.hid hA
  replace h := Lib.hid h
  unfold act
  rcases hn with hn | hn
  · go_enter Try.func12, Try.ntmps12
    go_wp2
    refine bodyPost_ret (ret_ans rfl _ _ (w.heap.size + 1) rfl hA.out) rfl ?_
    exact ⟨rfl, ⟨_, h.out.below hB9.out⟩, RKeep.of_below hB9.out⟩
  · have h1 : decide (n < 1) = false := decide_eq_false (by omega)
    have h2 : decide (n > 16) = true := decide_eq_true (by omega)
    go_enter Try.func12, Try.ntmps12
    go_wp2
    refine bodyPost_ret (ret_ans rfl _ _ (w.heap.size + 1) rfl hA.out) rfl ?_
    exact ⟨rfl, ⟨_, h.out.below hB9.out⟩, RKeep.of_below hB9.out⟩
set_option maxHeartbeats 1000000 in
theorem rDo0full (n m : Int) (hn1 : 1 ≤ n) (hn2 : n ≤ 16) (hl : l.length = 64) (h : RS w base S v l last) : Calls Try.prog 12 #[.pointer (some ⟨S, 0, none⟩), act 0 n m] w (RSame w base S l last 7) := by
  have hB9 : Below w.heap.size w ((w.alloc (.cells #[.int .i64 0, .int .i64 n, .int .i64 m] 31)).alloc (.cells #[.int .i64 0, .bool false, .int .i64 7] 34)) := ((Below.refl _ _).alloc (Nat.le_refl _) _).alloc (by simp) _
  have hA : AnsAt ((w.alloc (.cells #[.int .i64 0, .int .i64 n, .int .i64 m] 31)).alloc (.cells #[.int .i64 0, .bool false, .int .i64 7] 34)) (w.heap.size + 1) 0 false 7 := two_ans _ _ _ _ _
  have h0 := h.below (inW_below w 0 n m)
  obtain ⟨A, c, hv⟩ := h.form
  subst hv
  have ch := h0.head0
  rw [hl] at ch
  unfold inW at ch
  have h1 : decide (n < 1) = false := decide_eq_false (by omega)
  have h2 : decide (n > 16) = false := decide_eq_false (by omega)
  replace hB9 := Lib.hid hB9
  replace hA := Lib.hid hA
  replace h := Lib.hid h
  clear h0 hl
  unfold act
  go_enter Try.func12, Try.ntmps12
  go_wp2
  refine bodyPost_ret (ret_ans rfl _ _ (w.heap.size + 1) rfl hA.out) rfl ?_
  exact ⟨rfl, ⟨_, h.out.below hB9.out⟩, RKeep.of_below hB9.out⟩
end
theorem RS.setLast {w : World} {base S : Nat} {v : Value} {l : List Ent} {last : Int} (h : RS w base S v l last) (x : Int) : RS (w.setCell ⟨S, 1, none⟩ (.int .i64 x)) base S v l x ∧ RKeep base w (w.setCell ⟨S, 1, none⟩ (.int .i64 x)) := by
  refine ⟨⟨h.low, heap_setCell_same w S 1 _ _ (.int .i64 x) h.head, row_move h.row fun k hk => setCell_same _ _ _ _ ?_⟩, (RKeep.refl base w).setCell (.inr ⟨h.low, _, _, _, h.head, .inl rfl⟩) _⟩
  rcases h.row.2 with ⟨rfl, _⟩ | ⟨g', cap', cur, rfl, _, hg, _⟩
  · cases hk
  · cases hk
    exact tag_ne hg h.head (by decide)
theorem RS.pushed {W1 w1 : World} {base S : Nat} {v v1 : Value} {l : List Ent} {last : Int} (h : RS W1 base S v l last) (e : Ent) (o : Obj) (hown : w1.ownsRow base 61 4 v1 (l.length + 1) (flat l ++ flat [e])) (hg : (W1.alloc o).drew.grownBy w1 v.ownBlock) :
    RS (w1.setCell ⟨S, 0, none⟩ v1) base S v1 (l ++ [e]) last ∧ RKeep base W1 (w1.setCell ⟨S, 0, none⟩ v1) ∧ w1.cell? ⟨S, 0, none⟩ = some v ∧ w1.frozen? ⟨S, 0, none⟩ = false ∧
      ∀ (k : Nat) (cs : Array Value) (t : TypeId) (fr : Nat × Nat), W1.heap[k]? = some (.cells cs t fr) → t ≠ 61 → w1.heap[k]? = W1.heap[k]? := by
  have hB : Below W1.heap.size W1 (W1.alloc o).drew := ((Below.refl _ _).alloc (Nat.le_refl _) _).drew
  have hS : w1.heap[S]? = some (.cells #[v, .int .i64 last] 59 (0, 0)) ∨ w1.heap[S]? = some (.cells #[v, .int .i64 last] 29 (0, 0)) := .inr (by
    refine (hg.block S (by have := heap_lt h.head; simp; omega) ?_).trans ((hB.block S (heap_lt h.head)).trans h.head)
    intro e'
    rcases h.row.2 with ⟨rfl, _⟩ | ⟨g', cap', cur, rfl, _, hg', _⟩
    · cases e'
    · cases e'
      rw [h.head] at hg'
      cases hg')
  replace hS : w1.heap[S]? = some (.cells #[v, .int .i64 last] 29 (0, 0)) := by
    rcases hS with h' | h'
    · exfalso
      have hS2 := (hg.block S (by have := heap_lt h.head; simp; omega) (by
        intro e'
        rcases h.row.2 with ⟨rfl, _⟩ | ⟨g', cap', cur, rfl, _, hg', _⟩
        · cases e'
        · cases e'
          rw [h.head] at hg'
          cases hg')).trans ((hB.block S (heap_lt h.head)).trans h.head)
      rw [h'] at hS2
      cases hS2
    · exact h'
  refine ⟨⟨h.low, heap_setCell_same w1 S 0 _ _ v1 hS, ?_⟩, ?_, cell_of_row _ _ 0 _ _ _ hS, fz hS 0, fun k cs t fr e h1 => (hg.block k (Nat.lt_of_lt_of_le (heap_lt e) hB.size) (by
    intro e'
    rcases h.row.2 with ⟨rfl, _⟩ | ⟨g', cap', cur, rfl, _, hg', _⟩
    · cases e'
    · cases e'
      rw [hg'] at e
      cases e
      exact h1 rfl)).trans (hB.block k (heap_lt e))⟩
  · rw [List.length_append, flat_append]
    refine row_move hown fun k hk => setCell_same _ _ _ _ ?_
    rcases hown.2 with ⟨rfl, _⟩ | ⟨g', cap', cur, rfl, _, hg', _⟩
    · cases hk
    · cases hk
      exact tag_ne hg' hS (by decide)
  · refine RKeep.setCell ?_ (.inr ⟨h.low, _, _, _, h.head, .inl rfl⟩) _
    refine ⟨hg.os, hg.tape, hg.output, Nat.le_trans hB.size hg.size, fun k hk hs => (hg.block k (Nat.lt_of_lt_of_le hs hB.size) ?_).trans (hB.block k hs), fun k cs t fr e h1 h2 => (hg.block k (Nat.lt_of_lt_of_le (heap_lt e) hB.size) ?_).trans (hB.block k (heap_lt e))⟩
    · intro e'
      have := (World.ownsRow.lt h.row k e'.symm).1
      omega
    · intro e'
      rcases h.row.2 with ⟨rfl, _⟩ | ⟨g', cap', cur, rfl, _, hg', _⟩
      · cases e'
      · cases e'
        rw [hg'] at e
        cases e
        exact h2 rfl
theorem step_rpush {ops : Array Oper} {o : Oper} {a : Act} {K : Act → World → Prop} {Q : Exit → Act → World → Prop} {E : Prop} (hgd : o.guard = none) (s x : Operand)
    (ho : o.op = .call { callee := .builtin .append, args := #[s, x], argTypes := #[27, 27] }) {W1 : World} {base S : Nat} {A : Option Addr} {c : Nat} {l : List Ent} {last : Int} (h : RS W1 base S (.slice A l.length c) l last)
    (hb : base ≤ W1.heap.size) (hl : l.length < 64) (e : Ent) (hs : a.eval s = .slice A l.length c) (g : Nat) (hx : a.eval x = .slice (some ⟨g, 0, none⟩) 1 1) (hg : g = W1.heap.size) (cells : Array Value) (hcells : cells = (flat [e]).toArray)
    (hk : ∀ g1 c1 w1, w1.ownsRow base 61 4 (.slice (some ⟨g1, 0, none⟩) (l.length + 1) c1) (l.length + 1) (flat l ++ flat [e]) → (W1.alloc (.cells cells 61)).drew.grownBy w1 (Value.slice A l.length c).ownBlock →
      w1.cell? ⟨S, 0, none⟩ = some (.slice A l.length c) → w1.frozen? ⟨S, 0, none⟩ = false → K (a.put o.dst (.slice (some ⟨g1, 0, none⟩) (l.length + 1) c1)) w1) :
    if Region.wanted o (yielded ops a.tmps) = true then Oper.wp Try.prog o a (W1.alloc (.cells cells 61)).drew K Q else E := by
  obtain ⟨i0, hi0, hz0, hz1, hz2⟩ := info_parts info61
  subst hg hcells
  have hb0 : Below W1.heap.size W1 (W1.alloc (.cells (flat [e]).toArray 61)).drew := ((Below.refl _ _).alloc (Nat.le_refl _) _).drew
  have hlit : (W1.alloc (.cells (flat [e]).toArray 61)).ownsRow 0 61 4 (.slice (some ⟨W1.heap.size, 0, none⟩) 1 1) 1 (flat [e]) := World.ownsRow_lit _ (flat [e]).toArray 1 (Nat.zero_le _) (by simp [maxLen]) rfl
  have hr : Reads (W1.alloc (.cells (flat [e]).toArray 61)).drew (W1.alloc (.cells (flat [e]).toArray 61)).heap.size 4 (some ⟨W1.heap.size, 0, none⟩) 1 (flat [e]) := (Reads.of_own hlit).drew
  refine step_append_any _ hgd s x _ ho base 61 i0 _ 4 32 Try.underlying27 hi0 hz0 hz1 hz2 rfl (by omega) _ l.length (flat l) hs (h.below hb0).row _ _ 1 1 _ hx hr (flat_one _) (by simp only [maxLen]; omega) (by omega) (by simp; omega) ?_
  intro v1 w1 hown hgr _
  obtain ⟨g1, c1, rfl, _⟩ := World.ownsRow.form hown (by omega)
  obtain ⟨-, -, q1, q2, -⟩ := h.pushed e _ hown hgr
  exact hk g1 c1 w1 hown hgr q1 q2
end Go.Proofs.Ytkokijmgikdnfaa
