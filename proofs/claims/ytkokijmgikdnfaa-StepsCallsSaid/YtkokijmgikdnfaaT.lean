/- The reference's scheduler in memory. -/
import Derived.Test.YtkokijmgikdnfaaVb
namespace Go.Proofs.Ytkokijmgikdnfaa
open Go.RowKit
set_option linter.unusedVariables false

def flat : List Ent → List Value
  | [] => []
  | b :: l => .int .i64 b.id :: .int .i64 b.wt :: .int .i64 b.cr :: .int .i64 b.left :: flat l

theorem flat_length (l : List Ent) : (flat l).length = l.length * 4 := by
  induction l with
  | nil => rfl
  | cons b l ih => simp [flat, ih]; omega
theorem flat_append (l m : List Ent) : flat (l ++ m) = flat l ++ flat m := by
  induction l with
  | nil => rfl
  | cons b l ih => simp [flat, ih]
theorem flat_one (l : List Ent) : ∀ u ∈ flat l, u.oneCell' = true := by
  induction l with
  | nil => intro u hu; cases hu
  | cons b l ih =>
    intro u hu
    simp only [flat, List.mem_cons] at hu
    rcases hu with rfl | rfl | rfl | rfl | hu
    · rfl
    · rfl
    · rfl
    · rfl
    · exact ih u hu
theorem flat_get (l : List Ent) (i : Nat) (b : Ent) (h : l[i]? = some b) : (flat l)[i * 4]? = some (.int .i64 b.id) ∧ (flat l)[i * 4 + 1]? = some (.int .i64 b.wt) ∧ (flat l)[i * 4 + 2]? = some (.int .i64 b.cr) ∧ (flat l)[i * 4 + 3]? = some (.int .i64 b.left) := by
  induction l generalizing i with
  | nil => simp at h
  | cons c l ih =>
    cases i with
    | zero =>
      simp at h
      subst h
      exact ⟨rfl, rfl, rfl, rfl⟩
    | succ i =>
      have h' : l[i]? = some b := by simpa using h
      have k := ih i h'
      have e : ∀ j, (i + 1) * 4 + j = (i * 4 + j) + 1 + 1 + 1 + 1 := by intro j; omega
      have e0 : (i + 1) * 4 = (i * 4) + 1 + 1 + 1 + 1 := by omega
      refine ⟨?_, ?_, ?_, ?_⟩
      · rw [e0]; simpa [flat] using k.1
      · rw [e 1]; simpa [flat] using k.2.1
      · rw [e 2]; simpa [flat] using k.2.2.1
      · rw [e 3]; simpa [flat] using k.2.2.2
theorem flat_set (l : List Ent) (i : Nat) (b : Ent) (h : i < l.length) : flat (l.set i b) = ((((flat l).set (i * 4) (.int .i64 b.id)).set (i * 4 + 1) (.int .i64 b.wt)).set (i * 4 + 2) (.int .i64 b.cr)).set (i * 4 + 3) (.int .i64 b.left) := by
  induction l generalizing i with
  | nil => simp at h
  | cons c l ih =>
    cases i with
    | zero => rfl
    | succ i =>
      have e : ∀ j, (i + 1) * 4 + j = (i * 4 + j) + 1 + 1 + 1 + 1 := by intro j; omega
      have e0 : (i + 1) * 4 = (i * 4) + 1 + 1 + 1 + 1 := by omega
      have k := ih i (by simpa using h)
      rw [e0, show i * 4 + 1 + 1 + 1 + 1 + 1 = (i * 4 + 1) + 1 + 1 + 1 + 1 from by omega, show i * 4 + 1 + 1 + 1 + 1 + 2 = (i * 4 + 2) + 1 + 1 + 1 + 1 from by omega, show i * 4 + 1 + 1 + 1 + 1 + 3 = (i * 4 + 3) + 1 + 1 + 1 + 1 from by omega]
      simp only [flat, List.set_cons_succ, k]
theorem flat_take (l : List Ent) (n : Nat) : flat (l.take n) = (flat l).take (n * 4) := by
  induction l generalizing n with
  | nil => simp [flat]
  | cons b l ih =>
    cases n with
    | zero => simp [flat]
    | succ n =>
      rw [show (n + 1) * 4 = n * 4 + 1 + 1 + 1 + 1 from by omega]
      simp only [flat, List.take_succ_cons, ih]


/-- block S of w is the reference's scheduler of the machines l -/
structure RS (w : World) (base S : Nat) (v : Value) (l : List Ent) (last : Int) : Prop where
  low : base ≤ S
  head : w.heap[S]? = some (.cells #[v, .int .i64 last] 29 (0, 0))
  row : w.ownsRow base 61 4 v l.length (flat l)
/-- only the reference's blocks may change -/
structure RKeep (base : Nat) (w w' : World) : Prop where
  os : w'.os = w.os
  tape : w'.tape = w.tape
  output : w'.output = w.output
  size : w.heap.size ≤ w'.heap.size
  low : ∀ k, k < base → k < w.heap.size → w'.heap[k]? = w.heap[k]?
  other : ∀ (k : Nat) (cs : Array Value) (t : TypeId) (fr : Nat × Nat), w.heap[k]? = some (.cells cs t fr) → t ≠ 29 → t ≠ 61 → w'.heap[k]? = w.heap[k]?
section
variable {base : Nat} {w w1 w' : World}
theorem RKeep.refl (base : Nat) (w : World) : RKeep base w w := ⟨rfl, rfl, rfl, Nat.le_refl _, fun _ _ _ => rfl, fun _ _ _ _ _ _ _ => rfl⟩
theorem RKeep.trans (h : RKeep base w w1) (k : RKeep base w1 w') : RKeep base w w' :=
  ⟨k.os.trans h.os, k.tape.trans h.tape, k.output.trans h.output, Nat.le_trans h.size k.size, fun b hb hs => (k.low b hb (Nat.lt_of_lt_of_le hs h.size)).trans (h.low b hb hs),
    fun b cs t fr e h1 h2 => (k.other b cs t fr ((h.other b cs t fr e h1 h2).trans e) h1 h2).trans (h.other b cs t fr e h1 h2)⟩
theorem RKeep.of_below (h : Below w.heap.size w w') : RKeep base w w' := ⟨h.os, h.tape, h.output, h.size, fun k _ hk => h.block k hk, fun k cs t fr e _ _ => h.block k (heap_lt e)⟩
theorem RKeep.below (h : RKeep base w w') (hb : base ≤ w.heap.size) : Below base w w' := ⟨h.os, h.tape, h.output, h.size, fun k hk => h.low k hk (by omega)⟩
theorem RKeep.setCell (h : RKeep base w w') {p : Addr} (hp : w.heap.size ≤ p.block ∨ (base ≤ p.block ∧ ∃ (cs : Array Value) (t : TypeId) (fr : Nat × Nat), w.heap[p.block]? = some (.cells cs t fr) ∧ (t = 29 ∨ t = 61))) (v : Value) : RKeep base w (w'.setCell p v) := by
  refine ⟨h.os, h.tape, h.output, by simpa using h.size, fun k hk hs => ?_, fun k cs t fr e h1 h2 => ?_⟩
  · rw [setCell_same _ _ _ _ (by rintro rfl; rcases hp with h1 | ⟨h1, _⟩ <;> omega)]
    exact h.low k hk hs
  · rw [setCell_same]
    · exact h.other k cs t fr e h1 h2
    · rintro rfl
      rcases hp with h3 | ⟨_, cs', t', fr', e', h4⟩
      · have := heap_lt e; omega
      · rw [e] at e'
        cases e'
        rcases h4 with rfl | rfl
        · exact h1 rfl
        · exact h2 rfl
theorem RKeep.drew (h : RKeep base w w') : RKeep base w w'.drew := ⟨h.os, h.tape, h.output, h.size, h.low, h.other⟩
theorem RKeep.drewN (h : RKeep base w w') (n : Nat) : RKeep base w (w'.drewN n) := ⟨h.os, h.tape, h.output, h.size, h.low, h.other⟩
theorem RKeep.alloc (h : RKeep base w w') (o : Obj) : RKeep base w (w'.alloc o) := h.trans (RKeep.of_below ((Below.refl _ _).alloc (Nat.le_refl _) _))
theorem RKeep.grown {v : Value} {l : List Ent} (h : w.grownBy w' v.ownBlock) (hr : w.ownsRow base 61 4 v l.length (flat l)) : RKeep base w w' := by
  refine ⟨h.os, h.tape, h.output, h.size, fun k hk hs => h.block k hs ?_, fun k cs t fr e h1 h2 => h.block k (heap_lt e) ?_⟩
  · intro e
    have := (World.ownsRow.lt hr k e.symm).1
    omega
  · intro e'
    rcases hr.2 with ⟨rfl, _⟩ | ⟨g', cap', cur, rfl, _, hg', _⟩
    · cases e'
    · cases e'
      rw [hg'] at e
      cases e
      exact h2 rfl
end
section
variable {w w' : World} {base S : Nat} {v : Value} {l : List Ent} {last : Int}
theorem RS.below (h : RS w base S v l last) (hb : Below w.heap.size w w') : RS w' base S v l last :=
  ⟨h.low, heap_below hb h.head, row_move h.row fun k hk => hb.block k (World.ownsRow.lt h.row k hk).2⟩
theorem RS.drew (h : RS w base S v l last) : RS w.drew base S v l last := ⟨h.low, h.head, h.row⟩
theorem RS.drewN (h : RS w base S v l last) (n : Nat) : RS (w.drewN n) base S v l last := ⟨h.low, h.head, h.row⟩
theorem RS.form (h : RS w base S v l last) : ∃ A c, v = .slice A l.length c := by
  rcases h.row.2 with ⟨rfl, e⟩ | ⟨g, cap, cur, rfl, _⟩
  · exact ⟨none, 0, by rw [e]⟩
  · exact ⟨_, _, rfl⟩
theorem RS.head0 (h : RS w base S v l last) : w.cell? ⟨S, 0, none⟩ = some v := cell_of_row _ _ 0 _ _ _ h.head
theorem RS.head1 (h : RS w base S v l last) : w.cell? ⟨S, 1, none⟩ = some (.int .i64 last) := cell_of_row _ _ 1 _ _ _ h.head
/-- a row of l at g -/
structure RRow (w : World) (base g c : Nat) (l : List Ent) : Prop where
  row : w.ownsRow base 61 4 (.slice (some ⟨g, 0, none⟩) l.length c) l.length (flat l)
theorem RS.rrow (h : RS w base S v l last) (h0 : 0 < l.length) : ∃ g c, v = .slice (some ⟨g, 0, none⟩) l.length c ∧ RRow w base g c l := by
  obtain ⟨g, c, hv, _⟩ := World.ownsRow.form h.row h0
  subst hv
  exact ⟨g, c, rfl, ⟨h.row⟩⟩
theorem RRow.cells {g c : Nat} (h : RRow w base g c l) {i : Nat} (hi : i < l.length) : w.cell? ⟨g, i * 4, none⟩ = some (.int .i64 l[i].id) ∧ w.cell? ⟨g, i * 4 + 1, none⟩ = some (.int .i64 l[i].wt) ∧
    w.cell? ⟨g, i * 4 + 2, none⟩ = some (.int .i64 l[i].cr) ∧ w.cell? ⟨g, i * 4 + 3, none⟩ = some (.int .i64 l[i].left) := by
  obtain ⟨k0, k1, k2, k3⟩ := flat_get l i l[i] (List.getElem?_eq_getElem hi)
  have hc := fun j u (hu : (flat l)[j]? = some u) => World.ownsRow.cells h.row (g := g) rfl j u hu
  have e0 := hc _ _ k0
  have e1 := hc _ _ k1
  have e2 := hc _ _ k2
  have e3 := hc _ _ k3
  rw [add_plain] at e0 e1 e2 e3
  exact ⟨e0, e1, e2, e3⟩
theorem RRow.frozen {g c : Nat} (h : RRow w base g c l) (j : Nat) : w.frozen? ⟨g, j, none⟩ = false := World.ownsRow.frozenAt h.row j
theorem RRow.block {g c : Nat} (h : RRow w base g c l) : base ≤ g ∧ ∃ (cs : Array Value) (fr : Nat × Nat), w.heap[g]? = some (.cells cs 61 fr) := by
  rcases h.row.2 with ⟨h', _⟩ | ⟨g', cap', cur, h', hb, hg', _⟩
  · cases h'
  · cases h'
    exact ⟨hb, _, _, hg'⟩
end
/-- the list with one field of a machine stored -/
theorem flat_set1 (l : List Ent) (i : Nat) (hi : i < l.length) (c : Int) : flat (l.set i (l[i].withCr c)) = (flat l).set (i * 4 + 2) (.int .i64 c) := by
  induction l generalizing i with
  | nil => simp at hi
  | cons x l ih =>
    cases i with
    | zero => rfl
    | succ i =>
      have k := ih i (by simpa using hi)
      rw [show (i + 1) * 4 + 2 = (i * 4 + 2) + 1 + 1 + 1 + 1 from by omega]
      simp only [flat, List.set_cons_succ, List.getElem_cons_succ, k]
theorem flat_set3 (l : List Ent) (i : Nat) (hi : i < l.length) : flat (l.set i l[i].ran) = (flat l).set (i * 4 + 3) (.int .i64 (wrap64 (l[i].left - 1))) := by
  induction l generalizing i with
  | nil => simp at hi
  | cons x l ih =>
    cases i with
    | zero => rfl
    | succ i =>
      have k := ih i (by simpa using hi)
      rw [show (i + 1) * 4 + 3 = (i * 4 + 3) + 1 + 1 + 1 + 1 from by omega]
      simp only [flat, List.set_cons_succ, List.getElem_cons_succ, k]
section
variable {w : World} {base S g c : Nat} {l : List Ent} {last : Int}
theorem RS.setRow (h : RS w base S (.slice (some ⟨g, 0, none⟩) l.length c) l last) (j : Nat) (u : Value) (l' : List Ent) (hl : l'.length = l.length) (hf : flat l' = (flat l).set j u) :
    RS (w.setCell ⟨g, j, none⟩ u) base S (.slice (some ⟨g, 0, none⟩) l.length c) l' last ∧ RKeep base w (w.setCell ⟨g, j, none⟩ u) := by
  have hb := (RRow.block (c := c) ⟨h.row⟩)
  obtain ⟨hb1, cs, fr, hg⟩ := hb
  refine ⟨⟨h.low, ?_, ?_⟩, (RKeep.refl base w).setCell (.inr ⟨hb1, _, _, _, hg, .inr rfl⟩) _⟩
  · rw [setCell_same _ _ _ _ (tag_ne h.head hg (by decide))]; exact h.head
  · have := (World.ownsRow.stored h.row j u).1
    rw [hl, hf]
    exact this
theorem RS.setCr (h : RS w base S (.slice (some ⟨g, 0, none⟩) l.length c) l last) (i : Nat) (hi : i < l.length) (x : Int) :
    RS (w.setCell ⟨g, i * 4 + 2, none⟩ (.int .i64 x)) base S (.slice (some ⟨g, 0, none⟩) l.length c) (l.set i (l[i].withCr x)) last ∧ RKeep base w (w.setCell ⟨g, i * 4 + 2, none⟩ (.int .i64 x)) :=
  h.setRow _ _ _ (by simp) (flat_set1 l i hi x)
theorem RS.setLeft (h : RS w base S (.slice (some ⟨g, 0, none⟩) l.length c) l last) (i : Nat) (hi : i < l.length) :
    RS (w.setCell ⟨g, i * 4 + 3, none⟩ (.int .i64 (wrap64 (l[i].left - 1)))) base S (.slice (some ⟨g, 0, none⟩) l.length c) (l.set i l[i].ran) last ∧ RKeep base w (w.setCell ⟨g, i * 4 + 3, none⟩ (.int .i64 (wrap64 (l[i].left - 1)))) :=
  h.setRow _ _ _ (by simp) (flat_set3 l i hi)
end
end Go.Proofs.Ytkokijmgikdnfaa
