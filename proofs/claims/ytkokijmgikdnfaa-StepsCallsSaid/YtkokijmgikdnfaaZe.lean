/- The law's function do: one call on the program's scheduler. -/
import Derived.Test.YtkokijmgikdnfaaZd
namespace Go.Proofs.Ytkokijmgikdnfaa
open Go.RowKit
set_option linter.unusedVariables false
/-- only the program's scheduler, its entries and the jobs may change -/
structure PKeep (base : Nat) (w w' : World) : Prop where
  os : w'.os = w.os
  tape : w'.tape = w.tape
  output : w'.output = w.output
  size : w.heap.size ≤ w'.heap.size
  low : ∀ k, k < base → k < w.heap.size → w'.heap[k]? = w.heap[k]?
  other : ∀ (k : Nat) (cs : Array Value) (t : TypeId) (fr : Nat × Nat), w.heap[k]? = some (.cells cs t fr) → t ≠ 59 → t ≠ 65 → t ≠ 69 → t ≠ 46 → w'.heap[k]? = w.heap[k]?
section
variable {base : Nat} {w w1 w' : World}
theorem PKeep.trans (h : PKeep base w w1) (k : PKeep base w1 w') : PKeep base w w' :=
  ⟨k.os.trans h.os, k.tape.trans h.tape, k.output.trans h.output, Nat.le_trans h.size k.size, fun b hb hs => (k.low b hb (Nat.lt_of_lt_of_le hs h.size)).trans (h.low b hb hs),
    fun b cs t fr e h1 h2 h3 h4 => (k.other b cs t fr ((h.other b cs t fr e h1 h2 h3 h4).trans e) h1 h2 h3 h4).trans (h.other b cs t fr e h1 h2 h3 h4)⟩
theorem PKeep.of_below (h : Below w.heap.size w w') : PKeep base w w' := ⟨h.os, h.tape, h.output, h.size, fun k _ hk => h.block k hk, fun k cs t fr e _ _ _ _ => h.block k (heap_lt e)⟩
theorem PKeep.below (h : PKeep base w w') (hb : base ≤ w.heap.size) : Below base w w' := ⟨h.os, h.tape, h.output, h.size, fun k hk => h.low k hk (by omega)⟩
theorem PKeep.of_keep {J : Nat → Prop} (h : Keep base J w w') (hJ : ∀ k, J k → base ≤ k ∧ ∃ cs fr, w.heap[k]? = some (.cells cs 46 fr)) : PKeep base w w' := by
  refine ⟨h.os, h.tape, h.output, h.size, fun k hk hs => h.block k hs (fun hj => by have := (hJ k hj).1; omega) (fun hm => by have := hm.1; omega), fun k cs t fr e h1 h2 h3 h4 => h.block k (heap_lt e) (fun hj => ?_) ?_⟩
  · obtain ⟨_, cs', fr', e'⟩ := hJ k hj
    rw [e] at e'
    cases e'
    exact h4 rfl
  · rintro ⟨_, cs', t', fr', e', ht⟩
    rw [e] at e'
    cases e'
    rcases ht with h | h | h
    · exact h1 h
    · exact h2 h
    · exact h3 h
theorem PKeep.setCell (h : PKeep base w w') {p : Addr} (hp : w.heap.size ≤ p.block) (hb : base ≤ p.block) (v : Value) : PKeep base w (w'.setCell p v) := by
  refine ⟨h.os, h.tape, h.output, by simpa using h.size, fun k hk hs => ?_, fun k cs t fr e h1 h2 h3 h4 => ?_⟩
  · rw [setCell_same _ _ _ _ (by rintro rfl; omega)]
    exact h.low k hk hs
  · rw [setCell_same _ _ _ _ (by rintro rfl; have := heap_lt e; omega)]
    exact h.other k cs t fr e h1 h2 h3 h4
theorem PKeep.ans {a : Nat} (h : PKeep base w w') (ha : w.heap.size ≤ a) (hb : base ≤ a) (x : Int) (y : Bool) (z : Int) : PKeep base w (ansW w' a x y z) :=
  ((h.setCell (p := ⟨a, 0, none⟩) ha hb _).setCell (p := ⟨a, 1, none⟩) ha hb _).setCell (p := ⟨a, 2, none⟩) ha hb _
theorem PKeep.ansAt {a : Nat} {x z : Int} {y : Bool} (h : PKeep base w w') (ha : AnsAt w a x y z) : AnsAt w' a x y z := (h.other _ _ _ _ ha (by decide) (by decide) (by decide) (by decide)).trans ha
theorem RS.pkeep {base' S : Nat} {v : Value} {l : List Ent} {last : Int} (h : RS w base' S v l last) (k : PKeep base w w') : RS w' base' S v l last := by
  refine ⟨h.low, (k.other _ _ _ _ h.head (by decide) (by decide) (by decide) (by decide)).trans h.head, row_move h.row fun j hj => ?_⟩
  rcases h.row.2 with ⟨rfl, _⟩ | ⟨g', cap', cur, rfl, _, hg, _⟩
  · cases hj
  · cases hj
    exact k.other _ _ _ _ hg (by decide) (by decide) (by decide) (by decide)
theorem Sch.rkeep {base' S : Nat} {v : Value} {l : List Ent} {last : Int} (h : Sch w base' S v l last) (k : RKeep base w w') : Sch w' base' S v l last :=
  h.same fun b cs t fr e ht => k.other b cs t fr e (by rcases ht with rfl | rfl | rfl | rfl <;> decide) (by rcases ht with rfl | rfl | rfl | rfl <;> decide)
/-- what storing an answer keeps -/
def Stable (P : World → Prop) : Prop := ∀ w a, AnsAt w a 0 false 0 → P w → ∀ x y z, P (ansW w a x y z)
theorem Sch.ans {w : World} {base S a : Nat} {v : Value} {l : List Ent} {last : Int} (h : Sch w base S v l last) (ha : AnsAt w a 0 false 0) (x : Int) (y : Bool) (z : Int) : Sch (ansW w a x y z) base S v l last :=
  h.same fun k cs t fr e ht => ansW_other _ _ _ _ _ _ (tag_ne e ha (by rcases ht with rfl | rfl | rfl | rfl <;> decide))
theorem stable_sch {base S : Nat} {l : List Ent} {last : Int} : Stable fun w => ∃ v, Sch w base S v l last := fun w a ha ⟨v, h⟩ x y z => ⟨v, h.ans ha x y z⟩
end
section
variable {w : World} {B : Nat} {P : World → Prop}
set_option maxRecDepth 100000 in
set_option maxHeartbeats 2000000 in
theorem do0 (n m x e0 : Int) (hP : Stable P) (hb : B ≤ w.heap.size) (hcall : ∀ W, Below w.heap.size w W → Calls Try.prog 18 #[.pointer (some ⟨B, 0, none⟩), .iface 44 (.pointer (some ⟨W.heap.size, 0, none⟩)), .int .i64 n] (W.alloc (.cells #[.int .i64 m, .int .i64 0] 46)) fun e w' =>
      e = .returned (.tuple #[.int .i64 x, .int .i64 e0]) ∧ P w' ∧ PKeep B W w') :
    Calls Try.prog 11 #[.pointer (some ⟨B, 0, none⟩), act 0 n m] w fun e w' => e = .returned (ans x false e0) ∧ P w' ∧ PKeep B w w' := by
  have hc := hcall _ (inW_below w 0 n m)
  rw [show (inW w 0 n m).heap.size = w.heap.size + 1 + 1 by simp [inW]] at hc
  have hans := Lib.hid (inW_ans w 0 n m)
  have hKk := Lib.hid (PKeep.of_below (base := B) (inW_below w 0 n m))
  unfold inW at hc hans hKk
  replace hc := Lib.hid hc
  clear hcall
  unfold act
  go_enter Try.func11, Try.ntmps11
  go_wp2_with fail
  refine hc.out.mono ?_
  rintro e w5 ⟨rfl, h5, k5⟩
  have hA := k5.ansAt hans.out
  obtain ⟨fa0, fa1, fa2, z0, z1, z2⟩ := hA.facts
  have hK3 := Lib.hid (hKk.out.trans k5)
  replace h5 := Lib.hid h5
  replace hA := Lib.hid hA
  clear hc k5
  go_wp2
  refine bodyPost_ret (ret_ans rfl _ _ (w.heap.size + 1) rfl (hA.out.store x false e0)) rfl ?_
  exact ⟨rfl, hP _ _ hA.out h5.out _ _ _, hK3.out.ans (Nat.le_succ _) (by omega) _ _ _⟩
set_option maxRecDepth 100000 in
set_option maxHeartbeats 2000000 in
theorem do1 (n m e0 : Int) (hP : Stable P) (hb : B ≤ w.heap.size) (hcall : ∀ W, Below w.heap.size w W → Calls Try.prog 21 #[.pointer (some ⟨B, 0, none⟩), .int .i64 n] W fun e w' => e = .returned (.int .i64 e0) ∧ P w' ∧ PKeep B W w') :
    Calls Try.prog 11 #[.pointer (some ⟨B, 0, none⟩), act 1 n m] w fun e w' => e = .returned (ans 0 false e0) ∧ P w' ∧ PKeep B w w' := by
  have hc := hcall _ (inW_below w 1 n m)
  have hans := Lib.hid (inW_ans w 1 n m)
  have hKk := Lib.hid (PKeep.of_below (base := B) (inW_below w 1 n m))
  unfold inW at hc hans hKk
  replace hc := Lib.hid hc
  clear hcall
  unfold act
  go_enter Try.func11, Try.ntmps11
  go_wp2_with fail
  refine hc.out.mono ?_
  rintro e w5 ⟨rfl, h5, k5⟩
  have hA := k5.ansAt hans.out
  obtain ⟨fa0, fa1, fa2, z0, z1, z2⟩ := hA.facts
  have hK3 := Lib.hid (hKk.out.trans k5)
  replace h5 := Lib.hid h5
  replace hA := Lib.hid hA
  clear hc k5
  go_wp2
  refine bodyPost_ret (ret_ans rfl _ _ (w.heap.size + 1) rfl (hA.out.store 0 false e0)) rfl ?_
  exact ⟨rfl, hP _ _ hA.out h5.out _ _ _, hK3.out.ans (Nat.le_succ _) (by omega) _ _ _⟩
set_option maxRecDepth 100000 in
set_option maxHeartbeats 2000000 in
theorem do2 (n m x e0 : Int) (d : Bool) (hP : Stable P) (hb : B ≤ w.heap.size) (hcall : ∀ W, Below w.heap.size w W → Calls Try.prog 19 #[.pointer (some ⟨B, 0, none⟩), .int .i64 n] W fun e w' => e = .returned (.tuple #[.int .i64 x, .bool d, .int .i64 e0]) ∧ P w' ∧ PKeep B W w') :
    Calls Try.prog 11 #[.pointer (some ⟨B, 0, none⟩), act 2 n m] w fun e w' => e = .returned (ans x d e0) ∧ P w' ∧ PKeep B w w' := by
  have hc := hcall _ (inW_below w 2 n m)
  have hans := Lib.hid (inW_ans w 2 n m)
  have hKk := Lib.hid (PKeep.of_below (base := B) (inW_below w 2 n m))
  unfold inW at hc hans hKk
  replace hc := Lib.hid hc
  clear hcall
  unfold act
  go_enter Try.func11, Try.ntmps11
  go_wp2_with fail
  refine hc.out.mono ?_
  rintro e w5 ⟨rfl, h5, k5⟩
  have hA := k5.ansAt hans.out
  obtain ⟨fa0, fa1, fa2, z0, z1, z2⟩ := hA.facts
  have hK3 := Lib.hid (hKk.out.trans k5)
  replace h5 := Lib.hid h5
  replace hA := Lib.hid hA
  clear hc k5
  go_wp2
  refine bodyPost_ret (ret_ans rfl _ _ (w.heap.size + 1) rfl (hA.out.store x d e0)) rfl ?_
  exact ⟨rfl, hP _ _ hA.out h5.out _ _ _, hK3.out.ans (Nat.le_succ _) (by omega) _ _ _⟩
set_option maxRecDepth 100000 in
set_option maxHeartbeats 2000000 in
theorem do3 (n m x e0 : Int) (d : Bool) (hP : Stable P) (hb : B ≤ w.heap.size) (hcall : ∀ W, Below w.heap.size w W → Calls Try.prog 20 #[.pointer (some ⟨B, 0, none⟩)] W fun e w' => e = .returned (.tuple #[.int .i64 x, .bool d, .int .i64 e0]) ∧ P w' ∧ PKeep B W w') :
    Calls Try.prog 11 #[.pointer (some ⟨B, 0, none⟩), act 3 n m] w fun e w' => e = .returned (ans x d e0) ∧ P w' ∧ PKeep B w w' := by
  have hc := hcall _ (inW_below w 3 n m)
  have hans := Lib.hid (inW_ans w 3 n m)
  have hKk := Lib.hid (PKeep.of_below (base := B) (inW_below w 3 n m))
  unfold inW at hc hans hKk
  replace hc := Lib.hid hc
  clear hcall
  unfold act
  go_enter Try.func11, Try.ntmps11
  go_wp2_with fail
  refine hc.out.mono ?_
  rintro e w5 ⟨rfl, h5, k5⟩
  have hA := k5.ansAt hans.out
  obtain ⟨fa0, fa1, fa2, z0, z1, z2⟩ := hA.facts
  have hK3 := Lib.hid (hKk.out.trans k5)
  replace h5 := Lib.hid h5
  replace hA := Lib.hid hA
  clear hc k5
  go_wp2
  refine bodyPost_ret (ret_ans rfl _ _ (w.heap.size + 1) rfl (hA.out.store x d e0)) rfl ?_
  exact ⟨rfl, hP _ _ hA.out h5.out _ _ _, hK3.out.ans (Nat.le_succ _) (by omega) _ _ _⟩
end
end Go.Proofs.Ytkokijmgikdnfaa
