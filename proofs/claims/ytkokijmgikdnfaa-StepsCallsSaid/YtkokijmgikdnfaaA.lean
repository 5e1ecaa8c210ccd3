/- Words for the scheduler's memory: what a call may change, the scheduler as it lies in memory. -/
import Derived.Test.YtkokijmgikdnfaaProg
import Derived.WalkKit
import Derived.KernelRfl
import Derived.Lib.Hide
import Derived.BigQuiet
import Derived.Deep.QuietTactic
import Derived.Deep.Draws
import Derived.Deep.LoopGhost
import Derived.Deep.DeepCutAuto
import Derived.Deep.AppendLies
import Derived.Maps.AppendAt
import Derived.OwnWalk
import Derived.Deep.RegionHeld3
import Derived.RegionTactic
namespace Go.Proofs.Ytkokijmgikdnfaa
open Go.RowKit
set_option linter.unusedVariables false

/-- block k of w is one of the program's scheduler: made at or above base, of type Scheduler, row of entries, or entry -/
def Mine (w : World) (base k : Nat) : Prop := base ≤ k ∧ ∃ cs t fr, w.heap[k]? = some (.cells cs t fr) ∧ (t = 59 ∨ t = 65 ∨ t = 69)
/-- only the scheduler's blocks and the blocks J may change -/
structure Keep (base : Nat) (J : Nat → Prop) (w w' : World) : Prop where
  os : w'.os = w.os
  tape : w'.tape = w.tape
  output : w'.output = w.output
  size : w.heap.size ≤ w'.heap.size
  block : ∀ k, k < w.heap.size → ¬ J k → ¬ Mine w base k → w'.heap[k]? = w.heap[k]?

section
variable {base : Nat} {J J' : Nat → Prop} {w w1 w' : World}
theorem Keep.refl (base : Nat) (J : Nat → Prop) (w : World) : Keep base J w w := ⟨rfl, rfl, rfl, Nat.le_refl _, fun _ _ _ _ => rfl⟩
theorem Keep.trans (h : Keep base J w w1) (k : Keep base J w1 w') : Keep base J w w' := by
  refine ⟨k.os.trans h.os, k.tape.trans h.tape, k.output.trans h.output, Nat.le_trans h.size k.size, fun b hb hj hm => ?_⟩
  have e := h.block b hb hj hm
  refine (k.block b (Nat.lt_of_lt_of_le hb h.size) hj ?_).trans e
  rintro ⟨h1, cs, t, fr, h2, h3⟩
  exact hm ⟨h1, cs, t, fr, by rw [← e]; exact h2, h3⟩
theorem Keep.more (h : Keep base J w w') (hj : ∀ k, J k → J' k) : Keep base J' w w' := ⟨h.os, h.tape, h.output, h.size, fun k hk hn => h.block k hk fun hh => hn (hj k hh)⟩
theorem Keep.of_below (h : Below w.heap.size w w') : Keep base J w w' := ⟨h.os, h.tape, h.output, h.size, fun k hk _ _ => h.block k hk⟩
theorem Keep.below (h : Keep base J w w') (hJ : ∀ k, J k → base ≤ k) (hb : base ≤ w.heap.size) : Below base w w' :=
  ⟨h.os, h.tape, h.output, h.size, fun k hk => h.block k (by omega) (fun hj => by have := hJ k hj; omega) fun hm => by have := hm.1; omega⟩
theorem Keep.alloc (h : Keep base J w w') (o : Obj) : Keep base J w (w'.alloc o) := h.trans (Keep.of_below ((Below.refl _ _).alloc (Nat.le_refl _) _))
theorem Keep.drew (h : Keep base J w w') : Keep base J w w'.drew := ⟨h.os, h.tape, h.output, h.size, h.block⟩
theorem Keep.drewN (h : Keep base J w w') (n : Nat) : Keep base J w (w'.drewN n) := ⟨h.os, h.tape, h.output, h.size, h.block⟩
theorem setCell_same (w : World) (p : Addr) (v : Value) (k : Nat) (hk : k ≠ p.block) : (w.setCell p v).heap[k]? = w.heap[k]? :=
  Below.heap_setCell _ _ _ _ hk
theorem Keep.setCell (h : Keep base J w w') {p : Addr} (hp : J p.block ∨ w.heap.size ≤ p.block ∨ Mine w base p.block) (v : Value) : Keep base J w (w'.setCell p v) := by
  refine ⟨h.os, h.tape, h.output, by simpa using h.size, fun k hk hj hm => ?_⟩
  rw [setCell_same]
  · exact h.block k hk hj hm
  · rintro rfl
    rcases hp with h1 | h1 | h1
    · exact hj h1
    · omega
    · exact hm h1
end

/-- a machine in the scheduler: identifier, weight, credit; where the entry and the job lie; the job's numbers -/
structure Ent where
  id : Int
  wt : Int
  cr : Int
  eb : Nat
  jb : Nat
  left : Int
  done : Int
def entCells (e : Ent) : Array Value := #[.int .i64 e.id, .int .i64 e.wt, .int .i64 e.cr, .iface 44 (.pointer (some ⟨e.jb, 0, none⟩))]
def jobCells (e : Ent) : Array Value := #[.int .i64 e.left, .int .i64 e.done]
def ptr (e : Ent) : Value := .pointer (some ⟨e.eb, 0, none⟩)
def EntAt (w : World) (base : Nat) (e : Ent) : Prop := base ≤ e.eb ∧ w.heap[e.eb]? = some (.cells (entCells e) 69 (0, 0))
def JobAt (w : World) (base : Nat) (e : Ent) : Prop := base ≤ e.jb ∧ w.heap[e.jb]? = some (.cells (jobCells e) 46 (0, 0))
/-- block S of w is a scheduler of the machines l whose last identifier is last -/
structure Sch (w : World) (base S : Nat) (v : Value) (l : List Ent) (last : Int) : Prop where
  low : base ≤ S
  head : w.heap[S]? = some (.cells #[v, .int .i64 last] 59 (0, 0))
  row : w.ownsRow base 65 1 v l.length (l.map ptr)
  ents : ∀ e ∈ l, EntAt w base e ∧ JobAt w base e
  nodE : (l.map (·.eb)).Nodup
  nodJ : (l.map (·.jb)).Nodup
end Go.Proofs.Ytkokijmgikdnfaa
