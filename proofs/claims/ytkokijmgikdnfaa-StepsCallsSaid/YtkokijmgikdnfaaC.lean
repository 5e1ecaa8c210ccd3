/- Reading the scheduler; contracts of index. -/
import Derived.Test.YtkokijmgikdnfaaB
namespace Go.Proofs.Ytkokijmgikdnfaa
open Go.RowKit
set_option linter.unusedVariables false

theorem cell_below {w w' : World} (hb : Below w.heap.size w w') {p : Addr} {v : Value} (h : w.cell? p = some v) : w'.cell? p = some v :=
  (hb.cell (World.block_lt_of_cell? _ _ h)).trans h
theorem below_then {B : Nat} {w w1 w2 : World} (h : Below B w w1) (hB : B ≤ w1.heap.size) (k : Below w1.heap.size w1 w2) : Below B w w2 := h.trans (k.mono hB)
theorem heap_lt {w : World} {k : Nat} {o : Obj} (h : w.heap[k]? = some o) : k < w.heap.size := (Array.getElem?_eq_some_iff.1 h).1
theorem heap_below {w w' : World} (hb : Below w.heap.size w w') {k : Nat} {o : Obj} (h : w.heap[k]? = some o) : w'.heap[k]? = some o := (hb.block k (heap_lt h)).trans h

theorem row_move {w w' : World} {base size n : Nat} {e : TypeId} {v : Value} {xs : List Value} (h : w.ownsRow base e size v n xs) (hm : ∀ k, v.ownBlock = some k → w'.heap[k]? = w.heap[k]?) : w'.ownsRow base e size v n xs := by
  refine ⟨h.1, ?_⟩
  rcases h.2 with hn | ⟨g, cap, cur, rfl, hb, hg, rest⟩
  · exact .inl hn
  · exact .inr ⟨g, cap, cur, rfl, hb, (hm g rfl).trans hg, rest⟩

section
variable {w w' : World} {base S : Nat} {v : Value} {l : List Ent} {last : Int}
theorem Sch.below (h : Sch w base S v l last) (hb : Below w.heap.size w w') : Sch w' base S v l last :=
  ⟨h.low, heap_below hb h.head, row_move h.row (fun k hk => hb.block k (World.ownsRow.lt h.row k hk).2), fun e he => ⟨⟨(h.ents e he).1.1, heap_below hb (h.ents e he).1.2⟩, (h.ents e he).2.1, heap_below hb (h.ents e he).2.2⟩, h.nodE, h.nodJ⟩
theorem Sch.form (h : Sch w base S v l last) : ∃ A c, v = .slice A l.length c := by
  rcases h.row.2 with ⟨rfl, e⟩ | ⟨g, cap, cur, rfl, _⟩
  · exact ⟨none, 0, by rw [e]⟩
  · exact ⟨_, _, rfl⟩
theorem Sch.at_ (h : Sch w base S v l last) {i : Nat} (hi : i < l.length) : ∃ g c, v = .slice (some ⟨g, 0, none⟩) l.length c ∧ base ≤ g ∧ w.cell? ⟨g, i, none⟩ = some (ptr l[i]) ∧
    w.cell? ⟨l[i].eb, 0, none⟩ = some (.int .i64 l[i].id) ∧ w.cell? ⟨l[i].eb, 1, none⟩ = some (.int .i64 l[i].wt) ∧ w.cell? ⟨l[i].eb, 2, none⟩ = some (.int .i64 l[i].cr) ∧
    w.cell? ⟨l[i].eb, 3, none⟩ = some (.iface 44 (.pointer (some ⟨l[i].jb, 0, none⟩))) := by
  obtain ⟨g, c, hv, hb, _⟩ := World.ownsRow.form h.row (by omega)
  subst hv
  have he := (h.ents l[i] (List.getElem_mem hi)).1.2
  have hc := World.ownsRow.cells h.row (g := g) rfl i (ptr l[i]) (by simp [List.getElem?_eq_getElem hi])
  refine ⟨g, c, rfl, hb, ?_, cell_of_row _ _ 0 _ _ _ he, cell_of_row _ _ 1 _ _ _ he, cell_of_row _ _ 2 _ _ _ he, cell_of_row _ _ 3 _ _ _ he⟩
  have e : (⟨g, 0, none⟩ : Addr).add i = ⟨g, i, none⟩ := by unfold Addr.add; split <;> simp_all
  rwa [e] at hc
theorem Sch.head0 (h : Sch w base S v l last) : w.cell? ⟨S, 0, none⟩ = some v := cell_of_row _ _ 0 _ _ _ h.head
theorem Sch.head1 (h : Sch w base S v l last) : w.cell? ⟨S, 1, none⟩ = some (.int .i64 last) := cell_of_row _ _ 1 _ _ _ h.head
end

/-- r is the place of the first machine id, or -1 -/
def IxOf (l : List Ent) (id r : Int) : Prop := (∃ (k : Nat) (h : k < l.length), r = k ∧ l[k].id = id ∧ ∀ j (hj : j < k), l[j].id ≠ id) ∨ (r = -1 ∧ ∀ e ∈ l, e.id ≠ id)

theorem index1 (id x : Int) (eb : Nat) (p : Addr) (w : World) (h : w.cell? ⟨eb, 0, none⟩ = some (.int .i64 x)) (hp : w.cell? p = some (.int .i64 id)) :
    Calls Try.prog 29 #[.pointer (some ⟨eb, 0, none⟩), .pointer (some p)] w fun e w' => e = .returned (.bool (x == id)) ∧ Below w.heap.size w w' := by
  go_enter Try.func29, Try.ntmps29
  go_wp2_with fail
  go_quiet (fail)
  go_wp2
  go_ret
  exact ⟨rfl, ⟨rfl, rfl, rfl, Nat.le_refl _, fun _ _ => rfl⟩⟩

set_option maxHeartbeats 1000000 in
theorem indexFunc {w : World} {base S : Nat} {v : Value} {l : List Ent} {last : Int} (id : Int) (p : Addr) (hl : l.length ≤ 1000) (h : Sch w base S v l last) (hp : w.cell? p = some (.int .i64 id)) :
    Calls Try.prog 28 #[v, .func (.func 29) #[] #[.pointer (some p)]] w fun e w' => ∃ r, e = .returned (.int .i64 r) ∧ IxOf l id r ∧ Below w.heap.size w w' := by
  have hl0 : l.length ≤ 9223372036854775807 := by omega
  obtain ⟨A, c, rfl⟩ := h.form
  go_enter Try.func28, Try.ntmps28
  go_wp2
  go_loopw [8] (fun v w' => ∃ k : Nat, k ≤ l.length ∧ v = .int .i64 k ∧ Hid (∀ j (hj : j < l.length), j < k → l[j].id ≠ id) ∧ Below w.heap.size w w') (fun v _ => l.length - (intOf v).toNat)
  case atStart => exact ⟨0, Nat.zero_le _, rfl, fun j _ hj => absurd hj (Nat.not_lt_zero _), Below.refl _ _⟩
  case round =>
    obtain ⟨k, hk, rfl, hn, hB⟩ := hrel
    by_cases hlt : k < l.length
    · obtain ⟨g, c', hv, hgb, c0, c1, -⟩ := (h.below hB).at_ hlt
      cases hv
      have hp1 := cell_below hB hp
      cases hb : (l[k].id == id) with
      | true =>
        have hb' := Lib.hid hb
        have hix := Lib.hid (show IxOf l id k from .inl ⟨k, hlt, rfl, by simpa using hb, fun j hj => hn.out j (by omega) hj⟩)
        clear hb hn
        go_wp2_with fail
        refine (index1 id _ _ p _ c1 hp1).mono ?_
        rintro e w1 ⟨rfl, hb1⟩
        rw [hb'.out]
        go_wp2
        go_ret
        exact ⟨_, rfl, hix.out, below_then hB hB.size hb1⟩
      | false =>
        have hb' := Lib.hid hb
        have hn2 : Hid (∀ j (hj : j < l.length), j < k + 1 → l[j].id ≠ id) := fun j hj hjk => by
          by_cases e : j = k
          · subst e; simpa using hb
          · exact hn.out j hj (by omega)
        clear hb hn
        go_wp2_with fail
        refine (index1 id _ _ p _ c1 hp1).mono ?_
        rintro e w1 ⟨rfl, hb1⟩
        rw [hb'.out]
        go_wp2
        go_roundw
        case rel => exact ⟨k + 1, by omega, by go_num, hn2, below_then hB hB.size hb1⟩
        case measure => simp [intOf]; omega
    · obtain rfl : k = l.length := by omega
      have hix := Lib.hid (show IxOf l id (-1) from .inr ⟨rfl, fun e he => by obtain ⟨j, hj, rfl⟩ := List.mem_iff_getElem.1 he; exact hn.out j hj hj⟩)
      clear hn
      go_wp2
      go_ret
      exact ⟨_, rfl, hix.out, hB⟩

theorem index {w : World} {base S : Nat} {v : Value} {l : List Ent} {last : Int} (id : Int) (hl : l.length ≤ 1000) (h : Sch w base S v l last) :
    Calls Try.prog 25 #[.pointer (some ⟨S, 0, none⟩), .int .i64 id] w fun e w' => ∃ r, e = .returned (.int .i64 r) ∧ IxOf l id r ∧ Below w.heap.size w w' := by
  have hb0 : Below w.heap.size w (w.alloc (.cells #[.int .i64 id] 3)) := (Below.refl _ _).alloc (Nat.le_refl _) _
  have x := heap_alloc_new w (.cells #[.int .i64 id] 3)
  have bx : _ = some (Value.int .i64 id) := cell_of_row _ _ 0 _ _ _ x
  have h1 := h.below hb0
  have c0 := h1.head0
  clear x
  go_enter Try.func25, Try.ntmps25
  go_wp2_with fail
  refine (indexFunc id _ hl h1 bx).mono ?_
  rintro e w1 ⟨r, rfl, hix, hb1⟩
  go_wp2
  go_ret
  exact ⟨r, rfl, hix, below_then hb0 hb0.size hb1⟩
end Go.Proofs.Ytkokijmgikdnfaa
