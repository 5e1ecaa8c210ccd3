/- Contracts of New, Credit, Pick, SameInts, IDs. -/
import Derived.Test.YtkokijmgikdnfaaI
namespace Go.Proofs.Ytkokijmgikdnfaa
open Go.RowKit
set_option linter.unusedVariables false

theorem add_plain (g j : Nat) : (⟨g, 0, none⟩ : Addr).add j = ⟨g, j, none⟩ := by unfold Addr.add; split <;> simp_all

theorem new_ (w : World) : Calls Try.prog 10 #[] w fun e w' => e = .returned (.pointer (some ⟨w.heap.size, 0, none⟩)) ∧ Sch w' w.heap.size w.heap.size (.slice none 0 0) [] 0 ∧ Below w.heap.size w w' := by
  go_enter Try.func10, Try.ntmps10
  go_wp2
  go_ret
  refine ⟨rfl, ⟨Nat.le_refl _, ?_, ⟨rfl, .inl ⟨rfl, rfl⟩⟩, fun e he => absurd he List.not_mem_nil, List.nodup_nil, List.nodup_nil⟩, (Below.refl _ _).alloc (Nat.le_refl _) _⟩
  exact heap_alloc_new w _

/-- the credit of the first machine id -/
def creditOf (l : List Ent) (id : Int) : Int := ((l.find? (fun e => e.id == id)).map (·.cr)).getD 0
theorem creditOf_at {l : List Ent} {id : Int} {k : Nat} (h : k < l.length) (hk : l[k].id = id) (hf : ∀ j (hj : j < k), l[j].id ≠ id) : creditOf l id = l[k].cr := by
  have : l.find? (fun e => e.id == id) = some l[k] := by
    rw [List.find?_eq_some_iff_getElem]
    refine ⟨by simp [hk], k, h, rfl, fun j hj => by simp [hf j hj]⟩
  simp [creditOf, this]
theorem creditOf_none {l : List Ent} {id : Int} (h : ∀ e ∈ l, e.id ≠ id) : creditOf l id = 0 := by
  have : l.find? (fun e => e.id == id) = none := by
    rw [List.find?_eq_none]
    intro e he
    simp [h e he]
  simp [creditOf, this]

theorem credit {w : World} {base S : Nat} {v : Value} {l : List Ent} {last : Int} (id : Int) (hl : l.length ≤ 1000) (h : Sch w base S v l last) :
    Calls Try.prog 16 #[.pointer (some ⟨S, 0, none⟩), .int .i64 id] w fun e w' => e = .returned (.int .i64 (creditOf l id)) ∧ Below w.heap.size w w' := by
  go_enter Try.func16, Try.ntmps16
  go_wp2_with fail
  refine (index id hl h).mono ?_
  rintro e w1 ⟨r, rfl, hix, hb1⟩
  have h1 := h.below hb1
  rcases hix with ⟨i, hi, rfl, hid, hfirst⟩ | ⟨rfl, hno⟩
  · obtain ⟨g, c, rfl, hg, c0, c1, c2, c3, -⟩ := h1.at_ hi
    have ch := h1.head0
    have hc := Lib.hid (creditOf_at hi hid hfirst)
    unfold ptr at c0
    clear hid hfirst
    go_wp2
    go_ret
    exact ⟨by rw [hc.out]; rfl, hb1⟩
  · go_wp2
    go_ret
    exact ⟨by rw [creditOf_none hno]; rfl, hb1⟩

theorem creditNil (id : Int) (w : World) : Calls Try.prog 16 #[.pointer none, .int .i64 id] w fun e w' => e = .returned (.int .i64 0) ∧ w' = w := by
  go_enter Try.func16, Try.ntmps16
  go_wp2
  go_ret
  exact ⟨rfl, rfl⟩
theorem idsNil (w : World) : Calls Try.prog 14 #[.pointer none] w fun e w' => e = .returned (.slice none 0 0) ∧ w' = w := by
  go_enter Try.func14, Try.ntmps14
  go_wp2
  go_ret
  exact ⟨rfl, rfl⟩
theorem fairNil (w : World) : Calls Try.prog 20 #[.pointer none] w fun e w' => e = .returned (.tuple #[.int .i64 0, .bool false, .int .i64 9]) ∧ w' = w := by
  go_enter Try.func20, Try.ntmps20
  go_wp2
  go_ret3
  exact ⟨rfl, rfl⟩
theorem pickNil (n : Int) (w : World) : Calls Try.prog 19 #[.pointer none, .int .i64 n] w fun e w' => e = .returned (.tuple #[.int .i64 0, .bool false, .int .i64 9]) ∧ w' = w := by
  go_enter Try.func19, Try.ntmps19
  go_wp2
  go_ret3
  exact ⟨rfl, rfl⟩
theorem removeNil (n : Int) (w : World) : Calls Try.prog 21 #[.pointer none, .int .i64 n] w fun e w' => e = .returned (.int .i64 8) ∧ w' = w := by
  go_enter Try.func21, Try.ntmps21
  go_wp2
  go_ret
  exact ⟨rfl, rfl⟩
theorem addNil (m : Value) (n : Int) (w : World) : Calls Try.prog 18 #[.pointer none, m, .int .i64 n] w fun e w' => e = .returned (.tuple #[.int .i64 0, .int .i64 8]) ∧ w' = w := by
  go_enter Try.func18, Try.ntmps18
  go_wp2
  go_ret2
  exact ⟨rfl, rfl⟩
theorem fairNone {w : World} {base S : Nat} {v : Value} {last : Int} (h : Sch w base S v [] last) :
    Calls Try.prog 20 #[.pointer (some ⟨S, 0, none⟩)] w fun e w' => e = .returned (.tuple #[.int .i64 0, .bool false, .int .i64 9]) ∧ w' = w := by
  obtain ⟨A, c, rfl⟩ := h.form
  have ch := h.head0
  go_enter Try.func20, Try.ntmps20
  go_wp2
  go_ret3
  exact ⟨rfl, rfl⟩
theorem pickNone {w : World} {base S : Nat} {v : Value} {last : Int} (n : Int) (h : Sch w base S v [] last) :
    Calls Try.prog 19 #[.pointer (some ⟨S, 0, none⟩), .int .i64 n] w fun e w' => e = .returned (.tuple #[.int .i64 0, .bool false, .int .i64 9]) ∧ w' = w := by
  obtain ⟨A, c, rfl⟩ := h.form
  have ch := h.head0
  go_enter Try.func19, Try.ntmps19
  go_wp2
  go_ret3
  exact ⟨rfl, rfl⟩
theorem pickNeg {w : World} {base S : Nat} {v : Value} {l : List Ent} {last : Int} (n : Int) (hn : n < 0) (h0 : 0 < l.length) (hl : l.length ≤ 1000) (h : Sch w base S v l last) :
    Calls Try.prog 19 #[.pointer (some ⟨S, 0, none⟩), .int .i64 n] w fun e w' => e = .returned (.tuple #[.int .i64 0, .bool false, .int .i64 1]) ∧ w' = w := by
  obtain ⟨A, c, rfl⟩ := h.form
  have ch := h.head0
  have n0 : ((l.length : Int) == 0) = false := by rw [beq_eq_false_iff_ne]; omega
  go_enter Try.func19, Try.ntmps19
  go_wp2
  go_ret3
  exact ⟨rfl, rfl⟩
end Go.Proofs.Ytkokijmgikdnfaa
