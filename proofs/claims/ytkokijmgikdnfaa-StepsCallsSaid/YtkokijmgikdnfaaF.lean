/- Contract of Remove. -/
import Derived.Test.YtkokijmgikdnfaaE
namespace Go.Proofs.Ytkokijmgikdnfaa
open Go.RowKit
set_option linter.unusedVariables false

/-- what Remove does: the machine at i goes, or there is none -/
def Removed (w : World) (base S : Nat) (v : Value) (l : List Ent) (last id : Int) (e : Ending) (w' : World) : Prop :=
  ((∃ (i : Nat) (hi : i < l.length), l[i].id = id ∧ (∀ j (hj : j < i), l[j].id ≠ id) ∧ e = .returned (.int .i64 0) ∧ ∃ v', Sch w' base S v' (l.eraseIdx i) last) ∨
   ((∀ x ∈ l, x.id ≠ id) ∧ e = .returned (.int .i64 9) ∧ Sch w' base S v l last)) ∧ Keep base (fun _ => False) w w' ∧
  (∀ (k : Nat) (cs : Array Value) (t : TypeId) (fr : Nat × Nat), w.heap[k]? = some (.cells cs t fr) → t ≠ 59 → t ≠ 65 → w'.heap[k]? = w.heap[k]?)

theorem mine_head {w : World} {base S : Nat} {v : Value} {l : List Ent} {last : Int} (h : Sch w base S v l last) : Mine w base S := ⟨h.low, _, _, _, h.head, .inl rfl⟩

set_option maxHeartbeats 1000000 in
theorem remove {w : World} {base S : Nat} {v : Value} {l : List Ent} {last : Int} (id : Int) (hl : l.length ≤ 1000) (h : Sch w base S v l last) :
    Calls Try.prog 21 #[.pointer (some ⟨S, 0, none⟩), .int .i64 id] w (Removed w base S v l last id) := by
  go_enter Try.func21, Try.ntmps21
  go_wp2_with fail
  refine (index id hl h).mono ?_
  rintro e w1 ⟨r, rfl, hix, hb1⟩
  have h1 := h.below hb1
  have k1 : Keep base (fun _ => False) w w1 := Keep.of_below hb1
  rcases hix with ⟨i, hi, rfl, hid, hfirst⟩ | ⟨rfl, hno⟩
  · obtain ⟨g, c, rfl, hg, -⟩ := h1.at_ hi
    have c0 := h1.head0
    have f0 : w1.frozen? ⟨S, 0, none⟩ = false := by simp [World.frozen?, h1.head]
    obtain ⟨cur, hcur, hcm⟩ : ∃ cur, w1.heap[g]? = some (.cells cur 65 (0, 0)) ∧ c ≤ 9223372036854775807 := by
      rcases h1.row.2 with ⟨h', _⟩ | ⟨g', cap', cur, h', _, hg, _, hcm, _⟩
      · cases h'
      · cases h'; exact ⟨cur, hg, hcm⟩
    have hSg : S ≠ g := by
      rintro rfl
      rw [h1.head] at hcur
      cases hcur
    have hdel := deleteRow i hi hcm h1.row
    rw [show ((i + 1 : Nat) : Int) = (i : Int) + 1 from rfl] at hdel
    replace hdel := Lib.hid hdel
    replace h1 := Lib.hid h1
    replace hcur := Lib.hid hcur
    go_wp2_with fail
    refine hdel.out.mono ?_
    rintro e w2 ⟨rfl, hrow, hoth, e1, e2, e3, e4⟩
    have hh2 := (hoth S hSg).trans h1.out.head
    have c2 : w2.cell? ⟨S, 0, none⟩ = some (.slice (some ⟨g, 0, none⟩) l.length c) := cell_of_row _ _ 0 _ _ _ hh2
    have f2 : w2.frozen? ⟨S, 0, none⟩ = false := by simp [World.frozen?, hh2]
    have k2 : Keep base (fun _ => False) w1 w2 := ⟨e1, e2, e3, by omega, fun k hk _ hm => hoth k (by
      rintro rfl
      exact hm ⟨hg, _, _, _, hcur.out, .inr (.inl rfl)⟩)⟩
    replace hrow := Lib.hid hrow
    replace hoth := Lib.hid hoth
    clear e1 e2 e3 e4 hdel c0 f0
    go_wp2
    go_ret
    refine ⟨.inl ⟨i, hi, hid, hfirst, rfl, _, ⟨h1.out.low, heap_setCell_same w2 S 0 _ _ _ hh2, ?_, ?_, ?_, ?_⟩⟩, (k1.trans k2).setCell (.inr (.inr (mine_head h))) _, ?_⟩
    · rw [List.length_eraseIdx_of_lt hi]
      refine row_move hrow.out fun k hk => ?_
      cases hk
      exact setCell_same _ _ _ _ (Ne.symm hSg)
    · intro x hx
      have hx1 := h1.out.ents x (List.mem_of_mem_eraseIdx hx)
      obtain ⟨⟨b1, a1⟩, b2, a2⟩ := hx1
      have n1 : x.eb ≠ g := by rintro rfl; rw [hcur.out] at a1; cases a1
      have n2 : x.eb ≠ S := by rintro rfl; rw [h1.out.head] at a1; cases a1
      have n3 : x.jb ≠ g := by rintro rfl; rw [hcur.out] at a2; cases a2
      have n4 : x.jb ≠ S := by rintro rfl; rw [h1.out.head] at a2; cases a2
      exact ⟨⟨b1, (setCell_same _ _ _ _ n2).trans ((hoth.out _ n1).trans a1)⟩, b2, (setCell_same _ _ _ _ n4).trans ((hoth.out _ n3).trans a2)⟩
    · exact h1.out.nodE.sublist ((List.eraseIdx_sublist _ _).map _)
    · exact h1.out.nodJ.sublist ((List.eraseIdx_sublist _ _).map _)
    · intro k cs t fr hk n1 n2
      have hk1 := heap_below hb1 hk
      refine (setCell_same _ _ _ _ ?_).trans ((hoth.out k ?_).trans (hk1.trans hk.symm))
      · rintro rfl
        rw [h1.out.head] at hk1
        cases hk1
        exact n1 rfl
      · rintro rfl
        rw [hcur.out] at hk1
        cases hk1
        exact n2 rfl
  · go_wp2
    go_ret
    exact ⟨.inr ⟨hno, rfl, h1⟩, k1, fun k cs t fr hk _ _ => (heap_below hb1 hk).trans hk.symm⟩
end Go.Proofs.Ytkokijmgikdnfaa
