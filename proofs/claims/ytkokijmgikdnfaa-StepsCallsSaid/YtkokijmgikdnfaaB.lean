/- Contract of a job's Step. -/
import Derived.Test.YtkokijmgikdnfaaA
namespace Go.Proofs.Ytkokijmgikdnfaa
open Go.RowKit
set_option linter.unusedVariables false

/-- a machine behind a step of its job -/
def Ent.ran (e : Ent) : Ent := { e with left := wrap64 (e.left - 1), done := wrap64 (e.done + 1) }

theorem jobStep (base : Nat) (e : Ent) (w : World) (h : JobAt w base e) :
    Calls Try.prog 45 #[.pointer (some ⟨e.jb, 0, none⟩)] w fun r w' => r = .returned (.bool (wrap64 (e.left - 1) == 0)) ∧ JobAt w' base e.ran ∧ Keep base (· = e.jb) w w' ∧
      (∀ k, k ≠ e.jb → w'.heap[k]? = w.heap[k]?) := by
  have c0 : w.cell? ⟨e.jb, 0, none⟩ = some (.int .i64 e.left) := cell_of_row _ _ 0 _ _ _ h.2
  have c1 : w.cell? ⟨e.jb, 1, none⟩ = some (.int .i64 e.done) := cell_of_row _ _ 1 _ _ _ h.2
  have f : ∀ j, w.frozen? ⟨e.jb, j, none⟩ = false := fun j => by simp [World.frozen?, h.2]
  go_enter Try.func45, Try.ntmps45
  go_wp2
  go_ret
  have k := Keep.refl base (· = e.jb) w
  refine ⟨rfl, ⟨h.1, ?_⟩, (k.setCell (p := ⟨e.jb, 0, none⟩) (.inl rfl) _).setCell (p := ⟨e.jb, 1, none⟩) (.inl rfl) _, fun k hk => ?_⟩
  · have h1 := heap_setCell_same w e.jb 0 _ _ (.int .i64 (wrap64 (e.left - 1))) h.2
    exact heap_setCell_same _ e.jb 1 _ _ (.int .i64 (wrap64 (e.done + 1))) h1
  · rw [setCell_same _ _ _ _ hk, setCell_same _ _ _ _ hk]
end Go.Proofs.Ytkokijmgikdnfaa
