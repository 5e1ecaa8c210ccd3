/- Deleting an element of the scheduler's row. -/
import Derived.Test.YtkokijmgikdnfaaD
namespace Go.Proofs.Ytkokijmgikdnfaa
open Go.RowKit Go.Lib Go.Sort
set_option linter.unusedVariables false

theorem deleteRow {w : World} {base g cap : Nat} {l : List Ent} (i : Nat) (hi : i < l.length) (hm : cap ≤ 9223372036854775807) (h : w.ownsRow base 65 1 (.slice (some ⟨g, 0, none⟩) l.length cap) l.length (l.map ptr)) :
    Calls Try.prog 27 #[.slice (some ⟨g, 0, none⟩) l.length cap, .int .i64 i, .int .i64 (i + 1 : Nat)] w fun e w' => e = .returned (.slice (some ⟨g, 0, none⟩) (l.length - 1) cap) ∧
      w'.ownsRow base 65 1 (.slice (some ⟨g, 0, none⟩) (l.length - 1) cap) (l.length - 1) ((l.eraseIdx i).map ptr) ∧ (∀ k, k ≠ g → w'.heap[k]? = w.heap[k]?) ∧ w'.os = w.os ∧ w'.tape = w.tape ∧ w'.output = w.output ∧ w'.heap.size = w.heap.size := by
  have hsz : (l.map fun e => some e.eb).toArray.size = l.length := by simp
  have hH : Holds encP w g 0 (l.map fun e => some e.eb).toArray := by
    intro j hj
    rw [hsz] at hj
    rw [Nat.zero_add]
    have hc := World.ownsRow.cells h (g := g) rfl j (ptr l[j]) (by simp [List.getElem?_eq_getElem hj])
    have e : (⟨g, 0, none⟩ : Addr).add j = ⟨g, j, none⟩ := by unfold Addr.add; split <;> simp_all
    rw [e] at hc
    refine ⟨hc.trans ?_, World.ownsRow.frozenAt h j⟩
    rw [getElem!_pos _ j (by simpa using hj)]
    simp [encP, ptr]
  have hcap : l.length ≤ cap := by
    rcases h.2 with ⟨h', _⟩ | ⟨g', cap', cur, h', hb, hg, hnc, hcm, hcs, htake⟩
    · cases h'
    · cases h'; exact hnc
  have k := delete_arr1 g cap i (l.map fun e => some e.eb).toArray w hH (by rw [hsz]; exact hcap) hm (by rw [hsz]; omega)
  rw [hsz] at k
  refine k.mono ?_
  rintro e w' ⟨rfl, q, rfl⟩
  rcases h.2 with ⟨h', _⟩ | ⟨g', cap', cur, h', hb, hg, hnc, hcm, hcs, htake⟩
  · cases h'
  cases h'
  have hd : ((l.map fun e => some e.eb).toArray.toList.take i ++ (l.map fun e => some e.eb).toArray.toList.drop (i + 1) ++ List.replicate 1 none) = (l.eraseIdx i).map (fun e => some e.eb) ++ [none] := by
    rw [List.eraseIdx_eq_take_drop_succ]
    simp
  rw [hd]
  refine ⟨rfl, ⟨by rw [List.length_map, List.length_eraseIdx_of_lt hi, Nat.mul_one], .inr ⟨g, cap, putCells encP 0 ((l.eraseIdx i).map (fun e : Ent => some e.eb) ++ [none]).toArray cur, rfl, hb, ?_, by omega, hcm, ?_, ?_⟩⟩, fun k hk => ?_, rfl, rfl, rfl, ?_⟩
  · simp [putRow, mapBlock, Array.getElem?_modify, hg, onCells, Sort.ahead]
  · simp [putCells, hcs]
  · have hle := List.length_eraseIdx_of_lt hi
    generalize l.eraseIdx i = m at *
    apply List.ext_getElem
    · simp [putCells, hcs]; omega
    · intro j h1 h2
      have hjm : j < m.length := by simpa using h2
      simp only [putCells, List.getElem_take, Array.getElem_toList, Array.getElem_mapIdx, List.getElem_map]
      rw [if_pos (by simp; omega), Nat.sub_zero, getElem!_pos _ j (by simp; omega)]
      simp [List.getElem_append_left, hjm, encP, ptr]
  · have : g ≠ k := fun e => hk e.symm
    simp [putRow, mapBlock, Array.getElem?_modify, Sort.ahead, this]
  · rw [size_putRow]; rfl
end Go.Proofs.Ytkokijmgikdnfaa
