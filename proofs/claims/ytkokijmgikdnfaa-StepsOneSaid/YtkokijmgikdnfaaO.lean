/- Plain laws of the fair pick: how many steps are left. -/
import Derived.Test.YtkokijmgikdnfaaQ
namespace Go.Proofs.Ytkokijmgikdnfaa
open Go.RowKit
set_option linter.unusedVariables false

def Alive (l : List Ent) : Prop := ∀ e ∈ l, 1 ≤ e.left ∧ e.left ≤ 256
def Dead (bank : List Jb) (l : List Ent) : Prop := ∀ k (h : k < bank.length), bank[k].left = 0 ∨ ∃ e ∈ l, e.id = (k : Int) + 1
def sumL (l : List Ent) : Int := (l.map (·.left)).sum

theorem sum_append (l m : List Int) : (l ++ m).sum = l.sum + m.sum := by simp
theorem sumL_append (l m : List Ent) : sumL (l ++ m) = sumL l + sumL m := by simp [sumL]
theorem sumL_split {l : List Ent} {i : Nat} (hi : i < l.length) : sumL l = sumL (l.eraseIdx i) + l[i].left := by
  rw [List.eraseIdx_eq_take_drop_succ, sumL_append]
  have h2 : sumL (l.take i ++ (l[i] :: l.drop (i + 1))) = sumL (l.take i) + (l[i].left + sumL (l.drop (i + 1))) := by
    rw [sumL_append]
    simp only [sumL, List.map_cons, List.sum_cons]
  rw [show l.take i ++ (l[i] :: l.drop (i + 1)) = l by simp] at h2
  omega
theorem sumL_set {l : List Ent} {i : Nat} (hi : i < l.length) (x : Ent) : sumL (l.set i x) = sumL (l.eraseIdx i) + x.left := by
  have h1 := sumL_split (l := l.set i x) (i := i) (by simpa using hi)
  rw [List.eraseIdx_set_eq] at h1
  simpa using h1
theorem Alive.step {l : List Ent} (h : Alive l) {i : Nat} (hi : i < l.length) : Alive (stepL l i hi) ∧ sumL (stepL l i hi) = sumL l - 1 := by
  obtain ⟨h1, h2⟩ := h _ (List.getElem_mem hi)
  have hw : wrap64 (l[i].left - 1) = l[i].left - 1 := w64 (by omega) (by omega)
  refine ⟨fun e he => ?_, ?_⟩
  · rcases stepL_mem he with ⟨j, hj, _, rfl⟩ | ⟨rfl, hz⟩
    · exact h _ (List.getElem_mem hj)
    · rw [hw] at hz
      have : l[i].left - 1 ≠ 0 := by simpa using hz
      simp only [Ent.ran, hw]
      omega
  · have hs := sumL_split hi
    unfold stepL
    split
    · rename_i hz
      rw [hw] at hz
      have : l[i].left - 1 = 0 := by simpa using hz
      omega
    · rw [sumL_set hi]
      simp only [Ent.ran, hw]
      omega
theorem Dead.step {bank : List Jb} {l : List Ent} (h : Dead bank l) {i : Nat} (hi : i < l.length) {k : Nat} (hk : k < bank.length) (hid : l[i].id = (k : Int) + 1) (hl : l[i].left = bank[k].left) (hids : (l.map (·.id)).Nodup) :
    Dead (ranB bank k) (stepL l i hi) := by
  intro k' hk'
  have hk2 : k' < bank.length := by simpa [ranB_length] using hk'
  rw [ranB_get]
  by_cases e : k = k'
  · subst e
    rw [if_pos rfl]
    unfold stepL
    split
    · rename_i hz
      left
      rw [hl] at hz
      simpa [Jb.ran] using hz
    · right
      exact ⟨l[i].ran, List.mem_set hi _, hid⟩
  · rw [if_neg e]
    rcases h k' hk2 with h0 | ⟨x, hx, hxid⟩
    · exact .inl h0
    · right
      obtain ⟨j, hj, rfl⟩ := List.mem_iff_getElem.1 hx
      have hji : j ≠ i := by rintro rfl; omega
      refine ⟨l[j], ?_, hxid⟩
      unfold stepL
      split
      · exact List.mem_eraseIdx_iff_getElem.2 ⟨j, hj, hji, rfl⟩
      · exact List.mem_iff_getElem.2 ⟨j, by simpa using hj, by rw [List.getElem_set, if_neg (Ne.symm hji)]⟩
theorem fairL_left (l : List Ent) : (fairL l).map (·.left) = l.map (·.left) := by
  apply List.ext_getElem (by simp [fairL])
  intro j h1 h2
  simp only [fairL, List.getElem_map, List.getElem_mapIdx]
  split <;> rfl
theorem Alive.fair {l : List Ent} (h : Alive l) : Alive (fairL l) := fun e he => by
  obtain ⟨x, hx, _, _, e3, _⟩ := fairL_mem he
  rw [e3]
  exact h x hx
theorem sumL_fair (l : List Ent) : sumL (fairL l) = sumL l := by unfold sumL; rw [fairL_left]
theorem Dead.fair {bank : List Jb} {l : List Ent} (h : Dead bank l) : Dead bank (fairL l) := fun k hk => by
  rcases h k hk with h0 | ⟨x, hx, hid⟩
  · exact .inl h0
  · right
    have : x.id ∈ (fairL l).map (·.id) := by rw [ids_fairL]; exact List.mem_map.2 ⟨x, hx, rfl⟩
    obtain ⟨y, hy, hyx⟩ := List.mem_map.1 this
    exact ⟨y, hy, hyx.trans hid⟩
theorem Alive.pos {l : List Ent} (h : Alive l) : (l.length : Int) ≤ sumL l := by
  induction l with
  | nil => simp [sumL]
  | cons x l ih =>
    have h1 := ih fun e he => h e (List.mem_cons_of_mem _ he)
    have h2 := (h x (List.mem_cons_self ..)).1
    simp [sumL] at h1 ⊢
    omega
theorem stepL_length {l : List Ent} {i : Nat} (hi : i < l.length) : (stepL l i hi).length ≤ l.length := by
  unfold stepL
  split
  · rw [List.length_eraseIdx_of_lt hi]; omega
  · simp
end Go.Proofs.Ytkokijmgikdnfaa
