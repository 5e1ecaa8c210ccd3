/- Contract of the program's step. -/
import Derived.Test.YtkokijmgikdnfaaF
namespace Go.Proofs.Ytkokijmgikdnfaa
open Go.RowKit
set_option linter.unusedVariables false

theorem meth (a : Addr) (w : World) : (method 191 44 (.pointer (some a)) "Step").run Try.prog w = .ok (45, .pointer (some a)) w := by kernel_rfl

/-- the machines behind a step of the one at i -/
def stepL (l : List Ent) (i : Nat) (hi : i < l.length) : List Ent := if (wrap64 (l[i].left - 1) == 0) then l.eraseIdx i else l.set i l[i].ran

def Stepped (w : World) (base S : Nat) (l : List Ent) (last : Int) (i : Nat) (hi : i < l.length) (e : Ending) (w' : World) : Prop :=
  e = .returned (.tuple #[.int .i64 l[i].id, .bool (wrap64 (l[i].left - 1) == 0), .int .i64 0]) ∧ (∃ v', Sch w' base S v' (stepL l i hi) last) ∧ JobAt w' base l[i].ran ∧ Keep base (· = l[i].jb) w w'

theorem map_set_same {α β : Type} (f : α → β) (l : List α) (i : Nat) (hi : i < l.length) (x : α) (h : f x = f l[i]) : (l.set i x).map f = l.map f := by
  rw [List.map_set, h]
  apply List.ext_getElem (by simp)
  intro j h1 h2
  rw [List.getElem_set]
  split
  · subst_vars; simp
  · rfl

theorem tag_ne {w : World} {a b : Nat} {cs ct : Array Value} {t u : TypeId} {fr fs : Nat × Nat} (h1 : w.heap[a]? = some (.cells cs t fr)) (h2 : w.heap[b]? = some (.cells ct u fs)) (h : t ≠ u) : a ≠ b := by
  rintro rfl
  rw [h1] at h2
  injection h2 with h2
  injection h2 with _ h3
  exact h h3

theorem Sch.ranAt {w w' : World} {base S : Nat} {v : Value} {l : List Ent} {last : Int} (h : Sch w base S v l last) (i : Nat) (hi : i < l.length) (hj : JobAt w' base l[i].ran)
    (ho : ∀ k, k ≠ l[i].jb → w'.heap[k]? = w.heap[k]?) : Sch w' base S v (l.set i l[i].ran) last := by
  have hji := (h.ents l[i] (List.getElem_mem hi)).2
  refine ⟨h.low, (ho _ (tag_ne h.head hji.2 (by decide))).trans h.head, ?_, ?_, ?_, ?_⟩
  · rw [List.length_set, map_set_same ptr l i hi l[i].ran rfl]
    refine row_move h.row fun k hk => ho k ?_
    rcases h.row.2 with ⟨rfl, _⟩ | ⟨g', cap', cur, rfl, _, hg, _⟩
    · cases hk
    · cases hk
      exact tag_ne hg hji.2 (by decide)
  · intro x hx
    obtain ⟨j, hj1, rfl⟩ := List.mem_iff_getElem.1 hx
    rw [List.getElem_set]
    have hj2 : j < l.length := by simpa using hj1
    split
    · refine ⟨?_, hj⟩
      have hei := (h.ents l[i] (List.getElem_mem hi)).1
      exact ⟨hei.1, (ho _ (tag_ne hei.2 hji.2 (by decide))).trans hei.2⟩
    · rename_i hne
      have hx2 := h.ents l[j] (List.getElem_mem hj2)
      refine ⟨⟨hx2.1.1, (ho _ (tag_ne hx2.1.2 hji.2 (by decide))).trans hx2.1.2⟩, hx2.2.1, (ho _ ?_).trans hx2.2.2⟩
      · intro e
        have := (List.getElem_inj (h₀ := by simpa using hj2) (h₁ := by simpa using hi) h.nodJ).1 (by simpa using e)
        exact hne this.symm
  · rw [map_set_same (·.eb) l i hi l[i].ran rfl]; exact h.nodE
  · rw [map_set_same (·.jb) l i hi l[i].ran rfl]; exact h.nodJ

set_option maxHeartbeats 1000000 in
theorem step {w : World} {base S : Nat} {v : Value} {l : List Ent} {last : Int} (i : Nat) (hi : i < l.length) (hl : l.length ≤ 1000) (h : Sch w base S v l last) (hn : (l.map (·.id)).Nodup) :
    Calls Try.prog 26 #[.pointer (some ⟨S, 0, none⟩), ptr l[i]] w (Stepped w base S l last i hi) := by
  obtain ⟨g, c, rfl, hg, c0, c1, c2, c3, c4⟩ := h.at_ hi
  have hm := meth ⟨l[i].jb, 0, none⟩
  have hji := (h.ents l[i] (List.getElem_mem hi)).2
  have hS : Hid (stepL l i hi = if (wrap64 (l[i].left - 1) == 0) then l.eraseIdx i else l.set i l[i].ran) := rfl
  unfold ptr
  go_enter Try.func26, Try.ntmps26
  go_wp2_with fail
  refine (jobStep base l[i] w hji).mono ?_
  rintro e w1 ⟨rfl, hj1, k1, ho⟩
  have h1 := h.ranAt i hi hj1 ho
  have hi1 : i < (l.set i l[i].ran).length := by simpa using hi
  have hei := (h1.ents _ (List.getElem_mem hi1)).1
  rw [List.getElem_set_self] at hei
  have d0 : w1.cell? ⟨l[i].eb, 0, none⟩ = some (.int .i64 l[i].id) := cell_of_row _ _ 0 _ _ _ hei.2
  cases hd : (wrap64 (l[i].left - 1) == 0) with
  | false =>
    have hS2 := Lib.hid (show stepL l i hi = l.set i l[i].ran by rw [hS.out, hd]; rfl)
    have hd2 := Lib.hid hd
    clear hS hd
    go_wp2
    go_ret3
    exact ⟨by rw [hd2.out]; rfl, ⟨_, by rw [hS2.out]; exact h1⟩, hj1, k1⟩
  | true =>
    have hS2 := Lib.hid (show stepL l i hi = l.eraseIdx i by rw [hS.out, hd]; rfl)
    have hd2 := Lib.hid hd
    clear hS hd
    go_wp2_with fail
    refine (remove l[i].id (by simpa using hl) h1).mono ?_
    rintro e w2 ⟨hr, k2, hs2⟩
    have hj2 : JobAt w2 base l[i].ran := ⟨hj1.1, (hs2 _ _ _ _ hj1.2 (by decide) (by decide)).trans hj1.2⟩
    have e2 : w2.cell? ⟨l[i].eb, 0, none⟩ = some (.int .i64 l[i].id) := cell_of_row _ _ 0 _ _ _ ((hs2 _ _ _ _ hei.2 (by decide) (by decide)).trans hei.2)
    have hK := Lib.hid (k1.trans (k2.more (J' := (· = l[i].jb)) fun _ h => h.elim))
    have hr2 : (e = .returned (.int .i64 0)) ∧ ∃ v', Sch w2 base S v' (l.eraseIdx i) last := by
      rcases hr with ⟨i1, hi2, hid, -, he, v', hv'⟩ | ⟨hno, -, -⟩
      · have e1 : i1 = i := by
          refine (List.getElem_inj (h₀ := by simpa using hi2) (h₁ := by simpa using hi) hn).1 ?_
          have := map_set_same (·.id) l i hi l[i].ran rfl
          have h5 : ((l.set i l[i].ran).map (·.id))[i1]'(by simpa using hi2) = l[i].id := by rw [List.getElem_map]; exact hid
          simp only [this] at h5
          simpa using h5
        subst e1
        refine ⟨he, v', ?_⟩
        rwa [List.eraseIdx_set_eq] at hv'
      · exact absurd rfl (hno l[i].ran (List.mem_set hi _))
    obtain ⟨rfl, v', hv'⟩ := hr2
    clear hr hs2 k1 k2 ho h1 hei d0
    go_wp2
    go_ret3
    exact ⟨by rw [hd2.out]; rfl, ⟨_, by rw [hS2.out]; exact hv'⟩, hj2, hK.out⟩
end Go.Proofs.Ytkokijmgikdnfaa
