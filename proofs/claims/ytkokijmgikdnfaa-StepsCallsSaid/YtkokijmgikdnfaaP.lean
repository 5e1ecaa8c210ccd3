/- Rows of job pointers; the laws' jobs and the scheduler's machines. -/
import Derived.Test.YtkokijmgikdnfaaVb
namespace Go.Proofs.Ytkokijmgikdnfaa
open Go.RowKit
set_option linter.unusedVariables false

def jptr (b : Nat) : Value := .pointer (some ⟨b, 0, none⟩)
/-- v is a row of job pointers xs, of the call's own -/
def Ptrs (w : World) (B : Nat) (v : Value) (xs : List Nat) : Prop := w.ownsRow B 44 1 v xs.length (xs.map jptr)
theorem info44 : (Try.prog.info? 44).map (fun i => (i.zero, i.size, i.bytes)) = some (some (.pointer none), 1, 8) := by kernel_rfl
theorem Ptrs.none_ (w : World) (B : Nat) : Ptrs w B (.slice none 0 0) [] := ⟨rfl, .inl ⟨rfl, rfl⟩⟩
theorem Ptrs.form {w : World} {B : Nat} {v : Value} {xs : List Nat} (h : Ptrs w B v xs) : ∃ A c, v = .slice A xs.length c := by
  rcases h.2 with ⟨rfl, e⟩ | ⟨g, cap, cur, rfl, _⟩
  · exact ⟨none, 0, by rw [e]⟩
  · exact ⟨_, _, rfl⟩
theorem Ptrs.at_ {w : World} {B : Nat} {v : Value} {xs : List Nat} (h : Ptrs w B v xs) {i : Nat} (hi : i < xs.length) : ∃ g c, v = .slice (some ⟨g, 0, none⟩) xs.length c ∧ w.cell? ⟨g, i, none⟩ = some (jptr xs[i]) := by
  obtain ⟨g, c, hv, hb, _⟩ := World.ownsRow.form h (by omega)
  subst hv
  have hc := World.ownsRow.cells h (g := g) rfl i (jptr xs[i]) (by simp [List.getElem?_eq_getElem hi])
  rw [add_plain] at hc
  exact ⟨g, c, rfl, hc⟩
theorem Ptrs.below {w w' : World} {B : Nat} {v : Value} {xs : List Nat} (h : Ptrs w B v xs) (hb : Below w.heap.size w w') : Ptrs w' B v xs :=
  row_move h (fun k hk => hb.block k (World.ownsRow.lt h k hk).2)
theorem Ptrs.keep {w w' : World} {B base : Nat} {J : Nat → Prop} {v : Value} {xs : List Nat} (h : Ptrs w B v xs) (hk : Keep base J w w') (hJ : ∀ k, J k → ∃ cs fr, w.heap[k]? = some (.cells cs 46 fr)) : Ptrs w' B v xs := by
  refine row_move h fun k hv => ?_
  rcases h.2 with ⟨rfl, _⟩ | ⟨g, cap, cur, rfl, _, hg, _⟩
  · cases hv
  · cases hv
    refine hk.block g (heap_lt hg) ?_ ?_
    · intro hj
      obtain ⟨cs, fr, e⟩ := hJ g hj
      rw [hg] at e
      cases e
    · rintro ⟨_, cs, t, fr, e, ht⟩
      rw [hg] at e
      cases e
      rcases ht with h | h | h <;> cases h
theorem Ptrs.lit (w : World) (B : Nat) (hB : B ≤ w.heap.size) (x : Nat) : Ptrs (w.alloc (.cells #[jptr x] 44)) B (.slice (some ⟨w.heap.size, 0, none⟩) 1 1) [x] :=
  World.ownsRow_lit w #[jptr x] 1 hB (by simp [maxLen]) rfl

/-- 'append(s, x)' of one pointer -/
theorem wpList_appPtr {ops : Array Oper} {rest : List Oper} {o : Oper} {a : Act} {Q : Exit → Act → World → Prop} (Wb : World) (hgd : o.guard = none) (s x : Operand)
    (ho : o.op = .call { callee := .builtin .append, args := #[s, x], argTypes := #[54, 54] }) (B : Nat) (v : Value) (xs : List Nat) (hs : a.eval s = v) (hown : Ptrs Wb B v xs)
    (g : Nat) (y : Nat) (hx : a.eval x = .slice (some ⟨g, 0, none⟩) 1 1) (hg : g = Wb.heap.size) (hB : B ≤ Wb.heap.size) (hn : xs.length ≤ 1000)
    (h : ∀ v' w', Ptrs w' B v' (xs ++ [y]) → Below B Wb w' → Wb.grownBy w' v.ownBlock → wpList Try.prog ops Q rest (a.put o.dst v') w') : wpList Try.prog ops Q (o :: rest) a (Wb.alloc (.cells #[jptr y] 44)) := by
  obtain ⟨i0, hi0, hz0, hz1, hz2⟩ := info_parts info44
  subst hg
  have hb0 : Below Wb.heap.size Wb (Wb.alloc (.cells #[jptr y] 44)) := (Below.refl _ _).alloc (Nat.le_refl _) _
  have hr : Reads (Wb.alloc (.cells #[jptr y] 44)) (Wb.alloc (.cells #[jptr y] 44)).heap.size 1 (some ⟨Wb.heap.size, 0, none⟩) 1 [jptr y] := Reads.of_own (Ptrs.lit Wb 0 (Nat.zero_le _) y)
  refine wpList_append_any _ hgd s x _ ho B 44 i0 _ 1 8 Try.underlying54 hi0 hz0 hz1 hz2 rfl (by omega) v xs.length _ hs (hown.below hb0) _ _ 1 _ [jptr y] hx hr (by simp [Value.oneCell', jptr]) (by simp only [maxLen]; omega) (by omega) (by simp; omega) ?_
  intro v1 w1 hown1 hg1 hat1
  refine h v1 w1 (by unfold Ptrs; simpa using hown1) ((hb0.mono hB).grown hg1 (by simp; omega) (fun k hk => (World.ownsRow.lt hown k hk).1)) ⟨hg1.os, hg1.tape, hg1.output, by have := hg1.size; simp at this; omega, fun k hk hn => (hg1.block k (by simp; omega) hn).trans (hb0.block k hk)⟩

theorem Ptrs.other {w w' : World} {B : Nat} {v : Value} {xs : List Nat} (h : Ptrs w B v xs) (hg : w.grownBy w' v.ownBlock) {k : Nat} {cs : Array Value} {t : TypeId} {fr : Nat × Nat} (hk : w.heap[k]? = some (.cells cs t fr)) (ht : t ≠ 44) :
    w'.heap[k]? = w.heap[k]? := by
  refine hg.block k (heap_lt hk) fun e => ?_
  rcases h.2 with ⟨rfl, _⟩ | ⟨g', cap', cur, rfl, _, hg', _⟩
  · cases e
  · cases e
    rw [hg'] at hk
    cases hk
    exact ht rfl
theorem Sch.grownP {w w' : World} {base S B : Nat} {v u : Value} {l : List Ent} {last : Int} {xs : List Nat} (h : Sch w base S v l last) (hi : Ptrs w B u xs) (hg : w.grownBy w' u.ownBlock) : Sch w' base S v l last :=
  h.same fun k cs t fr hk ht => hi.other hg hk (by rcases ht with rfl | rfl | rfl | rfl <;> decide)

/-- a job of a law -/
structure Jb where
  jb : Nat
  left : Int
  done : Int
def Jb.ran (j : Jb) : Jb := ⟨j.jb, wrap64 (j.left - 1), wrap64 (j.done + 1)⟩
def ranB (bank : List Jb) (k : Nat) : List Jb := bank.modify k Jb.ran
def Jobs (w : World) (B : Nat) (bank : List Jb) : Prop := ∀ j ∈ bank, B ≤ j.jb ∧ w.heap[j.jb]? = some (.cells #[.int .i64 j.left, .int .i64 j.done] 46 (0, 0))
/-- machine k + 1 runs job k -/
structure Link (bank : List Jb) (l : List Ent) : Prop where
  nod : (bank.map (·.jb)).Nodup
  ids : (l.map (·.id)).Nodup
  link : ∀ e ∈ l, ∃ (k : Nat) (h : k < bank.length), e.id = (k : Int) + 1 ∧ e.jb = bank[k].jb ∧ e.left = bank[k].left ∧ e.done = bank[k].done

theorem ranB_length (bank : List Jb) (k : Nat) : (ranB bank k).length = bank.length := by simp [ranB]
theorem ranB_get (bank : List Jb) (k j : Nat) (h : j < (ranB bank k).length) : (ranB bank k)[j] = if k = j then (bank[j]'(by simpa [ranB] using h)).ran else bank[j]'(by simpa [ranB] using h) := by
  simp [ranB, List.getElem_modify]
theorem ranB_jb (bank : List Jb) (k : Nat) : (ranB bank k).map (·.jb) = bank.map (·.jb) := by
  apply List.ext_getElem (by simp [ranB])
  intro j h1 h2
  rw [List.getElem_map, List.getElem_map, ranB_get]
  split <;> rfl
theorem stepL_mem {l : List Ent} {i : Nat} {hi : i < l.length} {e : Ent} (h : e ∈ stepL l i hi) : (∃ (j : Nat) (hj : j < l.length), j ≠ i ∧ e = l[j]) ∨ (e = l[i].ran ∧ (wrap64 (l[i].left - 1) == 0) = false) := by
  unfold stepL at h
  split at h
  · obtain ⟨j, hj, hne, rfl⟩ := List.mem_eraseIdx_iff_getElem.1 h
    exact .inl ⟨j, hj, hne, rfl⟩
  · rename_i hc
    obtain ⟨j, hj, rfl⟩ := List.mem_iff_getElem.1 h
    rw [List.getElem_set]
    split
    · exact .inr ⟨rfl, by simpa using hc⟩
    · rename_i hne
      exact .inl ⟨j, by simpa using hj, fun e => hne e.symm, rfl⟩
theorem stepL_ids {l : List Ent} {i : Nat} (hi : i < l.length) (h : (l.map (·.id)).Nodup) : ((stepL l i hi).map (·.id)).Nodup := by
  unfold stepL
  split
  · exact h.sublist ((List.eraseIdx_sublist _ _).map _)
  · rw [map_set_same (·.id) l i hi l[i].ran rfl]; exact h
theorem fairL_mem {l : List Ent} {e : Ent} (h : e ∈ fairL l) : ∃ x ∈ l, e.id = x.id ∧ e.jb = x.jb ∧ e.left = x.left ∧ e.done = x.done ∧ e.wt = x.wt := by
  obtain ⟨j, hj, rfl⟩ := List.mem_iff_getElem.1 h
  have hj2 : j < l.length := by simpa [fairL_length] using hj
  refine ⟨l[j], List.getElem_mem hj2, ?_⟩
  simp only [fairL, List.getElem_mapIdx, List.getElem_map]
  split <;> exact ⟨rfl, rfl, rfl, rfl, rfl⟩
theorem Link.fair {bank : List Jb} {l : List Ent} (h : Link bank l) : Link bank (fairL l) := by
  refine ⟨h.nod, by rw [ids_fairL]; exact h.ids, fun e he => ?_⟩
  obtain ⟨x, hx, h1, h2, h3, h4, -⟩ := fairL_mem he
  rw [h1, h2, h3, h4]
  exact h.link x hx
theorem Link.step {bank : List Jb} {l : List Ent} (h : Link bank l) {i : Nat} (hi : i < l.length) : ∃ (k : Nat) (hk : k < bank.length), l[i].id = (k : Int) + 1 ∧ l[i].jb = bank[k].jb ∧ l[i].left = bank[k].left ∧ l[i].done = bank[k].done ∧
    Link (ranB bank k) (stepL l i hi) := by
  obtain ⟨k, hk, h1, h2, h3, h4⟩ := h.link l[i] (List.getElem_mem hi)
  refine ⟨k, hk, h1, h2, h3, h4, by rw [ranB_jb]; exact h.nod, stepL_ids hi h.ids, fun e he => ?_⟩
  rcases stepL_mem he with ⟨j, hj, hne, rfl⟩ | ⟨rfl, -⟩
  · obtain ⟨k', hk', g1, g2, g3, g4⟩ := h.link l[j] (List.getElem_mem hj)
    refine ⟨k', by rw [ranB_length]; exact hk', g1, ?_⟩
    have hkk : k ≠ k' := by
      rintro rfl
      exact hne ((List.getElem_inj (h₀ := by simpa using hj) (h₁ := by simpa using hi) h.ids).1 (by simp [g1, h1]))
    rw [ranB_get, if_neg hkk]
    exact ⟨g2, g3, g4⟩
  · refine ⟨k, by rw [ranB_length]; exact hk, h1, ?_⟩
    rw [ranB_get, if_pos rfl]
    simp only [Ent.ran, Jb.ran]
    rw [h2, h3, h4]
    exact ⟨rfl, rfl, rfl⟩
theorem Jobs.keep {w w' : World} {B : Nat} {bank : List Jb} (h : Jobs w B bank) (hk : Keep B (fun _ => False) w w') : Jobs w' B bank := fun j hj => by
  obtain ⟨h1, h2⟩ := h j hj
  refine ⟨h1, (hk.block _ (heap_lt h2) (fun h => h.elim) ?_).trans h2⟩
  rintro ⟨_, cs, t, fr, e, ht⟩
  rw [h2] at e
  cases e
  rcases ht with h | h | h <;> cases h
theorem Jobs.below {w w' : World} {B : Nat} {bank : List Jb} (h : Jobs w B bank) (hb : Below w.heap.size w w') : Jobs w' B bank := h.keep (Keep.of_below hb)
theorem Jobs.step {w w' : World} {B : Nat} {bank : List Jb} {e : Ent} {k : Nat} (h : Jobs w B bank) (hn : (bank.map (·.jb)).Nodup) (hk : k < bank.length) (h1 : e.jb = bank[k].jb) (h2 : e.left = bank[k].left) (h3 : e.done = bank[k].done)
    (hj : JobAt w' B e.ran) (hK : Keep B (· = e.jb) w w') : Jobs w' B (ranB bank k) := fun j hj' => by
  obtain ⟨i, hi, rfl⟩ := List.mem_iff_getElem.1 hj'
  have hi2 : i < bank.length := by simpa [ranB_length] using hi
  rw [ranB_get]
  split
  · rename_i hki
    subst hki
    have := hj
    unfold JobAt jobCells Ent.ran at this
    simp only [h1, h2, h3] at this
    exact this
  · rename_i hki
    obtain ⟨g1, g2⟩ := h bank[i] (List.getElem_mem hi2)
    refine ⟨g1, (hK.block _ (heap_lt g2) ?_ ?_).trans g2⟩
    · rw [h1]
      intro e'
      exact hki ((List.getElem_inj (h₀ := by simpa using hk) (h₁ := by simpa using hi2) hn).1 (by simpa using e'.symm))
    · rintro ⟨_, cs, t, fr, e', ht⟩
      rw [g2] at e'
      cases e'
      rcases ht with h | h | h <;> cases h
end Go.Proofs.Ytkokijmgikdnfaa
