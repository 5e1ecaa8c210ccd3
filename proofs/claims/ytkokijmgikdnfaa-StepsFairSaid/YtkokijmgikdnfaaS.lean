/- Plain law of the fair pick: each machine is picked as often as its weight says. -/
import Derived.Test.YtkokijmgikdnfaaO
namespace Go.Proofs.Ytkokijmgikdnfaa
open Go.RowKit
set_option linter.unusedVariables false

structure FairInv (W T : Int) (l : List Ent) : Prop where
  wts : ∀ e ∈ l, 1 ≤ e.wt ∧ e.wt ≤ 16
  dn : ∀ e ∈ l, 0 ≤ e.done ∧ e.done ≤ T ∧ e.left = -e.done
  cr : ∀ e ∈ l, e.cr = T * e.wt - W * e.done ∧ -W < e.cr ∧ e.cr ≤ 16 * T
  sw : (l.map (·.wt)).sum = W
  sd : (l.map (·.done)).sum = T

theorem sum_lin (T W : Int) (l : List Ent) : (l.map fun e => T * e.wt - W * e.done).sum = T * (l.map (·.wt)).sum - W * (l.map (·.done)).sum := by
  induction l with
  | nil => simp
  | cons x l ih => simp only [List.map_cons, List.sum_cons, ih, Int.mul_add]; omega
theorem sum_le {α : Type} (f : α → Int) (c : Int) (l : List α) (h : ∀ e ∈ l, f e ≤ c) (hc : 0 ≤ c) : (l.map f).sum ≤ c * l.length := by
  induction l with
  | nil => simp
  | cons x l ih =>
    have h1 := ih fun e he => h e (List.mem_cons_of_mem _ he)
    have h2 := h x (List.mem_cons_self ..)
    simp only [List.map_cons, List.sum_cons, List.length_cons, Int.natCast_add, Int.mul_add]
    omega
theorem sum_ge {α : Type} (f : α → Int) (c : Int) (l : List α) (h : ∀ e ∈ l, -c ≤ f e) (hc : 0 ≤ c) : -(c * l.length) ≤ (l.map f).sum := by
  induction l with
  | nil => simp
  | cons x l ih =>
    have h1 := ih fun e he => h e (List.mem_cons_of_mem _ he)
    have h2 := h x (List.mem_cons_self ..)
    simp only [List.map_cons, List.sum_cons, List.length_cons, Int.natCast_add, Int.mul_add]
    omega
theorem FairInv.crSum {W T : Int} {l : List Ent} (h : FairInv W T l) : (l.map (·.cr)).sum = 0 := by
  have : l.map (·.cr) = l.map fun e => T * e.wt - W * e.done := List.map_congr_left fun e he => (h.cr e he).1
  rw [this, sum_lin, h.sw, h.sd, Int.mul_comm]
  omega
theorem FairInv.W_le {W T : Int} {l : List Ent} (h : FairInv W T l) : W ≤ 16 * l.length ∧ (l.length : Int) ≤ W := by
  refine ⟨?_, ?_⟩
  · rw [← h.sw]
    exact sum_le _ 16 l (fun e he => (h.wts e he).2) (by decide)
  · rw [← h.sw]
    have hw := h.wts
    clear h
    induction l with
    | nil => simp
    | cons x l ih =>
      have h1 := ih fun e he => hw e (List.mem_cons_of_mem _ he)
      have h2 := (hw x (List.mem_cons_self ..)).1
      simp only [List.map_cons, List.sum_cons, List.length_cons, Int.natCast_add]
      omega
theorem sumTo_eq {l : List Ent} (hw : ∀ e ∈ l, 1 ≤ e.wt ∧ e.wt ≤ 16) (hl : l.length ≤ 1000) (k : Nat) (hk : k ≤ l.length) : sumTo l k = ((l.take k).map (·.wt)).sum := by
  induction k with
  | zero => simp [sumTo]
  | succ k ih =>
    have hlt : k < l.length := by omega
    rw [sumTo, ih (by omega), wtAt_get l k hlt, List.take_succ_eq_append_getElem hlt, List.map_append, sum_append]
    have h1 := sum_le (·.wt) 16 (l.take k) (fun e he => (hw e (List.mem_of_mem_take he)).2) (by decide)
    have h2 := sum_ge (·.wt) 0 (l.take k) (fun e he => by have := (hw e (List.mem_of_mem_take he)).1; simp; omega) (by decide)
    have h3 := hw _ (List.getElem_mem hlt)
    have h4 : ((l.take k).length : Int) ≤ 1000 := by simp; omega
    rw [w64 (by omega) (by omega)]
    simp
theorem sum_crwt (l : List Ent) : (l.map fun e => e.cr + e.wt).sum = (l.map (·.cr)).sum + (l.map (·.wt)).sum := by
  induction l with
  | nil => simp
  | cons x l ih => simp only [List.map_cons, List.sum_cons, ih]; omega
theorem FairInv.sumW {W T : Int} {l : List Ent} (h : FairInv W T l) (hl : l.length ≤ 12) : sumTo l l.length = W := by
  rw [sumTo_eq h.wts (by omega) l.length (Nat.le_refl _), List.take_length, h.sw]
theorem fairL_get (l : List Ent) (s : Int) (hs : sumTo l l.length = s) (j : Nat) (hj : j < (fairL l).length) : (fairL l)[j] =
    if j = fairB l then { inc (l[j]'(by simpa [fairL] using hj)) with cr := wrap64 ((inc (l[j]'(by simpa [fairL] using hj))).cr - s) } else inc (l[j]'(by simpa [fairL] using hj)) := by
  subst hs
  simp [fairL]
theorem bestTo_max (l : List Ent) (k : Nat) : ∀ j, j < k → crAt l j ≤ crAt l (bestTo l k) := by
  induction k with
  | zero => intro j hj; omega
  | succ k ih =>
    intro j hj
    rw [bestTo]
    split
    · rename_i h
      by_cases e : j = k
      · subst e; exact Int.le_refl _
      · have := ih j (by omega); omega
    · rename_i h
      by_cases e : j = k
      · subst e; omega
      · exact ih j (by omega)

/-- the machines behind a fair pick of b -/
def nextL (W : Int) (b : Nat) (l : List Ent) : List Ent := l.mapIdx fun j e => if j = b then { e with cr := e.cr + e.wt - W, left := e.left - 1, done := e.done + 1 } else { e with cr := e.cr + e.wt }
theorem nextL_length (W : Int) (b : Nat) (l : List Ent) : (nextL W b l).length = l.length := by simp [nextL]
theorem nextL_get (W : Int) (b : Nat) (l : List Ent) (j : Nat) (h : j < (nextL W b l).length) : (nextL W b l)[j] =
    if j = b then { (l[j]'(by simpa [nextL] using h)) with cr := (l[j]'(by simpa [nextL] using h)).cr + (l[j]'(by simpa [nextL] using h)).wt - W, left := (l[j]'(by simpa [nextL] using h)).left - 1, done := (l[j]'(by simpa [nextL] using h)).done + 1 }
    else { (l[j]'(by simpa [nextL] using h)) with cr := (l[j]'(by simpa [nextL] using h)).cr + (l[j]'(by simpa [nextL] using h)).wt } := by
  simp [nextL]

theorem FairInv.incCr {W T : Int} {l : List Ent} (h : FairInv W T l) (h0 : 0 < l.length) (hl : l.length ≤ 12) (hT : T ≤ 1000) (e : Ent) (he : e ∈ l) : (inc e).cr = e.cr + e.wt := by
  have h1 := h.cr e he
  have h2 := h.wts e he
  have h3 := h.W_le
  exact w64 (by omega) (by omega)
theorem FairInv.best {W T : Int} {l : List Ent} (h : FairInv W T l) (h0 : 0 < l.length) (hl : l.length ≤ 12) (hT : T ≤ 1000) : fairB l < l.length ∧ (∀ j (hj : j < l.length), l[j].cr + l[j].wt ≤ (l[fairB l]'(fairB_lt l h0)).cr + (l[fairB l]'(fairB_lt l h0)).wt) ∧ 1 ≤ (l[fairB l]'(fairB_lt l h0)).cr + (l[fairB l]'(fairB_lt l h0)).wt := by
  have hb := fairB_lt l h0
  have hmax : ∀ j (hj : j < l.length), l[j].cr + l[j].wt ≤ l[fairB l].cr + l[fairB l].wt := by
    intro j hj
    have := bestTo_max (l.map inc) l.length j hj
    rw [crAt_get _ _ (by simpa using hj), show bestTo (l.map inc) l.length = fairB l from rfl, crAt_get _ _ (by simpa using hb), inc_get, inc_get, h.incCr h0 hl hT _ (List.getElem_mem hj), h.incCr h0 hl hT _ (List.getElem_mem hb)] at this
    exact this
  refine ⟨hb, hmax, ?_⟩
  have hs : (l.map fun e => e.cr + e.wt).sum = W := by
    rw [sum_crwt, h.crSum, h.sw]; omega
  have hW := h.W_le
  rcases Int.lt_or_le (l[fairB l].cr + l[fairB l].wt) 1 with hlt | hle
  · exfalso
    have := sum_le (fun e : Ent => e.cr + e.wt) 0 l (fun e he => by
      obtain ⟨j, hj, rfl⟩ := List.mem_iff_getElem.1 he
      have := hmax j hj
      show _ ≤ _
      omega) (by decide)
    rw [hs] at this
    omega
  · exact hle
theorem FairInv.next {W T : Int} {l : List Ent} (h : FairInv W T l) (h0 : 0 < l.length) (hl : l.length ≤ 12) (hT : T ≤ 1000) (hb : fairB l < (fairL l).length) : stepL (fairL l) (fairB l) hb = nextL W (fairB l) l ∧ (wrap64 ((fairL l)[fairB l].left - 1) == 0) = false := by
  obtain ⟨hb2, hmax, h1⟩ := h.best h0 hl hT
  have hfl := fairL_get l W (h.sumW hl)
  have hW := h.W_le
  have hd := h.dn _ (List.getElem_mem hb2)
  have hbl : (fairL l)[fairB l].left = l[fairB l].left := by rw [hfl, if_pos rfl]; rfl
  have hz : (wrap64 ((fairL l)[fairB l].left - 1) == 0) = false := by
    rw [hbl, w64 (by omega) (by omega), beq_eq_false_iff_ne]
    omega
  refine ⟨?_, hz⟩
  unfold stepL
  rw [hz]
  simp only [Bool.false_eq_true, if_false]
  apply List.ext_getElem (by simp [fairL, nextL])
  intro j hj1 hj2
  have hj : j < l.length := by simpa [nextL] using hj2
  rw [List.getElem_set, nextL_get]
  have hin := h.incCr h0 hl hT _ (List.getElem_mem hj)
  have hc := h.cr _ (List.getElem_mem hj)
  have hwt := h.wts _ (List.getElem_mem hj)
  split
  · rename_i e
    subst e
    rw [if_pos rfl, hfl, if_pos rfl, hin]
    simp only [Ent.ran, inc]
    rw [w64 (n := l[fairB l].left - 1) (by omega) (by omega), w64 (n := l[fairB l].done + 1) (by omega) (by omega), w64 (n := l[fairB l].cr + l[fairB l].wt - W) (by omega) (by omega)]
  · rename_i e
    rw [if_neg (fun x => e x.symm), hfl, if_neg (fun x => e x.symm)]
    have : inc l[j] = { l[j] with cr := (inc l[j]).cr } := rfl
    rw [this, hin]
theorem FairInv.step {W T : Int} {l : List Ent} (h : FairInv W T l) (h0 : 0 < l.length) (hl : l.length ≤ 12) (hT : T ≤ 1000) : FairInv W (T + 1) (nextL W (fairB l) l) := by
  obtain ⟨hb2, hmax, h1⟩ := h.best h0 hl hT
  have hmem : ∀ e ∈ nextL W (fairB l) l, ∃ x ∈ l, e.wt = x.wt ∧ ((e.cr = x.cr + x.wt - W ∧ 1 ≤ x.cr + x.wt ∧ e.done = x.done + 1 ∧ e.left = x.left - 1) ∨ (e.cr = x.cr + x.wt ∧ e.done = x.done ∧ e.left = x.left)) := by
    intro e he
    obtain ⟨j, hj, rfl⟩ := List.mem_iff_getElem.1 he
    have hjl : j < l.length := by simpa [nextL] using hj
    refine ⟨l[j], List.getElem_mem hjl, ?_⟩
    rw [nextL_get]
    split
    · rename_i e
      subst e
      exact ⟨rfl, .inl ⟨rfl, h1, rfl, rfl⟩⟩
    · exact ⟨rfl, .inr ⟨rfl, rfl, rfl⟩⟩
  have hW := h.W_le
  refine ⟨fun e he => ?_, fun e he => ?_, fun e he => ?_, ?_, ?_⟩
  · obtain ⟨x, hx, e1, _⟩ := hmem e he
    rw [e1]; exact h.wts x hx
  · obtain ⟨x, hx, _, hc⟩ := hmem e he
    have := h.dn x hx
    omega
  · obtain ⟨x, hx, e1, hc⟩ := hmem e he
    have hx1 := h.cr x hx
    have hx2 := h.wts x hx
    have hx3 := h.dn x hx
    rcases hc with ⟨e2, e3, e4, _⟩ | ⟨e2, e4, _⟩
    · refine ⟨?_, by omega, by omega⟩
      rw [e2, e1, e4, hx1.1, Int.add_mul, Int.mul_add]
      omega
    · refine ⟨?_, by omega, by omega⟩
      rw [e2, e1, e4, hx1.1, Int.add_mul]
      omega
  · have : (nextL W (fairB l) l).map (·.wt) = l.map (·.wt) := by
      apply List.ext_getElem (by simp [nextL])
      intro j h1 h2
      rw [List.getElem_map, List.getElem_map, nextL_get]
      split <;> rfl
    rw [this, h.sw]
  · have : (nextL W (fairB l) l).map (·.done) = (l.map (·.done)).set (fairB l) (l[fairB l].done + 1) := by
      apply List.ext_getElem (by simp [nextL])
      intro j h1 h2
      rw [List.getElem_map, List.getElem_set, nextL_get]
      split
      · rename_i e; subst e; simp
      · rename_i e; rw [if_neg (fun x => e x.symm)]; simp
    rw [this]
    have hset : ∀ (m : List Int) (i : Nat) (hi : i < m.length), (m.set i (m[i] + 1)).sum = m.sum + 1 := by
      intro m
      induction m with
      | nil => intro i hi; simp at hi
      | cons x m ih =>
        intro i hi
        cases i with
        | zero => simp; omega
        | succ i =>
          have := ih i (by simpa using hi)
          simp only [List.set_cons_succ, List.getElem_cons_succ, List.sum_cons, this]
          omega
    have := hset (l.map (·.done)) (fairB l) (by simpa using hb2)
    rw [List.getElem_map] at this
    rw [this, h.sd]
/-- at the end of a round -/
theorem FairInv.ends {W : Int} {r : Int} {l : List Ent} (h : FairInv W (W * r) l) : ∀ e ∈ l, e.done = r * e.wt ∧ e.cr = 0 := by
  have hle : ∀ e ∈ l, e.done ≤ r * e.wt := by
    intro e he
    have hc := h.cr e he
    have hW := h.W_le
    have hw := h.wts e he
    have hlen : 0 < l.length := List.length_pos_of_mem he
    have h2 : W * (r * e.wt - e.done) > W * (-1) := by
      rw [Int.mul_sub, ← Int.mul_assoc, ← hc.1]
      omega
    have h3 : r * e.wt - e.done > -1 := Int.lt_of_mul_lt_mul_left h2 (by omega)
    omega
  have hsum : (l.map fun e => r * e.wt - e.done).sum = 0 := by
    have := sum_lin r 1 l
    simp only [Int.one_mul] at this
    rw [this, h.sw, h.sd, Int.mul_comm]
    omega
  have heq : ∀ e ∈ l, r * e.wt - e.done = 0 := by
    clear h
    induction l with
    | nil => intro e he; exact absurd he List.not_mem_nil
    | cons x l ih =>
      have h1 := sum_ge (fun e : Ent => r * e.wt - e.done) 0 l (fun e he => by have := hle e (List.mem_cons_of_mem _ he); show _ ≤ _; omega) (by decide)
      have h2 := hle x (List.mem_cons_self ..)
      simp only [List.map_cons, List.sum_cons] at hsum
      intro e he
      rcases List.mem_cons.1 he with rfl | he
      · omega
      · exact ih (fun e he => hle e (List.mem_cons_of_mem _ he)) (by omega) e he
  intro e he
  have h1 := heq e he
  have h2 := (h.cr e he).1
  refine ⟨by omega, ?_⟩
  rw [h2, Int.mul_assoc, show e.done = r * e.wt by omega]
  omega
end Go.Proofs.Ytkokijmgikdnfaa
