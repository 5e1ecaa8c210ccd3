/- One call on both schedulers: the same answer, the same machines. -/
import Derived.Test.YtkokijmgikdnfaaZe
import Derived.Test.YtkokijmgikdnfaaK
import Derived.Test.YtkokijmgikdnfaaP
namespace Go.Proofs.Ytkokijmgikdnfaa
open Go.RowKit
set_option linter.unusedVariables false
/-- what a call answers, and the machines behind it -/
structure Out where
  x : Int
  d : Bool
  e : Int
  l : List Ent
  last : Int
def RDo (base S : Nat) (l : List Ent) (last k n m : Int) (o : Out) : Prop := ∀ (W : World) (v : Value), RS W base S v l last → base ≤ W.heap.size →
  Calls Try.prog 12 #[.pointer (some ⟨S, 0, none⟩), act k n m] W fun e w' => e = .returned (ans o.x o.d o.e) ∧ (∃ v', RS w' base S v' o.l o.last) ∧ RKeep base W w'
structure Inv (T : Nat) (l : List Ent) (last : Int) : Prop where
  lo : 0 ≤ last
  hi : last ≤ T
  len : l.length ≤ 64
  ids : (l.map (·.id)).Nodup
  le : ∀ e ∈ l, e.id ≤ last
theorem Inv.more {T : Nat} {l : List Ent} {last : Int} (h : Inv T l last) : Inv (T + 1) l last := ⟨h.lo, by have := h.hi; omega, h.len, h.ids, h.le⟩
theorem Inv.erase {T : Nat} {l : List Ent} {last : Int} (h : Inv T l last) (i : Nat) : Inv (T + 1) (l.eraseIdx i) last :=
  ⟨h.lo, by have := h.hi; omega, Nat.le_trans (List.length_eraseIdx_le _ _) h.len, h.ids.sublist ((List.eraseIdx_sublist _ _).map _), fun e he => h.le e (List.mem_of_mem_eraseIdx he)⟩
theorem Inv.fair {T : Nat} {l : List Ent} {last : Int} (h : Inv T l last) : Inv T (fairL l) last :=
  ⟨h.lo, h.hi, by rw [fairL_length]; exact h.len, by rw [ids_fairL]; exact h.ids, fun e he => by obtain ⟨x, hx, e1, _⟩ := fairL_mem he; rw [e1]; exact h.le x hx⟩
theorem Inv.step {T : Nat} {l : List Ent} {last : Int} (h : Inv T l last) {i : Nat} (hi : i < l.length) : Inv (T + 1) (stepL l i hi) last := by
  refine ⟨h.lo, by have := h.hi; omega, ?_, stepL_ids hi h.ids, fun e he => ?_⟩
  · unfold stepL
    split
    · exact Nat.le_trans (List.length_eraseIdx_le _ _) h.len
    · rw [List.length_set]; exact h.len
  · rcases stepL_mem he with ⟨j, hj, _, rfl⟩ | ⟨rfl, _⟩
    · exact h.le _ (List.getElem_mem hj)
    · show l[i].id ≤ last
      exact h.le _ (List.getElem_mem hi)
theorem Inv.add {T : Nat} {l : List Ent} {last : Int} (h : Inv T l last) (e : Ent) (he : e.id = last + 1) (hl : l.length < 64) : Inv (T + 1) (l ++ [e]) (last + 1) := by
  refine ⟨by have := h.lo; omega, by have := h.hi; omega, by simp; omega, ?_, fun x hx => ?_⟩
  · rw [List.map_append, List.nodup_append]
    refine ⟨h.ids, by simp, ?_⟩
    intro a ha b hb
    obtain ⟨x, hx, rfl⟩ := List.mem_map.1 ha
    simp at hb
    have := h.le x hx
    omega
  · rcases List.mem_append.1 hx with hx | hx
    · have := h.le x hx; omega
    · rw [List.mem_singleton] at hx; subst hx; omega
theorem same_ix {l : List Ent} (hn : (l.map (·.id)).Nodup) {i j : Nat} (hi : i < l.length) (hj : j < l.length) (h : l[i].id = l[j].id) : i = j :=
  (List.getElem_inj (h₀ := by simpa using hi) (h₁ := by simpa using hj) hn).1 (by simpa using h)
theorem stepped_pk {w w' : World} {B : Nat} {v : Value} {l l' : List Ent} {last : Int} {i : Nat} {hi : i < l'.length} {e : Ending} (h : Sch w B B v l last) (hjs : ∀ x ∈ l', ∃ y ∈ l, y.jb = x.jb) (hs : Stepped w B B l' last i hi e w') :
    e = .returned (.tuple #[.int .i64 l'[i].id, .bool (wrap64 (l'[i].left - 1) == 0), .int .i64 0]) ∧ (∃ v', Sch w' B B v' (stepL l' i hi) last) ∧ PKeep B w w' := by
  obtain ⟨he, hs', hj, hK⟩ := hs
  obtain ⟨y, hy, hyj⟩ := hjs _ (List.getElem_mem hi)
  refine ⟨he, hs', PKeep.of_keep hK fun k hk => ?_⟩
  subst hk
  rw [← hyj]
  exact ⟨(h.ents y hy).2.1, _, _, (h.ents y hy).2.2⟩
theorem keep0_pk {w w' : World} {B : Nat} (h : Keep B (fun _ => False) w w') : PKeep B w w' := PKeep.of_keep h fun k hk => hk.elim

theorem both {w : World} {B : Nat} {v : Value} {l : List Ent} {last : Int} {T : Nat} (base S : Nat) (k n m : Int) (hk0 : 0 ≤ k) (hk3 : k ≤ 3) (hI : Inv T l last) (hT : T ≤ 1000) (h : Sch w B B v l last) (hb : B ≤ w.heap.size) :
    Calls Try.prog 11 #[.pointer (some ⟨B, 0, none⟩), act k n m] w fun e w' => ∃ o : Out, RDo base S l last k n m o ∧ Inv (T + 1) o.l o.last ∧ e = .returned (ans o.x o.d o.e) ∧ (∃ v', Sch w' B B v' o.l o.last) ∧ PKeep B w w' := by
  have hl := hI.len
  have hkk : k = 0 ∨ k = 1 ∨ k = 2 ∨ k = 3 := by omega
  rcases hkk with rfl | rfl | rfl | rfl
  · by_cases hn : n < 1 ∨ 16 < n
    · refine (do0 n m 0 1 (P := fun w => ∃ v, Sch w B B v l last) stable_sch hb fun W hW => ?_).mono ?_
      · have hB : Below W.heap.size W (W.alloc (.cells #[.int .i64 m, .int .i64 0] 46)) := (Below.refl _ _).alloc (Nat.le_refl _) _
        refine (addArg W.heap.size n hn ((h.below hW).below hB)).mono ?_
        rintro e w' ⟨rfl, rfl⟩
        exact ⟨rfl, ⟨_, (h.below hW).below hB⟩, PKeep.of_below hB⟩
      · rintro e w' ⟨rfl, hs, hp⟩
        exact ⟨⟨0, false, 1, l, last⟩, fun W v hR hbW => rDo0arg n m hn hR, hI.more, rfl, hs, hp⟩
    · have hn1 : 1 ≤ n := by omega
      have hn2 : n ≤ 16 := by omega
      by_cases h64 : l.length = 64
      · refine (do0 n m 0 7 (P := fun w => ∃ v, Sch w B B v l last) stable_sch hb fun W hW => ?_).mono ?_
        · have hB : Below W.heap.size W (W.alloc (.cells #[.int .i64 m, .int .i64 0] 46)) := (Below.refl _ _).alloc (Nat.le_refl _) _
          refine (addFull W.heap.size n hn1 hn2 (by omega) (by omega) ((h.below hW).below hB)).mono ?_
          rintro e w' ⟨rfl, rfl⟩
          exact ⟨rfl, ⟨_, (h.below hW).below hB⟩, PKeep.of_below hB⟩
        · rintro e w' ⟨rfl, hs, hp⟩
          exact ⟨⟨0, false, 7, l, last⟩, fun W v hR hbW => rDo0full n m hn1 hn2 h64 hR, hI.more, rfl, hs, hp⟩
      · refine (do0 n m (wrap64 (last + 1)) 0 (P := fun w => ∃ eb jb v, Sch w B B v (l ++ [⟨wrap64 (last + 1), n, 0, eb, jb, m, 0⟩]) (wrap64 (last + 1))) (fun w a ha ⟨eb, jb, v, h⟩ x y z => ⟨eb, jb, v, h.ans ha x y z⟩) hb fun W hW => ?_).mono ?_
        · have hB : Below W.heap.size W (W.alloc (.cells #[.int .i64 m, .int .i64 0] 46)) := (Below.refl _ _).alloc (Nat.le_refl _) _
          have hbW : B ≤ W.heap.size := Nat.le_trans hb hW.size
          have hj : B ≤ W.heap.size ∧ (W.alloc (.cells #[.int .i64 m, .int .i64 0] 46)).heap[W.heap.size]? = some (.cells #[.int .i64 m, .int .i64 0] 46 (0, 0)) := ⟨hbW, heap_alloc_new W _⟩
          refine (add W.heap.size m 0 n hn1 hn2 (by omega) ((h.below hW).below hB) (by simp; omega) hj fun x hx => ?_).mono ?_
          · have := heap_lt ((h.below hW).ents x hx).2.2
            omega
          · rintro e w' ⟨rfl, v', hs, hk⟩
            exact ⟨rfl, ⟨_, _, v', hs⟩, (PKeep.of_below hB).trans (keep0_pk hk)⟩
        · rintro e w' ⟨rfl, ⟨eb, jb, v', hs⟩, hp⟩
          have hw : wrap64 (last + 1) = last + 1 := w64 (by have := hI.lo; omega) (by have := hI.hi; omega)
          refine ⟨⟨wrap64 (last + 1), false, 0, l ++ [⟨wrap64 (last + 1), n, 0, eb, jb, m, 0⟩], wrap64 (last + 1)⟩, fun W v hR hbW => (rDo0 n m hn1 hn2 (by omega) hbW hR).mono fun e w' ⟨h1, h2, h3⟩ => ⟨h1, h2 eb jb, h3⟩, ?_, rfl, ⟨v', hs⟩, hp⟩
          simp only [hw]
          exact hI.add _ rfl (by omega)
  · by_cases hx : ∃ x ∈ l, x.id = n
    · obtain ⟨x, hx, hxn⟩ := hx
      obtain ⟨i, hi, rfl⟩ := List.mem_iff_getElem.1 hx
      refine (do1 n m 0 (P := fun w => ∃ v, Sch w B B v (l.eraseIdx i) last) stable_sch hb fun W hW => ?_).mono ?_
      · refine (remove n (by omega) (h.below hW)).mono ?_
        rintro e w' ⟨hr, hk, -⟩
        rcases hr with ⟨j, hj, hjn, -, rfl, hs⟩ | ⟨hno, -, -⟩
        · obtain rfl := same_ix hI.ids hi hj (hxn.trans hjn.symm)
          exact ⟨rfl, hs, keep0_pk hk⟩
        · exact absurd hxn (hno _ hx)
      · rintro e w' ⟨rfl, hs, hp⟩
        refine ⟨⟨0, false, 0, l.eraseIdx i, last⟩, fun W v hR hbW => (rDo1 n m (by omega) hbW hR).mono ?_, hI.erase i, rfl, hs, hp⟩
        rintro e w' ⟨h3, ⟨j, hj, hjn, -, rfl, hs⟩ | ⟨hno, -, -⟩⟩
        · obtain rfl := same_ix hI.ids hi hj (hxn.trans hjn.symm)
          exact ⟨rfl, hs, h3⟩
        · exact absurd hxn (hno _ hx)
    · have hno : ∀ x ∈ l, x.id ≠ n := fun x hx' e => hx ⟨x, hx', e⟩
      refine (do1 n m 9 (P := fun w => ∃ v, Sch w B B v l last) stable_sch hb fun W hW => ?_).mono ?_
      · refine (remove n (by omega) (h.below hW)).mono ?_
        rintro e w' ⟨hr, hk, -⟩
        rcases hr with ⟨j, hj, hjn, -⟩ | ⟨-, rfl, hs⟩
        · exact absurd hjn (hno _ (List.getElem_mem hj))
        · exact ⟨rfl, ⟨_, hs⟩, keep0_pk hk⟩
      · rintro e w' ⟨rfl, hs, hp⟩
        refine ⟨⟨0, false, 9, l, last⟩, fun W v hR hbW => (rDo1 n m (by omega) hbW hR).mono ?_, hI.more, rfl, hs, hp⟩
        rintro e w' ⟨h3, ⟨j, hj, hjn, -⟩ | ⟨-, rfl, hs⟩⟩
        · exact absurd hjn (hno _ (List.getElem_mem hj))
        · exact ⟨rfl, hs, h3⟩
  · rcases Nat.eq_zero_or_pos l.length with h0 | h0
    · obtain rfl := List.length_eq_zero_iff.1 h0
      refine (do2 n m 0 9 false (P := fun w => ∃ v, Sch w B B v [] last) stable_sch hb fun W hW => ?_).mono ?_
      · refine (pickNone n (h.below hW)).mono ?_
        rintro e w' ⟨rfl, rfl⟩
        exact ⟨rfl, ⟨_, h.below hW⟩, PKeep.of_below (Below.refl _ _)⟩
      · rintro e w' ⟨rfl, hs, hp⟩
        exact ⟨⟨0, false, 9, [], last⟩, fun W v hR hbW => rDo2none n m hR, hI.more, rfl, hs, hp⟩
    · by_cases hn : n < 0
      · refine (do2 n m 0 1 false (P := fun w => ∃ v, Sch w B B v l last) stable_sch hb fun W hW => ?_).mono ?_
        · refine (pickNeg n hn h0 (by omega) (h.below hW)).mono ?_
          rintro e w' ⟨rfl, rfl⟩
          exact ⟨rfl, ⟨_, h.below hW⟩, PKeep.of_below (Below.refl _ _)⟩
        · rintro e w' ⟨rfl, hs, hp⟩
          exact ⟨⟨0, false, 1, l, last⟩, fun W v hR hbW => rDo2neg n m hn h0 (Nat.le_trans hl (by decide)) hR, hI.more, rfl, hs, hp⟩
      · have hn0 : 0 ≤ n := by omega
        obtain ⟨i, hin⟩ : ∃ i : Nat, n % (l.length : Int) = i := ⟨(n % (l.length : Int)).toNat, (Int.toNat_of_nonneg (Int.emod_nonneg _ (by omega))).symm⟩
        have hi : i < l.length := by have := Int.emod_lt_of_pos n (show (0 : Int) < l.length by omega); omega
        refine (do2 n m l[i].id 0 (wrap64 (l[i].left - 1) == 0) (P := fun w => ∃ v, Sch w B B v (stepL l i hi) last) stable_sch hb fun W hW => ?_).mono ?_
        · refine (pick n i hi hn0 hin (by omega) (h.below hW) hI.ids).mono ?_
          intro e w' hs
          exact stepped_pk (h.below hW) (fun x hx => ⟨x, hx, rfl⟩) hs
        · rintro e w' ⟨rfl, hs, hp⟩
          exact ⟨⟨l[i].id, wrap64 (l[i].left - 1) == 0, 0, stepL l i hi, last⟩, fun W v hR hbW => (rDo2 n m i hi hn0 hin (by omega) hbW hR), hI.step hi, rfl, hs, hp⟩
  · rcases Nat.eq_zero_or_pos l.length with h0 | h0
    · obtain rfl := List.length_eq_zero_iff.1 h0
      refine (do3 n m 0 9 false (P := fun w => ∃ v, Sch w B B v [] last) stable_sch hb fun W hW => ?_).mono ?_
      · refine (fairNone (h.below hW)).mono ?_
        rintro e w' ⟨rfl, rfl⟩
        exact ⟨rfl, ⟨_, h.below hW⟩, PKeep.of_below (Below.refl _ _)⟩
      · rintro e w' ⟨rfl, hs, hp⟩
        exact ⟨⟨0, false, 9, [], last⟩, fun W v hR hbW => rDo3 n m 9 false 0 [] fun W' hW' => rFairNone (hR.below hW'), hI.more, rfl, hs, hp⟩
    · have hlt : fairB l < (fairL l).length := by rw [fairL_length]; exact fairB_lt l h0
      refine (do3 n m (fairL l)[fairB l].id 0 (wrap64 ((fairL l)[fairB l].left - 1) == 0) (P := fun w => ∃ v, Sch w B B v (stepL (fairL l) (fairB l) hlt) last) stable_sch hb fun W hW => ?_).mono ?_
      · refine (Go.Proofs.Ytkokijmgikdnfaa.fair h0 (by omega) (h.below hW) hI.ids).mono ?_
        intro e w' hs
        exact stepped_pk (h.below hW) (fun x hx => by obtain ⟨y, hy, _, e2, _⟩ := fairL_mem hx; exact ⟨y, hy, e2.symm⟩) hs
      · rintro e w' ⟨rfl, hs, hp⟩
        exact ⟨⟨(fairL l)[fairB l].id, wrap64 ((fairL l)[fairB l].left - 1) == 0, 0, stepL (fairL l) (fairB l) hlt, last⟩,
          fun W v hR hbW => rDo3 n m 0 (wrap64 ((fairL l)[fairB l].left - 1) == 0) (fairL l)[fairB l].id (stepL (fairL l) (fairB l) hlt) fun W' hW' => rFair h0 (by omega) (Nat.le_trans hbW hW'.size) (hR.below hW'), hI.fair.step hlt, rfl, hs, hp⟩
end Go.Proofs.Ytkokijmgikdnfaa
