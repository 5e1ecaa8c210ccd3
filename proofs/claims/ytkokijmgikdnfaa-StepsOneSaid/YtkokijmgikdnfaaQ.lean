/- The laws' state: scheduler, jobs, and the row of the jobs' pointers. -/
import Derived.Test.YtkokijmgikdnfaaP
namespace Go.Proofs.Ytkokijmgikdnfaa
open Go.RowKit
set_option linter.unusedVariables false

structure Lab (w : World) (B : Nat) (bank : List Jb) (jv v : Value) (l : List Ent) (last : Int) : Prop where
  sch : Sch w B B v l last
  jobs : Jobs w B bank
  link : Link bank l
  row : Ptrs w B jv (bank.map (·.jb))

theorem Lab.below {w w' : World} {B : Nat} {bank : List Jb} {jv v : Value} {l : List Ent} {last : Int} (h : Lab w B bank jv v l last) (hb : Below w.heap.size w w') : Lab w' B bank jv v l last :=
  ⟨h.sch.below hb, h.jobs.below hb, h.link, h.row.below hb⟩
theorem Link.add {bank : List Jb} {l : List Ent} (h : Link bank l) (j : Jb) (e : Ent) (hj : ∀ x ∈ bank, x.jb ≠ j.jb) (h1 : e.id = (bank.length : Int) + 1) (h2 : e.jb = j.jb) (h3 : e.left = j.left) (h4 : e.done = j.done) : Link (bank ++ [j]) (l ++ [e]) := by
  refine ⟨?_, ?_, fun x hx => ?_⟩
  · rw [List.map_append, List.nodup_append]
    refine ⟨h.nod, by simp, ?_⟩
    intro a ha b hb
    obtain ⟨x, hx, rfl⟩ := List.mem_map.1 ha
    simp at hb
    rw [hb]
    exact hj x hx
  · rw [List.map_append, List.nodup_append]
    refine ⟨h.ids, by simp, ?_⟩
    intro a ha b hb
    obtain ⟨x, hx, rfl⟩ := List.mem_map.1 ha
    simp at hb
    obtain ⟨k, hk, e1, _⟩ := h.link x hx
    omega
  · rcases List.mem_append.1 hx with hx | hx
    · obtain ⟨k, hk, e1, e2, e3, e4⟩ := h.link x hx
      refine ⟨k, by simp; omega, e1, ?_⟩
      rw [List.getElem_append_left hk]
      exact ⟨e2, e3, e4⟩
    · rw [List.mem_singleton] at hx
      subst hx
      refine ⟨bank.length, by simp, h1, ?_⟩
      simp [h2, h3, h4]
theorem Jobs.lt {w : World} {B : Nat} {bank : List Jb} (h : Jobs w B bank) : ∀ x ∈ bank, x.jb < w.heap.size := fun x hx => heap_lt (h x hx).2

theorem Lab.add {w : World} {B : Nat} {bank : List Jb} {jv v : Value} {l : List Ent} (left n : Int) (hn1 : 1 ≤ n) (hn2 : n ≤ 16) (h : Lab w B bank jv v l bank.length) (hl : l.length < 64) (hk : bank.length < 64) (hB : B ≤ w.heap.size) :
    Calls Try.prog 18 #[.pointer (some ⟨B, 0, none⟩), .iface 44 (.pointer (some ⟨w.heap.size, 0, none⟩)), .int .i64 n] (w.alloc (.cells #[.int .i64 left, .int .i64 0] 46)) fun e w' =>
      e = .returned (.tuple #[.int .i64 ((bank.length : Int) + 1), .int .i64 0]) ∧ Below B w w' ∧ Ptrs w' B jv (bank.map (·.jb)) ∧
      ∃ eb, ∀ jv' w2, Ptrs w2 B jv' (bank.map (·.jb) ++ [w.heap.size]) → w'.grownBy w2 jv.ownBlock →
        ∃ v', Lab w2 B (bank ++ [⟨w.heap.size, left, 0⟩]) jv' v' (l ++ [⟨(bank.length : Int) + 1, n, 0, eb, w.heap.size, left, 0⟩]) ((bank ++ [(⟨w.heap.size, left, 0⟩ : Jb)]).length : Nat) := by
  refine (addBox left n hn1 hn2 hl h.sch hB).mono ?_
  rintro e w' ⟨rfl, v', eb, hs', hk'⟩
  rw [w64 (by omega) (by omega)] at hs' ⊢
  have hr' := h.row.keep hk' (fun k h => h.elim)
  refine ⟨rfl, keep_below0 hk' hB, hr', eb, fun jv' w2 hp hg => ⟨v', ?_, ?_, ?_, ?_⟩⟩
  · have := hs'.grownP hr' hg
    simpa using this
  · intro j hj
    rcases List.mem_append.1 hj with hj | hj
    · obtain ⟨g1, g2⟩ := h.jobs.keep hk' j hj
      exact ⟨g1, (hr'.other hg g2 (by decide)).trans g2⟩
    · rw [List.mem_singleton] at hj
      subst hj
      obtain ⟨g1, g2⟩ := (hs'.ents _ (List.mem_append_right _ (List.mem_singleton.2 rfl))).2
      exact ⟨g1, (hr'.other hg g2 (by decide)).trans g2⟩
  · exact h.link.add _ _ (fun x hx => by have := h.jobs.lt x hx; simp; omega) rfl rfl rfl rfl
  · simpa using hp

theorem Lab.stepped {w w' : World} {B : Nat} {bank : List Jb} {jv v : Value} {l l' : List Ent} {last : Int} (h : Lab w B bank jv v l last) (hl' : Link bank l') (hjs : ∀ x ∈ l', ∃ y ∈ l, y.jb = x.jb) {i : Nat} {hi : i < l'.length} {e : Ending} (hB : B ≤ w.heap.size) (hs : Stepped w B B l' last i hi e w') :
    ∃ (k : Nat) (hk : k < bank.length), e = .returned (.tuple #[.int .i64 ((k : Int) + 1), .bool (bank[k].ran.left == 0), .int .i64 0]) ∧ l'[i].id = (k : Int) + 1 ∧ l'[i].left = bank[k].left ∧
      (∃ v', Lab w' B (ranB bank k) jv v' (stepL l' i hi) last) ∧ Below B w w' := by
  obtain ⟨rfl, ⟨v', hs'⟩, hj, hK⟩ := hs
  obtain ⟨k, hk, h1, h2, h3, h4, hln⟩ := hl'.step hi
  obtain ⟨y, hy, hyj⟩ := hjs _ (List.getElem_mem hi)
  refine ⟨k, hk, by rw [h1, h3]; rfl, h1, h3, ⟨v', hs', h.jobs.step h.link.nod hk h2 h3 h4 hj hK, hln, ?_⟩, keep_below h.sch hK ⟨y, hy, hyj⟩ hB⟩
  rw [ranB_jb]
  exact h.row.keep hK (job_tag h.sch ⟨y, hy, hyj⟩)

theorem Lab.fair {w : World} {B : Nat} {bank : List Jb} {jv v : Value} {l : List Ent} {last : Int} (h : Lab w B bank jv v l last) (h0 : 0 < l.length) (hl : l.length ≤ 1000) (hB : B ≤ w.heap.size) :
    Calls Try.prog 20 #[.pointer (some ⟨B, 0, none⟩)] w fun e w' => ∃ (hb : fairB l < (fairL l).length) (k : Nat) (hk : k < bank.length),
      e = .returned (.tuple #[.int .i64 ((k : Int) + 1), .bool (bank[k].ran.left == 0), .int .i64 0]) ∧ (fairL l)[fairB l].id = (k : Int) + 1 ∧ (fairL l)[fairB l].left = bank[k].left ∧
      (∃ v', Lab w' B (ranB bank k) jv v' (stepL (fairL l) (fairB l) hb) last) ∧ Below B w w' := by
  refine (Go.Proofs.Ytkokijmgikdnfaa.fair h0 hl h.sch h.link.ids).mono ?_
  intro e w' hs
  exact ⟨_, h.stepped h.link.fair (fun x hx => by obtain ⟨y, hy, _, e2, _⟩ := fairL_mem hx; exact ⟨y, hy, e2.symm⟩) hB hs⟩
theorem Lab.ids_ {w : World} {B : Nat} {bank : List Jb} {jv v : Value} {l : List Ent} {last : Int} (h : Lab w B bank jv v l last) (hl : l.length ≤ 1000) :
    Calls Try.prog 14 #[.pointer (some ⟨B, 0, none⟩)] w fun e w' => ∃ r, e = .returned r ∧ Ints w' w.heap.size r (l.map (·.id)) ∧ Below w.heap.size w w' := ids hl h.sch
end Go.Proofs.Ytkokijmgikdnfaa
