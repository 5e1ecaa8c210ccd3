/- Contracts of slices.Clone, of band.change with its three closures, of band.Append, Unlink, Reset. -/
import Derived.Test.YtmodhmcpljabcaaH
import Derived.Test.YtmodhmcpljabcaaF
import Derived.WalkSpells
namespace Go.Proofs.Ytmodhmcpljabcaa
open Go.RowKit
set_option linter.unusedVariables false

theorem Bs.of_none {w : World} {l : List BI} (h : Bs w none l) : l = [] := by
  cases l with
  | nil => rfl
  | cons b l => obtain ⟨ad, e, _⟩ := h (by simp); cases e

set_option maxHeartbeats 1000000 in
theorem clone (A : Option Addr) (c : Nat) (l : List BI) (w : World) (hl : l.length ≤ 1000) (h : Bs w A l) :
    Calls Try.prog 34 #[.slice A l.length c] w fun e w' => ∃ v, e = .returned v ∧ Own w' w.heap.size v l ∧ Below w.heap.size w w' := by
  have hq := fun W => Lib.run_eql_slice_nil (P := Try.prog) W 22 35 A l.length c 0 0 Try.underlying22
  cases A with
  | none =>
    have e := h.of_none
    subst e
    have hq2 : ∀ W, (binOp .eql 22 (.slice none ([] : List BI).length c) (.slice none 0 0)).run Try.prog W = .ok (.bool true) W := hq
    simp only [List.length_nil] at hq2 ⊢
    clear hq
    go_enter Try.func34, Try.ntmps34
    go_wp2
    go_ret
    exact ⟨_, rfl, Own.nil _ _, Below.refl _ _⟩
  | some ad =>
    have hq2 : ∀ W, (binOp .eql 22 (.slice (some ad) l.length c) (.slice none 0 0)).run Try.prog W = .ok (.bool false) W := hq
    clear hq
    go_enter Try.func34, Try.ntmps34
    go_wp2_with (at_builtin
                 refine wpList_copied _ rfl (.tmp 5) (.tmp 6) rfl _ rfl rfl (some ad) l c rfl h hl ?_
                 intro v1 w1 ho hb1)
    go_ret
    exact ⟨_, rfl, ho, hb1⟩
def appB (now : Int) (b : BI) : BI := ⟨wrap64 (b.used + 1), wrap64 (b.live + 1), now, b.wear⟩
def unlB (b : BI) : BI := ⟨b.used, wrap64 (b.live - 1), b.age, b.wear⟩
def rstB (b : BI) : BI := ⟨0, 0, 0, IntKind.u64.wrap (b.wear + 1)⟩

theorem flat_set0 (l : List BI) (i : Nat) (b : BI) (u : Int) (h : l[i]? = some b) : flat (l.set i ⟨u, b.live, b.age, b.wear⟩) = (flat l).set (i * 4) (.int .i64 u) := by
  induction l generalizing i with
  | nil => simp at h
  | cons c l ih =>
    cases i with
    | zero => simp at h; subst h; rfl
    | succ i =>
      have k := ih i (by simpa using h)
      rw [show (i + 1) * 4 = (i * 4) + 1 + 1 + 1 + 1 from by omega]
      simp only [flat, List.set_cons_succ, k]
theorem Own.set0 {w : World} {base g c n : Nat} {l : List BI} (h : Own w base (.slice (some ⟨g, 0, none⟩) n c) l) {i : Nat} {b : BI} (hb : l[i]? = some b) (u : Int) :
    Own (w.setCell ⟨g, i * 4, none⟩ (.int .i64 u)) base (.slice (some ⟨g, 0, none⟩) n c) (l.set i ⟨u, b.live, b.age, b.wear⟩) := by
  have e := h.len
  subst e
  have h1 := (World.ownsRow.stored h (i * 4) (.int .i64 u)).1
  unfold Own
  rw [flat_set0 l i b u hb, List.length_set]
  exact h1
theorem flat_set1 (l : List BI) (i : Nat) (b : BI) (u : Int) (h : l[i]? = some b) : flat (l.set i ⟨b.used, u, b.age, b.wear⟩) = (flat l).set (i * 4 + 1) (.int .i64 u) := by
  induction l generalizing i with
  | nil => simp at h
  | cons c l ih =>
    cases i with
    | zero => simp at h; subst h; rfl
    | succ i =>
      have k := ih i (by simpa using h)
      rw [show (i + 1) * 4 + 1 = (i * 4 + 1) + 1 + 1 + 1 + 1 from by omega]
      simp only [flat, List.set_cons_succ, k]
theorem Own.set1 {w : World} {base g c n : Nat} {l : List BI} (h : Own w base (.slice (some ⟨g, 0, none⟩) n c) l) {i : Nat} {b : BI} (hb : l[i]? = some b) (u : Int) :
    Own (w.setCell ⟨g, i * 4 + 1, none⟩ (.int .i64 u)) base (.slice (some ⟨g, 0, none⟩) n c) (l.set i ⟨b.used, u, b.age, b.wear⟩) := by
  have e := h.len
  subst e
  have h1 := (World.ownsRow.stored h (i * 4 + 1) (.int .i64 u)).1
  unfold Own
  rw [flat_set1 l i b u hb, List.length_set]
  exact h1
theorem flat_set2 (l : List BI) (i : Nat) (b : BI) (u : Int) (h : l[i]? = some b) : flat (l.set i ⟨b.used, b.live, u, b.wear⟩) = (flat l).set (i * 4 + 2) (.int .u64 u) := by
  induction l generalizing i with
  | nil => simp at h
  | cons c l ih =>
    cases i with
    | zero => simp at h; subst h; rfl
    | succ i =>
      have k := ih i (by simpa using h)
      rw [show (i + 1) * 4 + 2 = (i * 4 + 2) + 1 + 1 + 1 + 1 from by omega]
      simp only [flat, List.set_cons_succ, k]
theorem Own.set2 {w : World} {base g c n : Nat} {l : List BI} (h : Own w base (.slice (some ⟨g, 0, none⟩) n c) l) {i : Nat} {b : BI} (hb : l[i]? = some b) (u : Int) :
    Own (w.setCell ⟨g, i * 4 + 2, none⟩ (.int .u64 u)) base (.slice (some ⟨g, 0, none⟩) n c) (l.set i ⟨b.used, b.live, u, b.wear⟩) := by
  have e := h.len
  subst e
  have h1 := (World.ownsRow.stored h (i * 4 + 2) (.int .u64 u)).1
  unfold Own
  rw [flat_set2 l i b u hb, List.length_set]
  exact h1
theorem flat_set3 (l : List BI) (i : Nat) (b : BI) (u : Int) (h : l[i]? = some b) : flat (l.set i ⟨b.used, b.live, b.age, u⟩) = (flat l).set (i * 4 + 3) (.int .u64 u) := by
  induction l generalizing i with
  | nil => simp at h
  | cons c l ih =>
    cases i with
    | zero => simp at h; subst h; rfl
    | succ i =>
      have k := ih i (by simpa using h)
      rw [show (i + 1) * 4 + 3 = (i * 4 + 3) + 1 + 1 + 1 + 1 from by omega]
      simp only [flat, List.set_cons_succ, k]
theorem Own.set3 {w : World} {base g c n : Nat} {l : List BI} (h : Own w base (.slice (some ⟨g, 0, none⟩) n c) l) {i : Nat} {b : BI} (hb : l[i]? = some b) (u : Int) :
    Own (w.setCell ⟨g, i * 4 + 3, none⟩ (.int .u64 u)) base (.slice (some ⟨g, 0, none⟩) n c) (l.set i ⟨b.used, b.live, b.age, u⟩) := by
  have e := h.len
  subst e
  have h1 := (World.ownsRow.stored h (i * 4 + 3) (.int .u64 u)).1
  unfold Own
  rw [flat_set3 l i b u hb, List.length_set]
  exact h1
theorem get_set {l : List BI} {i : Nat} (h : i < l.length) (b : BI) : (l.set i b)[i]? = some b := by rw [List.getElem?_set, if_pos rfl, if_pos h]
theorem get_at {l : List BI} {i : Nat} (h : i < l.length) : l[i]? = some l[i] := List.getElem?_eq_getElem h
theorem grown_refl (w : World) (g : Option Nat) : w.grownBy w g := ⟨rfl, rfl, rfl, Nat.le_refl _, fun _ _ _ => rfl⟩
theorem grown_set {w w' : World} {g : Nat} (h : w.grownBy w' (some g)) (j : Nat) (u : Value) : w.grownBy (w'.setCell ⟨g, j, none⟩ u) (some g) :=
  ⟨h.os, h.tape, h.output, by simpa [World.setCell] using h.size, fun k hk hne => (Below.heap_setCell w' ⟨g, j, none⟩ u k (fun e => hne (by rw [e]))).trans (h.block k hk hne)⟩
theorem grown_drewN (w : World) (n : Nat) (g : Option Nat) : w.grownBy (w.drewN n) g := ⟨rfl, rfl, rfl, Nat.le_refl _, fun _ _ _ => rfl⟩
theorem Own.drewN {w : World} {base : Nat} {v : Value} {l : List BI} (h : Own w base v l) (n : Nat) : Own (w.drewN n) base v l := h

set_option maxHeartbeats 1000000 in
theorem append1_no (base g n c gs : Nat) (P : Addr) (l : List BI) (i : Nat) (size : Int) (w : World) (ho : Own w base (.slice (some ⟨g, 0, none⟩) n c) l) (hi : i < l.length)
    (hs : w.cell? ⟨gs, 0, none⟩ = some (.int .i64 size)) (hlt : size ≤ l[i].used) :
    Calls Try.prog 29 #[.pointer (some ⟨g, i * 4, none⟩), .pointer (some ⟨gs, 0, none⟩), .pointer (some P)] w fun e w' => e = .returned (.int .i64 11) ∧ Quiet w w' := by
  obtain ⟨y0, y1, y2, y3⟩ := ho.cellAt hi
  generalize l[i].used = u at *
  have d : decide (size ≤ u) = true := decide_eq_true hlt
  go_enter Try.func29, Try.ntmps29
  go_wp2
  go_quiet (fail)
  go_wp2
  go_ret
  exact ⟨rfl, by repeat (first | exact Quiet.refl _ | apply Quiet.step)⟩

set_option maxHeartbeats 1000000 in
theorem append1_ok (base g n c gs gn : Nat) (l : List BI) (i : Nat) (size now : Int) (w : World) (ho : Own w base (.slice (some ⟨g, 0, none⟩) n c) l) (hi : i < l.length)
    (hs : w.cell? ⟨gs, 0, none⟩ = some (.int .i64 size)) (hn : w.cell? ⟨gn, 0, none⟩ = some (.int .u64 now)) (hgn : gn ≠ g) (hlt : l[i].used < size) :
    Calls Try.prog 29 #[.pointer (some ⟨g, i * 4, none⟩), .pointer (some ⟨gs, 0, none⟩), .pointer (some ⟨gn, 0, none⟩)] w fun e w' => e = .returned (.int .i64 0) ∧
      Own w' base (.slice (some ⟨g, 0, none⟩) n c) (l.set i (appB now l[i])) ∧ w.grownBy w' (some g) := by
  obtain ⟨y0, y1, y2, y3⟩ := ho.cellAt hi
  have hfr := fun j => ho.frozenAt j
  have hgn' : g ≠ gn := fun e => hgn e.symm
  have hst := Lib.hid (fun m => (((ho.drewN m).set0 (get_at hi) (wrap64 (l[i].used + 1))).set1 (get_set hi _) (wrap64 (l[i].live + 1))).set2 (get_set (by simpa using hi) _) now)
  have d : decide (size ≤ l[i].used) = false := decide_eq_false (by omega)
  clear hlt
  go_enter Try.func29, Try.ntmps29
  go_wp2
  go_quiet (fail)
  go_wp2
  go_ret
  exact ⟨rfl, by have := hst.out nq; simpa [appB] using this, grown_set (grown_set (grown_set (grown_drewN w nq _) _ _) _ _) _ _⟩

set_option maxHeartbeats 1000000 in
theorem unlink1_no (base g n c : Nat) (l : List BI) (i : Nat) (w : World) (ho : Own w base (.slice (some ⟨g, 0, none⟩) n c) l) (hi : i < l.length) (hlt : l[i].live < 1) :
    Calls Try.prog 31 #[.pointer (some ⟨g, i * 4, none⟩)] w fun e w' => e = .returned (.int .i64 8) ∧ w = w' := by
  obtain ⟨y0, y1, y2, y3⟩ := ho.cellAt hi
  generalize l[i].live = u at *
  have d : decide (u < 1) = true := decide_eq_true hlt
  go_enter Try.func31, Try.ntmps31
  go_wp2
  go_ret
  exact ⟨rfl, rfl⟩

set_option maxHeartbeats 1000000 in
theorem unlink1_ok (base g n c : Nat) (l : List BI) (i : Nat) (w : World) (ho : Own w base (.slice (some ⟨g, 0, none⟩) n c) l) (hi : i < l.length) (hlt : 1 ≤ l[i].live) :
    Calls Try.prog 31 #[.pointer (some ⟨g, i * 4, none⟩)] w fun e w' => e = .returned (.int .i64 0) ∧ Own w' base (.slice (some ⟨g, 0, none⟩) n c) (l.set i (unlB l[i])) ∧ w.grownBy w' (some g) := by
  obtain ⟨y0, y1, y2, y3⟩ := ho.cellAt hi
  have hfr := fun j => ho.frozenAt j
  have hst := Lib.hid (ho.set1 (get_at hi) (wrap64 (l[i].live - 1)))
  have d : decide (l[i].live < 1) = false := decide_eq_false (by omega)
  clear hlt
  go_enter Try.func31, Try.ntmps31
  go_wp2
  go_ret
  exact ⟨rfl, by have := hst.out; simpa [unlB] using this, grown_set (grown_refl w _) _ _⟩

set_option maxHeartbeats 1000000 in
theorem reset1 (base g n c : Nat) (l : List BI) (i : Nat) (w : World) (ho : Own w base (.slice (some ⟨g, 0, none⟩) n c) l) (hi : i < l.length) :
    Calls Try.prog 32 #[.pointer (some ⟨g, i * 4, none⟩)] w fun e w' => e = .returned (.int .i64 0) ∧ Own w' base (.slice (some ⟨g, 0, none⟩) n c) (l.set i (rstB l[i])) ∧ w.grownBy w' (some g) := by
  obtain ⟨y0, y1, y2, y3⟩ := ho.cellAt hi
  have hfr := fun j => ho.frozenAt j
  have hst := Lib.hid (ho.store4 hi (rstB l[i]))
  go_enter Try.func32, Try.ntmps32
  go_wp2
  go_ret
  exact ⟨rfl, by have := hst.out; simpa [rstB] using this, grown_set (grown_set (grown_set (grown_set (grown_refl w _) _ _) _ _) _ _) _ _⟩
end Go.Proofs.Ytmodhmcpljabcaa
