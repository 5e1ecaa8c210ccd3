/- Reading slices of numbers that came in; facts of the whole program. -/
import Derived.Test.YtkokijmgikdnfaaA
import Derived.Deep.Slices
import Derived.Deep.Fields
import Derived.ChangeSame
import Derived.ChangeArms
import Derived.ChangeSlices
import Derived.ProofKit
import Derived.OpenShut
import Derived.ChangeOld
import Derived.SizedLaws
import Derived.Lib.SmallJoins
namespace Go.Proofs.Ytkokijmgikdnfaa
open Go.RowKit Go.ChangeShapes Go.WideShapes Go.Deep Go.ChangeAt Go.Joins
set_option linter.unusedVariables false

section
variable {H : Type} {enc : TypeId × Value → H} {P : Program} {w : World} {base : Nat} {spare : Nat → Bool} {held : Bool}
theorem open_slice_fields {t e : TypeId} {fs : Array Field} {fuel : Nat} {cs : List Value} {x : DataW H × List MemPlace} (ht : P.underlying t = some (.slice e)) (he : P.underlying e = some (.struct fs))
    (hone : oneCellFields P fs = true) (hC : P.cellsOf e = fs.size) (h : DataW.trod enc P w base spare held fuel t cs = some x) :
    (cs = [.slice none 0 0] ∧ x = (.nil, [])) ∨
    ∃ (a : Addr) (len cap m : Nat) (D : Nat → DataW H) (Pl : Nat → List MemPlace), cs = [.slice (some a) len cap] ∧ base ≤ a.block ∧ len ≤ cap ∧ cap ≤ maxLen ∧ m = (if spare a.block then cap else len) ∧
      x = (.slice ((List.range len).map D) ((List.range (m - len)).map fun j => D (len + j)), MemPlace.row a (m * fs.size) ++ (List.range m).flatMap Pl) ∧
      ∀ i, i < m → ∃ (ys : List (DataW H × List MemPlace)) (n : Nat), D i = .agg (ys.map (·.1)) ∧ Pl i = ys.flatMap (·.2) ∧ ys.length = fs.size ∧
        ∀ (j : Nat) (f : Field), fs[j]? = some f → ∃ (v : Value) (y : DataW H × List MemPlace), w.cell? (a.add (i * fs.size + j)) = some v ∧ ys[j]? = some y ∧ DataW.trod enc P w base spare held n f.type [v] = some y := by
  rcases open_slice ht h with h0 | ⟨a, len, cap, m, n, D, Pl, hcs, hb, hl, hm, hmm, hx, hi⟩
  · exact .inl h0
  · refine .inr ⟨a, len, cap, m, D, Pl, hcs, hb, hl, hm, hmm, by rw [hC] at hx; exact hx, fun i him => ?_⟩
    obtain ⟨cs', hc, ht'⟩ := hi i him
    rw [hC] at hc
    obtain ⟨ys, n', hn', hy, hlen, hyl, hf⟩ := DataW.trod_struct he ht'
    obtain ⟨_, hcl, hat⟩ := World.cells?_some hc
    simp only [Prod.mk.injEq] at hy
    refine ⟨ys, n', hy.1, hy.2, hyl, fun j f hj => ?_⟩
    obtain ⟨ho, hk⟩ := hone_of hone j f hj
    have hjl : j < fs.size := (Array.getElem?_eq_some_iff.1 hj).1
    have hcell := hat j hjl
    have hv : cs'[j]? = some (cs'[j]'(by omega)) := List.getElem?_eq_getElem (by omega)
    have h1 := hf j f hj
    rw [ho, hk] at h1
    have hone' : (cs'.drop j).take 1 = [cs'[j]'(by omega)] := by
      rw [List.drop_eq_getElem_cons (by omega)]
      rfl
    rw [hone'] at h1
    have hys : ys[j]? = some (ys[j]'(by omega)) := List.getElem?_eq_getElem (by omega)
    refine ⟨_, _, ?_, hys, h1.trans hys⟩
    rw [← Go.Deep.add_add, hcell, hv]
end

/-- A reads as the bytes l -/
def Bys (w : World) (A : Option Addr) (l : List Int) : Prop := ∀ i (h : i < l.length), ∃ ad : Addr, A = some ad ∧ w.cell? (ad.add i) = some (.int .u8 l[i]) ∧ (Lit.int .u8 l[i]).wf = true
theorem list_of {α : Type} {P : Nat → α → Prop} : ∀ (n : Nat), (∀ i, i < n → ∃ b, P i b) → ∃ l : List α, l.length = n ∧ ∀ i b, l[i]? = some b → P i b := by
  intro n
  induction n with
  | zero => exact fun _ => ⟨[], rfl, fun i b h => by simp at h⟩
  | succ n ih =>
    intro h
    obtain ⟨l, hl, hp⟩ := ih fun i hi => h i (by omega)
    obtain ⟨b, hb⟩ := h n (by omega)
    refine ⟨l ++ [b], by simp [hl], fun i c hc => ?_⟩
    by_cases hi : i < l.length
    · rw [List.getElem?_append_left hi] at hc
      exact hp i c hc
    · rw [List.getElem?_append_right (by omega)] at hc
      have : i - l.length = 0 := by
        rcases Nat.eq_zero_or_pos (i - l.length) with h0 | h0
        · exact h0
        · rw [List.getElem?_eq_none (by simp; omega)] at hc
          cases hc
      rw [this] at hc
      simp at hc
      subst hc
      rw [show i = n from by omega]
      exact hb

section
variable {H : Type} {enc : TypeId × Value → H} {W : World} {base : Nat} {spare : Nat → Bool} {held : Bool}
theorem read_bytes {b0 : Nat} {v : Value} {d : DataW H} {ps : List MemPlace} (hv : Value.okWide Try.prog W .any b0 53 v) (h : DataW.Trod enc Try.prog W base spare held 53 v d ps) :
    ∃ (A : Option Addr) (l : List Int) (c : Nat), v = .slice A l.length c ∧ l.length ≤ 9223372036854775807 ∧ Bys W A l := by
  obtain ⟨A, len, c, rfl⟩ := okWide_slice Try.underlying53 hv
  obtain ⟨fuel, hf⟩ := h
  rcases open_slice1 Try.underlying53 (by kernel_rfl) hf with ⟨h0, _⟩ | ⟨ad, len', cap', m, n, V, D, Pl, hcs, _, hl, hm, hmm, _, hi⟩
  · simp [Value.cells] at h0
    obtain ⟨rfl, rfl, rfl⟩ := h0
    exact ⟨none, [], 0, rfl, by simp, fun i h => absurd h (Nat.not_lt_zero _)⟩
  · simp [Value.cells] at hcs
    obtain ⟨rfl, rfl, rfl⟩ := hcs
    have hmax : c ≤ 9223372036854775807 := by simpa [maxLen] using hm
    have hlm : len ≤ m := by rw [hmm]; split <;> omega
    obtain ⟨l, hll, hp⟩ := list_of (P := fun i (x : Int) => W.cell? (ad.add i) = some (.int .u8 x) ∧ (Lit.int .u8 x).wf = true) len (fun i hi' => by
      obtain ⟨c0, t0⟩ := hi i (by omega)
      obtain ⟨n0, e0, _, g0⟩ := DataW.trod_int Try.underlying5 t0
      simp only [List.cons.injEq, and_true] at e0
      rw [e0] at c0
      exact ⟨n0, c0, g0⟩)
    subst hll
    exact ⟨some ad, l, c, rfl, by omega, fun i h => ⟨ad, rfl, hp i l[i] (List.getElem?_eq_getElem h)⟩⟩
/-- a call on the scheduler -/
structure Cal where
  kind : Int
  n : Int
  more : Int
/-- A reads as the calls l -/
def Cals (w : World) (A : Option Addr) (l : List Cal) : Prop := ∀ i (h : i < l.length), ∃ ad : Addr, A = some ad ∧ w.cell? (ad.add (i * 3)) = some (.int .i64 l[i].kind) ∧ w.cell? (ad.add (i * 3 + 1)) = some (.int .i64 l[i].n) ∧ w.cell? (ad.add (i * 3 + 2)) = some (.int .i64 l[i].more)
theorem under31 : Try.prog.underlying 31 = some (.struct #[⟨ "Kind", 3, 0, false, "", "", 0⟩, ⟨ "N", 3, 1, false, "", "", 8⟩, ⟨ "More", 3, 2, false, "", "", 16⟩]) := by kernel_rfl
theorem read_calls {b0 : Nat} {v : Value} {d : DataW H} {ps : List MemPlace} (hv : Value.okWide Try.prog W .any b0 22 v) (h : DataW.Trod enc Try.prog W base spare held 22 v d ps) :
    ∃ (A : Option Addr) (l : List Cal) (c : Nat), v = .slice A l.length c ∧ l.length ≤ 9223372036854775807 ∧ Cals W A l := by
  obtain ⟨A, len, c, rfl⟩ := okWide_slice Try.underlying22 hv
  obtain ⟨fuel, hf⟩ := h
  rcases open_slice_fields Try.underlying22 under31 (by kernel_rfl) (by kernel_rfl) hf with ⟨h0, _⟩ | ⟨ad, len', cap', m, D, Pl, hcs, _, hl, hm, hmm, _, hff⟩
  · simp [Value.cells] at h0
    obtain ⟨rfl, rfl, rfl⟩ := h0
    exact ⟨none, [], 0, rfl, by simp, fun i h => absurd h (Nat.not_lt_zero _)⟩
  · simp [Value.cells] at hcs
    obtain ⟨rfl, rfl, rfl⟩ := hcs
    have hmax : c ≤ 9223372036854775807 := by simpa [maxLen] using hm
    have hlm : len ≤ m := by rw [hmm]; split <;> omega
    obtain ⟨l, hll, hp⟩ := list_of (P := fun i (x : Cal) => W.cell? (ad.add (i * 3)) = some (.int .i64 x.kind) ∧ W.cell? (ad.add (i * 3 + 1)) = some (.int .i64 x.n) ∧ W.cell? (ad.add (i * 3 + 2)) = some (.int .i64 x.more)) len (fun i hi => by
      obtain ⟨ys, n, _, _, _, hj⟩ := hff i (by omega)
      obtain ⟨v0, y0, c0, _, t0⟩ := hj 0 _ rfl
      obtain ⟨v1, y1, c1, _, t1⟩ := hj 1 _ rfl
      obtain ⟨v2, y2, c2, _, t2⟩ := hj 2 _ rfl
      obtain ⟨n0, e0, _, g0⟩ := DataW.trod_int Try.underlying3 t0
      obtain ⟨n1, e1, _, g1⟩ := DataW.trod_int Try.underlying3 t1
      obtain ⟨n2, e2, _, g2⟩ := DataW.trod_int Try.underlying3 t2
      cases e0; cases e1; cases e2
      exact ⟨⟨n0, n1, n2⟩, by simpa using c0, c1, c2⟩)
    subst hll
    exact ⟨some ad, l, c, rfl, by omega, fun i h => ⟨ad, rfl, hp i l[i] (List.getElem?_eq_getElem h)⟩⟩
end
theorem own : ownKnob Try.prog.godebug = none := by kernel_rfl
theorem laidOut : laidOutB Try.prog = true := by kernel_rfl
end Go.Proofs.Ytkokijmgikdnfaa
