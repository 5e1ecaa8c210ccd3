/- Reading a slice of bands, and a value of type Count, that came in. -/
import Derived.Test.YtnjmllkcodppgaaA
import Derived.Deep.Slices
import Derived.Deep.Fields
import Derived.ChangeSame
import Derived.ChangeArms
import Derived.ChangeSlices
import Derived.ProofKit
import Derived.OpenShut
import Derived.ChangeOld
import Derived.SizedLaws
import Derived.Lib.SmallJoins
namespace Go.Proofs.Ytnjmllkcodppgaa
open Go.RowKit Go.ChangeShapes Go.WideShapes Go.Deep Go.ChangeAt Go.Joins
set_option linter.unusedVariables false

section
variable {H : Type} {enc : TypeId × Value → H} {P : Program} {w : World} {base : Nat} {spare : Nat → Bool} {held : Bool}
theorem open_slice_fields {t e : TypeId} {fs : Array Field} {fuel : Nat} {cs : List Value} {x : DataW H × List MemPlace} (ht : P.underlying t = some (.slice e)) (he : P.underlying e = some (.struct fs))
    (hone : oneCellFields P fs = true) (hC : P.cellsOf e = fs.size) (h : DataW.trod enc P w base spare held fuel t cs = some x) :
    (cs = [.slice none 0 0] ∧ x = (.nil, [])) ∨
    ∃ (a : Addr) (len cap m : Nat) (D : Nat → DataW H) (Pl : Nat → List MemPlace), cs = [.slice (some a) len cap] ∧ base ≤ a.block ∧ len ≤ cap ∧ cap ≤ maxLen ∧ m = (if spare a.block then cap else len) ∧
      x = (.slice ((List.range len).map D) ((List.range (m - len)).map fun j => D (len + j)), MemPlace.row a (m * fs.size) ++ (List.range m).flatMap Pl) ∧
      ∀ i, i < m → ∃ (ys : List (DataW H × List MemPlace)) (n : Nat), D i = .agg (ys.map (·.1)) ∧ Pl i = ys.flatMap (·.2) ∧ ys.length = fs.size ∧
        ∀ (j : Nat) (f : Field), fs[j]? = some f → ∃ (v : Value) (y : DataW H × List MemPlace), w.cell? (a.add (i * fs.size + j)) = some v ∧ ys[j]? = some y ∧ DataW.trod enc P w base spare held n f.type [v] = some y := by
  rcases open_slice ht h with h0 | ⟨a, len, cap, m, n, D, Pl, hcs, hb, hl, hm, hmm, hx, hi⟩
  · exact .inl h0
  · refine .inr ⟨a, len, cap, m, D, Pl, hcs, hb, hl, hm, hmm, by rw [hC] at hx; exact hx, fun i him => ?_⟩
    obtain ⟨cs', hc, ht'⟩ := hi i him
    rw [hC] at hc
    obtain ⟨ys, n', hn', hy, hlen, hyl, hf⟩ := DataW.trod_struct he ht'
    obtain ⟨_, hcl, hat⟩ := World.cells?_some hc
    simp only [Prod.mk.injEq] at hy
    refine ⟨ys, n', hy.1, hy.2, hyl, fun j f hj => ?_⟩
    obtain ⟨ho, hk⟩ := hone_of hone j f hj
    have hjl : j < fs.size := (Array.getElem?_eq_some_iff.1 hj).1
    have hcell := hat j hjl
    have hv : cs'[j]? = some (cs'[j]'(by omega)) := List.getElem?_eq_getElem (by omega)
    have h1 := hf j f hj
    rw [ho, hk] at h1
    have hone' : (cs'.drop j).take 1 = [cs'[j]'(by omega)] := by
      rw [List.drop_eq_getElem_cons (by omega)]
      rfl
    rw [hone'] at h1
    have hys : ys[j]? = some (ys[j]'(by omega)) := List.getElem?_eq_getElem (by omega)
    refine ⟨_, _, ?_, hys, h1.trans hys⟩
    rw [← Go.Deep.add_add, hcell, hv]
end

/-- Each number of a band is of its kind. -/
def okB (b : BI) : Prop := (Lit.int .i64 b.used).wf = true ∧ (Lit.int .i64 b.live).wf = true ∧ (Lit.int .u64 b.age).wf = true ∧ (Lit.int .u64 b.wear).wf = true

theorem list_of {P : Nat → BI → Prop} : ∀ (n : Nat), (∀ i, i < n → ∃ b, P i b) → ∃ l : List BI, l.length = n ∧ ∀ i b, l[i]? = some b → P i b := by
  intro n
  induction n with
  | zero => exact fun _ => ⟨[], rfl, fun i b h => by simp at h⟩
  | succ n ih =>
    intro h
    obtain ⟨l, hl, hp⟩ := ih fun i hi => h i (by omega)
    obtain ⟨b, hb⟩ := h n (by omega)
    refine ⟨l ++ [b], by simp [hl], fun i c hc => ?_⟩
    by_cases hi : i < l.length
    · rw [List.getElem?_append_left hi] at hc
      exact hp i c hc
    · rw [List.getElem?_append_right (by omega)] at hc
      have : i - l.length = 0 := by
        rcases Nat.eq_zero_or_pos (i - l.length) with h0 | h0
        · exact h0
        · rw [List.getElem?_eq_none (by simp; omega)] at hc
          cases hc
      rw [this] at hc
      simp at hc
      subst hc
      rw [show i = n from by omega]
      exact hb

theorem under24 : Try.prog.underlying 24 = some (.struct #[⟨ "Used", 3, 0, false, "", "", 0⟩, ⟨ "Live", 3, 1, false, "", "", 8⟩, ⟨ "Age", 22, 2, false, "", "", 16⟩, ⟨ "Wear", 22, 3, false, "", "", 24⟩]) := by kernel_rfl

section
variable {H : Type} {enc : TypeId × Value → H} {W : World} {base : Nat} {spare : Nat → Bool} {held : Bool}
theorem read_cells {fuel : Nat} {a : Option Addr} {len cap : Nat} {x : DataW H × List MemPlace} (h : DataW.trod enc Try.prog W base spare held fuel 29 [.slice a len cap] = some x) :
    ∃ l : List BI, len = l.length ∧ l.length ≤ 9223372036854775807 ∧ Bs W a l ∧ ∀ b ∈ l, okB b := by
  rcases open_slice_fields Try.underlying29 under24 (by kernel_rfl) (by kernel_rfl) h with ⟨h0, _⟩ | ⟨ad, len', cap', m, D, Pl, hcs, _, hl, hm, hmm, _, hf⟩
  · simp only [List.cons.injEq, Value.slice.injEq, and_true] at h0
    obtain ⟨rfl, rfl, rfl⟩ := h0
    exact ⟨[], rfl, by simp, Bs.nil _ _, by simp⟩
  · simp only [List.cons.injEq, Value.slice.injEq, and_true] at hcs
    obtain ⟨rfl, rfl, rfl⟩ := hcs
    have hmax : cap ≤ 9223372036854775807 := by simpa [maxLen] using hm
    have hlm : len ≤ m := by rw [hmm]; split <;> omega
    obtain ⟨l, hll, hp⟩ := list_of (P := fun i b => At W (ad.add (i * 4)) b ∧ okB b) len (fun i hi => by
      obtain ⟨ys, n, _, _, _, hj⟩ := hf i (by omega)
      obtain ⟨v0, y0, c0, _, t0⟩ := hj 0 _ rfl
      obtain ⟨v1, y1, c1, _, t1⟩ := hj 1 _ rfl
      obtain ⟨v2, y2, c2, _, t2⟩ := hj 2 _ rfl
      obtain ⟨v3, y3, c3, _, t3⟩ := hj 3 _ rfl
      obtain ⟨n0, e0, _, g0⟩ := DataW.trod_int Try.underlying3 t0
      obtain ⟨n1, e1, _, g1⟩ := DataW.trod_int Try.underlying3 t1
      obtain ⟨n2, e2, _, g2⟩ := DataW.trod_int Try.underlying22 t2
      obtain ⟨n3, e3, _, g3⟩ := DataW.trod_int Try.underlying22 t3
      cases e0; cases e1; cases e2; cases e3
      refine ⟨⟨n0, n1, n2, n3⟩, ⟨?_, ?_, ?_, ?_⟩, g0, g1, g2, g3⟩
      · simpa using c0
      · rw [← add_field _ _ 1 (by omega)]; exact c1
      · rw [← add_field _ _ 2 (by omega)]; exact c2
      · rw [← add_field _ _ 3 (by omega)]; exact c3)
    refine ⟨l, hll.symm, by omega, fun _ => ⟨ad, rfl, fun i b hb => (hp i b hb).1⟩, fun b hb => ?_⟩
    obtain ⟨i, hi⟩ := List.getElem?_of_mem hb
    exact (hp i b hi).2
theorem read_bands {a : Option Addr} {len cap : Nat} {d : DataW H} {ps : List MemPlace} (h : DataW.Trod enc Try.prog W base spare held 29 (.slice a len cap) d ps) :
    ∃ l : List BI, len = l.length ∧ l.length ≤ 9223372036854775807 ∧ Bs W a l ∧ ∀ b ∈ l, okB b := by
  obtain ⟨fuel, hf⟩ := h
  exact read_cells (by simpa [Value.cells] using hf)
theorem read_slice {fuel : Nat} {v : Value} {x : DataW H × List MemPlace} (h : DataW.trod enc Try.prog W base spare held fuel 29 [v] = some x) :
    ∃ (a : Option Addr) (l : List BI) (cap : Nat), v = .slice a l.length cap ∧ l.length ≤ 9223372036854775807 ∧ Bs W a l ∧ ∀ b ∈ l, okB b := by
  have h' := h
  rcases open_slice Try.underlying29 h with ⟨h0, _⟩ | ⟨ad, len', cap', m, n, D, Pl, hcs, _⟩
  · cases h0
    obtain ⟨l, hl, h1, h2, h3⟩ := read_cells h'
    exact ⟨_, l, _, by rw [← hl], h1, h2, h3⟩
  · cases hcs
    obtain ⟨l, hl, h1, h2, h3⟩ := read_cells h'
    exact ⟨_, l, _, by rw [← hl], h1, h2, h3⟩
theorem under31 : Try.prog.underlying 31 = some (.struct #[⟨ "L", 29, 0, false, "", "", 0⟩, ⟨ "Size", 3, 1, false, "", "", 24⟩, ⟨ "Open", 3, 2, false, "", "", 32⟩, ⟨ "Now", 22, 3, false, "", "", 40⟩]) := by kernel_rfl
theorem read_count {b0 : Nat} {v : Value} {d : DataW H} {ps : List MemPlace} (hv : Value.okWide Try.prog W .any b0 31 v) (h : DataW.Trod enc Try.prog W base spare held 31 v d ps) :
    ∃ (A : Option Addr) (l : List BI) (c : Nat) (size band now : Int), v = .agg #[.slice A l.length c, .int .i64 size, .int .i64 band, .int .u64 now] ∧ l.length ≤ 9223372036854775807 ∧ Bs W A l ∧ (∀ b ∈ l, okB b) ∧
      (Lit.int .i64 size).wf = true ∧ (Lit.int .i64 band).wf = true ∧ (Lit.int .u64 now).wf = true := by
  obtain ⟨v0, v1, v2, v3, y0, y1, y2, y3, n, rfl, _, _, t0, t1, t2, t3⟩ := open_agg4 under31 (by kernel_rfl) (by kernel_rfl) hv h
  obtain ⟨A, l, c, rfl, h1, h2, h3⟩ := read_slice t0
  obtain ⟨n1, e1, _, g1⟩ := DataW.trod_int Try.underlying3 t1
  obtain ⟨n2, e2, _, g2⟩ := DataW.trod_int Try.underlying3 t2
  obtain ⟨n3, e3, _, g3⟩ := DataW.trod_int Try.underlying22 t3
  cases e1; cases e2; cases e3
  exact ⟨A, l, c, n1, n2, n3, rfl, h1, h2, h3, g1, g2, g3⟩
end
theorem own : ownKnob Try.prog.godebug = none := by kernel_rfl
theorem laidOut : laidOutB Try.prog = true := by kernel_rfl
end Go.Proofs.Ytnjmllkcodppgaa
