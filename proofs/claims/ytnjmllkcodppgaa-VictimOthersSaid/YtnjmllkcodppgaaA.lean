/- Words for the proofs of chapter 16: bands in memory, as lists. -/
import Derived.Test.YtnjmllkcodppgaaProg
import Derived.WalkKit
import Derived.KernelRfl
import Derived.Lib.Hide
import Derived.BigQuiet
import Derived.Deep.QuietTactic
import Derived.Deep.Draws
import Derived.Deep.LoopGhost
import Derived.Deep.DeepCutAuto
import Derived.Deep.AppendLies
import Derived.Maps.AppendAt
import Derived.OwnWalk
import Derived.Deep.RegionHeld3
namespace Go.Proofs.Ytnjmllkcodppgaa
open Go.RowKit

structure BI where
  used : Int
  live : Int
  age : Int
  wear : Int

def bv (b : BI) : Value := .agg #[.int .i64 b.used, .int .i64 b.live, .int .u64 b.age, .int .u64 b.wear]
def zb : BI := ⟨0, 0, 0, 0⟩
def four (b : BI) : List Value := [.int .i64 b.used, .int .i64 b.live, .int .u64 b.age, .int .u64 b.wear]
def flat : List BI → List Value
  | [] => []
  | b :: l => .int .i64 b.used :: .int .i64 b.live :: .int .u64 b.age :: .int .u64 b.wear :: flat l

theorem flat_length (l : List BI) : (flat l).length = l.length * 4 := by
  induction l with
  | nil => rfl
  | cons b l ih => simp [flat, ih]; omega
theorem flat_append (l m : List BI) : flat (l ++ m) = flat l ++ flat m := by
  induction l with
  | nil => rfl
  | cons b l ih => simp [flat, ih]
theorem flat_one (l : List BI) : ∀ u ∈ flat l, u.oneCell' = true := by
  induction l with
  | nil => intro u hu; cases hu
  | cons b l ih =>
    intro u hu
    simp only [flat, List.mem_cons] at hu
    rcases hu with rfl | rfl | rfl | rfl | hu
    · rfl
    · rfl
    · rfl
    · rfl
    · exact ih u hu
theorem flat_get (l : List BI) (i : Nat) (b : BI) (h : l[i]? = some b) : (flat l)[i * 4]? = some (.int .i64 b.used) ∧ (flat l)[i * 4 + 1]? = some (.int .i64 b.live) ∧ (flat l)[i * 4 + 2]? = some (.int .u64 b.age) ∧ (flat l)[i * 4 + 3]? = some (.int .u64 b.wear) := by
  induction l generalizing i with
  | nil => simp at h
  | cons c l ih =>
    cases i with
    | zero =>
      simp at h
      subst h
      exact ⟨rfl, rfl, rfl, rfl⟩
    | succ i =>
      have h' : l[i]? = some b := by simpa using h
      have k := ih i h'
      have e : ∀ j, (i + 1) * 4 + j = (i * 4 + j) + 1 + 1 + 1 + 1 := by intro j; omega
      have e0 : (i + 1) * 4 = (i * 4) + 1 + 1 + 1 + 1 := by omega
      refine ⟨?_, ?_, ?_, ?_⟩
      · rw [e0]; simpa [flat] using k.1
      · rw [e 1]; simpa [flat] using k.2.1
      · rw [e 2]; simpa [flat] using k.2.2.1
      · rw [e 3]; simpa [flat] using k.2.2.2
theorem flat_set (l : List BI) (i : Nat) (b : BI) (h : i < l.length) : flat (l.set i b) = ((((flat l).set (i * 4) (.int .i64 b.used)).set (i * 4 + 1) (.int .i64 b.live)).set (i * 4 + 2) (.int .u64 b.age)).set (i * 4 + 3) (.int .u64 b.wear) := by
  induction l generalizing i with
  | nil => simp at h
  | cons c l ih =>
    cases i with
    | zero => rfl
    | succ i =>
      have e : ∀ j, (i + 1) * 4 + j = (i * 4 + j) + 1 + 1 + 1 + 1 := by intro j; omega
      have e0 : (i + 1) * 4 = (i * 4) + 1 + 1 + 1 + 1 := by omega
      have k := ih i (by simpa using h)
      rw [e0, show i * 4 + 1 + 1 + 1 + 1 + 1 = (i * 4 + 1) + 1 + 1 + 1 + 1 from by omega, show i * 4 + 1 + 1 + 1 + 1 + 2 = (i * 4 + 2) + 1 + 1 + 1 + 1 from by omega, show i * 4 + 1 + 1 + 1 + 1 + 3 = (i * 4 + 3) + 1 + 1 + 1 + 1 from by omega]
      simp only [flat, List.set_cons_succ, k]
theorem flat_take (l : List BI) (n : Nat) : flat (l.take n) = (flat l).take (n * 4) := by
  induction l generalizing n with
  | nil => simp [flat]
  | cons b l ih =>
    cases n with
    | zero => simp [flat]
    | succ n =>
      rw [show (n + 1) * 4 = n * 4 + 1 + 1 + 1 + 1 from by omega]
      simp only [flat, List.take_succ_cons, ih]

theorem block_of_add (a : Addr) (n : Nat) : (a.add n).block = a.block := by unfold Addr.add; split <;> rfl
theorem add_of_add (a : Addr) (i j : Nat) : (a.add i).add j = a.add (i + j) := by
  unfold Addr.add
  by_cases hi : i = 0 <;> by_cases hj : j = 0 <;> simp [hi, hj, Nat.add_assoc]
theorem add_field (ad : Addr) (m j : Nat) (hj : 0 < j) : ad.add (m + j) = ⟨(ad.add m).block, (ad.add m).off + j, none⟩ := by
  rw [← add_of_add]
  generalize ad.add m = b
  unfold Addr.add
  rw [if_neg (by omega)]
theorem add_plain (g j : Nat) : (⟨g, 0, none⟩ : Addr).add j = ⟨g, j, none⟩ := by unfold Addr.add; split <;> simp_all
theorem cell_alloc {w : World} {p : Addr} {v : Value} (h : w.cell? p = some v) (o : Obj) : (w.alloc o).cell? p = some v :=
  (World.cell?_alloc_lt w o p (World.block_lt_of_cell? w p h)).trans h
theorem cell_below {w w' : World} (hb : Below w.heap.size w w') {p : Addr} {v : Value} (h : w.cell? p = some v) : w'.cell? p = some v :=
  (hb.cell (World.block_lt_of_cell? w p h)).trans h
theorem below_then {B : Nat} {w w1 w2 : World} (h : Below B w w1) (hB : B ≤ w1.heap.size) (k : Below w1.heap.size w1 w2) : Below B w w2 := h.trans (k.mono hB)
theorem below_drewN {B : Nat} {a w : World} (h : Below B a w) (n : Nat) : Below B a (w.drewN n) := ⟨h.os, h.tape, h.output, h.size, h.block⟩

/-- The four cells of a band at p. -/
def At (w : World) (p : Addr) (b : BI) : Prop :=
  w.cell? p = some (.int .i64 b.used) ∧ w.cell? ⟨p.block, p.off + 1, none⟩ = some (.int .i64 b.live) ∧
    w.cell? ⟨p.block, p.off + 2, none⟩ = some (.int .u64 b.age) ∧ w.cell? ⟨p.block, p.off + 3, none⟩ = some (.int .u64 b.wear)
theorem At.below {w w' : World} {p : Addr} {b : BI} (h : At w p b) (hb : Below w.heap.size w w') : At w' p b :=
  ⟨cell_below hb h.1, cell_below hb h.2.1, cell_below hb h.2.2.1, cell_below hb h.2.2.2⟩

/-- The slice at A reads as the list l of bands in w. -/
def Bs (w : World) (A : Option Addr) (l : List BI) : Prop := l ≠ [] → ∃ ad, A = some ad ∧ ∀ i b, l[i]? = some b → At w (ad.add (i * 4)) b

theorem Bs.nil (w : World) (A : Option Addr) : Bs w A [] := fun h => absurd rfl h
theorem Bs.below {w w' : World} {A : Option Addr} {l : List BI} (h : Bs w A l) (hb : Below w.heap.size w w') : Bs w' A l := fun hl => by
  obtain ⟨ad, e, hc⟩ := h hl
  exact ⟨ad, e, fun i b hi => (hc i b hi).below hb⟩
theorem Bs.at_ {w : World} {A : Option Addr} {l : List BI} (h : Bs w A l) {i : Nat} (hi : i < l.length) : ∃ ad, A = some ad ∧
    w.cell? (ad.add (i * 4)) = some (.int .i64 l[i].used) ∧ w.cell? ⟨(ad.add (i * 4)).block, (ad.add (i * 4)).off + 1, none⟩ = some (.int .i64 l[i].live) ∧
    w.cell? ⟨(ad.add (i * 4)).block, (ad.add (i * 4)).off + 2, none⟩ = some (.int .u64 l[i].age) ∧ w.cell? ⟨(ad.add (i * 4)).block, (ad.add (i * 4)).off + 3, none⟩ = some (.int .u64 l[i].wear) := by
  obtain ⟨ad, e, hc⟩ := h (by intro h0; rw [h0] at hi; simp at hi)
  obtain ⟨c0, c1, c2, c3⟩ := hc i l[i] (List.getElem?_eq_getElem hi)
  exact ⟨ad, e, c0, c1, c2, c3⟩
theorem Bs.take {w : World} {A : Option Addr} {l : List BI} (h : Bs w A l) (n : Nat) : Bs w A (l.take n) := fun hl => by
  obtain ⟨ad, e, hc⟩ := h (by rintro rfl; simp at hl)
  refine ⟨ad, e, fun i b hi => hc i b ?_⟩
  rw [List.getElem?_take] at hi
  split at hi
  · exact hi
  · cases hi

/-- The slice value v is the call's own row (new from block base on) of the bands l. -/
def Own (w : World) (base : Nat) (v : Value) (l : List BI) : Prop := w.ownsRow base 24 4 v l.length (flat l)
theorem Own.nil (w : World) (base : Nat) : Own w base (.slice none 0 0) [] := World.ownsRow_nil w base 24 4
theorem Own.slice {w : World} {base : Nat} {v : Value} {l : List BI} (h : Own w base v l) : ∃ A c, v = .slice A l.length c ∧ Bs w A l ∧ (l ≠ [] → ∃ g, A = some ⟨g, 0, none⟩ ∧ base ≤ g) := by
  obtain ⟨hl, h'⟩ := h
  rcases h' with ⟨rfl, h0⟩ | ⟨g, cap, cur, rfl, hb, hg, hn, hm, hs, ht⟩
  · have : l = [] := List.eq_nil_of_length_eq_zero h0
    subst this
    exact ⟨_, _, rfl, Bs.nil _ _, fun h => absurd rfl h⟩
  · refine ⟨_, _, rfl, fun hne => ⟨_, rfl, fun i b hi => ?_⟩, fun _ => ⟨g, rfl, hb⟩⟩
    have hi' : i < l.length := (List.getElem?_eq_some_iff.1 hi).1
    have hcell : ∀ j, j < 4 → w.cell? ⟨g, i * 4 + j, none⟩ = (flat l)[i * 4 + j]? := fun j hj =>
      World.ownsRow.cellAt (base := base) (e := 24) (size := 4) (n := l.length) (cap := cap) (xs := flat l) ⟨hl, .inr ⟨g, cap, cur, rfl, hb, hg, hn, hm, hs, ht⟩⟩ (i * 4 + j) (by omega)
    obtain ⟨k0, k1, k2, k3⟩ := flat_get l i b hi
    rw [add_plain]
    exact ⟨(hcell 0 (by omega)).trans k0, (hcell 1 (by omega)).trans k1, (hcell 2 (by omega)).trans k2, (hcell 3 (by omega)).trans k3⟩
theorem Own.move {w w' : World} {base : Nat} {v : Value} {l : List BI} (h : Own w base v l) (hm : ∀ k, v.ownBlock = some k → w'.heap[k]? = w.heap[k]?) : Own w' base v l := by
  refine ⟨h.1, ?_⟩
  rcases h.2 with hn | ⟨g, cap, cur, rfl, hb, hg, rest⟩
  · exact .inl hn
  · exact .inr ⟨g, cap, cur, rfl, hb, (hm g rfl).trans hg, rest⟩
theorem Own.below {w w' : World} {base : Nat} {v : Value} {l : List BI} (h : Own w base v l) (hb : Below w.heap.size w w') : Own w' base v l :=
  h.move fun k hk => hb.block k (World.ownsRow.lt h k hk).2
theorem Own.lower {w : World} {base base' : Nat} {v : Value} {l : List BI} (h : Own w base v l) (hb : base' ≤ base) : Own w base' v l := by
  refine ⟨h.1, ?_⟩
  rcases h.2 with hn | ⟨g, cap, cur, rfl, hbg, rest⟩
  · exact .inl hn
  · exact .inr ⟨g, cap, cur, rfl, Nat.le_trans hb hbg, rest⟩

/-- Flat reading of a slice that came in. -/
theorem Bs.cells {w : World} {ad : Addr} {l : List BI} (h : Bs w (some ad) l) : ∀ j u, (flat l)[j]? = some u → w.cell? (ad.add j) = some u := by
  intro j u hj
  have hj' : j < l.length * 4 := by rw [← flat_length]; exact (List.getElem?_eq_some_iff.1 hj).1
  have hi : j / 4 < l.length := by omega
  obtain ⟨ad', e, hc⟩ := h (by intro h0; rw [h0] at hi; simp at hi)
  cases e
  have hg := List.getElem?_eq_getElem hi
  obtain ⟨k0, k1, k2, k3⟩ := flat_get l (j / 4) _ hg
  obtain ⟨c0, c1, c2, c3⟩ := hc (j / 4) _ hg
  have hm : j % 4 < 4 := Nat.mod_lt _ (by omega)
  have hj4 : j = j / 4 * 4 + j % 4 := by omega
  generalize j / 4 = q at *
  generalize j % 4 = r at *
  subst hj4
  match r, hm with
  | 0, _ => rw [Nat.add_zero] at hj; rw [k0] at hj; cases hj; exact c0
  | 1, _ => rw [k1] at hj; cases hj; rw [add_field _ _ 1 (by omega)]; exact c1
  | 2, _ => rw [k2] at hj; cases hj; rw [add_field _ _ 2 (by omega)]; exact c2
  | 3, _ => rw [k3] at hj; cases hj; rw [add_field _ _ 3 (by omega)]; exact c3

def bad (size : Int) (b : BI) : Bool := decide (b.live < 0) || (decide (b.used < b.live) || decide (size < b.used))
def vld (l : List BI) (size : Int) : Bool := decide (1 ≤ l.length) && (decide (l.length ≤ 64) && (decide (1 ≤ size) && !l.any (bad size)))
def freeN (l : List BI) : Nat := (l.filter fun b => b.used == 0).length
end Go.Proofs.Ytnjmllkcodppgaa
