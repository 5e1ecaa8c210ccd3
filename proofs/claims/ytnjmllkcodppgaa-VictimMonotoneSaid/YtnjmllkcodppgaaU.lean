/- Two boxes and two blocks that hold bands: stores. -/
import Derived.Test.YtnjmllkcodppgaaM
import Derived.Test.YtnjmllkcodppgaaS
import Derived.Test.YtnjmllkcodppgaaT
namespace Go.Proofs.Ytnjmllkcodppgaa
open Go.RowKit
/-- the two boxes at g and g + 1 hold a and b, the two blocks pa and pb hold u and v -/
def St (W : World) (g pa pb : Nat) (a b u v : BI) : Prop := At W ⟨g, 0, none⟩ a ∧ At W ⟨g + 1, 0, none⟩ b ∧ At W ⟨pa, 0, none⟩ u ∧ At W ⟨pb, 0, none⟩ v ∧ (∀ j, W.frozen? ⟨pa, j, none⟩ = false) ∧ (∀ j, W.frozen? ⟨pb, j, none⟩ = false) ∧ pa < W.heap.size ∧ pb < W.heap.size
theorem St.below {W W' : World} {g pa pb : Nat} {a b u v : BI} (h : St W g pa pb a b u v) (hb : Below W.heap.size W W') : St W' g pa pb a b u v := by
  obtain ⟨h1, h2, h3, h4, h5, h6, h7, h8⟩ := h
  exact ⟨h1.below hb, h2.below hb, h3.below hb, h4.below hb, fun j => (hb.frozen (p := ⟨pa, j, none⟩) h7).trans (h5 j), fun j => (hb.frozen (p := ⟨pb, j, none⟩) h8).trans (h6 j), Nat.lt_of_lt_of_le h7 hb.size, Nat.lt_of_lt_of_le h8 hb.size⟩
theorem At.cells {W : World} {g : Nat} {a : BI} (h : At W ⟨g, 0, none⟩ a) : W.cell? ⟨g, 0, none⟩ = some (.int .i64 a.used) ∧ W.cell? ⟨g, 1, none⟩ = some (.int .i64 a.live) ∧ W.cell? ⟨g, 2, none⟩ = some (.int .u64 a.age) ∧ W.cell? ⟨g, 3, none⟩ = some (.int .u64 a.wear) := by
  obtain ⟨h0, h1, h2, h3⟩ := h
  exact ⟨h0, h1, h2, h3⟩
theorem At.of {W : World} {g : Nat} {a : BI} (h : W.cell? ⟨g, 0, none⟩ = some (.int .i64 a.used) ∧ W.cell? ⟨g, 1, none⟩ = some (.int .i64 a.live) ∧ W.cell? ⟨g, 2, none⟩ = some (.int .u64 a.age) ∧ W.cell? ⟨g, 3, none⟩ = some (.int .u64 a.wear)) : At W ⟨g, 0, none⟩ a := by
  obtain ⟨h0, h1, h2, h3⟩ := h
  exact ⟨h0, h1, h2, h3⟩
theorem At.other {W : World} {g k j : Nat} {a : BI} {v : Value} (h : At W ⟨g, 0, none⟩ a) (hk : k ≠ g) : At (W.setCell ⟨k, j, none⟩ v) ⟨g, 0, none⟩ a := by
  obtain ⟨h0, h1, h2, h3⟩ := h.cells
  exact At.of ⟨by go_simp, by go_simp, by go_simp, by go_simp⟩
theorem At.four {W : World} {g : Nat} {a b : BI} (h : At W ⟨g, 0, none⟩ a) : At ((((W.setCell ⟨g, 0, none⟩ (.int .i64 b.used)).setCell ⟨g, 1, none⟩ (.int .i64 b.live)).setCell ⟨g, 2, none⟩ (.int .u64 b.age)).setCell ⟨g, 3, none⟩ (.int .u64 b.wear)) ⟨g, 0, none⟩ b := by
  obtain ⟨h0, h1, h2, h3⟩ := h.cells
  exact At.of ⟨by go_simp, by go_simp, by go_simp, by go_simp⟩
theorem At.live {W : World} {g : Nat} {b : BI} {n : Int} (h : At W ⟨g, 0, none⟩ b) : At (W.setCell ⟨g, 1, none⟩ (.int .i64 n)) ⟨g, 0, none⟩ ⟨b.used, n, b.age, b.wear⟩ := by
  obtain ⟨h0, h1, h2, h3⟩ := h.cells
  exact At.of ⟨by go_simp, by go_simp, by go_simp, by go_simp⟩
theorem At.age {W : World} {g : Nat} {b : BI} {n : Int} (h : At W ⟨g, 0, none⟩ b) : At (W.setCell ⟨g, 2, none⟩ (.int .u64 n)) ⟨g, 0, none⟩ ⟨b.used, b.live, n, b.wear⟩ := by
  obtain ⟨h0, h1, h2, h3⟩ := h.cells
  exact At.of ⟨by go_simp, by go_simp, by go_simp, by go_simp⟩
theorem At.drew {W : World} {p : Addr} {b : BI} (h : At W p b) : At W.drew p b := h
theorem St.restore {W : World} {g pa pb : Nat} {a b u v : BI} (h : St W g pa pb a b u v) (hne : pa ≠ pb) (q1 : pa ≠ g) (q2 : pb ≠ g) (q3 : pa ≠ g + 1) (q4 : pb ≠ g + 1) :
    St ((((((((W.setCell ⟨pa, 0, none⟩ (.int .i64 a.used)).setCell ⟨pa, 1, none⟩ (.int .i64 a.live)).setCell ⟨pa, 2, none⟩ (.int .u64 a.age)).setCell ⟨pa, 3, none⟩ (.int .u64 a.wear)).setCell ⟨pb, 0, none⟩ (.int .i64 b.used)).setCell ⟨pb, 1, none⟩ (.int .i64 b.live)).setCell ⟨pb, 2, none⟩ (.int .u64 b.age)).setCell ⟨pb, 3, none⟩ (.int .u64 b.wear)).drew g pa pb a b a b := by
  obtain ⟨h1, h2, h3, h4, h5, h6, h7, h8⟩ := h
  refine ⟨?_, ?_, ?_, ?_, ?_, ?_, ?_, ?_⟩
  · exact (((((((((h1.other q1).other q1).other q1).other q1).other q2).other q2).other q2).other q2)).drew
  · exact (((((((((h2.other q3).other q3).other q3).other q3).other q4).other q4).other q4).other q4)).drew
  · exact (((((h3.four (b := a)).other hne.symm).other hne.symm).other hne.symm).other hne.symm).drew
  · exact ((((((h4.other hne).other hne).other hne).other hne)).four (b := b)).drew
  · intro j; simpa using h5 j
  · intro j; simpa using h6 j
  · simpa using h7
  · simpa using h8
theorem St.live {W : World} {g pa pb : Nat} {a b u v : BI} {n : Int} (h : St W g pa pb a b u v) (hne : pa ≠ pb) (q2 : pb ≠ g) (q4 : pb ≠ g + 1) : St (W.setCell ⟨pb, 1, none⟩ (.int .i64 n)) g pa pb a b u ⟨v.used, n, v.age, v.wear⟩ := by
  obtain ⟨h1, h2, h3, h4, h5, h6, h7, h8⟩ := h
  exact ⟨h1.other q2, h2.other q4, h3.other hne.symm, h4.live, by intro j; simpa using h5 j, by intro j; simpa using h6 j, by simpa using h7, by simpa using h8⟩
theorem St.age {W : World} {g pa pb : Nat} {a b u v : BI} {n : Int} (h : St W g pa pb a b u v) (hne : pa ≠ pb) (q2 : pb ≠ g) (q4 : pb ≠ g + 1) : St (W.setCell ⟨pb, 2, none⟩ (.int .u64 n)) g pa pb a b u ⟨v.used, v.live, n, v.wear⟩ := by
  obtain ⟨h1, h2, h3, h4, h5, h6, h7, h8⟩ := h
  exact ⟨h1.other q2, h2.other q4, h3.other hne.symm, h4.age, by intro j; simpa using h5 j, by intro j; simpa using h6 j, by simpa using h7, by simpa using h8⟩
end Go.Proofs.Ytnjmllkcodppgaa
