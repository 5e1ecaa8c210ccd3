/- A boxed List; the walk of the law VictimChoose. -/
import Derived.Test.YtnjmllkcodppgaaK
import Derived.Test.YtnjmllkcodppgaaR
namespace Go.Proofs.Ytnjmllkcodppgaa
open Go.RowKit
set_option linter.unusedVariables false

theorem wfu64 {n : Int} (h : (Lit.int .u64 n).wf = true) : u64 n := by
  simp [Lit.wf, IntKind.min, IntKind.max, IntKind.signed, IntKind.bits] at h
  unfold u64
  omega
theorem wf64 {n : Int} (h : (Lit.int .i64 n).wf = true) : -9223372036854775808 ≤ n ∧ n ≤ 9223372036854775807 := by
  simp [Lit.wf, IntKind.min, IntKind.max, IntKind.signed, IntKind.bits] at h
  exact h
theorem ages {l : List BI} (h : ∀ b ∈ l, okB b) : ∀ b ∈ l, u64 b.age := fun b hb => wfu64 (h b hb).2.2.1

/-- block g of w holds the boxed argument -/
def Cnt (w : World) (g : Nat) (A : Option Addr) (n c : Nat) (size opn now : Int) : Prop :=
  w.cell? ⟨g, 0, none⟩ = some (.slice A n c) ∧ w.cell? ⟨g, 1, none⟩ = some (.int .i64 size) ∧ w.cell? ⟨g, 2, none⟩ = some (.int .i64 opn) ∧ w.cell? ⟨g, 3, none⟩ = some (.int .u64 now)
theorem Cnt.new (w : World) (A : Option Addr) (n c : Nat) (size opn now : Int) : Cnt (w.alloc (.cells #[.slice A n c, .int .i64 size, .int .i64 opn, .int .u64 now] 31)) w.heap.size A n c size opn now := by
  have h := heap_alloc_new w (.cells #[.slice A n c, .int .i64 size, .int .i64 opn, .int .u64 now] 31)
  exact ⟨cell_of_row _ _ 0 _ _ _ h, cell_of_row _ _ 1 _ _ _ h, cell_of_row _ _ 2 _ _ _ h, cell_of_row _ _ 3 _ _ _ h⟩
theorem Cnt.below {w w' : World} {g : Nat} {A : Option Addr} {n c : Nat} {size opn now : Int} (h : Cnt w g A n c size opn now) (hb : Below w.heap.size w w') : Cnt w' g A n c size opn now :=
  ⟨cell_below hb h.1, cell_below hb h.2.1, cell_below hb h.2.2.1, cell_below hb h.2.2.2⟩

set_option maxHeartbeats 4000000 in
theorem lawChoose (A : Option Addr) (c : Nat) (l : List BI) (size opn now : Int) (w : World) (hl : l.length ≤ 9223372036854775807) (h : Bs w A l) (hok : ∀ b ∈ l, okB b) (hn : (Lit.int .u64 now).wf = true) :
    Calls Try.prog 4 #[.agg #[.slice A l.length c, .int .i64 size, .int .i64 opn, .int .u64 now]] w fun e w' => e = .returned (.bool true) ∧ Below w.heap.size w w' := by
  have hb0 : Below w.heap.size w (w.alloc (.cells #[.slice A l.length c, .int .i64 size, .int .i64 opn, .int .u64 now] 31)) := (Below.refl _ _).alloc (Nat.le_refl _) _
  have hc := Cnt.new w A l.length c size opn now
  by_cases hlt : l.length ≤ 100
  · have hl1 : l.length ≤ 1000 := by omega
    replace h := h.below hb0
    go_enter Try.func4, Try.ntmps4
    go_wp2_with fail
    generalize w.alloc _ = W at *
    refine (awake _).mono ?_
    rintro e w1 ⟨rfl, hb1⟩
    replace h := h.below hb1
    replace hc := hc.below hb1
    replace hb0 := below_then hb0 hb0.size hb1
    clear hb1
    obtain ⟨hc0, hc1, hc2, hc3⟩ := id hc
    go_wp2_with fail
    refine (vChoose A c l size now opn _ hl1 h (ages hok) (wfu64 hn)).mono ?_
    rintro e w2 ⟨rfl, hb1⟩
    replace h := h.below hb1
    replace hc := hc.below hb1
    replace hb0 := below_then hb0 hb0.size hb1
    clear hb1 hc0 hc1 hc2 hc3
    obtain ⟨hc0, hc1, hc2, hc3⟩ := id hc
    go_wp2_with fail
    refine (rChoose A c l size now opn _ hl1 h (ages hok) (wfu64 hn)).mono ?_
    rintro e w3 ⟨rfl, hb1⟩
    replace hb0 := below_then hb0 hb0.size hb1
    clear hb1 hc0 hc1 hc2 hc3
    generalize chooseR l size now opn = r at *
    obtain ⟨r1, r2⟩ := r
    have er : (r1 == r1) = true := by simp
    have eq_ : (r2 == r2) = true := by simp
    go_wp2
    go_ret
    exact ⟨rfl, hb0⟩
  · have hgt : 100 < l.length := by omega
    clear hlt
    obtain ⟨hc0, hc1, hc2, hc3⟩ := id hc
    go_enter Try.func4, Try.ntmps4
    go_wp2_with fail
    generalize w.alloc _ = W at *
    refine (awake _).mono ?_
    rintro e w1 ⟨rfl, hb1⟩
    replace hc0 := cell_below hb1 hc0
    go_wp2_with fail
    refine (awake _).mono ?_
    rintro e w2 ⟨rfl, hb2⟩
    go_wp2
    go_ret
    exact ⟨rfl, below_then (below_then hb0 hb0.size hb1) (below_then hb0 hb0.size hb1).size hb2⟩
end Go.Proofs.Ytnjmllkcodppgaa
