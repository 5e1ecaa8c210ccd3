/- A boxed Count, and rows of the call's own beside it. -/
import Derived.Test.YtmodhmcpljabcaaL
namespace Go.Proofs.Ytmodhmcpljabcaa
open Go.RowKit
set_option linter.unusedVariables false

/-- block g of w holds the boxed argument -/
def Cnt (w : World) (g : Nat) (A : Option Addr) (n c : Nat) (size band now : Int) : Prop :=
  w.cell? ⟨g, 0, none⟩ = some (.slice A n c) ∧ w.cell? ⟨g, 1, none⟩ = some (.int .i64 size) ∧ w.cell? ⟨g, 2, none⟩ = some (.int .i64 band) ∧ w.cell? ⟨g, 3, none⟩ = some (.int .u64 now)
theorem Cnt.new (w : World) (A : Option Addr) (n c : Nat) (size band now : Int) : Cnt (w.alloc (.cells #[.slice A n c, .int .i64 size, .int .i64 band, .int .u64 now] 29)) w.heap.size A n c size band now := by
  have h := heap_alloc_new w (.cells #[.slice A n c, .int .i64 size, .int .i64 band, .int .u64 now] 29)
  exact ⟨cell_of_row _ _ 0 _ _ _ h, cell_of_row _ _ 1 _ _ _ h, cell_of_row _ _ 2 _ _ _ h, cell_of_row _ _ 3 _ _ _ h⟩
theorem Cnt.below {w w' : World} {g : Nat} {A : Option Addr} {n c : Nat} {size band now : Int} (h : Cnt w g A n c size band now) (hb : Below w.heap.size w w') : Cnt w' g A n c size band now :=
  ⟨cell_below hb h.1, cell_below hb h.2.1, cell_below hb h.2.2.1, cell_below hb h.2.2.2⟩
theorem Own.far {w : World} {base : Nat} {v : Value} {l : List BI} (h : Own w base v l) {p : Addr} (hp : v.ownBlock ≠ some p.block) (u : Value) : Own (w.setCell p u) base v l :=
  h.move fun k hk => Below.heap_setCell w p u k (fun e => hp (by rw [hk, e]))
theorem sameL_self (l : List BI) : sameL l l = true := (sameL_iff l l).2 rfl
end Go.Proofs.Ytmodhmcpljabcaa
