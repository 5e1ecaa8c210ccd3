/- The walk of the law StepsNil. -/
import Derived.Test.YtkokijmgikdnfaaN
namespace Go.Proofs.Ytkokijmgikdnfaa
open Go.RowKit
set_option linter.unusedVariables false

set_option maxHeartbeats 1000000 in
theorem lawNil (n : Int) (w : World) : Calls Try.prog 4 #[.int .i64 n] w fun e w' => e = .returned (.bool true) ∧ Below w.heap.size w w' := by
  go_enter Try.func4, Try.ntmps4
  go_wp2_with fail
  refine (awake w).mono ?_
  rintro e w1 ⟨rfl, hb1⟩
  have hz := hb1.size
  replace hb1 := Lib.hid hb1
  go_wp2_with fail
  refine (addNil _ _ _).mono ?_
  rintro e w2 ⟨rfl, rfl⟩
  go_wp2_with fail
  refine (pickNil _ _).mono ?_
  rintro e w3 ⟨rfl, rfl⟩
  go_wp2_with fail
  refine (fairNil _).mono ?_
  rintro e w4 ⟨rfl, rfl⟩
  go_wp2_with fail
  refine (removeNil _ _).mono ?_
  rintro e w5 ⟨rfl, rfl⟩
  go_wp2_with fail
  refine (idsNil _).mono ?_
  rintro e w6 ⟨rfl, rfl⟩
  go_wp2_with fail
  refine (creditNil _ _).mono ?_
  rintro e w7 ⟨rfl, rfl⟩
  go_wp2
  go_ret
  exact ⟨rfl, hb1.out.alloc hz _⟩
end Go.Proofs.Ytkokijmgikdnfaa
