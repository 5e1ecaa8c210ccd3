/-
  No cell of these rows narrows 'for every input' (looked for: loops, veiled, ifaces, maps, wideKeys, modest, calm, conditions, laid).
  DERIVED. THE GIVEN ROWS OF THIS SEAT. 6 by the template 'for every input the law returns true; each argument reads behind the call as it read before'; 0 by the template 'total and deterministic' (their statements: YtnjmllkcodppgaaTotals.lean).
  GIVEN WITH THE SEED: the statements are not yours to turn. If you find one false, say at which input.
  Laid BY PROGRAM, IN A SANDBOX (cutbox-rows.mjs): the forced cells as the released guide's own fill.sh prints them over the translation 17b7d762aca70694… (all of the seat's roots in one cut). By AI agents, Wed Nov 11 2026. No macro, syntax, notation, axiom, sorry.
-/
import Derived.Test.YtnjmllkcodppgaaChecked
import GoSem.Claim
import GoSem.ClaimJoined
import GoSem.ClaimMapViews
import Derived.JoinedTies
import Derived.KernelRfl
namespace Go.Proofs.Ytnjmllkcodppgaa
/- THE CELL 'sum', in the pinned program and in every row, IS THE sha256 OF THE DUMP (.gsa) THAT YtnjmllkcodppgaaProg.lean LOADS. Nothing in Lean hashes anything: it is a label: what it is worth is what the hold of that sum in a sandbox is worth. -/
noncomputable def Try.pinned : Pinned := { name := "ytnjmllkcodppgaa", sum := "17b7d762aca706949a9b9a83a695e989f6875a179e90943f982bea6b53db4a30", checked := Try.checked }
namespace Rows
def none {H : Type} : Left H := { results := [], args := [] }

/-- 'tegulalaw18.VictimBetter': WHATEVER THE INPUT: true; the input reads as it did. -/
def victimBetterSpec : ChangeSpec := { name := "victimBetter", fn := fun _ => fun
  | [d1, d2, d3] => { results := [.lit (.bool true)], args := [d1, d2, d3] }
  | _ => none }
def victimBetterRow : OpenClaim := { program := "ytnjmllkcodppgaa", sum := "17b7d762aca706949a9b9a83a695e989f6875a179e90943f982bea6b53db4a30", func := "tegula/tegulalaw18.VictimBetter", spec := "victimBetter", unfollowed := true, recurses := true, apart := false }
def VictimBetterSaid : Prop := victimBetterRow.holds Try.pinned (OpenSpec.ofChange victimBetterSpec)

/-- ITS FALSE NEIGHBOUR: 'it returns false'. Refute it at one input. -/
def victimBetterWrong : ChangeSpec := { name := "victimBetter", fn := fun _ => fun
  | [d1, d2, d3] => { results := [.lit (.bool false)], args := [d1, d2, d3] }
  | _ => none }
def VictimBetterWrongFalsely : Prop := victimBetterRow.holds Try.pinned (OpenSpec.ofChange victimBetterWrong)

/-- 'tegulalaw18.VictimChoose': WHATEVER THE INPUT: true; the input reads as it did. -/
def victimChooseSpec : ChangeSpec := { name := "victimChoose", fn := fun _ => fun
  | [d] => { results := [.lit (.bool true)], args := [d] }
  | _ => none }
def victimChooseRow : OpenClaim := { program := "ytnjmllkcodppgaa", sum := "17b7d762aca706949a9b9a83a695e989f6875a179e90943f982bea6b53db4a30", func := "tegula/tegulalaw18.VictimChoose", spec := "victimChoose", unfollowed := true, recurses := true, apart := false }
def VictimChooseSaid : Prop := victimChooseRow.holds Try.pinned (OpenSpec.ofChange victimChooseSpec)

/-- ITS FALSE NEIGHBOUR: 'it returns false'. Refute it at one input. -/
def victimChooseWrong : ChangeSpec := { name := "victimChoose", fn := fun _ => fun
  | [d] => { results := [.lit (.bool false)], args := [d] }
  | _ => none }
def VictimChooseWrongFalsely : Prop := victimChooseRow.holds Try.pinned (OpenSpec.ofChange victimChooseWrong)

/-- 'tegulalaw18.VictimOrder': WHATEVER THE INPUT: true; the input reads as it did. -/
def victimOrderSpec : ChangeSpec := { name := "victimOrder", fn := fun _ => fun
  | [d1, d2, d3] => { results := [.lit (.bool true)], args := [d1, d2, d3] }
  | _ => none }
def victimOrderRow : OpenClaim := { program := "ytnjmllkcodppgaa", sum := "17b7d762aca706949a9b9a83a695e989f6875a179e90943f982bea6b53db4a30", func := "tegula/tegulalaw18.VictimOrder", spec := "victimOrder", unfollowed := true, recurses := true, apart := false }
def VictimOrderSaid : Prop := victimOrderRow.holds Try.pinned (OpenSpec.ofChange victimOrderSpec)

/-- ITS FALSE NEIGHBOUR: 'it returns false'. Refute it at one input. -/
def victimOrderWrong : ChangeSpec := { name := "victimOrder", fn := fun _ => fun
  | [d1, d2, d3] => { results := [.lit (.bool false)], args := [d1, d2, d3] }
  | _ => none }
def VictimOrderWrongFalsely : Prop := victimOrderRow.holds Try.pinned (OpenSpec.ofChange victimOrderWrong)

/-- 'tegulalaw18.VictimMonotone': WHATEVER THE INPUT: true; the input reads as it did. -/
def victimMonotoneSpec : ChangeSpec := { name := "victimMonotone", fn := fun _ => fun
  | [d1, d2, d3] => { results := [.lit (.bool true)], args := [d1, d2, d3] }
  | _ => none }
def victimMonotoneRow : OpenClaim := { program := "ytnjmllkcodppgaa", sum := "17b7d762aca706949a9b9a83a695e989f6875a179e90943f982bea6b53db4a30", func := "tegula/tegulalaw18.VictimMonotone", spec := "victimMonotone", unfollowed := true, recurses := true, apart := false }
def VictimMonotoneSaid : Prop := victimMonotoneRow.holds Try.pinned (OpenSpec.ofChange victimMonotoneSpec)

/-- ITS FALSE NEIGHBOUR: 'it returns false'. Refute it at one input. -/
def victimMonotoneWrong : ChangeSpec := { name := "victimMonotone", fn := fun _ => fun
  | [d1, d2, d3] => { results := [.lit (.bool false)], args := [d1, d2, d3] }
  | _ => none }
def VictimMonotoneWrongFalsely : Prop := victimMonotoneRow.holds Try.pinned (OpenSpec.ofChange victimMonotoneWrong)

/-- 'tegulalaw18.VictimBest': WHATEVER THE INPUT: true; the input reads as it did. -/
def victimBestSpec : ChangeSpec := { name := "victimBest", fn := fun _ => fun
  | [d] => { results := [.lit (.bool true)], args := [d] }
  | _ => none }
def victimBestRow : OpenClaim := { program := "ytnjmllkcodppgaa", sum := "17b7d762aca706949a9b9a83a695e989f6875a179e90943f982bea6b53db4a30", func := "tegula/tegulalaw18.VictimBest", spec := "victimBest", unfollowed := true, recurses := true, apart := false }
def VictimBestSaid : Prop := victimBestRow.holds Try.pinned (OpenSpec.ofChange victimBestSpec)

/-- ITS FALSE NEIGHBOUR: 'it returns false'. Refute it at one input. -/
def victimBestWrong : ChangeSpec := { name := "victimBest", fn := fun _ => fun
  | [d] => { results := [.lit (.bool false)], args := [d] }
  | _ => none }
def VictimBestWrongFalsely : Prop := victimBestRow.holds Try.pinned (OpenSpec.ofChange victimBestWrong)

/-- 'tegulalaw18.VictimOthers': WHATEVER THE INPUT: true; the input reads as it did. -/
def victimOthersSpec : ChangeSpec := { name := "victimOthers", fn := fun _ => fun
  | [d1, d2, d3] => { results := [.lit (.bool true)], args := [d1, d2, d3] }
  | _ => none }
def victimOthersRow : OpenClaim := { program := "ytnjmllkcodppgaa", sum := "17b7d762aca706949a9b9a83a695e989f6875a179e90943f982bea6b53db4a30", func := "tegula/tegulalaw18.VictimOthers", spec := "victimOthers", unfollowed := true, recurses := true, apart := false }
def VictimOthersSaid : Prop := victimOthersRow.holds Try.pinned (OpenSpec.ofChange victimOthersSpec)

/-- ITS FALSE NEIGHBOUR: 'it returns false'. Refute it at one input. -/
def victimOthersWrong : ChangeSpec := { name := "victimOthers", fn := fun _ => fun
  | [d1, d2, d3] => { results := [.lit (.bool false)], args := [d1, d2, d3] }
  | _ => none }
def VictimOthersWrongFalsely : Prop := victimOthersRow.holds Try.pinned (OpenSpec.ofChange victimOthersWrong)

/- THE SECOND FORM. 'bulk': how many values and letters a reading holds, each counted each time it is reached (what is shared counts as often as it is met; a slice's spare places count too). A statement '..UptoSaid' is the law's where the arguments, and the package variables that the reading takes, are together of bulk at most 1048576: NARROWER than '..Said'. Prove '..Said' where nothing that the law and all that it calls make is longer than what came in: it says more and counts as full. Else prove '..UptoSaid'. A law counts once. -/
mutual
def uptoBulk {H : Type} : DataW H → Nat
  | .lit (.string bytes) => bytes.length + 1
  | .lit _ => 1
  | .nil => 1
  | .ptr d => uptoBulk d + 1
  | .slice elems spare => uptoBulkAll elems + uptoBulkAll spare + 1
  | .agg parts => uptoBulkAll parts + 1
  | .iface _ d => uptoBulk d + 1
  | .map entries => uptoBulkEntries entries + 1
  | .held _ => 1
def uptoBulkAll {H : Type} : List (DataW H) → Nat
  | [] => 0
  | d :: r => uptoBulk d + uptoBulkAll r
def uptoBulkEntries {H : Type} : List (Lit × DataW H) → Nat
  | [] => 0
  | x :: r => uptoBulkEntry x + uptoBulkEntries r
def uptoBulkEntry {H : Type} : Lit × DataW H → Nat
  | (.string bytes, d) => bytes.length + uptoBulk d + 1
  | (_, d) => uptoBulk d + 1
 end
def uptoSmall : (H : Type) → List (DataW H) → Bool := fun _ ds => decide (uptoBulkAll ds ≤ 1048576)
def OpenSpec.upto (s : _root_.Go.ChangeSpec) : _root_.Go.OpenSpec := { _root_.Go.OpenSpec.ofChange s with cond := some uptoSmall }

/-- 'tegulalaw18.VictimBetter', WHERE WHAT IT READS IS OF BULK AT MOST 1048576: true; the input reads as it did. -/
def victimBetterUptoRow : OpenClaim := { program := "ytnjmllkcodppgaa", sum := "17b7d762aca706949a9b9a83a695e989f6875a179e90943f982bea6b53db4a30", func := "tegula/tegulalaw18.VictimBetter", spec := "victimBetter", unfollowed := true, recurses := true, apart := false, narrowed := true }
def VictimBetterUptoSaid : Prop := victimBetterUptoRow.holds Try.pinned (OpenSpec.upto victimBetterSpec)

/-- 'tegulalaw18.VictimChoose', WHERE WHAT IT READS IS OF BULK AT MOST 1048576: true; the input reads as it did. -/
def victimChooseUptoRow : OpenClaim := { program := "ytnjmllkcodppgaa", sum := "17b7d762aca706949a9b9a83a695e989f6875a179e90943f982bea6b53db4a30", func := "tegula/tegulalaw18.VictimChoose", spec := "victimChoose", unfollowed := true, recurses := true, apart := false, narrowed := true }
def VictimChooseUptoSaid : Prop := victimChooseUptoRow.holds Try.pinned (OpenSpec.upto victimChooseSpec)

/-- 'tegulalaw18.VictimOrder', WHERE WHAT IT READS IS OF BULK AT MOST 1048576: true; the input reads as it did. -/
def victimOrderUptoRow : OpenClaim := { program := "ytnjmllkcodppgaa", sum := "17b7d762aca706949a9b9a83a695e989f6875a179e90943f982bea6b53db4a30", func := "tegula/tegulalaw18.VictimOrder", spec := "victimOrder", unfollowed := true, recurses := true, apart := false, narrowed := true }
def VictimOrderUptoSaid : Prop := victimOrderUptoRow.holds Try.pinned (OpenSpec.upto victimOrderSpec)

/-- 'tegulalaw18.VictimMonotone', WHERE WHAT IT READS IS OF BULK AT MOST 1048576: true; the input reads as it did. -/
def victimMonotoneUptoRow : OpenClaim := { program := "ytnjmllkcodppgaa", sum := "17b7d762aca706949a9b9a83a695e989f6875a179e90943f982bea6b53db4a30", func := "tegula/tegulalaw18.VictimMonotone", spec := "victimMonotone", unfollowed := true, recurses := true, apart := false, narrowed := true }
def VictimMonotoneUptoSaid : Prop := victimMonotoneUptoRow.holds Try.pinned (OpenSpec.upto victimMonotoneSpec)

/-- 'tegulalaw18.VictimBest', WHERE WHAT IT READS IS OF BULK AT MOST 1048576: true; the input reads as it did. -/
def victimBestUptoRow : OpenClaim := { program := "ytnjmllkcodppgaa", sum := "17b7d762aca706949a9b9a83a695e989f6875a179e90943f982bea6b53db4a30", func := "tegula/tegulalaw18.VictimBest", spec := "victimBest", unfollowed := true, recurses := true, apart := false, narrowed := true }
def VictimBestUptoSaid : Prop := victimBestUptoRow.holds Try.pinned (OpenSpec.upto victimBestSpec)

/-- 'tegulalaw18.VictimOthers', WHERE WHAT IT READS IS OF BULK AT MOST 1048576: true; the input reads as it did. -/
def victimOthersUptoRow : OpenClaim := { program := "ytnjmllkcodppgaa", sum := "17b7d762aca706949a9b9a83a695e989f6875a179e90943f982bea6b53db4a30", func := "tegula/tegulalaw18.VictimOthers", spec := "victimOthers", unfollowed := true, recurses := true, apart := false, narrowed := true }
def VictimOthersUptoSaid : Prop := victimOthersUptoRow.holds Try.pinned (OpenSpec.upto victimOthersSpec)

end Rows
end Go.Proofs.Ytnjmllkcodppgaa
