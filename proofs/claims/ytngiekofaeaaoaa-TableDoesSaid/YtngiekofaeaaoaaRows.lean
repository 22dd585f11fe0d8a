/-
  No cell of these rows narrows 'for every input' (looked for: loops, veiled, ifaces, maps, wideKeys, modest, calm, conditions, laid).
  DERIVED. THE GIVEN ROWS OF THIS SEAT. 6 by the template 'for every input the law returns true; each argument reads behind the call as it read before'; 0 by the template 'total and deterministic' (their statements: YtngiekofaeaaoaaTotals.lean).
  GIVEN WITH THE SEED: the statements are not yours to turn. If you find one false, say at which input.
  Laid BY PROGRAM, IN A SANDBOX (cutbox-rows.mjs): the forced cells as the released guide's own fill.sh prints them over the translation 0a04979dceea9645… (all of the seat's roots in one cut). By AI agents, Wed Nov 11 2026. No macro, syntax, notation, axiom, sorry.
-/
import Derived.Test.YtngiekofaeaaoaaChecked
import GoSem.Claim
import GoSem.ClaimJoined
import GoSem.ClaimMapViews
import Derived.JoinedTies
import Derived.KernelRfl
namespace Go.Proofs.Ytngiekofaeaaoaa
/- THE CELL 'sum', in the pinned program and in every row, IS THE sha256 OF THE DUMP (.gsa) THAT YtngiekofaeaaoaaProg.lean LOADS. Nothing in Lean hashes anything: it is a label: what it is worth is what the hold of that sum in a sandbox is worth. -/
noncomputable def Try.pinned : Pinned := { name := "ytngiekofaeaaoaa", sum := "0a04979dceea9645b340f27e5d0c856ae5e5486c1954a60317f9df038d89c1cf", checked := Try.checked }
namespace Rows
def none {H : Type} : Left H := { results := [], args := [] }

/-- 'gudgeonlaw03.TableStacks': WHATEVER THE INPUT: true; the input reads as it did. -/
def tableStacksSpec : ChangeSpec := { name := "tableStacks", fn := fun _ => fun
  | [d] => { results := [.lit (.bool true)], args := [d] }
  | _ => none }
def tableStacksRow : OpenClaim := { program := "ytngiekofaeaaoaa", sum := "0a04979dceea9645b340f27e5d0c856ae5e5486c1954a60317f9df038d89c1cf", func := "gudgeon/gudgeonlaw03.TableStacks", spec := "tableStacks", apart := false }
def TableStacksSaid : Prop := tableStacksRow.holds Try.pinned (OpenSpec.ofChange tableStacksSpec)

/-- ITS FALSE NEIGHBOUR: 'it returns false'. Refute it at one input. -/
def tableStacksWrong : ChangeSpec := { name := "tableStacks", fn := fun _ => fun
  | [d] => { results := [.lit (.bool false)], args := [d] }
  | _ => none }
def TableStacksWrongFalsely : Prop := tableStacksRow.holds Try.pinned (OpenSpec.ofChange tableStacksWrong)

/-- 'gudgeonlaw03.TableMarks': WHATEVER THE INPUT: true; the input reads as it did. -/
def tableMarksSpec : ChangeSpec := { name := "tableMarks", fn := fun _ => fun
  | [d1, d2] => { results := [.lit (.bool true)], args := [d1, d2] }
  | _ => none }
def tableMarksRow : OpenClaim := { program := "ytngiekofaeaaoaa", sum := "0a04979dceea9645b340f27e5d0c856ae5e5486c1954a60317f9df038d89c1cf", func := "gudgeon/gudgeonlaw03.TableMarks", spec := "tableMarks", apart := false }
def TableMarksSaid : Prop := tableMarksRow.holds Try.pinned (OpenSpec.ofChange tableMarksSpec)

/-- ITS FALSE NEIGHBOUR: 'it returns false'. Refute it at one input. -/
def tableMarksWrong : ChangeSpec := { name := "tableMarks", fn := fun _ => fun
  | [d1, d2] => { results := [.lit (.bool false)], args := [d1, d2] }
  | _ => none }
def TableMarksWrongFalsely : Prop := tableMarksRow.holds Try.pinned (OpenSpec.ofChange tableMarksWrong)

/-- 'gudgeonlaw03.TableCuts': WHATEVER THE INPUT: true; the input reads as it did. -/
def tableCutsSpec : ChangeSpec := { name := "tableCuts", fn := fun _ => fun
  | [d1, d2, d3] => { results := [.lit (.bool true)], args := [d1, d2, d3] }
  | _ => none }
def tableCutsRow : OpenClaim := { program := "ytngiekofaeaaoaa", sum := "0a04979dceea9645b340f27e5d0c856ae5e5486c1954a60317f9df038d89c1cf", func := "gudgeon/gudgeonlaw03.TableCuts", spec := "tableCuts", apart := false }
def TableCutsSaid : Prop := tableCutsRow.holds Try.pinned (OpenSpec.ofChange tableCutsSpec)

/-- ITS FALSE NEIGHBOUR: 'it returns false'. Refute it at one input. -/
def tableCutsWrong : ChangeSpec := { name := "tableCuts", fn := fun _ => fun
  | [d1, d2, d3] => { results := [.lit (.bool false)], args := [d1, d2, d3] }
  | _ => none }
def TableCutsWrongFalsely : Prop := tableCutsRow.holds Try.pinned (OpenSpec.ofChange tableCutsWrong)

/-- 'gudgeonlaw03.TableDoes': WHATEVER THE INPUT: true; the input reads as it did. -/
def tableDoesSpec : ChangeSpec := { name := "tableDoes", fn := fun _ => fun
  | [d1, d2] => { results := [.lit (.bool true)], args := [d1, d2] }
  | _ => none }
def tableDoesRow : OpenClaim := { program := "ytngiekofaeaaoaa", sum := "0a04979dceea9645b340f27e5d0c856ae5e5486c1954a60317f9df038d89c1cf", func := "gudgeon/gudgeonlaw03.TableDoes", spec := "tableDoes", apart := false }
def TableDoesSaid : Prop := tableDoesRow.holds Try.pinned (OpenSpec.ofChange tableDoesSpec)

/-- ITS FALSE NEIGHBOUR: 'it returns false'. Refute it at one input. -/
def tableDoesWrong : ChangeSpec := { name := "tableDoes", fn := fun _ => fun
  | [d1, d2] => { results := [.lit (.bool false)], args := [d1, d2] }
  | _ => none }
def TableDoesWrongFalsely : Prop := tableDoesRow.holds Try.pinned (OpenSpec.ofChange tableDoesWrong)

/-- 'gudgeonlaw03.TableBack': WHATEVER THE INPUT: true; the input reads as it did. -/
def tableBackSpec : ChangeSpec := { name := "tableBack", fn := fun _ => fun
  | [d] => { results := [.lit (.bool true)], args := [d] }
  | _ => none }
def tableBackRow : OpenClaim := { program := "ytngiekofaeaaoaa", sum := "0a04979dceea9645b340f27e5d0c856ae5e5486c1954a60317f9df038d89c1cf", func := "gudgeon/gudgeonlaw03.TableBack", spec := "tableBack", apart := false }
def TableBackSaid : Prop := tableBackRow.holds Try.pinned (OpenSpec.ofChange tableBackSpec)

/-- ITS FALSE NEIGHBOUR: 'it returns false'. Refute it at one input. -/
def tableBackWrong : ChangeSpec := { name := "tableBack", fn := fun _ => fun
  | [d] => { results := [.lit (.bool false)], args := [d] }
  | _ => none }
def TableBackWrongFalsely : Prop := tableBackRow.holds Try.pinned (OpenSpec.ofChange tableBackWrong)

/-- 'gudgeonlaw03.TableNone': WHATEVER THE INPUT: true; the input reads as it did. -/
def tableNoneSpec : ChangeSpec := { name := "tableNone", fn := fun _ => fun
  | [d1, d2] => { results := [.lit (.bool true)], args := [d1, d2] }
  | _ => none }
def tableNoneRow : OpenClaim := { program := "ytngiekofaeaaoaa", sum := "0a04979dceea9645b340f27e5d0c856ae5e5486c1954a60317f9df038d89c1cf", func := "gudgeon/gudgeonlaw03.TableNone", spec := "tableNone", apart := false }
def TableNoneSaid : Prop := tableNoneRow.holds Try.pinned (OpenSpec.ofChange tableNoneSpec)

/-- ITS FALSE NEIGHBOUR: 'it returns false'. Refute it at one input. -/
def tableNoneWrong : ChangeSpec := { name := "tableNone", fn := fun _ => fun
  | [d1, d2] => { results := [.lit (.bool false)], args := [d1, d2] }
  | _ => none }
def TableNoneWrongFalsely : Prop := tableNoneRow.holds Try.pinned (OpenSpec.ofChange tableNoneWrong)

/- THE SECOND FORM. 'bulk': how many values and letters a reading holds, each counted each time it is reached (what is shared counts as often as it is met; a slice's spare places count too). A statement '..UptoSaid' is the law's where the arguments, and the package variables that the reading takes, are together of bulk at most 1048576: NARROWER than '..Said'. Prove '..Said' where nothing that the law and all that it calls make is longer than what came in: it says more and counts as full. Else prove '..UptoSaid'. A law counts once. -/
mutual
def uptoBulk {H : Type} : DataW H → Nat
  | .lit (.string bytes) => bytes.length + 1
  | .lit _ => 1
  | .nil => 1
  | .ptr d => uptoBulk d + 1
  | .slice elems spare => uptoBulkAll elems + uptoBulkAll spare + 1
  | .agg parts => uptoBulkAll parts + 1
  | .iface _ d => uptoBulk d + 1
  | .map entries => uptoBulkEntries entries + 1
  | .held _ => 1
def uptoBulkAll {H : Type} : List (DataW H) → Nat
  | [] => 0
  | d :: r => uptoBulk d + uptoBulkAll r
def uptoBulkEntries {H : Type} : List (Lit × DataW H) → Nat
  | [] => 0
  | x :: r => uptoBulkEntry x + uptoBulkEntries r
def uptoBulkEntry {H : Type} : Lit × DataW H → Nat
  | (.string bytes, d) => bytes.length + uptoBulk d + 1
  | (_, d) => uptoBulk d + 1
 end
def uptoSmall : (H : Type) → List (DataW H) → Bool := fun _ ds => decide (uptoBulkAll ds ≤ 1048576)
def OpenSpec.upto (s : _root_.Go.ChangeSpec) : _root_.Go.OpenSpec := { _root_.Go.OpenSpec.ofChange s with cond := some uptoSmall }

/-- 'gudgeonlaw03.TableStacks', WHERE WHAT IT READS IS OF BULK AT MOST 1048576: true; the input reads as it did. -/
def tableStacksUptoRow : OpenClaim := { program := "ytngiekofaeaaoaa", sum := "0a04979dceea9645b340f27e5d0c856ae5e5486c1954a60317f9df038d89c1cf", func := "gudgeon/gudgeonlaw03.TableStacks", spec := "tableStacks", apart := false, narrowed := true }
def TableStacksUptoSaid : Prop := tableStacksUptoRow.holds Try.pinned (OpenSpec.upto tableStacksSpec)

/-- 'gudgeonlaw03.TableMarks', WHERE WHAT IT READS IS OF BULK AT MOST 1048576: true; the input reads as it did. -/
def tableMarksUptoRow : OpenClaim := { program := "ytngiekofaeaaoaa", sum := "0a04979dceea9645b340f27e5d0c856ae5e5486c1954a60317f9df038d89c1cf", func := "gudgeon/gudgeonlaw03.TableMarks", spec := "tableMarks", apart := false, narrowed := true }
def TableMarksUptoSaid : Prop := tableMarksUptoRow.holds Try.pinned (OpenSpec.upto tableMarksSpec)

/-- 'gudgeonlaw03.TableCuts', WHERE WHAT IT READS IS OF BULK AT MOST 1048576: true; the input reads as it did. -/
def tableCutsUptoRow : OpenClaim := { program := "ytngiekofaeaaoaa", sum := "0a04979dceea9645b340f27e5d0c856ae5e5486c1954a60317f9df038d89c1cf", func := "gudgeon/gudgeonlaw03.TableCuts", spec := "tableCuts", apart := false, narrowed := true }
def TableCutsUptoSaid : Prop := tableCutsUptoRow.holds Try.pinned (OpenSpec.upto tableCutsSpec)

/-- 'gudgeonlaw03.TableDoes', WHERE WHAT IT READS IS OF BULK AT MOST 1048576: true; the input reads as it did. -/
def tableDoesUptoRow : OpenClaim := { program := "ytngiekofaeaaoaa", sum := "0a04979dceea9645b340f27e5d0c856ae5e5486c1954a60317f9df038d89c1cf", func := "gudgeon/gudgeonlaw03.TableDoes", spec := "tableDoes", apart := false, narrowed := true }
def TableDoesUptoSaid : Prop := tableDoesUptoRow.holds Try.pinned (OpenSpec.upto tableDoesSpec)

/-- 'gudgeonlaw03.TableBack', WHERE WHAT IT READS IS OF BULK AT MOST 1048576: true; the input reads as it did. -/
def tableBackUptoRow : OpenClaim := { program := "ytngiekofaeaaoaa", sum := "0a04979dceea9645b340f27e5d0c856ae5e5486c1954a60317f9df038d89c1cf", func := "gudgeon/gudgeonlaw03.TableBack", spec := "tableBack", apart := false, narrowed := true }
def TableBackUptoSaid : Prop := tableBackUptoRow.holds Try.pinned (OpenSpec.upto tableBackSpec)

/-- 'gudgeonlaw03.TableNone', WHERE WHAT IT READS IS OF BULK AT MOST 1048576: true; the input reads as it did. -/
def tableNoneUptoRow : OpenClaim := { program := "ytngiekofaeaaoaa", sum := "0a04979dceea9645b340f27e5d0c856ae5e5486c1954a60317f9df038d89c1cf", func := "gudgeon/gudgeonlaw03.TableNone", spec := "tableNone", apart := false, narrowed := true }
def TableNoneUptoSaid : Prop := tableNoneUptoRow.holds Try.pinned (OpenSpec.upto tableNoneSpec)

end Rows
end Go.Proofs.Ytngiekofaeaaoaa
