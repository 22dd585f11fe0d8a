/-
  No cell of these rows narrows 'for every input' (looked for: loops, veiled, ifaces, maps, wideKeys, modest, calm, conditions, laid).
  DERIVED. THE GIVEN ROWS OF THIS SEAT. 5 by the template 'for every input the law returns true; each argument reads behind the call as it read before'; 0 by the template 'total and deterministic' (their statements: YthijblakaogmgaaTotals.lean).
  GIVEN WITH THE SEED: the statements are not yours to turn. If you find one false, say at which input.
  Laid BY PROGRAM, IN A SANDBOX (cutbox-rows.mjs): the forced cells as the released guide's own fill.sh prints them over the translation 850eb217a332caa5… (all of the seat's roots in one cut). By AI agents, Wed Nov 11 2026. No macro, syntax, notation, axiom, sorry.
-/
import Derived.Test.YthijblakaogmgaaChecked
import GoSem.Claim
import GoSem.ClaimJoined
import GoSem.ClaimMapViews
import Derived.JoinedTies
import Derived.KernelRfl
namespace Go.Proofs.Ythijblakaogmgaa
/- THE CELL 'sum', in the pinned program and in every row, IS THE sha256 OF THE DUMP (.gsa) THAT YthijblakaogmgaaProg.lean LOADS. Nothing in Lean hashes anything: it is a label: what it is worth is what the hold of that sum in a sandbox is worth. -/
noncomputable def Try.pinned : Pinned := { name := "ythijblakaogmgaa", sum := "850eb217a332caa5a49d795df0fee047b4205119894a5ee1d7e6f0cfd2fa6008", checked := Try.checked }
namespace Rows
def none {H : Type} : Left H := { results := [], args := [] }

/-- 'gudgeonlaw04.MeterDoes': WHATEVER THE INPUT: true; the input reads as it did. -/
def meterDoesSpec : ChangeSpec := { name := "meterDoes", fn := fun _ => fun
  | [d1, d2] => { results := [.lit (.bool true)], args := [d1, d2] }
  | _ => none }
def meterDoesRow : OpenClaim := { program := "ythijblakaogmgaa", sum := "850eb217a332caa5a49d795df0fee047b4205119894a5ee1d7e6f0cfd2fa6008", func := "gudgeon/gudgeonlaw04.MeterDoes", spec := "meterDoes", apart := false }
def MeterDoesSaid : Prop := meterDoesRow.holds Try.pinned (OpenSpec.ofChange meterDoesSpec)

/-- ITS FALSE NEIGHBOUR: 'it returns false'. Refute it at one input. -/
def meterDoesWrong : ChangeSpec := { name := "meterDoes", fn := fun _ => fun
  | [d1, d2] => { results := [.lit (.bool false)], args := [d1, d2] }
  | _ => none }
def MeterDoesWrongFalsely : Prop := meterDoesRow.holds Try.pinned (OpenSpec.ofChange meterDoesWrong)

/-- 'gudgeonlaw04.MeterWithin': WHATEVER THE INPUT: true; the input reads as it did. -/
def meterWithinSpec : ChangeSpec := { name := "meterWithin", fn := fun _ => fun
  | [d1, d2] => { results := [.lit (.bool true)], args := [d1, d2] }
  | _ => none }
def meterWithinRow : OpenClaim := { program := "ythijblakaogmgaa", sum := "850eb217a332caa5a49d795df0fee047b4205119894a5ee1d7e6f0cfd2fa6008", func := "gudgeon/gudgeonlaw04.MeterWithin", spec := "meterWithin", apart := false }
def MeterWithinSaid : Prop := meterWithinRow.holds Try.pinned (OpenSpec.ofChange meterWithinSpec)

/-- ITS FALSE NEIGHBOUR: 'it returns false'. Refute it at one input. -/
def meterWithinWrong : ChangeSpec := { name := "meterWithin", fn := fun _ => fun
  | [d1, d2] => { results := [.lit (.bool false)], args := [d1, d2] }
  | _ => none }
def MeterWithinWrongFalsely : Prop := meterWithinRow.holds Try.pinned (OpenSpec.ofChange meterWithinWrong)

/-- 'gudgeonlaw04.MeterNone': WHATEVER THE INPUT: true; the input reads as it did. -/
def meterNoneSpec : ChangeSpec := { name := "meterNone", fn := fun _ => fun
  | [d] => { results := [.lit (.bool true)], args := [d] }
  | _ => none }
def meterNoneRow : OpenClaim := { program := "ythijblakaogmgaa", sum := "850eb217a332caa5a49d795df0fee047b4205119894a5ee1d7e6f0cfd2fa6008", func := "gudgeon/gudgeonlaw04.MeterNone", spec := "meterNone", apart := false }
def MeterNoneSaid : Prop := meterNoneRow.holds Try.pinned (OpenSpec.ofChange meterNoneSpec)

/-- ITS FALSE NEIGHBOUR: 'it returns false'. Refute it at one input. -/
def meterNoneWrong : ChangeSpec := { name := "meterNone", fn := fun _ => fun
  | [d] => { results := [.lit (.bool false)], args := [d] }
  | _ => none }
def MeterNoneWrongFalsely : Prop := meterNoneRow.holds Try.pinned (OpenSpec.ofChange meterNoneWrong)

/-- 'gudgeonlaw04.MeterParts': WHATEVER THE INPUT: true; the input reads as it did. -/
def meterPartsSpec : ChangeSpec := { name := "meterParts", fn := fun _ => fun
  | [d1, d2, d3] => { results := [.lit (.bool true)], args := [d1, d2, d3] }
  | _ => none }
def meterPartsRow : OpenClaim := { program := "ythijblakaogmgaa", sum := "850eb217a332caa5a49d795df0fee047b4205119894a5ee1d7e6f0cfd2fa6008", func := "gudgeon/gudgeonlaw04.MeterParts", spec := "meterParts", apart := false }
def MeterPartsSaid : Prop := meterPartsRow.holds Try.pinned (OpenSpec.ofChange meterPartsSpec)

/-- ITS FALSE NEIGHBOUR: 'it returns false'. Refute it at one input. -/
def meterPartsWrong : ChangeSpec := { name := "meterParts", fn := fun _ => fun
  | [d1, d2, d3] => { results := [.lit (.bool false)], args := [d1, d2, d3] }
  | _ => none }
def MeterPartsWrongFalsely : Prop := meterPartsRow.holds Try.pinned (OpenSpec.ofChange meterPartsWrong)

/-- 'gudgeonlaw04.MeterSums': WHATEVER THE INPUT: true; the input reads as it did. -/
def meterSumsSpec : ChangeSpec := { name := "meterSums", fn := fun _ => fun
  | [d1, d2] => { results := [.lit (.bool true)], args := [d1, d2] }
  | _ => none }
def meterSumsRow : OpenClaim := { program := "ythijblakaogmgaa", sum := "850eb217a332caa5a49d795df0fee047b4205119894a5ee1d7e6f0cfd2fa6008", func := "gudgeon/gudgeonlaw04.MeterSums", spec := "meterSums", apart := false }
def MeterSumsSaid : Prop := meterSumsRow.holds Try.pinned (OpenSpec.ofChange meterSumsSpec)

/-- ITS FALSE NEIGHBOUR: 'it returns false'. Refute it at one input. -/
def meterSumsWrong : ChangeSpec := { name := "meterSums", fn := fun _ => fun
  | [d1, d2] => { results := [.lit (.bool false)], args := [d1, d2] }
  | _ => none }
def MeterSumsWrongFalsely : Prop := meterSumsRow.holds Try.pinned (OpenSpec.ofChange meterSumsWrong)

/- THE SECOND FORM. 'bulk': how many values and letters a reading holds, each counted each time it is reached (what is shared counts as often as it is met; a slice's spare places count too). A statement '..UptoSaid' is the law's where the arguments, and the package variables that the reading takes, are together of bulk at most 1048576: NARROWER than '..Said'. Prove '..Said' where nothing that the law and all that it calls make is longer than what came in: it says more and counts as full. Else prove '..UptoSaid'. A law counts once. -/
mutual
def uptoBulk {H : Type} : DataW H → Nat
  | .lit (.string bytes) => bytes.length + 1
  | .lit _ => 1
  | .nil => 1
  | .ptr d => uptoBulk d + 1
  | .slice elems spare => uptoBulkAll elems + uptoBulkAll spare + 1
  | .agg parts => uptoBulkAll parts + 1
  | .iface _ d => uptoBulk d + 1
  | .map entries => uptoBulkEntries entries + 1
  | .held _ => 1
def uptoBulkAll {H : Type} : List (DataW H) → Nat
  | [] => 0
  | d :: r => uptoBulk d + uptoBulkAll r
def uptoBulkEntries {H : Type} : List (Lit × DataW H) → Nat
  | [] => 0
  | x :: r => uptoBulkEntry x + uptoBulkEntries r
def uptoBulkEntry {H : Type} : Lit × DataW H → Nat
  | (.string bytes, d) => bytes.length + uptoBulk d + 1
  | (_, d) => uptoBulk d + 1
 end
def uptoSmall : (H : Type) → List (DataW H) → Bool := fun _ ds => decide (uptoBulkAll ds ≤ 1048576)
def OpenSpec.upto (s : _root_.Go.ChangeSpec) : _root_.Go.OpenSpec := { _root_.Go.OpenSpec.ofChange s with cond := some uptoSmall }

/-- 'gudgeonlaw04.MeterDoes', WHERE WHAT IT READS IS OF BULK AT MOST 1048576: true; the input reads as it did. -/
def meterDoesUptoRow : OpenClaim := { program := "ythijblakaogmgaa", sum := "850eb217a332caa5a49d795df0fee047b4205119894a5ee1d7e6f0cfd2fa6008", func := "gudgeon/gudgeonlaw04.MeterDoes", spec := "meterDoes", apart := false, narrowed := true }
def MeterDoesUptoSaid : Prop := meterDoesUptoRow.holds Try.pinned (OpenSpec.upto meterDoesSpec)

/-- 'gudgeonlaw04.MeterWithin', WHERE WHAT IT READS IS OF BULK AT MOST 1048576: true; the input reads as it did. -/
def meterWithinUptoRow : OpenClaim := { program := "ythijblakaogmgaa", sum := "850eb217a332caa5a49d795df0fee047b4205119894a5ee1d7e6f0cfd2fa6008", func := "gudgeon/gudgeonlaw04.MeterWithin", spec := "meterWithin", apart := false, narrowed := true }
def MeterWithinUptoSaid : Prop := meterWithinUptoRow.holds Try.pinned (OpenSpec.upto meterWithinSpec)

/-- 'gudgeonlaw04.MeterNone', WHERE WHAT IT READS IS OF BULK AT MOST 1048576: true; the input reads as it did. -/
def meterNoneUptoRow : OpenClaim := { program := "ythijblakaogmgaa", sum := "850eb217a332caa5a49d795df0fee047b4205119894a5ee1d7e6f0cfd2fa6008", func := "gudgeon/gudgeonlaw04.MeterNone", spec := "meterNone", apart := false, narrowed := true }
def MeterNoneUptoSaid : Prop := meterNoneUptoRow.holds Try.pinned (OpenSpec.upto meterNoneSpec)

/-- 'gudgeonlaw04.MeterParts', WHERE WHAT IT READS IS OF BULK AT MOST 1048576: true; the input reads as it did. -/
def meterPartsUptoRow : OpenClaim := { program := "ythijblakaogmgaa", sum := "850eb217a332caa5a49d795df0fee047b4205119894a5ee1d7e6f0cfd2fa6008", func := "gudgeon/gudgeonlaw04.MeterParts", spec := "meterParts", apart := false, narrowed := true }
def MeterPartsUptoSaid : Prop := meterPartsUptoRow.holds Try.pinned (OpenSpec.upto meterPartsSpec)

/-- 'gudgeonlaw04.MeterSums', WHERE WHAT IT READS IS OF BULK AT MOST 1048576: true; the input reads as it did. -/
def meterSumsUptoRow : OpenClaim := { program := "ythijblakaogmgaa", sum := "850eb217a332caa5a49d795df0fee047b4205119894a5ee1d7e6f0cfd2fa6008", func := "gudgeon/gudgeonlaw04.MeterSums", spec := "meterSums", apart := false, narrowed := true }
def MeterSumsUptoSaid : Prop := meterSumsUptoRow.holds Try.pinned (OpenSpec.upto meterSumsSpec)

end Rows
end Go.Proofs.Ythijblakaogmgaa
