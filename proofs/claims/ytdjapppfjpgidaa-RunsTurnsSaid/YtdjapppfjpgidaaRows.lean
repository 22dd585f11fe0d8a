/-
  No cell of these rows narrows 'for every input' (looked for: loops, veiled, ifaces, maps, wideKeys, modest, calm, conditions, laid).
  DERIVED. THE GIVEN ROWS OF THIS SEAT. 7 by the template 'for every input the law returns true; each argument reads behind the call as it read before'; 0 by the template 'total and deterministic' (their statements: YtdjapppfjpgidaaTotals.lean).
  GIVEN WITH THE SEED: the statements are not yours to turn. If you find one false, say at which input.
  Laid BY PROGRAM, IN A SANDBOX (cutbox-rows.mjs): the forced cells as the released guide's own fill.sh prints them over the translation 8f0871ead7d6d4ab… (all of the seat's roots in one cut). By AI agents, Wed Nov 11 2026. No macro, syntax, notation, axiom, sorry.
-/
import Derived.Test.YtdjapppfjpgidaaChecked
import GoSem.Claim
import GoSem.ClaimJoined
import GoSem.ClaimMapViews
import Derived.JoinedTies
import Derived.KernelRfl
namespace Go.Proofs.Ytdjapppfjpgidaa
/- THE CELL 'sum', in the pinned program and in every row, IS THE sha256 OF THE DUMP (.gsa) THAT YtdjapppfjpgidaaProg.lean LOADS. Nothing in Lean hashes anything: it is a label: what it is worth is what the hold of that sum in a sandbox is worth. -/
noncomputable def Try.pinned : Pinned := { name := "ytdjapppfjpgidaa", sum := "8f0871ead7d6d4ab1ab735e611ab1b8f685070f2b1f35174d52abb6aaf2322d0", checked := Try.checked }
namespace Rows
def none {H : Type} : Left H := { results := [], args := [] }

/-- 'gudgeonlaw08.RunsPieces': WHATEVER THE INPUT: true; the input reads as it did. -/
def runsPiecesSpec : ChangeSpec := { name := "runsPieces", fn := fun _ => fun
  | [d1, d2, d3] => { results := [.lit (.bool true)], args := [d1, d2, d3] }
  | _ => none }
def runsPiecesRow : OpenClaim := { program := "ytdjapppfjpgidaa", sum := "8f0871ead7d6d4ab1ab735e611ab1b8f685070f2b1f35174d52abb6aaf2322d0", func := "gudgeon/gudgeonlaw08.RunsPieces", spec := "runsPieces", unfollowed := true, recurses := true, apart := false }
def RunsPiecesSaid : Prop := runsPiecesRow.holds Try.pinned (OpenSpec.ofChange runsPiecesSpec)

/-- ITS FALSE NEIGHBOUR: 'it returns false'. Refute it at one input. -/
def runsPiecesWrong : ChangeSpec := { name := "runsPieces", fn := fun _ => fun
  | [d1, d2, d3] => { results := [.lit (.bool false)], args := [d1, d2, d3] }
  | _ => none }
def RunsPiecesWrongFalsely : Prop := runsPiecesRow.holds Try.pinned (OpenSpec.ofChange runsPiecesWrong)

/-- 'gudgeonlaw08.RunsFirst': WHATEVER THE INPUT: true; the input reads as it did. -/
def runsFirstSpec : ChangeSpec := { name := "runsFirst", fn := fun _ => fun
  | [d1, d2, d3] => { results := [.lit (.bool true)], args := [d1, d2, d3] }
  | _ => none }
def runsFirstRow : OpenClaim := { program := "ytdjapppfjpgidaa", sum := "8f0871ead7d6d4ab1ab735e611ab1b8f685070f2b1f35174d52abb6aaf2322d0", func := "gudgeon/gudgeonlaw08.RunsFirst", spec := "runsFirst", unfollowed := true, recurses := true, apart := false }
def RunsFirstSaid : Prop := runsFirstRow.holds Try.pinned (OpenSpec.ofChange runsFirstSpec)

/-- ITS FALSE NEIGHBOUR: 'it returns false'. Refute it at one input. -/
def runsFirstWrong : ChangeSpec := { name := "runsFirst", fn := fun _ => fun
  | [d1, d2, d3] => { results := [.lit (.bool false)], args := [d1, d2, d3] }
  | _ => none }
def RunsFirstWrongFalsely : Prop := runsFirstRow.holds Try.pinned (OpenSpec.ofChange runsFirstWrong)

/-- 'gudgeonlaw08.RunsTurns': WHATEVER THE INPUT: true; the input reads as it did. -/
def runsTurnsSpec : ChangeSpec := { name := "runsTurns", fn := fun _ => fun
  | [d1, d2, d3] => { results := [.lit (.bool true)], args := [d1, d2, d3] }
  | _ => none }
def runsTurnsRow : OpenClaim := { program := "ytdjapppfjpgidaa", sum := "8f0871ead7d6d4ab1ab735e611ab1b8f685070f2b1f35174d52abb6aaf2322d0", func := "gudgeon/gudgeonlaw08.RunsTurns", spec := "runsTurns", unfollowed := true, recurses := true, apart := false }
def RunsTurnsSaid : Prop := runsTurnsRow.holds Try.pinned (OpenSpec.ofChange runsTurnsSpec)

/-- ITS FALSE NEIGHBOUR: 'it returns false'. Refute it at one input. -/
def runsTurnsWrong : ChangeSpec := { name := "runsTurns", fn := fun _ => fun
  | [d1, d2, d3] => { results := [.lit (.bool false)], args := [d1, d2, d3] }
  | _ => none }
def RunsTurnsWrongFalsely : Prop := runsTurnsRow.holds Try.pinned (OpenSpec.ofChange runsTurnsWrong)

/-- 'gudgeonlaw08.RunsParts': WHATEVER THE INPUT: true; the input reads as it did. -/
def runsPartsSpec : ChangeSpec := { name := "runsParts", fn := fun _ => fun
  | [d1, d2, d3, d4, d5] => { results := [.lit (.bool true)], args := [d1, d2, d3, d4, d5] }
  | _ => none }
def runsPartsRow : OpenClaim := { program := "ytdjapppfjpgidaa", sum := "8f0871ead7d6d4ab1ab735e611ab1b8f685070f2b1f35174d52abb6aaf2322d0", func := "gudgeon/gudgeonlaw08.RunsParts", spec := "runsParts", unfollowed := true, recurses := true, apart := false }
def RunsPartsSaid : Prop := runsPartsRow.holds Try.pinned (OpenSpec.ofChange runsPartsSpec)

/-- ITS FALSE NEIGHBOUR: 'it returns false'. Refute it at one input. -/
def runsPartsWrong : ChangeSpec := { name := "runsParts", fn := fun _ => fun
  | [d1, d2, d3, d4, d5] => { results := [.lit (.bool false)], args := [d1, d2, d3, d4, d5] }
  | _ => none }
def RunsPartsWrongFalsely : Prop := runsPartsRow.holds Try.pinned (OpenSpec.ofChange runsPartsWrong)

/-- 'gudgeonlaw08.RunsReplaced': WHATEVER THE INPUT: true; the input reads as it did. -/
def runsReplacedSpec : ChangeSpec := { name := "runsReplaced", fn := fun _ => fun
  | [d1, d2, d3] => { results := [.lit (.bool true)], args := [d1, d2, d3] }
  | _ => none }
def runsReplacedRow : OpenClaim := { program := "ytdjapppfjpgidaa", sum := "8f0871ead7d6d4ab1ab735e611ab1b8f685070f2b1f35174d52abb6aaf2322d0", func := "gudgeon/gudgeonlaw08.RunsReplaced", spec := "runsReplaced", unfollowed := true, recurses := true, apart := false }
def RunsReplacedSaid : Prop := runsReplacedRow.holds Try.pinned (OpenSpec.ofChange runsReplacedSpec)

/-- ITS FALSE NEIGHBOUR: 'it returns false'. Refute it at one input. -/
def runsReplacedWrong : ChangeSpec := { name := "runsReplaced", fn := fun _ => fun
  | [d1, d2, d3] => { results := [.lit (.bool false)], args := [d1, d2, d3] }
  | _ => none }
def RunsReplacedWrongFalsely : Prop := runsReplacedRow.holds Try.pinned (OpenSpec.ofChange runsReplacedWrong)

/-- 'gudgeonlaw08.RunsStands': WHATEVER THE INPUT: true; the input reads as it did. -/
def runsStandsSpec : ChangeSpec := { name := "runsStands", fn := fun _ => fun
  | [d1, d2, d3] => { results := [.lit (.bool true)], args := [d1, d2, d3] }
  | _ => none }
def runsStandsRow : OpenClaim := { program := "ytdjapppfjpgidaa", sum := "8f0871ead7d6d4ab1ab735e611ab1b8f685070f2b1f35174d52abb6aaf2322d0", func := "gudgeon/gudgeonlaw08.RunsStands", spec := "runsStands", unfollowed := true, recurses := true, apart := false }
def RunsStandsSaid : Prop := runsStandsRow.holds Try.pinned (OpenSpec.ofChange runsStandsSpec)

/-- ITS FALSE NEIGHBOUR: 'it returns false'. Refute it at one input. -/
def runsStandsWrong : ChangeSpec := { name := "runsStands", fn := fun _ => fun
  | [d1, d2, d3] => { results := [.lit (.bool false)], args := [d1, d2, d3] }
  | _ => none }
def RunsStandsWrongFalsely : Prop := runsStandsRow.holds Try.pinned (OpenSpec.ofChange runsStandsWrong)

/-- 'gudgeonlaw08.RunsJoins': WHATEVER THE INPUT: true; the input reads as it did. -/
def runsJoinsSpec : ChangeSpec := { name := "runsJoins", fn := fun _ => fun
  | [d1, d2, d3] => { results := [.lit (.bool true)], args := [d1, d2, d3] }
  | _ => none }
def runsJoinsRow : OpenClaim := { program := "ytdjapppfjpgidaa", sum := "8f0871ead7d6d4ab1ab735e611ab1b8f685070f2b1f35174d52abb6aaf2322d0", func := "gudgeon/gudgeonlaw08.RunsJoins", spec := "runsJoins", unfollowed := true, recurses := true, apart := false }
def RunsJoinsSaid : Prop := runsJoinsRow.holds Try.pinned (OpenSpec.ofChange runsJoinsSpec)

/-- ITS FALSE NEIGHBOUR: 'it returns false'. Refute it at one input. -/
def runsJoinsWrong : ChangeSpec := { name := "runsJoins", fn := fun _ => fun
  | [d1, d2, d3] => { results := [.lit (.bool false)], args := [d1, d2, d3] }
  | _ => none }
def RunsJoinsWrongFalsely : Prop := runsJoinsRow.holds Try.pinned (OpenSpec.ofChange runsJoinsWrong)

/- THE SECOND FORM. 'bulk': how many values and letters a reading holds, each counted each time it is reached (what is shared counts as often as it is met; a slice's spare places count too). A statement '..UptoSaid' is the law's where the arguments, and the package variables that the reading takes, are together of bulk at most 1048576: NARROWER than '..Said'. Prove '..Said' where nothing that the law and all that it calls make is longer than what came in: it says more and counts as full. Else prove '..UptoSaid'. A law counts once. -/
mutual
def uptoBulk {H : Type} : DataW H → Nat
  | .lit (.string bytes) => bytes.length + 1
  | .lit _ => 1
  | .nil => 1
  | .ptr d => uptoBulk d + 1
  | .slice elems spare => uptoBulkAll elems + uptoBulkAll spare + 1
  | .agg parts => uptoBulkAll parts + 1
  | .iface _ d => uptoBulk d + 1
  | .map entries => uptoBulkEntries entries + 1
  | .held _ => 1
def uptoBulkAll {H : Type} : List (DataW H) → Nat
  | [] => 0
  | d :: r => uptoBulk d + uptoBulkAll r
def uptoBulkEntries {H : Type} : List (Lit × DataW H) → Nat
  | [] => 0
  | x :: r => uptoBulkEntry x + uptoBulkEntries r
def uptoBulkEntry {H : Type} : Lit × DataW H → Nat
  | (.string bytes, d) => bytes.length + uptoBulk d + 1
  | (_, d) => uptoBulk d + 1
 end
def uptoSmall : (H : Type) → List (DataW H) → Bool := fun _ ds => decide (uptoBulkAll ds ≤ 1048576)
def OpenSpec.upto (s : _root_.Go.ChangeSpec) : _root_.Go.OpenSpec := { _root_.Go.OpenSpec.ofChange s with cond := some uptoSmall }

/-- 'gudgeonlaw08.RunsPieces', WHERE WHAT IT READS IS OF BULK AT MOST 1048576: true; the input reads as it did. -/
def runsPiecesUptoRow : OpenClaim := { program := "ytdjapppfjpgidaa", sum := "8f0871ead7d6d4ab1ab735e611ab1b8f685070f2b1f35174d52abb6aaf2322d0", func := "gudgeon/gudgeonlaw08.RunsPieces", spec := "runsPieces", unfollowed := true, recurses := true, apart := false, narrowed := true }
def RunsPiecesUptoSaid : Prop := runsPiecesUptoRow.holds Try.pinned (OpenSpec.upto runsPiecesSpec)

/-- 'gudgeonlaw08.RunsFirst', WHERE WHAT IT READS IS OF BULK AT MOST 1048576: true; the input reads as it did. -/
def runsFirstUptoRow : OpenClaim := { program := "ytdjapppfjpgidaa", sum := "8f0871ead7d6d4ab1ab735e611ab1b8f685070f2b1f35174d52abb6aaf2322d0", func := "gudgeon/gudgeonlaw08.RunsFirst", spec := "runsFirst", unfollowed := true, recurses := true, apart := false, narrowed := true }
def RunsFirstUptoSaid : Prop := runsFirstUptoRow.holds Try.pinned (OpenSpec.upto runsFirstSpec)

/-- 'gudgeonlaw08.RunsTurns', WHERE WHAT IT READS IS OF BULK AT MOST 1048576: true; the input reads as it did. -/
def runsTurnsUptoRow : OpenClaim := { program := "ytdjapppfjpgidaa", sum := "8f0871ead7d6d4ab1ab735e611ab1b8f685070f2b1f35174d52abb6aaf2322d0", func := "gudgeon/gudgeonlaw08.RunsTurns", spec := "runsTurns", unfollowed := true, recurses := true, apart := false, narrowed := true }
def RunsTurnsUptoSaid : Prop := runsTurnsUptoRow.holds Try.pinned (OpenSpec.upto runsTurnsSpec)

/-- 'gudgeonlaw08.RunsParts', WHERE WHAT IT READS IS OF BULK AT MOST 1048576: true; the input reads as it did. -/
def runsPartsUptoRow : OpenClaim := { program := "ytdjapppfjpgidaa", sum := "8f0871ead7d6d4ab1ab735e611ab1b8f685070f2b1f35174d52abb6aaf2322d0", func := "gudgeon/gudgeonlaw08.RunsParts", spec := "runsParts", unfollowed := true, recurses := true, apart := false, narrowed := true }
def RunsPartsUptoSaid : Prop := runsPartsUptoRow.holds Try.pinned (OpenSpec.upto runsPartsSpec)

/-- 'gudgeonlaw08.RunsReplaced', WHERE WHAT IT READS IS OF BULK AT MOST 1048576: true; the input reads as it did. -/
def runsReplacedUptoRow : OpenClaim := { program := "ytdjapppfjpgidaa", sum := "8f0871ead7d6d4ab1ab735e611ab1b8f685070f2b1f35174d52abb6aaf2322d0", func := "gudgeon/gudgeonlaw08.RunsReplaced", spec := "runsReplaced", unfollowed := true, recurses := true, apart := false, narrowed := true }
def RunsReplacedUptoSaid : Prop := runsReplacedUptoRow.holds Try.pinned (OpenSpec.upto runsReplacedSpec)

/-- 'gudgeonlaw08.RunsStands', WHERE WHAT IT READS IS OF BULK AT MOST 1048576: true; the input reads as it did. -/
def runsStandsUptoRow : OpenClaim := { program := "ytdjapppfjpgidaa", sum := "8f0871ead7d6d4ab1ab735e611ab1b8f685070f2b1f35174d52abb6aaf2322d0", func := "gudgeon/gudgeonlaw08.RunsStands", spec := "runsStands", unfollowed := true, recurses := true, apart := false, narrowed := true }
def RunsStandsUptoSaid : Prop := runsStandsUptoRow.holds Try.pinned (OpenSpec.upto runsStandsSpec)

/-- 'gudgeonlaw08.RunsJoins', WHERE WHAT IT READS IS OF BULK AT MOST 1048576: true; the input reads as it did. -/
def runsJoinsUptoRow : OpenClaim := { program := "ytdjapppfjpgidaa", sum := "8f0871ead7d6d4ab1ab735e611ab1b8f685070f2b1f35174d52abb6aaf2322d0", func := "gudgeon/gudgeonlaw08.RunsJoins", spec := "runsJoins", unfollowed := true, recurses := true, apart := false, narrowed := true }
def RunsJoinsUptoSaid : Prop := runsJoinsUptoRow.holds Try.pinned (OpenSpec.upto runsJoinsSpec)

end Rows
end Go.Proofs.Ytdjapppfjpgidaa
