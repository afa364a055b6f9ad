/-
  No cell of these rows narrows 'for every input' (looked for: loops, veiled, ifaces, maps, wideKeys, modest, calm, conditions, laid).
  DERIVED. THE GIVEN ROWS OF THIS SEAT. 10 by the template 'for every input the law returns true; each argument reads behind the call as it read before'; 0 by the template 'total and deterministic' (their statements: YtacfaegljjgneaaTotals.lean).
  GIVEN WITH THE SEED: the statements are not yours to turn. If you find one false, say at which input.
  Laid BY PROGRAM, IN A SANDBOX (cutbox-rows.mjs): the forced cells as the released guide's own fill.sh prints them over the translation 1084d062568a3ec7… (all of the seat's roots in one cut). By AI agents, Wed Nov 11 2026. No macro, syntax, notation, axiom, sorry.
-/
import Derived.Test.YtacfaegljjgneaaChecked
import GoSem.Claim
import GoSem.ClaimJoined
import GoSem.ClaimMapViews
import Derived.JoinedTies
import Derived.KernelRfl
namespace Go.Proofs.Ytacfaegljjgneaa
/- THE CELL 'sum', in the pinned program and in every row, IS THE sha256 OF THE DUMP (.gsa) THAT YtacfaegljjgneaaProg.lean LOADS. Nothing in Lean hashes anything: it is a label: what it is worth is what the hold of that sum in a sandbox is worth. -/
noncomputable def Try.pinned : Pinned := { name := "ytacfaegljjgneaa", sum := "1084d062568a3ec7759a514ee90487d1789428a617c0aaf30ce9cdf5e37bfeb1", checked := Try.checked }
namespace Rows
def none {H : Type} : Left H := { results := [], args := [] }

/-- 'oublaw2.CellsLast': WHATEVER THE INPUT: true; the input reads as it did. -/
def cellsLastSpec : ChangeSpec := { name := "cellsLast", fn := fun _ => fun
  | [d1, d2] => { results := [.lit (.bool true)], args := [d1, d2] }
  | _ => none }
def cellsLastRow : OpenClaim := { program := "ytacfaegljjgneaa", sum := "1084d062568a3ec7759a514ee90487d1789428a617c0aaf30ce9cdf5e37bfeb1", func := "oubliette/oublaw2.CellsLast", spec := "cellsLast", unfollowed := true, recurses := true, apart := false }
def CellsLastSaid : Prop := cellsLastRow.holds Try.pinned (OpenSpec.ofChange cellsLastSpec)

/-- ITS FALSE NEIGHBOUR: 'it returns false'. Refute it at one input. -/
def cellsLastWrong : ChangeSpec := { name := "cellsLast", fn := fun _ => fun
  | [d1, d2] => { results := [.lit (.bool false)], args := [d1, d2] }
  | _ => none }
def CellsLastWrongFalsely : Prop := cellsLastRow.holds Try.pinned (OpenSpec.ofChange cellsLastWrong)

/-- 'oublaw2.CellsOwn': WHATEVER THE INPUT: true; the input reads as it did. -/
def cellsOwnSpec : ChangeSpec := { name := "cellsOwn", fn := fun _ => fun
  | [d] => { results := [.lit (.bool true)], args := [d] }
  | _ => none }
def cellsOwnRow : OpenClaim := { program := "ytacfaegljjgneaa", sum := "1084d062568a3ec7759a514ee90487d1789428a617c0aaf30ce9cdf5e37bfeb1", func := "oubliette/oublaw2.CellsOwn", spec := "cellsOwn", unfollowed := true, recurses := true, apart := false }
def CellsOwnSaid : Prop := cellsOwnRow.holds Try.pinned (OpenSpec.ofChange cellsOwnSpec)

/-- ITS FALSE NEIGHBOUR: 'it returns false'. Refute it at one input. -/
def cellsOwnWrong : ChangeSpec := { name := "cellsOwn", fn := fun _ => fun
  | [d] => { results := [.lit (.bool false)], args := [d] }
  | _ => none }
def CellsOwnWrongFalsely : Prop := cellsOwnRow.holds Try.pinned (OpenSpec.ofChange cellsOwnWrong)

/-- 'oublaw2.CellsSure': WHATEVER THE INPUT: true; the input reads as it did. -/
def cellsSureSpec : ChangeSpec := { name := "cellsSure", fn := fun _ => fun
  | [d1, d2, d3, d4] => { results := [.lit (.bool true)], args := [d1, d2, d3, d4] }
  | _ => none }
def cellsSureRow : OpenClaim := { program := "ytacfaegljjgneaa", sum := "1084d062568a3ec7759a514ee90487d1789428a617c0aaf30ce9cdf5e37bfeb1", func := "oubliette/oublaw2.CellsSure", spec := "cellsSure", unfollowed := true, recurses := true, apart := false }
def CellsSureSaid : Prop := cellsSureRow.holds Try.pinned (OpenSpec.ofChange cellsSureSpec)

/-- ITS FALSE NEIGHBOUR: 'it returns false'. Refute it at one input. -/
def cellsSureWrong : ChangeSpec := { name := "cellsSure", fn := fun _ => fun
  | [d1, d2, d3, d4] => { results := [.lit (.bool false)], args := [d1, d2, d3, d4] }
  | _ => none }
def CellsSureWrongFalsely : Prop := cellsSureRow.holds Try.pinned (OpenSpec.ofChange cellsSureWrong)

/-- 'oublaw2.CellsArmed': WHATEVER THE INPUT: true; the input reads as it did. -/
def cellsArmedSpec : ChangeSpec := { name := "cellsArmed", fn := fun _ => fun
  | [d1, d2] => { results := [.lit (.bool true)], args := [d1, d2] }
  | _ => none }
def cellsArmedRow : OpenClaim := { program := "ytacfaegljjgneaa", sum := "1084d062568a3ec7759a514ee90487d1789428a617c0aaf30ce9cdf5e37bfeb1", func := "oubliette/oublaw2.CellsArmed", spec := "cellsArmed", unfollowed := true, recurses := true, apart := false }
def CellsArmedSaid : Prop := cellsArmedRow.holds Try.pinned (OpenSpec.ofChange cellsArmedSpec)

/-- ITS FALSE NEIGHBOUR: 'it returns false'. Refute it at one input. -/
def cellsArmedWrong : ChangeSpec := { name := "cellsArmed", fn := fun _ => fun
  | [d1, d2] => { results := [.lit (.bool false)], args := [d1, d2] }
  | _ => none }
def CellsArmedWrongFalsely : Prop := cellsArmedRow.holds Try.pinned (OpenSpec.ofChange cellsArmedWrong)

/-- 'oublaw2.CellsPlay': WHATEVER THE INPUT: true; the input reads as it did. -/
def cellsPlaySpec : ChangeSpec := { name := "cellsPlay", fn := fun _ => fun
  | [d1, d2, d3] => { results := [.lit (.bool true)], args := [d1, d2, d3] }
  | _ => none }
def cellsPlayRow : OpenClaim := { program := "ytacfaegljjgneaa", sum := "1084d062568a3ec7759a514ee90487d1789428a617c0aaf30ce9cdf5e37bfeb1", func := "oubliette/oublaw2.CellsPlay", spec := "cellsPlay", unfollowed := true, recurses := true, apart := false }
def CellsPlaySaid : Prop := cellsPlayRow.holds Try.pinned (OpenSpec.ofChange cellsPlaySpec)

/-- ITS FALSE NEIGHBOUR: 'it returns false'. Refute it at one input. -/
def cellsPlayWrong : ChangeSpec := { name := "cellsPlay", fn := fun _ => fun
  | [d1, d2, d3] => { results := [.lit (.bool false)], args := [d1, d2, d3] }
  | _ => none }
def CellsPlayWrongFalsely : Prop := cellsPlayRow.holds Try.pinned (OpenSpec.ofChange cellsPlayWrong)

/-- 'oublaw3.TraceCompares': WHATEVER THE INPUT: true; the input reads as it did. -/
def traceComparesSpec : ChangeSpec := { name := "traceCompares", fn := fun _ => fun
  | [d1, d2, d3] => { results := [.lit (.bool true)], args := [d1, d2, d3] }
  | _ => none }
def traceComparesRow : OpenClaim := { program := "ytacfaegljjgneaa", sum := "1084d062568a3ec7759a514ee90487d1789428a617c0aaf30ce9cdf5e37bfeb1", func := "oubliette/oublaw3.TraceCompares", spec := "traceCompares", unfollowed := true, recurses := true, apart := false }
def TraceComparesSaid : Prop := traceComparesRow.holds Try.pinned (OpenSpec.ofChange traceComparesSpec)

/-- ITS FALSE NEIGHBOUR: 'it returns false'. Refute it at one input. -/
def traceComparesWrong : ChangeSpec := { name := "traceCompares", fn := fun _ => fun
  | [d1, d2, d3] => { results := [.lit (.bool false)], args := [d1, d2, d3] }
  | _ => none }
def TraceComparesWrongFalsely : Prop := traceComparesRow.holds Try.pinned (OpenSpec.ofChange traceComparesWrong)

/-- 'oublaw3.TraceFronts': WHATEVER THE INPUT: true; the input reads as it did. -/
def traceFrontsSpec : ChangeSpec := { name := "traceFronts", fn := fun _ => fun
  | [d1, d2, d3] => { results := [.lit (.bool true)], args := [d1, d2, d3] }
  | _ => none }
def traceFrontsRow : OpenClaim := { program := "ytacfaegljjgneaa", sum := "1084d062568a3ec7759a514ee90487d1789428a617c0aaf30ce9cdf5e37bfeb1", func := "oubliette/oublaw3.TraceFronts", spec := "traceFronts", unfollowed := true, recurses := true, apart := false }
def TraceFrontsSaid : Prop := traceFrontsRow.holds Try.pinned (OpenSpec.ofChange traceFrontsSpec)

/-- ITS FALSE NEIGHBOUR: 'it returns false'. Refute it at one input. -/
def traceFrontsWrong : ChangeSpec := { name := "traceFronts", fn := fun _ => fun
  | [d1, d2, d3] => { results := [.lit (.bool false)], args := [d1, d2, d3] }
  | _ => none }
def TraceFrontsWrongFalsely : Prop := traceFrontsRow.holds Try.pinned (OpenSpec.ofChange traceFrontsWrong)

/-- 'oublaw3.TraceFails': WHATEVER THE INPUT: true; the input reads as it did. -/
def traceFailsSpec : ChangeSpec := { name := "traceFails", fn := fun _ => fun
  | [d] => { results := [.lit (.bool true)], args := [d] }
  | _ => none }
def traceFailsRow : OpenClaim := { program := "ytacfaegljjgneaa", sum := "1084d062568a3ec7759a514ee90487d1789428a617c0aaf30ce9cdf5e37bfeb1", func := "oubliette/oublaw3.TraceFails", spec := "traceFails", unfollowed := true, recurses := true, apart := false }
def TraceFailsSaid : Prop := traceFailsRow.holds Try.pinned (OpenSpec.ofChange traceFailsSpec)

/-- ITS FALSE NEIGHBOUR: 'it returns false'. Refute it at one input. -/
def traceFailsWrong : ChangeSpec := { name := "traceFails", fn := fun _ => fun
  | [d] => { results := [.lit (.bool false)], args := [d] }
  | _ => none }
def TraceFailsWrongFalsely : Prop := traceFailsRow.holds Try.pinned (OpenSpec.ofChange traceFailsWrong)

/-- 'oublaw3.TraceTells': WHATEVER THE INPUT: true; the input reads as it did. -/
def traceTellsSpec : ChangeSpec := { name := "traceTells", fn := fun _ => fun
  | [d1, d2, d3] => { results := [.lit (.bool true)], args := [d1, d2, d3] }
  | _ => none }
def traceTellsRow : OpenClaim := { program := "ytacfaegljjgneaa", sum := "1084d062568a3ec7759a514ee90487d1789428a617c0aaf30ce9cdf5e37bfeb1", func := "oubliette/oublaw3.TraceTells", spec := "traceTells", unfollowed := true, recurses := true, apart := false }
def TraceTellsSaid : Prop := traceTellsRow.holds Try.pinned (OpenSpec.ofChange traceTellsSpec)

/-- ITS FALSE NEIGHBOUR: 'it returns false'. Refute it at one input. -/
def traceTellsWrong : ChangeSpec := { name := "traceTells", fn := fun _ => fun
  | [d1, d2, d3] => { results := [.lit (.bool false)], args := [d1, d2, d3] }
  | _ => none }
def TraceTellsWrongFalsely : Prop := traceTellsRow.holds Try.pinned (OpenSpec.ofChange traceTellsWrong)

/-- 'oublaw3.TraceAgain': WHATEVER THE INPUT: true; the input reads as it did. -/
def traceAgainSpec : ChangeSpec := { name := "traceAgain", fn := fun _ => fun
  | [d1, d2] => { results := [.lit (.bool true)], args := [d1, d2] }
  | _ => none }
def traceAgainRow : OpenClaim := { program := "ytacfaegljjgneaa", sum := "1084d062568a3ec7759a514ee90487d1789428a617c0aaf30ce9cdf5e37bfeb1", func := "oubliette/oublaw3.TraceAgain", spec := "traceAgain", unfollowed := true, recurses := true, apart := false }
def TraceAgainSaid : Prop := traceAgainRow.holds Try.pinned (OpenSpec.ofChange traceAgainSpec)

/-- ITS FALSE NEIGHBOUR: 'it returns false'. Refute it at one input. -/
def traceAgainWrong : ChangeSpec := { name := "traceAgain", fn := fun _ => fun
  | [d1, d2] => { results := [.lit (.bool false)], args := [d1, d2] }
  | _ => none }
def TraceAgainWrongFalsely : Prop := traceAgainRow.holds Try.pinned (OpenSpec.ofChange traceAgainWrong)

/- THE SECOND FORM. 'bulk': how many values and letters a reading holds, each counted each time it is reached (what is shared counts as often as it is met; a slice's spare places count too). A statement '..UptoSaid' is the law's where the arguments, and the package variables that the reading takes, are together of bulk at most 1048576: NARROWER than '..Said'. Prove '..Said' where nothing that the law and all that it calls make is longer than what came in: it says more and counts as full. Else prove '..UptoSaid'. A law counts once. -/
mutual
def uptoBulk {H : Type} : DataW H → Nat
  | .lit (.string bytes) => bytes.length + 1
  | .lit _ => 1
  | .nil => 1
  | .ptr d => uptoBulk d + 1
  | .slice elems spare => uptoBulkAll elems + uptoBulkAll spare + 1
  | .agg parts => uptoBulkAll parts + 1
  | .iface _ d => uptoBulk d + 1
  | .map entries => uptoBulkEntries entries + 1
  | .held _ => 1
def uptoBulkAll {H : Type} : List (DataW H) → Nat
  | [] => 0
  | d :: r => uptoBulk d + uptoBulkAll r
def uptoBulkEntries {H : Type} : List (Lit × DataW H) → Nat
  | [] => 0
  | x :: r => uptoBulkEntry x + uptoBulkEntries r
def uptoBulkEntry {H : Type} : Lit × DataW H → Nat
  | (.string bytes, d) => bytes.length + uptoBulk d + 1
  | (_, d) => uptoBulk d + 1
 end
def uptoSmall : (H : Type) → List (DataW H) → Bool := fun _ ds => decide (uptoBulkAll ds ≤ 1048576)
def OpenSpec.upto (s : _root_.Go.ChangeSpec) : _root_.Go.OpenSpec := { _root_.Go.OpenSpec.ofChange s with cond := some uptoSmall }

/-- 'oublaw2.CellsLast', WHERE WHAT IT READS IS OF BULK AT MOST 1048576: true; the input reads as it did. -/
def cellsLastUptoRow : OpenClaim := { program := "ytacfaegljjgneaa", sum := "1084d062568a3ec7759a514ee90487d1789428a617c0aaf30ce9cdf5e37bfeb1", func := "oubliette/oublaw2.CellsLast", spec := "cellsLast", unfollowed := true, recurses := true, apart := false, narrowed := true }
def CellsLastUptoSaid : Prop := cellsLastUptoRow.holds Try.pinned (OpenSpec.upto cellsLastSpec)

/-- 'oublaw2.CellsOwn', WHERE WHAT IT READS IS OF BULK AT MOST 1048576: true; the input reads as it did. -/
def cellsOwnUptoRow : OpenClaim := { program := "ytacfaegljjgneaa", sum := "1084d062568a3ec7759a514ee90487d1789428a617c0aaf30ce9cdf5e37bfeb1", func := "oubliette/oublaw2.CellsOwn", spec := "cellsOwn", unfollowed := true, recurses := true, apart := false, narrowed := true }
def CellsOwnUptoSaid : Prop := cellsOwnUptoRow.holds Try.pinned (OpenSpec.upto cellsOwnSpec)

/-- 'oublaw2.CellsSure', WHERE WHAT IT READS IS OF BULK AT MOST 1048576: true; the input reads as it did. -/
def cellsSureUptoRow : OpenClaim := { program := "ytacfaegljjgneaa", sum := "1084d062568a3ec7759a514ee90487d1789428a617c0aaf30ce9cdf5e37bfeb1", func := "oubliette/oublaw2.CellsSure", spec := "cellsSure", unfollowed := true, recurses := true, apart := false, narrowed := true }
def CellsSureUptoSaid : Prop := cellsSureUptoRow.holds Try.pinned (OpenSpec.upto cellsSureSpec)

/-- 'oublaw2.CellsArmed', WHERE WHAT IT READS IS OF BULK AT MOST 1048576: true; the input reads as it did. -/
def cellsArmedUptoRow : OpenClaim := { program := "ytacfaegljjgneaa", sum := "1084d062568a3ec7759a514ee90487d1789428a617c0aaf30ce9cdf5e37bfeb1", func := "oubliette/oublaw2.CellsArmed", spec := "cellsArmed", unfollowed := true, recurses := true, apart := false, narrowed := true }
def CellsArmedUptoSaid : Prop := cellsArmedUptoRow.holds Try.pinned (OpenSpec.upto cellsArmedSpec)

/-- 'oublaw2.CellsPlay', WHERE WHAT IT READS IS OF BULK AT MOST 1048576: true; the input reads as it did. -/
def cellsPlayUptoRow : OpenClaim := { program := "ytacfaegljjgneaa", sum := "1084d062568a3ec7759a514ee90487d1789428a617c0aaf30ce9cdf5e37bfeb1", func := "oubliette/oublaw2.CellsPlay", spec := "cellsPlay", unfollowed := true, recurses := true, apart := false, narrowed := true }
def CellsPlayUptoSaid : Prop := cellsPlayUptoRow.holds Try.pinned (OpenSpec.upto cellsPlaySpec)

/-- 'oublaw3.TraceCompares', WHERE WHAT IT READS IS OF BULK AT MOST 1048576: true; the input reads as it did. -/
def traceComparesUptoRow : OpenClaim := { program := "ytacfaegljjgneaa", sum := "1084d062568a3ec7759a514ee90487d1789428a617c0aaf30ce9cdf5e37bfeb1", func := "oubliette/oublaw3.TraceCompares", spec := "traceCompares", unfollowed := true, recurses := true, apart := false, narrowed := true }
def TraceComparesUptoSaid : Prop := traceComparesUptoRow.holds Try.pinned (OpenSpec.upto traceComparesSpec)

/-- 'oublaw3.TraceFronts', WHERE WHAT IT READS IS OF BULK AT MOST 1048576: true; the input reads as it did. -/
def traceFrontsUptoRow : OpenClaim := { program := "ytacfaegljjgneaa", sum := "1084d062568a3ec7759a514ee90487d1789428a617c0aaf30ce9cdf5e37bfeb1", func := "oubliette/oublaw3.TraceFronts", spec := "traceFronts", unfollowed := true, recurses := true, apart := false, narrowed := true }
def TraceFrontsUptoSaid : Prop := traceFrontsUptoRow.holds Try.pinned (OpenSpec.upto traceFrontsSpec)

/-- 'oublaw3.TraceFails', WHERE WHAT IT READS IS OF BULK AT MOST 1048576: true; the input reads as it did. -/
def traceFailsUptoRow : OpenClaim := { program := "ytacfaegljjgneaa", sum := "1084d062568a3ec7759a514ee90487d1789428a617c0aaf30ce9cdf5e37bfeb1", func := "oubliette/oublaw3.TraceFails", spec := "traceFails", unfollowed := true, recurses := true, apart := false, narrowed := true }
def TraceFailsUptoSaid : Prop := traceFailsUptoRow.holds Try.pinned (OpenSpec.upto traceFailsSpec)

/-- 'oublaw3.TraceTells', WHERE WHAT IT READS IS OF BULK AT MOST 1048576: true; the input reads as it did. -/
def traceTellsUptoRow : OpenClaim := { program := "ytacfaegljjgneaa", sum := "1084d062568a3ec7759a514ee90487d1789428a617c0aaf30ce9cdf5e37bfeb1", func := "oubliette/oublaw3.TraceTells", spec := "traceTells", unfollowed := true, recurses := true, apart := false, narrowed := true }
def TraceTellsUptoSaid : Prop := traceTellsUptoRow.holds Try.pinned (OpenSpec.upto traceTellsSpec)

/-- 'oublaw3.TraceAgain', WHERE WHAT IT READS IS OF BULK AT MOST 1048576: true; the input reads as it did. -/
def traceAgainUptoRow : OpenClaim := { program := "ytacfaegljjgneaa", sum := "1084d062568a3ec7759a514ee90487d1789428a617c0aaf30ce9cdf5e37bfeb1", func := "oubliette/oublaw3.TraceAgain", spec := "traceAgain", unfollowed := true, recurses := true, apart := false, narrowed := true }
def TraceAgainUptoSaid : Prop := traceAgainUptoRow.holds Try.pinned (OpenSpec.upto traceAgainSpec)

end Rows
end Go.Proofs.Ytacfaegljjgneaa
