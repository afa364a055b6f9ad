/-
  No cell of these rows narrows 'for every input' (looked for: loops, veiled, ifaces, maps, wideKeys, modest, calm, conditions, laid).
  DERIVED. THE GIVEN ROWS OF THIS SEAT. 9 by the template 'for every input the law returns true; each argument reads behind the call as it read before'; 0 by the template 'total and deterministic' (their statements: YtfphpnccmkggfaaTotals.lean).
  GIVEN WITH THE SEED: the statements are not yours to turn. If you find one false, say at which input.
  Laid BY PROGRAM, IN A SANDBOX (cutbox-rows.mjs): the forced cells as the released guide's own fill.sh prints them over the translation 2478c9562ad6585d… (all of the seat's roots in one cut). By AI agents, Wed Nov 11 2026. No macro, syntax, notation, axiom, sorry.
-/
import Derived.Test.YtfphpnccmkggfaaChecked
import GoSem.Claim
import GoSem.ClaimJoined
import GoSem.ClaimMapViews
import Derived.JoinedTies
import Derived.KernelRfl
namespace Go.Proofs.Ytfphpnccmkggfaa
/- THE CELL 'sum', in the pinned program and in every row, IS THE sha256 OF THE DUMP (.gsa) THAT YtfphpnccmkggfaaProg.lean LOADS. Nothing in Lean hashes anything: it is a label: what it is worth is what the hold of that sum in a sandbox is worth. -/
noncomputable def Try.pinned : Pinned := { name := "ytfphpnccmkggfaa", sum := "2478c9562ad6585d99975146ecbfdd2cc3d71a52ec8c614367e2e7681bd9ed73", checked := Try.checked }
namespace Rows
def none {H : Type} : Left H := { results := [], args := [] }

/-- 'oublaw12.VersOrder': WHATEVER THE INPUT: true; the input reads as it did. -/
def versOrderSpec : ChangeSpec := { name := "versOrder", fn := fun _ => fun
  | [d1, d2, d3] => { results := [.lit (.bool true)], args := [d1, d2, d3] }
  | _ => none }
def versOrderRow : OpenClaim := { program := "ytfphpnccmkggfaa", sum := "2478c9562ad6585d99975146ecbfdd2cc3d71a52ec8c614367e2e7681bd9ed73", func := "oubliette/oublaw12.VersOrder", spec := "versOrder", apart := false }
def VersOrderSaid : Prop := versOrderRow.holds Try.pinned (OpenSpec.ofChange versOrderSpec)

/-- ITS FALSE NEIGHBOUR: 'it returns false'. Refute it at one input. -/
def versOrderWrong : ChangeSpec := { name := "versOrder", fn := fun _ => fun
  | [d1, d2, d3] => { results := [.lit (.bool false)], args := [d1, d2, d3] }
  | _ => none }
def VersOrderWrongFalsely : Prop := versOrderRow.holds Try.pinned (OpenSpec.ofChange versOrderWrong)

/-- 'oublaw12.VersOwn': WHATEVER THE INPUT: true; the input reads as it did. -/
def versOwnSpec : ChangeSpec := { name := "versOwn", fn := fun _ => fun
  | [d1, d2] => { results := [.lit (.bool true)], args := [d1, d2] }
  | _ => none }
def versOwnRow : OpenClaim := { program := "ytfphpnccmkggfaa", sum := "2478c9562ad6585d99975146ecbfdd2cc3d71a52ec8c614367e2e7681bd9ed73", func := "oubliette/oublaw12.VersOwn", spec := "versOwn", apart := false }
def VersOwnSaid : Prop := versOwnRow.holds Try.pinned (OpenSpec.ofChange versOwnSpec)

/-- ITS FALSE NEIGHBOUR: 'it returns false'. Refute it at one input. -/
def versOwnWrong : ChangeSpec := { name := "versOwn", fn := fun _ => fun
  | [d1, d2] => { results := [.lit (.bool false)], args := [d1, d2] }
  | _ => none }
def VersOwnWrongFalsely : Prop := versOwnRow.holds Try.pinned (OpenSpec.ofChange versOwnWrong)

/-- 'oublaw12.VersPlays': WHATEVER THE INPUT: true; the input reads as it did. -/
def versPlaysSpec : ChangeSpec := { name := "versPlays", fn := fun _ => fun
  | [d1, d2] => { results := [.lit (.bool true)], args := [d1, d2] }
  | _ => none }
def versPlaysRow : OpenClaim := { program := "ytfphpnccmkggfaa", sum := "2478c9562ad6585d99975146ecbfdd2cc3d71a52ec8c614367e2e7681bd9ed73", func := "oubliette/oublaw12.VersPlays", spec := "versPlays", apart := false }
def VersPlaysSaid : Prop := versPlaysRow.holds Try.pinned (OpenSpec.ofChange versPlaysSpec)

/-- ITS FALSE NEIGHBOUR: 'it returns false'. Refute it at one input. -/
def versPlaysWrong : ChangeSpec := { name := "versPlays", fn := fun _ => fun
  | [d1, d2] => { results := [.lit (.bool false)], args := [d1, d2] }
  | _ => none }
def VersPlaysWrongFalsely : Prop := versPlaysRow.holds Try.pinned (OpenSpec.ofChange versPlaysWrong)

/-- 'oublaw12.VersReads': WHATEVER THE INPUT: true; the input reads as it did. -/
def versReadsSpec : ChangeSpec := { name := "versReads", fn := fun _ => fun
  | [d1, d2] => { results := [.lit (.bool true)], args := [d1, d2] }
  | _ => none }
def versReadsRow : OpenClaim := { program := "ytfphpnccmkggfaa", sum := "2478c9562ad6585d99975146ecbfdd2cc3d71a52ec8c614367e2e7681bd9ed73", func := "oubliette/oublaw12.VersReads", spec := "versReads", apart := false }
def VersReadsSaid : Prop := versReadsRow.holds Try.pinned (OpenSpec.ofChange versReadsSpec)

/-- ITS FALSE NEIGHBOUR: 'it returns false'. Refute it at one input. -/
def versReadsWrong : ChangeSpec := { name := "versReads", fn := fun _ => fun
  | [d1, d2] => { results := [.lit (.bool false)], args := [d1, d2] }
  | _ => none }
def VersReadsWrongFalsely : Prop := versReadsRow.holds Try.pinned (OpenSpec.ofChange versReadsWrong)

/-- 'oublaw18.IdsPlay': WHATEVER THE INPUT: true; the input reads as it did. -/
def idsPlaySpec : ChangeSpec := { name := "idsPlay", fn := fun _ => fun
  | [d1, d2, d3, d4] => { results := [.lit (.bool true)], args := [d1, d2, d3, d4] }
  | _ => none }
def idsPlayRow : OpenClaim := { program := "ytfphpnccmkggfaa", sum := "2478c9562ad6585d99975146ecbfdd2cc3d71a52ec8c614367e2e7681bd9ed73", func := "oubliette/oublaw18.IdsPlay", spec := "idsPlay", apart := false }
def IdsPlaySaid : Prop := idsPlayRow.holds Try.pinned (OpenSpec.ofChange idsPlaySpec)

/-- ITS FALSE NEIGHBOUR: 'it returns false'. Refute it at one input. -/
def idsPlayWrong : ChangeSpec := { name := "idsPlay", fn := fun _ => fun
  | [d1, d2, d3, d4] => { results := [.lit (.bool false)], args := [d1, d2, d3, d4] }
  | _ => none }
def IdsPlayWrongFalsely : Prop := idsPlayRow.holds Try.pinned (OpenSpec.ofChange idsPlayWrong)

/-- 'oublaw18.IdsOnce': WHATEVER THE INPUT: true; the input reads as it did. -/
def idsOnceSpec : ChangeSpec := { name := "idsOnce", fn := fun _ => fun
  | [d1, d2] => { results := [.lit (.bool true)], args := [d1, d2] }
  | _ => none }
def idsOnceRow : OpenClaim := { program := "ytfphpnccmkggfaa", sum := "2478c9562ad6585d99975146ecbfdd2cc3d71a52ec8c614367e2e7681bd9ed73", func := "oubliette/oublaw18.IdsOnce", spec := "idsOnce", apart := false }
def IdsOnceSaid : Prop := idsOnceRow.holds Try.pinned (OpenSpec.ofChange idsOnceSpec)

/-- ITS FALSE NEIGHBOUR: 'it returns false'. Refute it at one input. -/
def idsOnceWrong : ChangeSpec := { name := "idsOnce", fn := fun _ => fun
  | [d1, d2] => { results := [.lit (.bool false)], args := [d1, d2] }
  | _ => none }
def IdsOnceWrongFalsely : Prop := idsOnceRow.holds Try.pinned (OpenSpec.ofChange idsOnceWrong)

/-- 'oublaw18.IdsLeast': WHATEVER THE INPUT: true; the input reads as it did. -/
def idsLeastSpec : ChangeSpec := { name := "idsLeast", fn := fun _ => fun
  | [d1, d2] => { results := [.lit (.bool true)], args := [d1, d2] }
  | _ => none }
def idsLeastRow : OpenClaim := { program := "ytfphpnccmkggfaa", sum := "2478c9562ad6585d99975146ecbfdd2cc3d71a52ec8c614367e2e7681bd9ed73", func := "oubliette/oublaw18.IdsLeast", spec := "idsLeast", apart := false }
def IdsLeastSaid : Prop := idsLeastRow.holds Try.pinned (OpenSpec.ofChange idsLeastSpec)

/-- ITS FALSE NEIGHBOUR: 'it returns false'. Refute it at one input. -/
def idsLeastWrong : ChangeSpec := { name := "idsLeast", fn := fun _ => fun
  | [d1, d2] => { results := [.lit (.bool false)], args := [d1, d2] }
  | _ => none }
def IdsLeastWrongFalsely : Prop := idsLeastRow.holds Try.pinned (OpenSpec.ofChange idsLeastWrong)

/-- 'oublaw18.IdsAll': WHATEVER THE INPUT: true; the input reads as it did. -/
def idsAllSpec : ChangeSpec := { name := "idsAll", fn := fun _ => fun
  | [d1, d2, d3] => { results := [.lit (.bool true)], args := [d1, d2, d3] }
  | _ => none }
def idsAllRow : OpenClaim := { program := "ytfphpnccmkggfaa", sum := "2478c9562ad6585d99975146ecbfdd2cc3d71a52ec8c614367e2e7681bd9ed73", func := "oubliette/oublaw18.IdsAll", spec := "idsAll", apart := false }
def IdsAllSaid : Prop := idsAllRow.holds Try.pinned (OpenSpec.ofChange idsAllSpec)

/-- ITS FALSE NEIGHBOUR: 'it returns false'. Refute it at one input. -/
def idsAllWrong : ChangeSpec := { name := "idsAll", fn := fun _ => fun
  | [d1, d2, d3] => { results := [.lit (.bool false)], args := [d1, d2, d3] }
  | _ => none }
def IdsAllWrongFalsely : Prop := idsAllRow.holds Try.pinned (OpenSpec.ofChange idsAllWrong)

/-- 'oublaw12.VersTwice': WHATEVER THE INPUT: true; the input reads as it did. -/
def versTwiceSpec : ChangeSpec := { name := "versTwice", fn := fun _ => fun
  | [d1, d2, d3] => { results := [.lit (.bool true)], args := [d1, d2, d3] }
  | _ => none }
def versTwiceRow : OpenClaim := { program := "ytfphpnccmkggfaa", sum := "2478c9562ad6585d99975146ecbfdd2cc3d71a52ec8c614367e2e7681bd9ed73", func := "oubliette/oublaw12.VersTwice", spec := "versTwice", apart := false }
def VersTwiceSaid : Prop := versTwiceRow.holds Try.pinned (OpenSpec.ofChange versTwiceSpec)

/-- ITS FALSE NEIGHBOUR: 'it returns false'. Refute it at one input. -/
def versTwiceWrong : ChangeSpec := { name := "versTwice", fn := fun _ => fun
  | [d1, d2, d3] => { results := [.lit (.bool false)], args := [d1, d2, d3] }
  | _ => none }
def VersTwiceWrongFalsely : Prop := versTwiceRow.holds Try.pinned (OpenSpec.ofChange versTwiceWrong)

/- THE SECOND FORM. 'bulk': how many values and letters a reading holds, each counted each time it is reached (what is shared counts as often as it is met; a slice's spare places count too). A statement '..UptoSaid' is the law's where the arguments, and the package variables that the reading takes, are together of bulk at most 1048576: NARROWER than '..Said'. Prove '..Said' where nothing that the law and all that it calls make is longer than what came in: it says more and counts as full. Else prove '..UptoSaid'. A law counts once. -/
mutual
def uptoBulk {H : Type} : DataW H → Nat
  | .lit (.string bytes) => bytes.length + 1
  | .lit _ => 1
  | .nil => 1
  | .ptr d => uptoBulk d + 1
  | .slice elems spare => uptoBulkAll elems + uptoBulkAll spare + 1
  | .agg parts => uptoBulkAll parts + 1
  | .iface _ d => uptoBulk d + 1
  | .map entries => uptoBulkEntries entries + 1
  | .held _ => 1
def uptoBulkAll {H : Type} : List (DataW H) → Nat
  | [] => 0
  | d :: r => uptoBulk d + uptoBulkAll r
def uptoBulkEntries {H : Type} : List (Lit × DataW H) → Nat
  | [] => 0
  | x :: r => uptoBulkEntry x + uptoBulkEntries r
def uptoBulkEntry {H : Type} : Lit × DataW H → Nat
  | (.string bytes, d) => bytes.length + uptoBulk d + 1
  | (_, d) => uptoBulk d + 1
 end
def uptoSmall : (H : Type) → List (DataW H) → Bool := fun _ ds => decide (uptoBulkAll ds ≤ 1048576)
def OpenSpec.upto (s : _root_.Go.ChangeSpec) : _root_.Go.OpenSpec := { _root_.Go.OpenSpec.ofChange s with cond := some uptoSmall }

/-- 'oublaw12.VersOrder', WHERE WHAT IT READS IS OF BULK AT MOST 1048576: true; the input reads as it did. -/
def versOrderUptoRow : OpenClaim := { program := "ytfphpnccmkggfaa", sum := "2478c9562ad6585d99975146ecbfdd2cc3d71a52ec8c614367e2e7681bd9ed73", func := "oubliette/oublaw12.VersOrder", spec := "versOrder", apart := false, narrowed := true }
def VersOrderUptoSaid : Prop := versOrderUptoRow.holds Try.pinned (OpenSpec.upto versOrderSpec)

/-- 'oublaw12.VersOwn', WHERE WHAT IT READS IS OF BULK AT MOST 1048576: true; the input reads as it did. -/
def versOwnUptoRow : OpenClaim := { program := "ytfphpnccmkggfaa", sum := "2478c9562ad6585d99975146ecbfdd2cc3d71a52ec8c614367e2e7681bd9ed73", func := "oubliette/oublaw12.VersOwn", spec := "versOwn", apart := false, narrowed := true }
def VersOwnUptoSaid : Prop := versOwnUptoRow.holds Try.pinned (OpenSpec.upto versOwnSpec)

/-- 'oublaw12.VersPlays', WHERE WHAT IT READS IS OF BULK AT MOST 1048576: true; the input reads as it did. -/
def versPlaysUptoRow : OpenClaim := { program := "ytfphpnccmkggfaa", sum := "2478c9562ad6585d99975146ecbfdd2cc3d71a52ec8c614367e2e7681bd9ed73", func := "oubliette/oublaw12.VersPlays", spec := "versPlays", apart := false, narrowed := true }
def VersPlaysUptoSaid : Prop := versPlaysUptoRow.holds Try.pinned (OpenSpec.upto versPlaysSpec)

/-- 'oublaw12.VersReads', WHERE WHAT IT READS IS OF BULK AT MOST 1048576: true; the input reads as it did. -/
def versReadsUptoRow : OpenClaim := { program := "ytfphpnccmkggfaa", sum := "2478c9562ad6585d99975146ecbfdd2cc3d71a52ec8c614367e2e7681bd9ed73", func := "oubliette/oublaw12.VersReads", spec := "versReads", apart := false, narrowed := true }
def VersReadsUptoSaid : Prop := versReadsUptoRow.holds Try.pinned (OpenSpec.upto versReadsSpec)

/-- 'oublaw18.IdsPlay', WHERE WHAT IT READS IS OF BULK AT MOST 1048576: true; the input reads as it did. -/
def idsPlayUptoRow : OpenClaim := { program := "ytfphpnccmkggfaa", sum := "2478c9562ad6585d99975146ecbfdd2cc3d71a52ec8c614367e2e7681bd9ed73", func := "oubliette/oublaw18.IdsPlay", spec := "idsPlay", apart := false, narrowed := true }
def IdsPlayUptoSaid : Prop := idsPlayUptoRow.holds Try.pinned (OpenSpec.upto idsPlaySpec)

/-- 'oublaw18.IdsOnce', WHERE WHAT IT READS IS OF BULK AT MOST 1048576: true; the input reads as it did. -/
def idsOnceUptoRow : OpenClaim := { program := "ytfphpnccmkggfaa", sum := "2478c9562ad6585d99975146ecbfdd2cc3d71a52ec8c614367e2e7681bd9ed73", func := "oubliette/oublaw18.IdsOnce", spec := "idsOnce", apart := false, narrowed := true }
def IdsOnceUptoSaid : Prop := idsOnceUptoRow.holds Try.pinned (OpenSpec.upto idsOnceSpec)

/-- 'oublaw18.IdsLeast', WHERE WHAT IT READS IS OF BULK AT MOST 1048576: true; the input reads as it did. -/
def idsLeastUptoRow : OpenClaim := { program := "ytfphpnccmkggfaa", sum := "2478c9562ad6585d99975146ecbfdd2cc3d71a52ec8c614367e2e7681bd9ed73", func := "oubliette/oublaw18.IdsLeast", spec := "idsLeast", apart := false, narrowed := true }
def IdsLeastUptoSaid : Prop := idsLeastUptoRow.holds Try.pinned (OpenSpec.upto idsLeastSpec)

/-- 'oublaw18.IdsAll', WHERE WHAT IT READS IS OF BULK AT MOST 1048576: true; the input reads as it did. -/
def idsAllUptoRow : OpenClaim := { program := "ytfphpnccmkggfaa", sum := "2478c9562ad6585d99975146ecbfdd2cc3d71a52ec8c614367e2e7681bd9ed73", func := "oubliette/oublaw18.IdsAll", spec := "idsAll", apart := false, narrowed := true }
def IdsAllUptoSaid : Prop := idsAllUptoRow.holds Try.pinned (OpenSpec.upto idsAllSpec)

/-- 'oublaw12.VersTwice', WHERE WHAT IT READS IS OF BULK AT MOST 1048576: true; the input reads as it did. -/
def versTwiceUptoRow : OpenClaim := { program := "ytfphpnccmkggfaa", sum := "2478c9562ad6585d99975146ecbfdd2cc3d71a52ec8c614367e2e7681bd9ed73", func := "oubliette/oublaw12.VersTwice", spec := "versTwice", apart := false, narrowed := true }
def VersTwiceUptoSaid : Prop := versTwiceUptoRow.holds Try.pinned (OpenSpec.upto versTwiceSpec)

end Rows
end Go.Proofs.Ytfphpnccmkggfaa
