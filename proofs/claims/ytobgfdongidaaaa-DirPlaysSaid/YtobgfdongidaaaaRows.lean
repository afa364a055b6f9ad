/-
  No cell of these rows narrows 'for every input' (looked for: loops, veiled, ifaces, maps, wideKeys, modest, calm, conditions, laid).
  DERIVED. THE GIVEN ROWS OF THIS SEAT. 4 by the template 'for every input the law returns true; each argument reads behind the call as it read before'; 0 by the template 'total and deterministic' (their statements: YtobgfdongidaaaaTotals.lean).
  GIVEN WITH THE SEED: the statements are not yours to turn. If you find one false, say at which input.
  Laid BY PROGRAM, IN A SANDBOX (cutbox-rows.mjs): the forced cells as the released guide's own fill.sh prints them over the translation b7c392146de169ea… (all of the seat's roots in one cut). By AI agents, Wed Nov 11 2026. No macro, syntax, notation, axiom, sorry.
-/
import Derived.Test.YtobgfdongidaaaaChecked
import GoSem.Claim
import GoSem.ClaimJoined
import GoSem.ClaimMapViews
import Derived.JoinedTies
import Derived.KernelRfl
namespace Go.Proofs.Ytobgfdongidaaaa
/- THE CELL 'sum', in the pinned program and in every row, IS THE sha256 OF THE DUMP (.gsa) THAT YtobgfdongidaaaaProg.lean LOADS. Nothing in Lean hashes anything: it is a label: what it is worth is what the hold of that sum in a sandbox is worth. -/
noncomputable def Try.pinned : Pinned := { name := "ytobgfdongidaaaa", sum := "b7c392146de169eafd1eaf8668bd2390b63dc464d55888e75e449cf428ac2d8f", checked := Try.checked }
namespace Rows
def none {H : Type} : Left H := { results := [], args := [] }

/-- 'oublaw17.DirRanges': WHATEVER THE INPUT: true; the input reads as it did. -/
def dirRangesSpec : ChangeSpec := { name := "dirRanges", fn := fun _ => fun
  | [d1, d2, d3, d4, d5, d6] => { results := [.lit (.bool true)], args := [d1, d2, d3, d4, d5, d6] }
  | _ => none }
def dirRangesRow : OpenClaim := { program := "ytobgfdongidaaaa", sum := "b7c392146de169eafd1eaf8668bd2390b63dc464d55888e75e449cf428ac2d8f", func := "oubliette/oublaw17.DirRanges", spec := "dirRanges", inPlace := ["internal/bytealg.abigen_runtime_cmpstring", "slices.overlaps[oubliette/dir.Entry]", "slices.overlaps[*oubliette/dir.node]"], unfollowed := true, recurses := true, apart := false }
def DirRangesSaid : Prop := dirRangesRow.holds Try.pinned (OpenSpec.ofChange dirRangesSpec)

/-- ITS FALSE NEIGHBOUR: 'it returns false'. Refute it at one input. -/
def dirRangesWrong : ChangeSpec := { name := "dirRanges", fn := fun _ => fun
  | [d1, d2, d3, d4, d5, d6] => { results := [.lit (.bool false)], args := [d1, d2, d3, d4, d5, d6] }
  | _ => none }
def DirRangesWrongFalsely : Prop := dirRangesRow.holds Try.pinned (OpenSpec.ofChange dirRangesWrong)

/-- 'oublaw17.DirOrder': WHATEVER THE INPUT: true; the input reads as it did. -/
def dirOrderSpec : ChangeSpec := { name := "dirOrder", fn := fun _ => fun
  | [d1, d2, d3] => { results := [.lit (.bool true)], args := [d1, d2, d3] }
  | _ => none }
def dirOrderRow : OpenClaim := { program := "ytobgfdongidaaaa", sum := "b7c392146de169eafd1eaf8668bd2390b63dc464d55888e75e449cf428ac2d8f", func := "oubliette/oublaw17.DirOrder", spec := "dirOrder", inPlace := ["internal/bytealg.abigen_runtime_cmpstring", "slices.overlaps[oubliette/dir.Entry]", "slices.overlaps[*oubliette/dir.node]"], unfollowed := true, recurses := true, apart := false }
def DirOrderSaid : Prop := dirOrderRow.holds Try.pinned (OpenSpec.ofChange dirOrderSpec)

/-- ITS FALSE NEIGHBOUR: 'it returns false'. Refute it at one input. -/
def dirOrderWrong : ChangeSpec := { name := "dirOrder", fn := fun _ => fun
  | [d1, d2, d3] => { results := [.lit (.bool false)], args := [d1, d2, d3] }
  | _ => none }
def DirOrderWrongFalsely : Prop := dirOrderRow.holds Try.pinned (OpenSpec.ofChange dirOrderWrong)

/-- 'oublaw17.DirMap': WHATEVER THE INPUT: true; the input reads as it did. -/
def dirMapSpec : ChangeSpec := { name := "dirMap", fn := fun _ => fun
  | [d1, d2] => { results := [.lit (.bool true)], args := [d1, d2] }
  | _ => none }
def dirMapRow : OpenClaim := { program := "ytobgfdongidaaaa", sum := "b7c392146de169eafd1eaf8668bd2390b63dc464d55888e75e449cf428ac2d8f", func := "oubliette/oublaw17.DirMap", spec := "dirMap", inPlace := ["internal/bytealg.abigen_runtime_cmpstring", "slices.overlaps[oubliette/dir.Entry]", "slices.overlaps[*oubliette/dir.node]"], unfollowed := true, recurses := true, apart := false }
def DirMapSaid : Prop := dirMapRow.holds Try.pinned (OpenSpec.ofChange dirMapSpec)

/-- ITS FALSE NEIGHBOUR: 'it returns false'. Refute it at one input. -/
def dirMapWrong : ChangeSpec := { name := "dirMap", fn := fun _ => fun
  | [d1, d2] => { results := [.lit (.bool false)], args := [d1, d2] }
  | _ => none }
def DirMapWrongFalsely : Prop := dirMapRow.holds Try.pinned (OpenSpec.ofChange dirMapWrong)

/-- 'oublaw17.DirPlays': WHATEVER THE INPUT: true; the input reads as it did. -/
def dirPlaysSpec : ChangeSpec := { name := "dirPlays", fn := fun _ => fun
  | [d1, d2] => { results := [.lit (.bool true)], args := [d1, d2] }
  | _ => none }
def dirPlaysRow : OpenClaim := { program := "ytobgfdongidaaaa", sum := "b7c392146de169eafd1eaf8668bd2390b63dc464d55888e75e449cf428ac2d8f", func := "oubliette/oublaw17.DirPlays", spec := "dirPlays", inPlace := ["internal/bytealg.abigen_runtime_cmpstring", "slices.overlaps[oubliette/dir.Entry]", "slices.overlaps[*oubliette/dir.node]"], unfollowed := true, recurses := true, apart := false }
def DirPlaysSaid : Prop := dirPlaysRow.holds Try.pinned (OpenSpec.ofChange dirPlaysSpec)

/-- ITS FALSE NEIGHBOUR: 'it returns false'. Refute it at one input. -/
def dirPlaysWrong : ChangeSpec := { name := "dirPlays", fn := fun _ => fun
  | [d1, d2] => { results := [.lit (.bool false)], args := [d1, d2] }
  | _ => none }
def DirPlaysWrongFalsely : Prop := dirPlaysRow.holds Try.pinned (OpenSpec.ofChange dirPlaysWrong)

/- THE SECOND FORM. 'bulk': how many values and letters a reading holds, each counted each time it is reached (what is shared counts as often as it is met; a slice's spare places count too). A statement '..UptoSaid' is the law's where the arguments, and the package variables that the reading takes, are together of bulk at most 1048576: NARROWER than '..Said'. Prove '..Said' where nothing that the law and all that it calls make is longer than what came in: it says more and counts as full. Else prove '..UptoSaid'. A law counts once. -/
mutual
def uptoBulk {H : Type} : DataW H → Nat
  | .lit (.string bytes) => bytes.length + 1
  | .lit _ => 1
  | .nil => 1
  | .ptr d => uptoBulk d + 1
  | .slice elems spare => uptoBulkAll elems + uptoBulkAll spare + 1
  | .agg parts => uptoBulkAll parts + 1
  | .iface _ d => uptoBulk d + 1
  | .map entries => uptoBulkEntries entries + 1
  | .held _ => 1
def uptoBulkAll {H : Type} : List (DataW H) → Nat
  | [] => 0
  | d :: r => uptoBulk d + uptoBulkAll r
def uptoBulkEntries {H : Type} : List (Lit × DataW H) → Nat
  | [] => 0
  | x :: r => uptoBulkEntry x + uptoBulkEntries r
def uptoBulkEntry {H : Type} : Lit × DataW H → Nat
  | (.string bytes, d) => bytes.length + uptoBulk d + 1
  | (_, d) => uptoBulk d + 1
 end
def uptoSmall : (H : Type) → List (DataW H) → Bool := fun _ ds => decide (uptoBulkAll ds ≤ 1048576)
def OpenSpec.upto (s : _root_.Go.ChangeSpec) : _root_.Go.OpenSpec := { _root_.Go.OpenSpec.ofChange s with cond := some uptoSmall }

/-- 'oublaw17.DirRanges', WHERE WHAT IT READS IS OF BULK AT MOST 1048576: true; the input reads as it did. -/
def dirRangesUptoRow : OpenClaim := { program := "ytobgfdongidaaaa", sum := "b7c392146de169eafd1eaf8668bd2390b63dc464d55888e75e449cf428ac2d8f", func := "oubliette/oublaw17.DirRanges", spec := "dirRanges", inPlace := ["internal/bytealg.abigen_runtime_cmpstring", "slices.overlaps[oubliette/dir.Entry]", "slices.overlaps[*oubliette/dir.node]"], unfollowed := true, recurses := true, apart := false, narrowed := true }
def DirRangesUptoSaid : Prop := dirRangesUptoRow.holds Try.pinned (OpenSpec.upto dirRangesSpec)

/-- 'oublaw17.DirOrder', WHERE WHAT IT READS IS OF BULK AT MOST 1048576: true; the input reads as it did. -/
def dirOrderUptoRow : OpenClaim := { program := "ytobgfdongidaaaa", sum := "b7c392146de169eafd1eaf8668bd2390b63dc464d55888e75e449cf428ac2d8f", func := "oubliette/oublaw17.DirOrder", spec := "dirOrder", inPlace := ["internal/bytealg.abigen_runtime_cmpstring", "slices.overlaps[oubliette/dir.Entry]", "slices.overlaps[*oubliette/dir.node]"], unfollowed := true, recurses := true, apart := false, narrowed := true }
def DirOrderUptoSaid : Prop := dirOrderUptoRow.holds Try.pinned (OpenSpec.upto dirOrderSpec)

/-- 'oublaw17.DirMap', WHERE WHAT IT READS IS OF BULK AT MOST 1048576: true; the input reads as it did. -/
def dirMapUptoRow : OpenClaim := { program := "ytobgfdongidaaaa", sum := "b7c392146de169eafd1eaf8668bd2390b63dc464d55888e75e449cf428ac2d8f", func := "oubliette/oublaw17.DirMap", spec := "dirMap", inPlace := ["internal/bytealg.abigen_runtime_cmpstring", "slices.overlaps[oubliette/dir.Entry]", "slices.overlaps[*oubliette/dir.node]"], unfollowed := true, recurses := true, apart := false, narrowed := true }
def DirMapUptoSaid : Prop := dirMapUptoRow.holds Try.pinned (OpenSpec.upto dirMapSpec)

/-- 'oublaw17.DirPlays', WHERE WHAT IT READS IS OF BULK AT MOST 1048576: true; the input reads as it did. -/
def dirPlaysUptoRow : OpenClaim := { program := "ytobgfdongidaaaa", sum := "b7c392146de169eafd1eaf8668bd2390b63dc464d55888e75e449cf428ac2d8f", func := "oubliette/oublaw17.DirPlays", spec := "dirPlays", inPlace := ["internal/bytealg.abigen_runtime_cmpstring", "slices.overlaps[oubliette/dir.Entry]", "slices.overlaps[*oubliette/dir.node]"], unfollowed := true, recurses := true, apart := false, narrowed := true }
def DirPlaysUptoSaid : Prop := dirPlaysUptoRow.holds Try.pinned (OpenSpec.upto dirPlaysSpec)

end Rows
end Go.Proofs.Ytobgfdongidaaaa
