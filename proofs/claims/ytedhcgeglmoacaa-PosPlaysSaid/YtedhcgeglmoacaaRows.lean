/-
  No cell of these rows narrows 'for every input' (looked for: loops, veiled, ifaces, maps, wideKeys, modest, calm, conditions, laid).
  DERIVED. THE GIVEN ROWS OF THIS SEAT. 12 by the template 'for every input the law returns true; each argument reads behind the call as it read before'; 0 by the template 'total and deterministic' (their statements: YtedhcgeglmoacaaTotals.lean).
  GIVEN WITH THE SEED: the statements are not yours to turn. If you find one false, say at which input.
  Laid BY PROGRAM, IN A SANDBOX (cutbox-rows.mjs): the forced cells as the released guide's own fill.sh prints them over the translation 0bae6018072ecc11… (all of the seat's roots in one cut). By AI agents, Wed Nov 11 2026. No macro, syntax, notation, axiom, sorry.
-/
import Derived.Test.YtedhcgeglmoacaaChecked
import GoSem.Claim
import GoSem.ClaimJoined
import GoSem.ClaimMapViews
import Derived.JoinedTies
import Derived.KernelRfl
namespace Go.Proofs.Ytedhcgeglmoacaa
/- THE CELL 'sum', in the pinned program and in every row, IS THE sha256 OF THE DUMP (.gsa) THAT YtedhcgeglmoacaaProg.lean LOADS. Nothing in Lean hashes anything: it is a label: what it is worth is what the hold of that sum in a sandbox is worth. -/
noncomputable def Try.pinned : Pinned := { name := "ytedhcgeglmoacaa", sum := "0bae6018072ecc11edde631e619300589eb889d4f3ae5db0b44ba6e1a5e61bed", checked := Try.checked }
namespace Rows
def none {H : Type} : Left H := { results := [], args := [] }

/-- 'oublaw1.TapeHeights': WHATEVER THE INPUT: true; the input reads as it did. -/
def tapeHeightsSpec : ChangeSpec := { name := "tapeHeights", fn := fun _ => fun
  | [d1, d2, d3] => { results := [.lit (.bool true)], args := [d1, d2, d3] }
  | _ => none }
def tapeHeightsRow : OpenClaim := { program := "ytedhcgeglmoacaa", sum := "0bae6018072ecc11edde631e619300589eb889d4f3ae5db0b44ba6e1a5e61bed", func := "oubliette/oublaw1.TapeHeights", spec := "tapeHeights", apart := false }
def TapeHeightsSaid : Prop := tapeHeightsRow.holds Try.pinned (OpenSpec.ofChange tapeHeightsSpec)

/-- ITS FALSE NEIGHBOUR: 'it returns false'. Refute it at one input. -/
def tapeHeightsWrong : ChangeSpec := { name := "tapeHeights", fn := fun _ => fun
  | [d1, d2, d3] => { results := [.lit (.bool false)], args := [d1, d2, d3] }
  | _ => none }
def TapeHeightsWrongFalsely : Prop := tapeHeightsRow.holds Try.pinned (OpenSpec.ofChange tapeHeightsWrong)

/-- 'oublaw8.PosLast': WHATEVER THE INPUT: true; the input reads as it did. -/
def posLastSpec : ChangeSpec := { name := "posLast", fn := fun _ => fun
  | [d1, d2, d3] => { results := [.lit (.bool true)], args := [d1, d2, d3] }
  | _ => none }
def posLastRow : OpenClaim := { program := "ytedhcgeglmoacaa", sum := "0bae6018072ecc11edde631e619300589eb889d4f3ae5db0b44ba6e1a5e61bed", func := "oubliette/oublaw8.PosLast", spec := "posLast", apart := false }
def PosLastSaid : Prop := posLastRow.holds Try.pinned (OpenSpec.ofChange posLastSpec)

/-- ITS FALSE NEIGHBOUR: 'it returns false'. Refute it at one input. -/
def posLastWrong : ChangeSpec := { name := "posLast", fn := fun _ => fun
  | [d1, d2, d3] => { results := [.lit (.bool false)], args := [d1, d2, d3] }
  | _ => none }
def PosLastWrongFalsely : Prop := posLastRow.holds Try.pinned (OpenSpec.ofChange posLastWrong)

/-- 'oublaw1.TapeDraws': WHATEVER THE INPUT: true; the input reads as it did. -/
def tapeDrawsSpec : ChangeSpec := { name := "tapeDraws", fn := fun _ => fun
  | [d1, d2, d3] => { results := [.lit (.bool true)], args := [d1, d2, d3] }
  | _ => none }
def tapeDrawsRow : OpenClaim := { program := "ytedhcgeglmoacaa", sum := "0bae6018072ecc11edde631e619300589eb889d4f3ae5db0b44ba6e1a5e61bed", func := "oubliette/oublaw1.TapeDraws", spec := "tapeDraws", apart := false }
def TapeDrawsSaid : Prop := tapeDrawsRow.holds Try.pinned (OpenSpec.ofChange tapeDrawsSpec)

/-- ITS FALSE NEIGHBOUR: 'it returns false'. Refute it at one input. -/
def tapeDrawsWrong : ChangeSpec := { name := "tapeDraws", fn := fun _ => fun
  | [d1, d2, d3] => { results := [.lit (.bool false)], args := [d1, d2, d3] }
  | _ => none }
def TapeDrawsWrongFalsely : Prop := tapeDrawsRow.holds Try.pinned (OpenSpec.ofChange tapeDrawsWrong)

/-- 'oublaw1.TapeCuts': WHATEVER THE INPUT: true; the input reads as it did. -/
def tapeCutsSpec : ChangeSpec := { name := "tapeCuts", fn := fun _ => fun
  | [d1, d2, d3, d4] => { results := [.lit (.bool true)], args := [d1, d2, d3, d4] }
  | _ => none }
def tapeCutsRow : OpenClaim := { program := "ytedhcgeglmoacaa", sum := "0bae6018072ecc11edde631e619300589eb889d4f3ae5db0b44ba6e1a5e61bed", func := "oubliette/oublaw1.TapeCuts", spec := "tapeCuts", apart := false }
def TapeCutsSaid : Prop := tapeCutsRow.holds Try.pinned (OpenSpec.ofChange tapeCutsSpec)

/-- ITS FALSE NEIGHBOUR: 'it returns false'. Refute it at one input. -/
def tapeCutsWrong : ChangeSpec := { name := "tapeCuts", fn := fun _ => fun
  | [d1, d2, d3, d4] => { results := [.lit (.bool false)], args := [d1, d2, d3, d4] }
  | _ => none }
def TapeCutsWrongFalsely : Prop := tapeCutsRow.holds Try.pinned (OpenSpec.ofChange tapeCutsWrong)

/-- 'oublaw1.TapeEnd': WHATEVER THE INPUT: true; the input reads as it did. -/
def tapeEndSpec : ChangeSpec := { name := "tapeEnd", fn := fun _ => fun
  | [d1, d2, d3] => { results := [.lit (.bool true)], args := [d1, d2, d3] }
  | _ => none }
def tapeEndRow : OpenClaim := { program := "ytedhcgeglmoacaa", sum := "0bae6018072ecc11edde631e619300589eb889d4f3ae5db0b44ba6e1a5e61bed", func := "oubliette/oublaw1.TapeEnd", spec := "tapeEnd", apart := false }
def TapeEndSaid : Prop := tapeEndRow.holds Try.pinned (OpenSpec.ofChange tapeEndSpec)

/-- ITS FALSE NEIGHBOUR: 'it returns false'. Refute it at one input. -/
def tapeEndWrong : ChangeSpec := { name := "tapeEnd", fn := fun _ => fun
  | [d1, d2, d3] => { results := [.lit (.bool false)], args := [d1, d2, d3] }
  | _ => none }
def TapeEndWrongFalsely : Prop := tapeEndRow.holds Try.pinned (OpenSpec.ofChange tapeEndWrong)

/-- 'oublaw8.PosAll': WHATEVER THE INPUT: true; the input reads as it did. -/
def posAllSpec : ChangeSpec := { name := "posAll", fn := fun _ => fun
  | [d1, d2] => { results := [.lit (.bool true)], args := [d1, d2] }
  | _ => none }
def posAllRow : OpenClaim := { program := "ytedhcgeglmoacaa", sum := "0bae6018072ecc11edde631e619300589eb889d4f3ae5db0b44ba6e1a5e61bed", func := "oubliette/oublaw8.PosAll", spec := "posAll", apart := false }
def PosAllSaid : Prop := posAllRow.holds Try.pinned (OpenSpec.ofChange posAllSpec)

/-- ITS FALSE NEIGHBOUR: 'it returns false'. Refute it at one input. -/
def posAllWrong : ChangeSpec := { name := "posAll", fn := fun _ => fun
  | [d1, d2] => { results := [.lit (.bool false)], args := [d1, d2] }
  | _ => none }
def PosAllWrongFalsely : Prop := posAllRow.holds Try.pinned (OpenSpec.ofChange posAllWrong)

/-- 'oublaw8.PosBack': WHATEVER THE INPUT: true; the input reads as it did. -/
def posBackSpec : ChangeSpec := { name := "posBack", fn := fun _ => fun
  | [d1, d2] => { results := [.lit (.bool true)], args := [d1, d2] }
  | _ => none }
def posBackRow : OpenClaim := { program := "ytedhcgeglmoacaa", sum := "0bae6018072ecc11edde631e619300589eb889d4f3ae5db0b44ba6e1a5e61bed", func := "oubliette/oublaw8.PosBack", spec := "posBack", apart := false }
def PosBackSaid : Prop := posBackRow.holds Try.pinned (OpenSpec.ofChange posBackSpec)

/-- ITS FALSE NEIGHBOUR: 'it returns false'. Refute it at one input. -/
def posBackWrong : ChangeSpec := { name := "posBack", fn := fun _ => fun
  | [d1, d2] => { results := [.lit (.bool false)], args := [d1, d2] }
  | _ => none }
def PosBackWrongFalsely : Prop := posBackRow.holds Try.pinned (OpenSpec.ofChange posBackWrong)

/-- 'oublaw8.PosPlays': WHATEVER THE INPUT: true; the input reads as it did. -/
def posPlaysSpec : ChangeSpec := { name := "posPlays", fn := fun _ => fun
  | [d1, d2] => { results := [.lit (.bool true)], args := [d1, d2] }
  | _ => none }
def posPlaysRow : OpenClaim := { program := "ytedhcgeglmoacaa", sum := "0bae6018072ecc11edde631e619300589eb889d4f3ae5db0b44ba6e1a5e61bed", func := "oubliette/oublaw8.PosPlays", spec := "posPlays", apart := false }
def PosPlaysSaid : Prop := posPlaysRow.holds Try.pinned (OpenSpec.ofChange posPlaysSpec)

/-- ITS FALSE NEIGHBOUR: 'it returns false'. Refute it at one input. -/
def posPlaysWrong : ChangeSpec := { name := "posPlays", fn := fun _ => fun
  | [d1, d2] => { results := [.lit (.bool false)], args := [d1, d2] }
  | _ => none }
def PosPlaysWrongFalsely : Prop := posPlaysRow.holds Try.pinned (OpenSpec.ofChange posPlaysWrong)

/-- 'oublaw21.RoundCollects': WHATEVER THE INPUT: true; the input reads as it did. -/
def roundCollectsSpec : ChangeSpec := { name := "roundCollects", fn := fun _ => fun
  | [d1, d2, d3, d4] => { results := [.lit (.bool true)], args := [d1, d2, d3, d4] }
  | _ => none }
def roundCollectsRow : OpenClaim := { program := "ytedhcgeglmoacaa", sum := "0bae6018072ecc11edde631e619300589eb889d4f3ae5db0b44ba6e1a5e61bed", func := "oubliette/oublaw21.RoundCollects", spec := "roundCollects", apart := false }
def RoundCollectsSaid : Prop := roundCollectsRow.holds Try.pinned (OpenSpec.ofChange roundCollectsSpec)

/-- ITS FALSE NEIGHBOUR: 'it returns false'. Refute it at one input. -/
def roundCollectsWrong : ChangeSpec := { name := "roundCollects", fn := fun _ => fun
  | [d1, d2, d3, d4] => { results := [.lit (.bool false)], args := [d1, d2, d3, d4] }
  | _ => none }
def RoundCollectsWrongFalsely : Prop := roundCollectsRow.holds Try.pinned (OpenSpec.ofChange roundCollectsWrong)

/-- 'oublaw21.RoundFirst': WHATEVER THE INPUT: true; the input reads as it did. -/
def roundFirstSpec : ChangeSpec := { name := "roundFirst", fn := fun _ => fun
  | [d1, d2, d3] => { results := [.lit (.bool true)], args := [d1, d2, d3] }
  | _ => none }
def roundFirstRow : OpenClaim := { program := "ytedhcgeglmoacaa", sum := "0bae6018072ecc11edde631e619300589eb889d4f3ae5db0b44ba6e1a5e61bed", func := "oubliette/oublaw21.RoundFirst", spec := "roundFirst", apart := false }
def RoundFirstSaid : Prop := roundFirstRow.holds Try.pinned (OpenSpec.ofChange roundFirstSpec)

/-- ITS FALSE NEIGHBOUR: 'it returns false'. Refute it at one input. -/
def roundFirstWrong : ChangeSpec := { name := "roundFirst", fn := fun _ => fun
  | [d1, d2, d3] => { results := [.lit (.bool false)], args := [d1, d2, d3] }
  | _ => none }
def RoundFirstWrongFalsely : Prop := roundFirstRow.holds Try.pinned (OpenSpec.ofChange roundFirstWrong)

/-- 'oublaw21.RoundAll': WHATEVER THE INPUT: true; the input reads as it did. -/
def roundAllSpec : ChangeSpec := { name := "roundAll", fn := fun _ => fun
  | [d1, d2] => { results := [.lit (.bool true)], args := [d1, d2] }
  | _ => none }
def roundAllRow : OpenClaim := { program := "ytedhcgeglmoacaa", sum := "0bae6018072ecc11edde631e619300589eb889d4f3ae5db0b44ba6e1a5e61bed", func := "oubliette/oublaw21.RoundAll", spec := "roundAll", apart := false }
def RoundAllSaid : Prop := roundAllRow.holds Try.pinned (OpenSpec.ofChange roundAllSpec)

/-- ITS FALSE NEIGHBOUR: 'it returns false'. Refute it at one input. -/
def roundAllWrong : ChangeSpec := { name := "roundAll", fn := fun _ => fun
  | [d1, d2] => { results := [.lit (.bool false)], args := [d1, d2] }
  | _ => none }
def RoundAllWrongFalsely : Prop := roundAllRow.holds Try.pinned (OpenSpec.ofChange roundAllWrong)

/-- 'oublaw21.RoundPads': WHATEVER THE INPUT: true; the input reads as it did. -/
def roundPadsSpec : ChangeSpec := { name := "roundPads", fn := fun _ => fun
  | [d1, d2] => { results := [.lit (.bool true)], args := [d1, d2] }
  | _ => none }
def roundPadsRow : OpenClaim := { program := "ytedhcgeglmoacaa", sum := "0bae6018072ecc11edde631e619300589eb889d4f3ae5db0b44ba6e1a5e61bed", func := "oubliette/oublaw21.RoundPads", spec := "roundPads", apart := false }
def RoundPadsSaid : Prop := roundPadsRow.holds Try.pinned (OpenSpec.ofChange roundPadsSpec)

/-- ITS FALSE NEIGHBOUR: 'it returns false'. Refute it at one input. -/
def roundPadsWrong : ChangeSpec := { name := "roundPads", fn := fun _ => fun
  | [d1, d2] => { results := [.lit (.bool false)], args := [d1, d2] }
  | _ => none }
def RoundPadsWrongFalsely : Prop := roundPadsRow.holds Try.pinned (OpenSpec.ofChange roundPadsWrong)

/- THE SECOND FORM. 'bulk': how many values and letters a reading holds, each counted each time it is reached (what is shared counts as often as it is met; a slice's spare places count too). A statement '..UptoSaid' is the law's where the arguments, and the package variables that the reading takes, are together of bulk at most 1048576: NARROWER than '..Said'. Prove '..Said' where nothing that the law and all that it calls make is longer than what came in: it says more and counts as full. Else prove '..UptoSaid'. A law counts once. -/
mutual
def uptoBulk {H : Type} : DataW H → Nat
  | .lit (.string bytes) => bytes.length + 1
  | .lit _ => 1
  | .nil => 1
  | .ptr d => uptoBulk d + 1
  | .slice elems spare => uptoBulkAll elems + uptoBulkAll spare + 1
  | .agg parts => uptoBulkAll parts + 1
  | .iface _ d => uptoBulk d + 1
  | .map entries => uptoBulkEntries entries + 1
  | .held _ => 1
def uptoBulkAll {H : Type} : List (DataW H) → Nat
  | [] => 0
  | d :: r => uptoBulk d + uptoBulkAll r
def uptoBulkEntries {H : Type} : List (Lit × DataW H) → Nat
  | [] => 0
  | x :: r => uptoBulkEntry x + uptoBulkEntries r
def uptoBulkEntry {H : Type} : Lit × DataW H → Nat
  | (.string bytes, d) => bytes.length + uptoBulk d + 1
  | (_, d) => uptoBulk d + 1
 end
def uptoSmall : (H : Type) → List (DataW H) → Bool := fun _ ds => decide (uptoBulkAll ds ≤ 1048576)
def OpenSpec.upto (s : _root_.Go.ChangeSpec) : _root_.Go.OpenSpec := { _root_.Go.OpenSpec.ofChange s with cond := some uptoSmall }

/-- 'oublaw1.TapeHeights', WHERE WHAT IT READS IS OF BULK AT MOST 1048576: true; the input reads as it did. -/
def tapeHeightsUptoRow : OpenClaim := { program := "ytedhcgeglmoacaa", sum := "0bae6018072ecc11edde631e619300589eb889d4f3ae5db0b44ba6e1a5e61bed", func := "oubliette/oublaw1.TapeHeights", spec := "tapeHeights", apart := false, narrowed := true }
def TapeHeightsUptoSaid : Prop := tapeHeightsUptoRow.holds Try.pinned (OpenSpec.upto tapeHeightsSpec)

/-- 'oublaw8.PosLast', WHERE WHAT IT READS IS OF BULK AT MOST 1048576: true; the input reads as it did. -/
def posLastUptoRow : OpenClaim := { program := "ytedhcgeglmoacaa", sum := "0bae6018072ecc11edde631e619300589eb889d4f3ae5db0b44ba6e1a5e61bed", func := "oubliette/oublaw8.PosLast", spec := "posLast", apart := false, narrowed := true }
def PosLastUptoSaid : Prop := posLastUptoRow.holds Try.pinned (OpenSpec.upto posLastSpec)

/-- 'oublaw1.TapeDraws', WHERE WHAT IT READS IS OF BULK AT MOST 1048576: true; the input reads as it did. -/
def tapeDrawsUptoRow : OpenClaim := { program := "ytedhcgeglmoacaa", sum := "0bae6018072ecc11edde631e619300589eb889d4f3ae5db0b44ba6e1a5e61bed", func := "oubliette/oublaw1.TapeDraws", spec := "tapeDraws", apart := false, narrowed := true }
def TapeDrawsUptoSaid : Prop := tapeDrawsUptoRow.holds Try.pinned (OpenSpec.upto tapeDrawsSpec)

/-- 'oublaw1.TapeCuts', WHERE WHAT IT READS IS OF BULK AT MOST 1048576: true; the input reads as it did. -/
def tapeCutsUptoRow : OpenClaim := { program := "ytedhcgeglmoacaa", sum := "0bae6018072ecc11edde631e619300589eb889d4f3ae5db0b44ba6e1a5e61bed", func := "oubliette/oublaw1.TapeCuts", spec := "tapeCuts", apart := false, narrowed := true }
def TapeCutsUptoSaid : Prop := tapeCutsUptoRow.holds Try.pinned (OpenSpec.upto tapeCutsSpec)

/-- 'oublaw1.TapeEnd', WHERE WHAT IT READS IS OF BULK AT MOST 1048576: true; the input reads as it did. -/
def tapeEndUptoRow : OpenClaim := { program := "ytedhcgeglmoacaa", sum := "0bae6018072ecc11edde631e619300589eb889d4f3ae5db0b44ba6e1a5e61bed", func := "oubliette/oublaw1.TapeEnd", spec := "tapeEnd", apart := false, narrowed := true }
def TapeEndUptoSaid : Prop := tapeEndUptoRow.holds Try.pinned (OpenSpec.upto tapeEndSpec)

/-- 'oublaw8.PosAll', WHERE WHAT IT READS IS OF BULK AT MOST 1048576: true; the input reads as it did. -/
def posAllUptoRow : OpenClaim := { program := "ytedhcgeglmoacaa", sum := "0bae6018072ecc11edde631e619300589eb889d4f3ae5db0b44ba6e1a5e61bed", func := "oubliette/oublaw8.PosAll", spec := "posAll", apart := false, narrowed := true }
def PosAllUptoSaid : Prop := posAllUptoRow.holds Try.pinned (OpenSpec.upto posAllSpec)

/-- 'oublaw8.PosBack', WHERE WHAT IT READS IS OF BULK AT MOST 1048576: true; the input reads as it did. -/
def posBackUptoRow : OpenClaim := { program := "ytedhcgeglmoacaa", sum := "0bae6018072ecc11edde631e619300589eb889d4f3ae5db0b44ba6e1a5e61bed", func := "oubliette/oublaw8.PosBack", spec := "posBack", apart := false, narrowed := true }
def PosBackUptoSaid : Prop := posBackUptoRow.holds Try.pinned (OpenSpec.upto posBackSpec)

/-- 'oublaw8.PosPlays', WHERE WHAT IT READS IS OF BULK AT MOST 1048576: true; the input reads as it did. -/
def posPlaysUptoRow : OpenClaim := { program := "ytedhcgeglmoacaa", sum := "0bae6018072ecc11edde631e619300589eb889d4f3ae5db0b44ba6e1a5e61bed", func := "oubliette/oublaw8.PosPlays", spec := "posPlays", apart := false, narrowed := true }
def PosPlaysUptoSaid : Prop := posPlaysUptoRow.holds Try.pinned (OpenSpec.upto posPlaysSpec)

/-- 'oublaw21.RoundCollects', WHERE WHAT IT READS IS OF BULK AT MOST 1048576: true; the input reads as it did. -/
def roundCollectsUptoRow : OpenClaim := { program := "ytedhcgeglmoacaa", sum := "0bae6018072ecc11edde631e619300589eb889d4f3ae5db0b44ba6e1a5e61bed", func := "oubliette/oublaw21.RoundCollects", spec := "roundCollects", apart := false, narrowed := true }
def RoundCollectsUptoSaid : Prop := roundCollectsUptoRow.holds Try.pinned (OpenSpec.upto roundCollectsSpec)

/-- 'oublaw21.RoundFirst', WHERE WHAT IT READS IS OF BULK AT MOST 1048576: true; the input reads as it did. -/
def roundFirstUptoRow : OpenClaim := { program := "ytedhcgeglmoacaa", sum := "0bae6018072ecc11edde631e619300589eb889d4f3ae5db0b44ba6e1a5e61bed", func := "oubliette/oublaw21.RoundFirst", spec := "roundFirst", apart := false, narrowed := true }
def RoundFirstUptoSaid : Prop := roundFirstUptoRow.holds Try.pinned (OpenSpec.upto roundFirstSpec)

/-- 'oublaw21.RoundAll', WHERE WHAT IT READS IS OF BULK AT MOST 1048576: true; the input reads as it did. -/
def roundAllUptoRow : OpenClaim := { program := "ytedhcgeglmoacaa", sum := "0bae6018072ecc11edde631e619300589eb889d4f3ae5db0b44ba6e1a5e61bed", func := "oubliette/oublaw21.RoundAll", spec := "roundAll", apart := false, narrowed := true }
def RoundAllUptoSaid : Prop := roundAllUptoRow.holds Try.pinned (OpenSpec.upto roundAllSpec)

/-- 'oublaw21.RoundPads', WHERE WHAT IT READS IS OF BULK AT MOST 1048576: true; the input reads as it did. -/
def roundPadsUptoRow : OpenClaim := { program := "ytedhcgeglmoacaa", sum := "0bae6018072ecc11edde631e619300589eb889d4f3ae5db0b44ba6e1a5e61bed", func := "oubliette/oublaw21.RoundPads", spec := "roundPads", apart := false, narrowed := true }
def RoundPadsUptoSaid : Prop := roundPadsUptoRow.holds Try.pinned (OpenSpec.upto roundPadsSpec)

end Rows
end Go.Proofs.Ytedhcgeglmoacaa
