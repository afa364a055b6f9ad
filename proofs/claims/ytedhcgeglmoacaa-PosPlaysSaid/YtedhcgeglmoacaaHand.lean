/- A region that draws its order, driven by hand: what is held may grow. No project text; nothing here is trusted. -/
import Derived.Deep.RegionHeld3
import Derived.WalkKit
namespace Go.Proofs.Sep
set_option linter.unusedVariables false
set_option linter.unusedSimpArgs false
open Go.RowKit

theorem wpOp_mono' {P : Program} {ops : Array Oper} {Q : Exit → Act → World → Prop} {i : Nat} {K K' : Act → World → Prop} {a : Act} {w : World} (h : ∀ a w, K a w → K' a w) (hw : wpOp P ops Q i K a w) : wpOp P ops Q i K' a w := wpOp_mono h hw
theorem wpAnyH_grow {P : Program} {md : Region.Mode} {ops : Array Oper} {Q : Exit → Act → World → Prop} {S S' : World → Prop} (hS : ∀ w, S' w → S w) : ∀ (fuel : Nat) (listed : Array Bool) (a : Act) (w : World), wpAnyH P md ops Q S' fuel listed a w → wpAnyH P md ops Q S fuel listed a w
  | 0, _, _, _, h => h
  | fuel + 1, _, _, _, h => ⟨h.1, fun i hi => wpOp_mono' (fun a' w' h' => ⟨hS _ h'.1, wpAnyH_grow hS fuel _ a' w' h'.2⟩) (h.2 i hi)⟩
end Go.Proofs.Sep
