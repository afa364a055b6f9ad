/- A region that draws its order and whose calls hand back numbers and keep an assertion: one walk in the text's order. No project text; nothing here is trusted. -/
import Derived.Test.YtedhcgeglmoacaaSepLaws
namespace Go.Proofs.Sep
open Go.RowKit

/-- A world in which X holds. -/
structure SW (E : World) (X : Asn) where
  w : World
  h : Sat E X w

theorem SW.out {E w : World} {X : Asn} (h : ∃ s : SW E X, w = s.w) : Sat E X w := by
  obtain ⟨s, rfl⟩ := h
  exact s.h

section
variable {P : Program} {E : World} {X : Asn} {w : World} {a : Act} {Q : Exit → Act → World → Prop}

theorem wp_region_quietS {id : Nat} {l : List Oper} (X : Asn) (hm : P.follows .mixedOrders = true) (hB : Region.lexB .any l.toArray = true) (hS : Sat E X w)
    (h : Nonempty (SW E X) → wpQuiet P l.toArray (fun w' => ∃ s : SW E X, w' = s.w) (fun a' => ∀ w', (∃ s : SW E X, w' = s.w) → Q .normal a' w') l a) : (Code.region id l.toArray true).wp P Q a w :=
  wp_region_quiet (C := fun w' => ∃ s : SW E X, w' = s.w) hm hB ⟨⟨w.drew, hS.drew⟩, rfl⟩ (by simpa using h ⟨⟨w, hS⟩⟩)

/-- A callee's contract, met in such a world. -/
theorem quietS {f : FuncId} {args : Array Value} {v : Value} (h : Calls P f args w fun e w' => e = .returned v ∧ Sat E X w') :
    Calls P f args w fun e w'' => e = .returned v ∧ ∃ s : SW E X, w'' = s.w :=
  h.mono fun _ w' ⟨he, hs⟩ => ⟨he, ⟨w', hs⟩, rfl⟩
end
end Go.Proofs.Sep
