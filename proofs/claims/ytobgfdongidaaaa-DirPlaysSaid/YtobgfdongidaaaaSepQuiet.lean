/- A region that draws its order and whose calls hand back numbers and keep an assertion: one walk in the text's order. No project text; nothing here is trusted. -/
import Derived.Test.YtobgfdongidaaaaSepLaws
namespace Go.Proofs.Sep
set_option linter.unusedVariables false
set_option linter.unusedSimpArgs false
open Go.RowKit

/-- A literal's block reads as its cells. -/
theorem Sat.blk_reads {E w : World} {F : Asn} {b e size n : Nat} {cs : List Value} {fr : Nat × Nat} (h : Sat E (blk b (.cells cs.toArray e fr) * F) w) (hl : cs.length = n * size) (hn : n ≤ 9223372036854775807) : Reads w size (some ⟨b, 0, none⟩) n cs :=
  ⟨hl, hn, fun h => (by cases h), fun ad ha j u hu => by
    cases ha
    rw [addr_plain, h.cell_blk]
    simpa using hu⟩
theorem nums_take_succ {k : IntKind} {ls : List Int} {j : Nat} (h : j < ls.length) : nums k (ls.take j) ++ [.int k ls[j]] = nums k (ls.take (j + 1)) := by
  rw [List.take_add_one, List.getElem?_eq_getElem h, Option.toList_some, nums_append]; rfl
/-- A world in which X holds. -/
structure SW (E : World) (X : Asn) where
  w : World
  h : Sat E X w

theorem SW.out {E w : World} {X : Asn} (h : ∃ s : SW E X, w = s.w) : Sat E X w := by
  obtain ⟨s, rfl⟩ := h
  exact s.h

section
variable {P : Program} {E : World} {X : Asn} {w : World} {a : Act} {Q : Exit → Act → World → Prop}

theorem wp_region_quietS {id : Nat} {l : List Oper} (X : Asn) (hm : P.follows .mixedOrders = true) (hB : Region.lexB .any l.toArray = true) (hS : Sat E X w)
    (h : Nonempty (SW E X) → wpQuiet P l.toArray (fun w' => ∃ s : SW E X, w' = s.w) (fun a' => ∀ w', (∃ s : SW E X, w' = s.w) → Q .normal a' w') l a) : (Code.region id l.toArray true).wp P Q a w :=
  wp_region_quiet (C := fun w' => ∃ s : SW E X, w' = s.w) hm hB ⟨⟨w.drew, hS.drew⟩, rfl⟩ (by simpa using h ⟨⟨w, hS⟩⟩)

/-- A callee's contract, met in such a world. -/
theorem quietS {f : FuncId} {args : Array Value} {v : Value} (h : Calls P f args w fun e w' => e = .returned v ∧ Sat E X w') :
    Calls P f args w fun e w'' => e = .returned v ∧ ∃ s : SW E X, w'' = s.w :=
  h.mono fun _ w' ⟨he, hs⟩ => ⟨he, ⟨w', hs⟩, rfl⟩
end
end Go.Proofs.Sep
