/- clear of a row of the call's own. No project text; nothing here is trusted. -/
import Derived.Test.YtobgfdongidaaaaSepQuiet
import Derived.Lib.SliceRun
import Derived.Laws.ResultCell
import Derived.Laws.Rows
namespace Go.Proofs.Sep
set_option linter.unusedVariables false
set_option linter.unusedSimpArgs false
open Go.RowKit
variable {E w : World} {F : Asn} {P : Program}

theorem Sat.row_stores {e size n cap g : Nat} : ∀ (vs : List Value) (o : Nat) (w : World) (xs : List Value), o + vs.length ≤ xs.length → Sat E (row e size (.slice (some ⟨g, 0, none⟩) n cap) n xs * F) w →
    Sat E (row e size (.slice (some ⟨g, 0, none⟩) n cap) n (xs.take o ++ vs ++ xs.drop (o + vs.length)) * F) (w.setCells g o vs)
  | [], o, w, xs, _, h => by simpa [World.setCells] using h
  | v :: vs, o, w, xs, hl, h => by
    have hl' : o + vs.length + 1 ≤ xs.length := by simpa [Nat.add_assoc] using hl
    have := Sat.row_stores vs (o + 1) (w.setCell ⟨g, o, none⟩ v) (xs.set o v) (by rw [List.length_set]; omega) (h.row_store o v)
    simp only [World.setCells]
    refine this.eq ?_
    congr 2
    rw [List.take_set, List.drop_set_of_lt (by omega), List.take_add_one, List.getElem?_eq_getElem (by omega)]
    rw [show o + 1 + vs.length = o + (v :: vs).length by simp; omega]
    simp only [Option.toList_some]
    rw [List.set_append, if_neg (by simp; omega)]
    simp [Nat.min_eq_left (show o ≤ xs.length by omega)]
theorem Sat.row_clear {e n : Nat} {v : Value} {xs : List Value} (t ty : TypeId) (z : Value) (ht : P.underlying t = some (.slice e)) (hv : ∀ w, (zeroValue e).run P w = .ok z w) (hz : z.cells = #[z]) (h1 : z.oneCell' = true)
    (h : Sat E (row e 1 v n xs * F) w) : ∃ w1, (Builtin.clear_ #[t] ty #[v]).run P w = .ok (.tuple #[]) w1 ∧ Sat E (row e 1 v n (List.replicate n z) * F) w1 := by
  have hxl : xs.length = n := by simpa using h.row_len
  rcases Nat.eq_zero_or_pos n with rfl | hn
  · obtain ⟨A, c, rfl, _⟩ := h.reads
    obtain rfl : xs = [] := List.eq_nil_of_length_eq_zero hxl
    refine ⟨w, ?_, h⟩
    cases A <;> simp [Builtin.clear_, run_underlying ht]
  · obtain ⟨g, c, rfl, _, _⟩ := h.row_head hn
    have hr := Lib.run_clear_slice (P := P) w t e ty z ht hv hz h1 g 0 n c hn (fun j hj => by
      rw [Nat.zero_add, h.row_cell j (by omega), List.getElem?_eq_getElem (by omega)]; rfl) (fun j hj => by rw [Nat.zero_add]; exact h.row_free j)
    refine ⟨_, hr, (h.row_stores (List.replicate n z) 0 _ _ (by simp; omega)).eq ?_⟩
    congr 2
    simp [hxl]
theorem Reads.newAt {w : World} {b : Nat} (size n : Nat) (cs : List Value) (e : TypeId) (h : cs.length = n * size) (hn : n ≤ 9223372036854775807) (hb : w.heap.size = b) : Reads (w.alloc (.cells cs.toArray e)) size (some ⟨b, 0, none⟩) n cs :=
  hb ▸ Reads.new size n cs e h hn
theorem cell_two {ad : Addr} {j : Nat} {u : Value} (h : w.cell? (ad.add (j + 1)) = some u) : w.cell? { block := (ad.add j).block, off := (ad.add j).off + 1 } = some u := by
  rw [← addr_add_add] at h
  exact h
theorem cell_three {ad : Addr} {j : Nat} {u : Value} (h : w.cell? (ad.add (j + 2)) = some u) : w.cell? { block := (ad.add j).block, off := (ad.add j).off + 2 } = some u := by
  rw [← addr_add_add] at h
  exact h
theorem results_cell_row_tmp {fn : Func} {p u : Tmp} {ty : TypeId} (h : fn.results = #[.cell p ty, .tmp u]) (tmps : Array Value) (w : World) (g : Nat) (t : TypeId) (cs : Array Value) (fr : Nat × Nat) (d : TypeDesc)
    (hp : tmps.getD p undef = .pointer (some ⟨g, 0, none⟩)) (hg : w.heap[g]? = some (.cells cs t fr))
    (hu : P.underlying ty = some d) (hd : (match d with | .struct _ | .array _ _ => true | _ => false) = true) (hi : (P.info? ty).map (·.size) = some cs.size) :
    (results fn tmps).run P w = .ok (.tuple #[.agg cs, tmps.getD u undef]) w := by
  rw [results_cell_tmp h, hp]
  simp [asAddr, run_loadVar_row w g t ty cs fr d hg hu hd hi, Result.andThen]
end Go.Proofs.Sep
