import Derived.Test.YtacfaegljjgneaaTrc4
import Derived.Deep.RegionLaw
namespace Go.Proofs.Ytacfaegljjgneaa
set_option linter.unusedVariables false
set_option linter.unusedSimpArgs false
open Go.RowKit Go.Proofs.Sep

/-- A list of operations of our own: how it lies in memory. -/
structure TRep where
  L : List (TOp × Value)
  P : List (Value × List Int)
structure TRep.Ok (t : TRep) (tr : List TOp) : Prop where
  map : t.L.map (·.1) = tr
  mem : ∀ x ∈ t.L, (x.2, x.1.2.2) ∈ t.P
theorem TRep.Ok.len {t : TRep} {tr : List TOp} (h : t.Ok tr) : t.L.length = tr.length := by rw [← h.map]; simp
theorem TRep.Ok.add {t : TRep} {tr : List TOp} (h : t.Ok tr) (k a : Int) (b : List Int) (v : Value) : TRep.Ok ⟨t.L ++ [((k, a, b), v)], (v, b) :: t.P⟩ (tr ++ [(k, a, b)]) := by
  refine ⟨by simp [h.map], fun x hx => ?_⟩
  rw [List.mem_append] at hx
  rcases hx with hx | hx
  · exact List.mem_cons_of_mem _ (h.mem x hx)
  · rw [List.mem_singleton] at hx
    subst hx
    exact List.mem_cons_self
def tlist (e : Nat) (v : Value) (tr : List TOp) : Asn := ex fun t : TRep => pur (t.Ok tr) * (row e 3 v tr.length (tf t.L) * bag t.P)
theorem tlist_open {E w : World} {F : Asn} {e : Nat} {v : Value} {tr : List TOp} (h : Sat E (tlist e v tr * F) w) : ∃ t : TRep, t.Ok tr ∧ Sat E (row e 3 v tr.length (tf t.L) * (bag t.P * F)) w := by
  obtain ⟨t, h⟩ := h.ex_left
  have h1 : Sat E (pur (t.Ok tr) * (row e 3 v tr.length (tf t.L) * (bag t.P * F))) w := h.eq (by ac_rfl)
  exact ⟨t, h1.pur_left.1, h1.pur_left.2⟩
theorem tlist_shut {E w : World} {F : Asn} {e : Nat} {v : Value} {tr : List TOp} {t : TRep} (ht : t.Ok tr) (h : Sat E (row e 3 v tr.length (tf t.L) * (bag t.P * F)) w) : Sat E (tlist e v tr * F) w :=
  Sat.intro_left t ((h.add_pur ht).eq (by ac_rfl))
theorem tlist_in {E w : World} {F : Asn} {e : Nat} {v : Value} {tr : List TOp} {t : TRep} (ht : t.Ok tr) (h : Sat E (row e 3 v tr.length (tf t.L) * (bag t.P * F)) w) :
    ∃ A c, v = .slice A tr.length c ∧ tr.length ≤ c ∧ ∀ w, Sat E (row e 3 v tr.length (tf t.L) * (bag t.P * F)) w → TIn w A t.L := by
  obtain ⟨A, c, e1, h2, _, _⟩ := h.reads
  refine ⟨A, c, e1, h2, fun w h => ⟨?_, fun x hx => ?_⟩⟩
  · rw [ht.len]
    rw [e1] at h
    exact h.reads_at
  · obtain ⟨B, d, e2, r2⟩ := bag_at h.right (x.2, x.1.2.2) (ht.mem x hx)
    exact ⟨B, d, e2, r2⟩

set_option maxRecDepth 100000 in
set_option maxHeartbeats 1000000 in
theorem copied_calls {E w : World} {F : Asn} (k a : Int) (A : Option Addr) (n c : Nat) (cs : List Value) (hS : Sat E F w) (hR : ∀ w, Sat E F w → Reads w 1 A n cs) (h1 : ∀ u ∈ cs, u.oneCell' = true) (hn : n ≤ 100000000) :
    Calls Try.prog 70 #[.agg #[.int .i64 k, .int .i64 a, .slice A n c]] w fun e w' => ∃ A' c', e = .returned (.agg #[.int .i64 k, .int .i64 a, .slice A' n c']) ∧ Sat E (row 5 1 (.slice A' n c') n cs * F) w' := by
  have a1 := hS.alloc (.cells #[.int .i64 k, .int .i64 a, .slice A n c] 61)
  have a2 := a1.alloc (.cells #[.int .i64 0, .int .i64 0, .slice none 0 0] 61)
  rw [show (w.alloc (.cells #[.int .i64 k, .int .i64 a, .slice A n c] 61)).heap.size = w.heap.size + 1 by simp] at a2
  have c2 := a2.right.cell_blk (i := 2)
  simp only [List.getElem?_toArray, List.getElem?_cons_zero, List.getElem?_cons_succ] at c2
  go_enter Try.func70, Try.ntmps70
  go_wp2_with fail
  refine (cloneBytes A n c cs a2 (hR _ a2.right.right) h1 (by omega)).mono ?_
  rintro e w3 ⟨v, rfl, g⟩
  obtain ⟨A', c', rfl, _, _, _⟩ := g.reads
  have g2 := (g.eq (show _ = blk w.heap.size (.cells #[.int .i64 k, .int .i64 a, .slice A n c] 61) * (row 5 1 (.slice A' n c') n cs * (blk (w.heap.size + 1) (.cells #[.int .i64 0, .int .i64 0, .slice none 0 0] 61) * F)) by ac_rfl))
  have l2 := g2.lt_blk
  have f2 := g2.free_blk (i := 2)
  have z2 := g2.cell_blk (i := 2)
  have z0 := g2.cell_blk (i := 0)
  have z1 := g2.cell_blk (i := 1)
  simp only [List.getElem?_toArray, List.getElem?_cons_zero, List.getElem?_cons_succ] at z0 z1 z2
  have g3 := g2.setCell (i := 2) (.slice A' n c')
  simp only [List.setIfInBounds_toArray, List.set_cons_succ, List.set_cons_zero] at g3
  have x0 := g3.cell_blk (i := 0)
  have x1 := g3.cell_blk (i := 1)
  have x2 := g3.cell_blk (i := 2)
  simp only [List.getElem?_toArray, List.getElem?_cons_zero, List.getElem?_cons_succ] at x0 x1 x2
  have g4 := (g3.right.eq (star_left_comm _ _ _))
  have l4 := g4.lt_blk
  have f40 := g4.free_blk (i := 0)
  have f41 := g4.free_blk (i := 1)
  have f42 := g4.free_blk (i := 2)
  have y0 := g4.cell_blk (i := 0)
  have y1 := g4.cell_blk (i := 1)
  have y2 := g4.cell_blk (i := 2)
  simp only [List.getElem?_toArray, List.getElem?_cons_zero, List.getElem?_cons_succ] at y0 y1 y2
  have g5 := ((g4.setCell (i := 0) (.int .i64 k)).setCell (i := 1) (.int .i64 a)).setCell (i := 2) (.slice A' n c')
  simp only [List.setIfInBounds_toArray, List.set_cons_succ, List.set_cons_zero] at g5
  have G5 := hid g5
  have HB := hid g5.at_blk
  clear g g2 g3 g4 g5 a1 a2 hS hR
  go_wp2
  refine bodyPost_ret (results_cell_row rfl _ _ (w.heap.size + 1) 61 #[.int .i64 k, .int .i64 a, .slice A' n c'] (0, 0) _ (by simp) HB.out Try.underlying61 rfl (by kernel_rfl)) rfl ?_
  exact ⟨A', c', rfl, G5.out.right⟩
end Go.Proofs.Ytacfaegljjgneaa
