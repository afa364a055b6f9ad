import Derived.Test.YtedhcgeglmoacaaPos
import Derived.BigRegion
namespace Go.Proofs.Ytedhcgeglmoacaa
set_option linter.unusedVariables false
set_option linter.unusedSimpArgs false
open Go.RowKit Go.Proofs.Sep

def setL (l : List (Int × Int)) (k : Int) (p : Int × Int) : List (Int × Int) := if mayP l.length k p = true then l.set k.toNat p else l
def setC (n : Nat) (c : List Bool) (k : Int) (p : Int × Int) : List Bool := if mayP n k p = true then c.set k.toNat true else c
theorem setL_length (l : List (Int × Int)) (k : Int) (p : Int × Int) : (setL l k p).length = l.length := by unfold setL; split <;> simp
theorem pairs_set {l : List (Int × Int)} {j : Nat} (h : j < l.length) (p : Int × Int) : ((pairs l).set (j * 2) (.int .i64 p.1)).set (j * 2 + 1) (.int .i64 p.2) = pairs (l.set j p) := by
  induction l generalizing j with
  | nil => simp at h
  | cons q l ih =>
    cases j with
    | zero => simp [pairs]
    | succ j =>
      have := ih (j := j) (by simpa using h)
      simp only [pairs, List.flatMap_cons, List.cons_append, List.nil_append, List.set_cons_succ] at this ⊢
      rw [show (j + 1) * 2 = j * 2 + 1 + 1 by omega]
      simp only [List.set_cons_succ]
      rw [this]
theorem pairs_one (l : List (Int × Int)) : ∀ u ∈ pairs l, u.oneCell' = true := by
  intro u hu
  simp only [pairs, List.mem_flatMap, List.mem_cons, List.not_mem_nil, or_false] at hu
  obtain ⟨p, _, rfl | rfl⟩ := hu <;> rfl
theorem bools_set {c : List Bool} {j : Nat} (b : Bool) : (bools c).set j (.bool b) = bools (c.set j b) := by simp [bools, List.map_set]

theorem _root_.Go.Proofs.Sep.Sat.ne_row_blk {E w : World} {F : Asn} {e size n cap g b : Nat} {xs : List Value} {o : Obj} (h : Sat E (row e size (.slice (some ⟨g, 0, none⟩) n cap) n xs * (blk b o * F)) w) (hn : 0 < n) : g ≠ b := by
  obtain ⟨g', cap', cur, hv, _, _, _, _, hs⟩ := h.row_blk hn
  injection hv with hv _ _
  injection hv with hv
  injection hv with hv _ _
  subst hv
  exact hs.ne_blk
theorem _root_.Go.Proofs.Sep.Sat.ne_row_row {E w : World} {F : Asn} {e size n cap g e' size' n' cap' b : Nat} {xs ys : List Value} (h : Sat E (row e size (.slice (some ⟨g, 0, none⟩) n cap) n xs * (row e' size' (.slice (some ⟨b, 0, none⟩) n' cap') n' ys * F)) w) (hn : 0 < n) (hn' : 0 < n') : g ≠ b := by
  obtain ⟨g', cap', cur, hv, _, _, _, _, hs⟩ := h.row_blk hn
  injection hv with hv _ _
  injection hv with hv
  injection hv with hv _ _
  subst hv
  exact (hs.eq (star_left_comm _ _ _)).ne_row_blk hn' |>.symm

set_option maxRecDepth 100000 in
set_option maxHeartbeats 1000000 in
theorem set_calls {E w : World} {F : Asn} (m : Nat) (l : List (Int × Int)) (c : List Bool) (k : Int) (p0 p1 : Int) (hS : Sat E (pmap m l c * F) w) :
    Calls Try.prog 22 #[.pointer (some ⟨m, 0, none⟩), .int .i64 k, .agg #[.int .i64 p0, .int .i64 p1]] w fun e w' => e = .returned (.bool (mayP l.length k (p0, p1))) ∧ Sat E (pmap m (setL l k (p0, p1)) (setC l.length c k (p0, p1)) * F) w' := by
  have hm := may_calls (F := blk w.heap.size (.cells #[.int .i64 p0, .int .i64 p1] 39) * F) m l c k (p0, p1) ((hS.alloc (.cells #[.int .i64 p0, .int .i64 p1] 39)).eq (by ac_rfl))
  unfold plc at hm
  simp only at hm
  have hin : mayP l.length k (p0, p1) = true ∨ mayP l.length k (p0, p1) = false := by cases mayP l.length k (p0, p1) <;> simp
  rcases hin with hin | hin
  · have HIN := hid hin
    rw [hin] at hm
    obtain ⟨j, rfl, hj⟩ : ∃ j : Nat, k = j ∧ j < l.length := by
      unfold mayP inP at hin
      simp only [Bool.and_eq_true, decide_eq_true_eq] at hin
      exact ⟨k.toNat, by omega, by omega⟩
    clear hin
    rw [HIN.out]
    go_enter Try.func22, Try.ntmps22
    go_wp2_with (go_at_call 60; refine hm.mono ?_; rintro e w1 ⟨rfl, h1⟩)
    obtain ⟨A, ca, B, cb, _, _, _, _, hl, h2, _, _⟩ := pmap_open h1
    have h3 : Sat E (row 39 2 (.slice A l.length ca) l.length (pairs l) * (row 4 1 (.slice B l.length cb) l.length (bools c) * (blk m (.cells #[.slice A l.length ca, .slice B l.length cb] 114) * (blk w.heap.size (.cells #[.int .i64 p0, .int .i64 p1] 39) * F)))) w1 := h2.eq (by ac_rfl)
    obtain ⟨ga, cga, e1, _, _⟩ := h3.row_head (by omega)
    injection e1 with e1 _ _
    subst e1
    obtain ⟨gb, cgb, e1, _, _⟩ := h3.right.row_head (by omega)
    injection e1 with e1 _ _
    subst e1
    have n1 := h3.ne_row_row (by omega) (by omega)
    have n2 := (h3.drop_mid).ne_row_blk (by omega)
    have n3 := (h3.drop_mid.drop_mid).ne_row_blk (by omega)
    have n4 := (h3.right).ne_row_blk (by omega)
    have n5 := (h3.right.drop_mid).ne_row_blk (by omega)
    have a0 := h3.row_cell (j * 2) (by omega)
    have a1 := h3.row_cell (j * 2 + 1) (by omega)
    rw [pairs_at0 hj] at a0
    rw [pairs_at1 hj] at a1
    have b0 := h3.right.row_cell j (by omega)
    rw [bools_at (by omega)] at b0
    have f0 := fun i => h3.row_free i
    have f1 := fun i => h3.right.row_free i
    have c0 := h2.cell_blk (i := 0)
    have c1 := h2.cell_blk (i := 1)
    have d0 := h3.right.right.right.cell_blk (i := 0)
    have d1 := h3.right.right.right.cell_blk (i := 1)
    simp only [List.getElem?_toArray, List.getElem?_cons_zero, List.getElem?_cons_succ] at c0 c1 d0 d1
    generalize w.heap.size = bb at *
    clear hS hm
    go_region
    have hx := pairs_set hj (p0, p1)
    have hy := bools_set (c := c) (j := j) true
    have q1 := (h3.row_store (j * 2) (.int .i64 p0)).row_store (j * 2 + 1) (.int .i64 p1)
    rw [hx] at q1
    have q2 := (q1.eq (star_left_comm _ _ _)).row_store j (.bool true)
    rw [hy] at q2
    have q3 := (q2.drew).eq (show _ = blk bb (.cells #[.int .i64 p0, .int .i64 p1] 39) * (blk m (.cells #[.slice (some ⟨ga, 0, none⟩) l.length ca, .slice (some ⟨gb, 0, none⟩) l.length cb] 114) * (row 39 2 (.slice (some ⟨ga, 0, none⟩) l.length ca) l.length (pairs (l.set j (p0, p1))) * (row 4 1 (.slice (some ⟨gb, 0, none⟩) l.length cb) l.length (bools (c.set j true)) * F))) by ac_rfl)
    have q4 := q3.right
    rw [show l.length = (l.set j (p0, p1)).length by simp] at q4
    have q5 := pmap_shut q4
    rw [show l.set j (p0, p1) = setL l j (p0, p1) by unfold setL; rw [if_pos HIN.out, Int.toNat_natCast], show c.set j true = setC l.length c j (p0, p1) by unfold setC; rw [if_pos HIN.out, Int.toNat_natCast]] at q5
    have Q5 := hid q5
    clear q1 q2 q3 q4 q5 hx hy
    go_wp2
    go_ret
    exact ⟨rfl, Q5.out⟩
  · rw [show setL l k (p0, p1) = l by unfold setL; rw [hin]; rfl, show setC l.length c k (p0, p1) = c by unfold setC; rw [hin]; rfl, hin]
    rw [hin] at hm
    go_enter Try.func22, Try.ntmps22
    go_wp2_with (go_at_call 60; refine hm.mono ?_; rintro e w1 ⟨rfl, h1⟩)
    go_ret
    exact ⟨rfl, (h1.eq (star_left_comm _ _ _)).right⟩
end Go.Proofs.Ytedhcgeglmoacaa
