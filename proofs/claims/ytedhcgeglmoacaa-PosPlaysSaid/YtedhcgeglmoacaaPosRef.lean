import Derived.Test.YtedhcgeglmoacaaPosBack
namespace Go.Proofs.Ytedhcgeglmoacaa
set_option linter.unusedVariables false
set_option linter.unusedSimpArgs false
open Go.RowKit Go.Proofs.Sep

/-- The document's map at block m. -/
def rmap (m : Nat) (l : List (Int × Int)) (c : List Bool) : Asn := ex fun va => ex fun vb => blk m (.cells #[va, vb] 90) * (row 83 2 va l.length (pairs l) * row 4 1 vb l.length (bools c))
theorem rmap_open {E w : World} {F : Asn} {m : Nat} {l : List (Int × Int)} {c : List Bool} (h : Sat E (rmap m l c * F) w) : ∃ A ca B cb, l.length ≤ ca ∧ ca ≤ maxLen ∧ l.length ≤ cb ∧ cb ≤ maxLen ∧ c.length = l.length ∧
    Sat E (blk m (.cells #[.slice A l.length ca, .slice B l.length cb] 90) * (row 83 2 (.slice A l.length ca) l.length (pairs l) * (row 4 1 (.slice B l.length cb) l.length (bools c) * F))) w ∧
    Reads w 2 A l.length (pairs l) ∧ Reads w 1 B l.length (bools c) := by
  obtain ⟨va, h⟩ := h.ex_left
  obtain ⟨vb, h⟩ := h.ex_left
  have h1 : Sat E (row 83 2 va l.length (pairs l) * (row 4 1 vb l.length (bools c) * (blk m (.cells #[va, vb] 90) * F))) w := h.eq (by ac_rfl)
  obtain ⟨A, ca, rfl, h2, h3, h4⟩ := h1.reads
  obtain ⟨B, cb, rfl, h5, h6, h7⟩ := h1.right.reads
  have hl := h1.right.row_len
  exact ⟨A, ca, B, cb, h2, h3, h5, h6, by simpa [bools_length] using hl, h.eq (by ac_rfl), h4, h7⟩
theorem rmap_shut {E w : World} {F : Asn} {m : Nat} {l : List (Int × Int)} {c : List Bool} {va vb : Value}
    (h : Sat E (blk m (.cells #[va, vb] 90) * (row 83 2 va l.length (pairs l) * (row 4 1 vb l.length (bools c) * F))) w) : Sat E (rmap m l c * F) w :=
  Sat.intro_left va (Sat.intro_left vb (h.eq (by ac_rfl)))

set_option maxRecDepth 100000 in
set_option maxHeartbeats 1000000 in
theorem rset_calls {E w : World} {F : Asn} (m : Nat) (l : List (Int × Int)) (c : List Bool) (k : Int) (p0 p1 : Int) (hS : Sat E (rmap m l c * F) w) :
    Calls Try.prog 39 #[.pointer (some ⟨m, 0, none⟩), .int .i64 k, .agg #[.int .i64 p0, .int .i64 p1]] w fun e w' => e = .returned (.bool (mayP l.length k (p0, p1))) ∧ Sat E (rmap m (setL l k (p0, p1)) (setC l.length c k (p0, p1)) * F) w' := by
  obtain ⟨A, ca, B, cb, _, _, _, _, hl, h2, _, _⟩ := rmap_open hS
  have c0 := h2.cell_blk (i := 0)
  have c1 := h2.cell_blk (i := 1)
  simp only [List.getElem?_toArray, List.getElem?_cons_zero, List.getElem?_cons_succ] at c0 c1
  have lm := h2.lt_blk
  rcases may_cases l.length k (p0, p1) with ⟨hm, hw | ⟨hw1, hw⟩ | ⟨hw1, hw2, hw⟩ | ⟨hw1, hw2, hw3, hw⟩⟩ | ⟨hm, hw1, hw2, hw3, hw⟩
  case inr =>
    obtain ⟨j, rfl⟩ := Int.eq_ofNat_of_zero_le hw1
    have hj : j < l.length := by omega
    have HM := hid hm
    rw [hm]
    clear hm
    simp only at hw3 hw
    have h3 : Sat E (row 83 2 (.slice A l.length ca) l.length (pairs l) * (row 4 1 (.slice B l.length cb) l.length (bools c) * (blk m (.cells #[.slice A l.length ca, .slice B l.length cb] 90) * F))) w := h2.eq (by ac_rfl)
    obtain ⟨ga, cga, e1, _, _⟩ := h3.row_head (by omega)
    injection e1 with e1 e2 e3
    subst e1
    clear e2 e3
    obtain ⟨gb, cgb, e1, _, _⟩ := h3.right.row_head (by omega)
    injection e1 with e1 e2 e3
    subst e1
    clear e2 e3
    have n1 := h3.ne_row_row (by omega) (by omega)
    have n2 := (h3.drop_mid).ne_row_blk (by omega)
    have n4 := (h3.right).ne_row_blk (by omega)
    have l1 := h3.row_lt
    have l2 := h3.right.row_lt
    have a0 := h3.row_cell (j * 2) (by omega)
    have a1 := h3.row_cell (j * 2 + 1) (by omega)
    rw [pairs_at0 hj] at a0
    rw [pairs_at1 hj] at a1
    have b0 := h3.right.row_cell j (by omega)
    rw [bools_at (by omega)] at b0
    have f0 := fun i => h3.row_free i
    have f1 := fun i => h3.right.row_free i
    have hx := pairs_set hj (p0, p1)
    have hy := bools_set (c := c) (j := j) true
    have q1 := (h3.row_store (j * 2) (.int .i64 p0)).row_store (j * 2 + 1) (.int .i64 p1)
    rw [hx] at q1
    have q2 := (q1.eq (star_left_comm _ _ _)).row_store j (.bool true)
    rw [hy] at q2
    have q4 := (q2.alloc_drop (.cells #[.int .i64 p0, .int .i64 p1] 83)).drew.eq (show _ = blk m (.cells #[.slice (some ⟨ga, 0, none⟩) l.length ca, .slice (some ⟨gb, 0, none⟩) l.length cb] 90) * (row 83 2 (.slice (some ⟨ga, 0, none⟩) l.length ca) l.length (pairs (l.set j (p0, p1))) * (row 4 1 (.slice (some ⟨gb, 0, none⟩) l.length cb) l.length (bools (c.set j true)) * F)) by ac_rfl)
    rw [show l.length = (l.set j (p0, p1)).length by simp] at q4
    have q5 := rmap_shut q4
    rw [show l.set j (p0, p1) = setL l j (p0, p1) by unfold setL; rw [if_pos HM.out, Int.toNat_natCast], show c.set j true = setC l.length c j (p0, p1) by unfold setC; rw [if_pos HM.out, Int.toNat_natCast]] at q5
    have Q5 := hid q5
    clear q1 q2 q4 q5 hx hy h2 h3 hS
    go_enter Try.func39, Try.ntmps39
    go_wp2_with fail
    go_region
    go_wp2
    go_ret
    exact ⟨rfl, Q5.out⟩
  all_goals
    rw [show setL l k (p0, p1) = l by unfold setL; rw [hm]; rfl, show setC l.length c k (p0, p1) = c by unfold setC; rw [hm]; rfl, hm]
    have hS1 := hS.alloc_drop (.cells #[.int .i64 p0, .int .i64 p1] 83)
    clear hm h2
    go_enter Try.func39, Try.ntmps39
    go_wp2
    go_ret
    exact ⟨ret_bool (by first | rfl | (simp; omega)), hS1⟩
end Go.Proofs.Ytedhcgeglmoacaa
