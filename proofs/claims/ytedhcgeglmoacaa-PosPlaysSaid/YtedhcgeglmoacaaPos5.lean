import Derived.Test.YtedhcgeglmoacaaPos4
namespace Go.Proofs.Ytedhcgeglmoacaa
set_option linter.unusedVariables false
set_option linter.unusedSimpArgs false
open Go.RowKit Go.Proofs.Sep

theorem first8_pure : mayP 2 1 (2, 5) = true ∧ setL [(0, 0), (3, 0)] 1 (2, 5) = [(0, 0), (2, 5)] ∧ setC 2 [false, false] 1 (2, 5) = [false, true] ∧ mayP 2 2 (0, 0) = false ∧ setL [(0, 0), (2, 5)] 2 (0, 0) = [(0, 0), (2, 5)] ∧ setC 2 [false, true] 2 (0, 0) = [false, true] ∧ chgs [(0, 0), (2, 5)] [false, true] = [(1, 2, 5)] := by decide

set_option maxRecDepth 100000 in
set_option maxHeartbeats 1000000 in
theorem first8 {E w : World} {F : Asn} (hS : Sat E F w) : Calls Try.prog 20 #[] w fun e w' => e = .returned (.bool true) ∧ Sat E F w' := by
  obtain ⟨p1, p2, p3, p4, p5, p6, p7⟩ := first8_pure
  have P1 := hid p1
  have P2 := hid p2
  have P3 := hid p3
  have P4 := hid p4
  have P5 := hid p5
  have P6 := hid p6
  have P7 := hid p7
  clear p1 p2 p3 p4 p5 p6 p7
  have g0 := hS.alloc (.cells #[.int .i64 0, .int .i64 0, .int .i64 3, .int .i64 0] 39)
  go_enter Try.func20, Try.ntmps20
  go_wp2_with fail
  refine (new_calls _ _ [(0, 0), (3, 0)] g0 (fun w hw => hw.blk_reads rfl (by simp)) (by simp)).mono ?_
  rintro e w1 ⟨m, rfl, g1⟩
  go_wp2_with fail
  refine (set_calls m _ _ 1 2 5 g1).mono ?_
  simp only [List.length_cons, List.length_nil, Nat.reduceAdd, List.replicate_succ, List.replicate_zero]
  rw [P1.out, P2.out, P3.out]
  rintro e w2 ⟨rfl, g2⟩
  go_wp2_with fail
  refine (set_calls m _ _ 2 0 0 g2).mono ?_
  simp only [List.length_cons, List.length_nil, Nat.reduceAdd]
  rw [P4.out, P5.out, P6.out]
  rintro e w3 ⟨rfl, g3⟩
  go_wp2_with fail
  refine (changes_calls m _ _ g3 (by simp)).mono ?_
  rw [P7.out]
  rintro e w4 ⟨v, rfl, g4⟩
  obtain ⟨g, cg, rfl, _, _⟩ := g4.row_head (by simp)
  have d0 := g4.row_cell 0 (by simp)
  have d1 := g4.row_cell 1 (by simp)
  have d2 := g4.row_cell 2 (by simp)
  simp only [chs, List.flatMap_cons, List.flatMap_nil, List.append_nil, List.cons_append, List.nil_append, List.getElem?_cons_zero, List.getElem?_cons_succ] at d0 d1 d2
  have g5 := g4.right
  go_wp2_with fail
  refine (plen_calls m _ _ g5).mono ?_
  rintro e w5 ⟨rfl, rfl⟩
  go_wp2
  go_ret
  exact ⟨rfl, g5.right.right⟩
end Go.Proofs.Ytedhcgeglmoacaa
