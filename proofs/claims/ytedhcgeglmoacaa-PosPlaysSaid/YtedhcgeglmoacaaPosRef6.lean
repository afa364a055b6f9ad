import Derived.Test.YtedhcgeglmoacaaPosRef5
namespace Go.Proofs.Ytedhcgeglmoacaa
set_option linter.unusedVariables false
set_option linter.unusedSimpArgs false
open Go.RowKit Go.Proofs.Sep

set_option maxRecDepth 100000 in
set_option maxHeartbeats 1000000 in
theorem newMap_calls {E w : World} {F : Asn} (A : Option Addr) (c : Nat) (l : List (Int × Int)) (hS : Sat E F w) (hn : l.length ≤ 1000000) (hR : ∀ w, Sat E F w → Reads w 2 A l.length (pairs l)) :
    Calls Try.prog 38 #[.slice A l.length c] w fun e w' => ∃ m, e = .returned (.pointer (some ⟨m, 0, none⟩)) ∧ Sat E (rmap m l (List.replicate l.length false) * F) w' := by
  have hmk := fun w => run_make_row' (P := Try.prog) 88 4 (.bool false) 1 Try.underlying88 Try.info4 rfl .i64 .i64 l.length (by omega) (by omega) w
  have hA : Sat E (row 83 2 (.slice (some ⟨w.heap.size, 0, none⟩) 0 0) 0 [] * F) ((w.alloc (.cells #[] 83)).drew) := ((hS.alloc _).blk_row (n := 0) (cap := 0) (by omega) (by simp [maxLen]) rfl).drew
  have hM := hS.row_made (.bool false) 4 l.length (by omega)
  have hB : Sat E (row 83 2 (.slice (some ⟨w.heap.size, 0, none⟩) 0 0) 0 [] * (row 4 1 (.slice (some ⟨w.heap.size + 1, 0, none⟩) l.length l.length) l.length (List.replicate l.length (.bool false)) * F)) (((w.alloc (.cells #[] 83)).alloc (.cells (madeCells #[.bool false] l.length) 4)).drew) := by
    have h1 : Sat E (row 83 2 (.slice (some ⟨w.heap.size, 0, none⟩) 0 0) 0 [] * F) (w.alloc (.cells #[] 83)) := (hS.alloc _).blk_row (n := 0) (cap := 0) (by omega) (by simp [maxLen]) rfl
    have h2 := ((h1.row_made (.bool false) 4 l.length (by omega)).drew).eq (star_left_comm _ _ _)
    simpa using h2
  have hC : Sat E (row 83 2 (.slice (some ⟨w.heap.size + 1, 0, none⟩) 0 0) 0 [] * (row 4 1 (.slice (some ⟨w.heap.size, 0, none⟩) l.length l.length) l.length (List.replicate l.length (.bool false)) * F)) (((w.alloc (.cells (madeCells #[.bool false] l.length) 4)).alloc (.cells #[] 83)).drew) := by
    have := ((hM.alloc (.cells #[] 83)).blk_row (e := 83) (size := 2) (n := 0) (cap := 0) (by omega) (by simp [maxLen]) rfl).drew
    simpa using this
  have hrep : List.replicate l.length (Value.bool false) = bools (List.replicate l.length false) := by simp [bools]
  have HREP := hid hrep
  clear hrep
  go_enter Try.func38, Try.ntmps38
  go_wp2_with fail
  go_region_held3 (fun w' => Sat E F w')
    (first | assumption | exact Sat.alloc_drop (by assumption) _ | exact Sat.drew (by assumption) | exact Sat.drew (Sat.alloc_drop (by assumption) _) | exact Sat.drew (Sat.alloc_drop (Sat.alloc_drop (by assumption) _) _) | exact Sat.right (by assumption))
    (first
      | (refine step_append_sat rfl _ _ 72 83 (.agg #[.int .i64 0, .int .i64 0]) 2 16 rfl Try.underlying72 Try.info83 rfl (by decide) _ 0 [] A l.length c (pairs l) rfl rfl hA (hR _ hA.right) (pairs_one _) (by unfold maxLen; omega) (by omega) ?_; intro v1 w6 h6; rw [Nat.zero_add, List.nil_append] at h6; obtain ⟨Aw, cw, rfl, _, _, _⟩ := h6.reads; have h7 := h6.right)
      | (refine step_append_sat rfl _ _ 72 83 (.agg #[.int .i64 0, .int .i64 0]) 2 16 rfl Try.underlying72 Try.info83 rfl (by decide) _ 0 [] A l.length c (pairs l) rfl rfl hB (hR _ hB.right.right) (pairs_one _) (by unfold maxLen; omega) (by omega) ?_; intro v1 w6 h6; rw [Nat.zero_add, List.nil_append] at h6; obtain ⟨Aw, cw, rfl, _, _, _⟩ := h6.reads; have h7 := h6.right.right)
      | (refine step_append_sat rfl _ _ 72 83 (.agg #[.int .i64 0, .int .i64 0]) 2 16 rfl Try.underlying72 Try.info83 rfl (by decide) _ 0 [] A l.length c (pairs l) rfl rfl hC (hR _ hC.right.right) (pairs_one _) (by unfold maxLen; omega) (by omega) ?_; intro v1 w6 h6; rw [Nat.zero_add, List.nil_append] at h6; obtain ⟨Aw, cw, rfl, _, _, _⟩ := h6.reads; have h7 := h6.right.right))
  · have h8 := (h6.row_made (.bool false) 4 l.length (by omega)).alloc (.cells #[.slice Aw l.length cw, .slice (some ⟨w6.heap.size, 0, none⟩) l.length l.length] 90)
    rw [HREP.out] at h8
    have h9 : Sat E (blk (w6.heap.size + 1) (.cells #[.slice Aw l.length cw, .slice (some ⟨w6.heap.size, 0, none⟩) l.length l.length] 90) * (row 83 2 (.slice Aw l.length cw) l.length (pairs l) * (row 4 1 (.slice (some ⟨w6.heap.size, 0, none⟩) l.length l.length) l.length (bools (List.replicate l.length false)) * F))) ((w6.alloc (.cells (madeCells #[.bool false] l.length) 4)).alloc (.cells #[.slice Aw l.length cw, .slice (some ⟨w6.heap.size, 0, none⟩) l.length l.length] 90)) := by
      have := h8.eq (show _ = _ * (row 83 2 (.slice Aw l.length cw) l.length (pairs l) * (row 4 1 (.slice (some ⟨w6.heap.size, 0, none⟩) l.length l.length) l.length (bools (List.replicate l.length false)) * F)) from congrArg _ (star_left_comm _ _ _))
      simpa using this
    go_wp2
    go_ret
    exact ⟨_, rfl, rmap_shut h9⟩
  · have h8 := h6.alloc (.cells #[.slice Aw l.length cw, .slice (some ⟨w.heap.size + 1, 0, none⟩) l.length l.length] 90)
    rw [HREP.out] at h8
    go_wp2
    go_ret
    exact ⟨_, rfl, rmap_shut h8⟩
  · have h8 := h6.alloc (.cells #[.slice Aw l.length cw, .slice (some ⟨w.heap.size, 0, none⟩) l.length l.length] 90)
    rw [HREP.out] at h8
    go_wp2
    go_ret
    exact ⟨_, rfl, rmap_shut h8⟩
end Go.Proofs.Ytedhcgeglmoacaa
