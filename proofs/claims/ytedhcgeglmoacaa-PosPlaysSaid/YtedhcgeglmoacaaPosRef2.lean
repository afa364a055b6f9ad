import Derived.Test.YtedhcgeglmoacaaPosRef
namespace Go.Proofs.Ytedhcgeglmoacaa
set_option linter.unusedVariables false
set_option linter.unusedSimpArgs false
open Go.RowKit Go.Proofs.Sep
theorem Try.info117 : (Try.prog.info? 117).map (fun i => (i.zero, i.size, i.bytes)) = some (some (.agg #[.int .i64 0, .int .i64 0, .int .i64 0]), 3, 24) := by kernel_rfl

set_option maxRecDepth 100000 in
set_option maxHeartbeats 1000000 in
theorem rsettle_calls {E w : World} {F : Asn} (m : Nat) (l : List (Int × Int)) (c : List Bool) (hS : Sat E (rmap m l c * F) w) (hn : l.length ≤ 1000000) :
    Calls Try.prog 41 #[.pointer (some ⟨m, 0, none⟩)] w fun e w' => e = .returned (.tuple #[]) ∧ Sat E (rmap m l (List.replicate l.length false) * F) w' := by
  obtain ⟨A, ca, B, cb, _, _, _, _, hl, h2, _, _⟩ := rmap_open hS
  have hmk := fun w => run_make_row' (P := Try.prog) 88 4 (.bool false) 1 Try.underlying88 Try.info4 rfl .i64 .i64 l.length (by omega) (by omega) w
  have c0 := h2.cell_blk (i := 0)
  have c1 := h2.cell_blk (i := 1)
  have f1 := h2.free_blk (i := 1)
  simp only [List.getElem?_toArray, List.getElem?_cons_zero, List.getElem?_cons_succ] at c0 c1
  have lm := h2.lt_blk
  have h3 := (h2.setCell (i := 1) (.slice (some ⟨w.heap.size, 0, none⟩) l.length l.length))
  have h4 := h3.row_made (.bool false) 4 l.length (by omega)
  rw [show List.replicate l.length (Value.bool false) = bools (List.replicate l.length false) by simp [bools]] at h4
  have H4 := hid h4
  clear h4 h3 hS
  go_enter Try.func41, Try.ntmps41
  go_wp2
  go_end0
  have h5 : Sat E (row 4 1 (.slice (some ⟨w.heap.size, 0, none⟩) l.length l.length) l.length (bools (List.replicate l.length false)) * (blk m (.cells #[.slice A l.length ca, .slice (some ⟨w.heap.size, 0, none⟩) l.length l.length] 90) * (row 83 2 (.slice A l.length ca) l.length (pairs l) * (row 4 1 (.slice B l.length cb) l.length (bools c) * F)))) ((w.setCell ⟨m, 1, none⟩ (.slice (some ⟨w.heap.size, 0, none⟩) l.length l.length)).alloc (.cells (madeCells #[.bool false] l.length) 4)) := by
    have := H4.out
    simpa using this
  have h6 := (h5.eq (show _ = row 4 1 (.slice B l.length cb) l.length (bools c) * (blk m (.cells #[.slice A l.length ca, .slice (some ⟨w.heap.size, 0, none⟩) l.length l.length] 90) * (row 83 2 (.slice A l.length ca) l.length (pairs l) * (row 4 1 (.slice (some ⟨w.heap.size, 0, none⟩) l.length l.length) l.length (bools (List.replicate l.length false)) * F))) by ac_rfl)).right
  exact ⟨rfl, rmap_shut h6⟩

set_option maxRecDepth 100000 in
set_option maxHeartbeats 1000000 in
theorem rchanges_calls {E w : World} {F : Asn} (m : Nat) (l : List (Int × Int)) (c : List Bool) (hS : Sat E (rmap m l c * F) w) (hn : l.length ≤ 1000000) :
    Calls Try.prog 46 #[.pointer (some ⟨m, 0, none⟩)] w fun e w' => ∃ v, e = .returned v ∧ Sat E (row 117 3 v (chgs l c).length (chs (chgs l c)) * (rmap m l c * F)) w' := by
  obtain ⟨A, ca, B, cb, _, _, _, _, hl, h2, _, _⟩ := rmap_open hS
  go_enter Try.func46, Try.ntmps46
  go_wp2_with fail
  go_loopw [3, 4] (fun v i wr => ∃ k : Nat, k ≤ l.length ∧ i = .int .i64 k ∧ Sat E (row 117 3 v (chTo l c k).length (chs (chTo l c k)) * (blk m (.cells #[.slice A l.length ca, .slice B l.length cb] 90) * (row 83 2 (.slice A l.length ca) l.length (pairs l) * (row 4 1 (.slice B l.length cb) l.length (bools c) * F)))) wr) (fun _ i _ => l.length - (intOf i).toNat)
  case atStart => exact ⟨0, by omega, rfl, h2.row_nil⟩
  case round =>
    obtain ⟨k, hk, rfl, hr⟩ := hrel
    obtain ⟨Av, cv, rfl, _, _, _⟩ := hr.reads
    have r0 := hr.right.cell_blk (i := 0)
    have r1 := hr.right.cell_blk (i := 1)
    simp only [List.getElem?_toArray, List.getElem?_cons_zero, List.getElem?_cons_succ] at r0 r1
    by_cases hlt : k < l.length
    · have hra : Sat E (row 83 2 (.slice A l.length ca) l.length (pairs l) * (row 4 1 (.slice B l.length cb) l.length (bools c) * (blk m (.cells #[.slice A l.length ca, .slice B l.length cb] 90) * (row 117 3 (.slice Av (chTo l c k).length cv) (chTo l c k).length (chs (chTo l c k)) * F)))) wr := hr.eq (by ac_rfl)
      obtain ⟨ga, cga, e1, _, _⟩ := hra.row_head (by omega)
      injection e1 with e1 e2 e3
      subst e1
      clear e2 e3
      obtain ⟨gb, cgb, e1, _, _⟩ := hra.right.row_head (by omega)
      injection e1 with e1 e2 e3
      subst e1
      clear e2 e3
      have a0 := hra.row_cell (k * 2) (by omega)
      have a1 := hra.row_cell (k * 2 + 1) (by omega)
      rw [pairs_at0 hlt] at a0
      rw [pairs_at1 hlt] at a1
      have b0 := hra.right.row_cell k (by omega)
      rw [bools_at (by omega)] at b0
      have hlen := chTo_length l c k
      by_cases hx : c[k] = true
      · have hnx : chs (chTo l c k) ++ [.int .i64 k, .int .i64 l[k].1, .int .i64 l[k].2] = chs (chTo l c (k + 1)) := by
          simp only [chTo]
          rw [if_pos (by rw [List.getD_eq_getElem?_getD, List.getElem?_eq_getElem (by omega)]; simpa using hx), chs_append, List.getD_eq_getElem?_getD, List.getElem?_eq_getElem hlt]
          rfl
        have hnl : (chTo l c k).length + 1 = (chTo l c (k + 1)).length := by
          simp only [chTo]
          rw [if_pos (by rw [List.getD_eq_getElem?_getD, List.getElem?_eq_getElem (by omega)]; simpa using hx), List.length_append]
          rfl
        have HN := hid hnx
        have HL := hid hnl
        rw [hx] at b0
        clear hx hnx hnl
        go_wp2_with (at_builtin; refine wpList_append_sat rfl _ _ 86 117 (.agg #[.int .i64 0, .int .i64 0, .int .i64 0]) 3 24 rfl Try.underlying86 Try.info117 rfl (by decide) _ (chTo l c k).length _ _ 1 1 [.int .i64 k, .int .i64 l[k].1, .int .i64 l[k].2] rfl rfl (hr.alloc_drop _) (Reads.new 3 1 [.int .i64 k, .int .i64 l[k].1, .int .i64 l[k].2] 117 rfl (by omega)) (by simp [Value.oneCell']) (by unfold maxLen; omega) (by omega) ?_; intro v1 w6 h6)
        rw [HN.out, HL.out] at h6
        go_wp2
        go_roundw
        case rel => exact ⟨k + 1, by omega, by go_num, h6⟩
        case measure => simp [intOf]; omega
      · have hx0 : c[k] = false := by simpa using hx
        have hnx : chTo l c (k + 1) = chTo l c k := by
          simp only [chTo]
          rw [if_neg (by rw [List.getD_eq_getElem?_getD, List.getElem?_eq_getElem (by omega)]; simp [hx0])]
          simp
        have HN := hid hnx
        rw [hx0] at b0
        clear hx hnx hx0
        go_wp2
        go_roundw
        case rel => exact ⟨k + 1, by omega, by go_num, by rw [HN.out]; exact hr⟩
        case measure => simp [intOf]; omega
    · obtain rfl : k = l.length := by omega
      have q1 : Sat E (blk m (.cells #[.slice A l.length ca, .slice B l.length cb] 90) * (row 83 2 (.slice A l.length ca) l.length (pairs l) * (row 4 1 (.slice B l.length cb) l.length (bools c) * (row 117 3 (.slice Av (chTo l c l.length).length cv) (chTo l c l.length).length (chs (chTo l c l.length)) * F)))) wr := hr.eq (by ac_rfl)
      go_wp2
      go_ret
      exact ⟨_, rfl, (rmap_shut q1).eq (star_left_comm _ _ _)⟩
end Go.Proofs.Ytedhcgeglmoacaa
