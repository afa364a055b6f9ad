import Derived.Test.YtedhcgeglmoacaaPosRef4
namespace Go.Proofs.Ytedhcgeglmoacaa
set_option linter.unusedVariables false
set_option linter.unusedSimpArgs false
open Go.RowKit Go.Proofs.Sep

set_option maxRecDepth 100000 in
set_option maxHeartbeats 6000000 in
theorem rapply_calls {E w : World} {F : Asn} (m : Nat) (l : List (Int × Int)) (c : List Bool) (D : Option Addr) (cd : Nat) (cs : List (Int × Int × Int)) (hS : Sat E (rmap m l c * F) w)
    (hR : ∀ w, Sat E F w → Reads w 3 D cs.length (chs cs)) :
    Calls Try.prog 42 #[.pointer (some ⟨m, 0, none⟩), .slice D cs.length cd] w fun e w' => e = .returned (.bool (fitsP l.length cs)) ∧ Sat E (rmap m (applyL l cs) c * F) w' := by
  have hmm := (hR w hS.right).2.1
  go_enter Try.func42, Try.ntmps42
  go_wp2_with fail
  go_loopw [5] (fun i wr => ∃ k : Nat, k ≤ cs.length ∧ i = .int .i64 k ∧ Hid (fitsP l.length (cs.take k) = true) ∧ Sat E (rmap m l c * F) wr) (fun i _ => cs.length - (intOf i).toNat)
  case atStart => exact ⟨0, by omega, rfl, rfl, hS⟩
  case round =>
    obtain ⟨k, hk, rfl, hfit, hr⟩ := hrel
    by_cases hlt : k < cs.length
    · obtain ⟨ad, rfl, hc⟩ := (hR _ hr.right).at (by omega)
      obtain ⟨e0, e1, e2⟩ := chs_at hlt
      have d0 := hc _ _ e0
      have d1 := cell_two (hc _ _ e1)
      have d2 := cell_three (hc _ _ e2)
      clear hc e0 e1 e2
      obtain ⟨A, ca, B, cb, _, _, _, _, hl, h2, _, _⟩ := rmap_open hr
      have c0 := h2.cell_blk (i := 0)
      simp only [List.getElem?_toArray, List.getElem?_cons_zero, List.getElem?_cons_succ] at c0
      clear h2
      have hkl : (k : Int) < (cs.length : Int) := by omega
      rcases may_cases l.length cs[k].1 cs[k].2 with ⟨hm, hw⟩ | ⟨hm, hw1, hw2, hw3, hw⟩
      · have hnot : fitsP l.length cs = false := by
          unfold fitsP
          rw [List.all_eq_false]
          exact ⟨cs[k], List.getElem_mem _, by rw [hm]; simp⟩
        have HF := hid hnot
        clear hm hnot
        have hap : applyL l cs = l := by unfold applyL; rw [HF.out]; rfl
        have HAP := hid hap
        clear hap
        rcases hw with hw | ⟨hw1, hw⟩ | ⟨hw1, hw2, hw⟩ | ⟨hw1, hw2, hw3, hw⟩
        all_goals
          go_wp2_with fail
          go_quiet (fail)
          have hr3 := hr.drewN nq
          rw [← HAP.out] at hr3
          go_wp2
          go_ret
          exact ⟨ret_bool HF.out.symm, hr3⟩
      · have hf2 : fitsP l.length (cs.take (k + 1)) = true := by
          have := hfit.out
          unfold fitsP at this ⊢
          rw [List.take_add_one, List.getElem?_eq_getElem hlt, Option.toList_some, List.all_append, this]
          simp [hm]
        have HF := hid hf2
        clear hm hf2
        go_wp2_with fail
        go_quiet (fail)
        have hr3 := hr.drewN nq
        go_wp2
        go_roundw
        case rel => exact ⟨k + 1, by omega, by go_num, HF, hr3⟩
        case measure => simp [intOf]; omega
    · have hall : fitsP l.length cs = true := by
        have := hfit.out
        rwa [List.take_of_length_le (by omega)] at this
      have HA := hid hall
      clear hall hfit
      go_wp2_with fail
      go_loopw [6] (fun i wr => ∃ k : Nat, k ≤ cs.length ∧ i = .int .i64 k ∧ Sat E (rmap m (putTo l (cs.take k)) c * F) wr) (fun i _ => cs.length - (intOf i).toNat)
      case atStart => exact ⟨0, by omega, rfl, hr⟩
      case round =>
        clear hr
        obtain ⟨k, hk, rfl, hr⟩ := hrel
        by_cases hlt : k < cs.length
        · obtain ⟨ad, rfl, hc⟩ := (hR _ hr.right).at (by omega)
          obtain ⟨e0, e1, e2⟩ := chs_at hlt
          have d0 := hc _ _ e0
          have d1 := cell_two (hc _ _ e1)
          have d2 := cell_three (hc _ _ e2)
          clear hc e0 e1 e2
          have hmk : mayP l.length cs[k].1 cs[k].2 = true := by
            have := HA.out
            unfold fitsP at this
            rw [List.all_eq_true] at this
            exact this _ (List.getElem_mem _)
          obtain ⟨j, hj, hjl⟩ : ∃ j : Nat, cs[k].1 = j ∧ j < l.length := by
            unfold mayP inP at hmk
            simp only [Bool.and_eq_true, decide_eq_true_eq] at hmk
            exact ⟨cs[k].1.toNat, by omega, by omega⟩
          clear hmk
          have hnx : putTo l (cs.take (k + 1)) = (putTo l (cs.take k)).set j cs[k].2 := by
            rw [List.take_add_one, List.getElem?_eq_getElem hlt, Option.toList_some, putTo_snoc, hj, Int.toNat_natCast]
          have HN := hid hnx
          rw [hj] at d0
          generalize hq : cs[k].2 = q at *
          obtain ⟨q0, q1⟩ := q
          simp only at d1 d2
          clear hj hnx hq
          have hpl := putTo_length l (cs.take k)
          generalize putTo l (cs.take k) = lk at *
          obtain ⟨A, ca, B, cb, _, _, _, _, hl, h2, _, _⟩ := rmap_open hr
          have h3 : Sat E (row 83 2 (.slice A lk.length ca) lk.length (pairs lk) * (blk m (.cells #[.slice A lk.length ca, .slice B lk.length cb] 90) * (row 4 1 (.slice B lk.length cb) lk.length (bools c) * F))) wr := h2.eq (by ac_rfl)
          obtain ⟨ga, cga, e1, _, _⟩ := h3.row_head (by omega)
          injection e1 with e1 e2 e3
          subst e1
          clear e2 e3
          have n1 := h3.ne_row_blk (by omega)
          have l1 := h3.row_lt
          have l2 := h3.right.lt_blk
          have a0 := h3.row_cell (j * 2) (by omega)
          have a1 := h3.row_cell (j * 2 + 1) (by omega)
          rw [pairs_at0 (by omega)] at a0
          rw [pairs_at1 (by omega)] at a1
          have f0 := fun i => h3.row_free i
          have c0 := h2.cell_blk (i := 0)
          simp only [List.getElem?_toArray, List.getElem?_cons_zero, List.getElem?_cons_succ] at c0
          have hx := pairs_set (l := lk) (j := j) (by omega) (q0, q1)
          have q1' := ((h3.drew).row_store (j * 2) (.int .i64 q0)).row_store (j * 2 + 1) (.int .i64 q1)
          rw [hx] at q1'
          have q2' := q1'.eq (star_left_comm _ _ _)
          rw [show lk.length = (lk.set j (q0, q1)).length by simp] at q2'
          have q3' := rmap_shut q2'
          rw [← HN.out] at q3'
          rw [hpl] at *
          have Q1 := hid q3'
          clear q1' q2' q3' hx HN
          have hkl : (k : Int) < (cs.length : Int) := by omega
          go_wp2_with fail
          refine wp_region_tail 15 (by kernel_rfl) (by kernel_rfl) ?_
          simp only [List.take_succ_cons, List.take_zero, List.drop_succ_cons, List.drop_zero]
          repeat still_step
          refine wpStill_nil ?_
          go_wp2
          go_roundw
          case rel => exact ⟨k + 1, by omega, by go_num, Q1.out⟩
          case measure => simp [intOf]; omega
        · rw [List.take_of_length_le (by omega)] at hr
          go_wp2
          go_ret
          refine ⟨ret_bool HA.out.symm, ?_⟩
          rw [show applyL l cs = putTo l cs by unfold applyL; rw [if_pos HA.out]]
          exact hr
end Go.Proofs.Ytedhcgeglmoacaa
