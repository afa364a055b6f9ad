import Derived.Test.YtobgfdongidaaaaDir33
namespace Go.Proofs.Ytobgfdongidaaaa
set_option linter.unusedVariables false
set_option linter.unusedSimpArgs false
open Go.RowKit Go.Proofs.Sep Go.Lib

set_option maxRecDepth 100000 in
set_option maxHeartbeats 8000000 in
theorem shift_left {E w : World} {F : Asn} (n a b i j k : Nat) (es La Lb : List Ent) (ps qa qb : List Nat) (hj : j = i + 1) (hpa : ps[j]? = some a) (hpb : ps[i]? = some b) (X Y : Ent) (hX : es[i]? = some X) (hY : La[0]? = some Y) (hk : La.length = k + 1)
    (l1 : es.length ≤ 1000000) (l2 : La.length ≤ 1000000) (l3 : Lb.length ≤ 900000) (l4 : ps.length ≤ 1000000) (l5 : qa.length ≤ 1000000) (l6 : qb.length ≤ 900000)
    (hS : Sat E (node n es ps * (node a La qa * (node b Lb qb * F))) w) :
    Calls Try.prog 48 #[ptrv n, .int .i64 j, .int .i64 i] w fun e w' => (∃ v, e = .returned v) ∧
      Sat E (node n (es.set i Y) ps * (node a (La.drop 1) (qa.drop 1) * (node b (Lb ++ [X]) (qb ++ qa.take 1) * F))) w' := by
  obtain ⟨hi, hX⟩ := List.getElem?_eq_some_iff.1 hX
  obtain ⟨hkk, hY⟩ := List.getElem?_eq_some_iff.1 hY
  have hjp : j < ps.length := (List.getElem?_eq_some_iff.1 hpa).1
  have hii : (i : Int) < (ps.length : Int) := by omega
  have hii2 : (j : Int) < (ps.length : Int) := by omega
  have hie : (i : Int) < (es.length : Int) := by omega
  have z1 : ¬ (j : Int) < (i : Int) := by omega
  obtain ⟨N1, c1, N2, c2, g1, g2, h1⟩ := hS.node_open
  obtain ⟨A1, c3, A2, c4, g3, g4, h2⟩ := (h1.eq (star_left_comm _ _ _)).node_open
  obtain ⟨B1, c5, B2, c6, g5, g6, h3⟩ := (h2.eq (show _ = node b Lb qb * (nodeAt n (.slice N1 es.length c1) (.slice N2 ps.length c2) es ps * (nodeAt a (.slice A1 La.length c3) (.slice A2 qa.length c4) La qa * F)) by ac_rfl)).node_open
  obtain ⟨x0, x1, _, _, x4, x5⟩ := node_facts rfl rfl h3.right
  obtain ⟨ad, rfl, xq⟩ := ptr_at x5 hpa
  obtain ⟨_, had, xr⟩ := ptr_at x5 hpb
  cases had
  clear hS h1 h2 x4 x5 x0 hj hpa hpb hjp
  unfold ptrv at xq xr ⊢
  go_enter Try.func48, Try.ntmps48
  go_wp2_with fail
  go_quiet (fail)
  generalize hw1 : (_ : World).drewN _ = w1
  have h4 : Sat E (nodeAt b (.slice B1 Lb.length c5) (.slice B2 qb.length c6) Lb qb * (nodeAt n (.slice N1 es.length c1) (.slice (some ad) ps.length c2) es ps * (nodeAt a (.slice A1 La.length c3) (.slice A2 qa.length c4) La qa * F))) w1 := hw1 ▸ h3.drewN _
  clear hw1 h3 xq xr x1
  obtain ⟨gn, _, hv, _, _⟩ := (h4.right.eq (ents_out ..)).row_head (by omega)
  injection hv with hv1 _ hv2
  subst hv1 hv2
  obtain ⟨ga, _, hv, _, _⟩ := (h4.right.right.eq (ents_out ..)).row_head (by omega)
  injection hv with hv1 _ hv2
  subst hv1 hv2
  obtain ⟨X1, X2⟩ := X
  obtain ⟨Y1, Y2⟩ := Y
  have hki : (0 : Int) < (La.length : Int) := by omega
  have HK := hid hk
  have HX := hid hX
  have HY := hid hY
  clear hk hX hY
  go_upto_region 8 with fail
  go_cut [] (fun wc => ∃ A7 c7, Sat E (nodeAt b (.slice A7 (Lb.length + 1) c7) (.slice B2 qb.length c6) (Lb ++ [(X1, X2)]) qb * (nodeAt n (.slice (some ⟨gn, 0, none⟩) es.length c1) (.slice (some ad) ps.length c2) es ps * (nodeAt a (.slice (some ⟨ga, 0, none⟩) La.length c3) (.slice A2 qa.length c4) La qa * F))) wc)
  case first =>
    obtain ⟨y0, _, _, _, _, _⟩ := node_facts rfl rfl h4
    obtain ⟨x0, _, _, _, x4, _⟩ := node_facts rfl rfl h4.right
    obtain ⟨adn, hadn, e0, e1⟩ := cells_at x4 hi
    cases hadn
    rw [HX.out] at e0 e1
    have s4 : Sat E (row 25 2 (.slice B1 Lb.length c5) Lb.length (ents Lb) * (blk b (.cells #[.slice B1 Lb.length c5, .slice B2 qb.length c6] 59) * (row 56 1 (.slice B2 qb.length c6) qb.length (qb.map ptrv) * (nodeAt n (.slice (some ⟨gn, 0, none⟩) es.length c1) (.slice (some ad) ps.length c2) es ps * (nodeAt a (.slice (some ⟨ga, 0, none⟩) La.length c3) (.slice A2 qa.length c4) La qa * F))))) w1 := h4.eq (ents_out ..)
    have s5 := (s4.alloc_drop (.cells #[.string X1, .int .i64 X2] 25)).drew
    have hR : Reads (w1.alloc (.cells [.string X1, .int .i64 X2].toArray 25)).drew 2 (some ⟨w1.heap.size, 0, none⟩) 1 [.string X1, .int .i64 X2] := (Reads.new 2 1 [.string X1, .int .i64 X2] 25 rfl (by omega)).drew
    have s6 : Sat E _ (w1.drew.alloc (.cells #[.string X1, .int .i64 X2] 25)) := s5
    have hR6 : Reads (w1.drew.alloc (.cells [.string X1, .int .i64 X2].toArray 25)) 2 (some ⟨w1.heap.size, 0, none⟩) 1 [.string X1, .int .i64 X2] := hR
    have x9 : (w1.alloc (.cells #[.string X1, .int .i64 X2] 25)).cell? ⟨b, 0, none⟩ = some (.slice B1 Lb.length c5) := (two_cells s5.right).1
    clear x4 h4 s4 HX HY HK
    simp only [addr_plain] at e0 e1
    go_region_law ((first | (refine step_append_sat rfl _ _ 22 25 (.agg #[.string ByteArray.empty, .int .i64 0]) 2 24 rfl Try.underlying22 Try.info25 rfl (by decide) _ Lb.length (ents Lb) _ 1 1 [.string X1, .int .i64 X2] rfl rfl s5 hR (by simp [Value.oneCell']) (by unfold maxLen; omega) (by omega) ?_) | (refine step_append_sat rfl _ _ 22 25 (.agg #[.string ByteArray.empty, .int .i64 0]) 2 24 rfl Try.underlying22 Try.info25 rfl (by decide) _ Lb.length (ents Lb) _ 1 1 [.string X1, .int .i64 X2] rfl rfl s6 hR6 (by simp [Value.oneCell']) (by unfold maxLen; omega) (by omega) ?_)); intro v7 w3 q1; obtain ⟨A7, c7, rfl, g7, _, _⟩ := q1.reads; have d0 := q1.right.free_blk (i := 0); have d1 := q1.right.cell_blk (i := 0); simp only [List.getElem?_toArray, List.getElem?_cons_zero, List.getElem?_cons_succ] at d1)
    all_goals
      have Q := hid (⟨A7, c7, put_ents (L := Lb ++ [(X1, X2)]) (by simp) (by rw [ents_append]; rfl) q1⟩ : ∃ A7 c7, Sat E (nodeAt b (.slice A7 (Lb.length + 1) c7) (.slice B2 qb.length c6) (Lb ++ [(X1, X2)]) qb * (nodeAt n (.slice (some ⟨gn, 0, none⟩) es.length c1) (.slice (some ad) ps.length c2) es ps * (nodeAt a (.slice (some ⟨ga, 0, none⟩) La.length c3) (.slice A2 qa.length c4) La qa * F))) _)
      clear q1 s5 s6 hR hR6
      go_wp2
      go_meet
      exact Q.out
  case rest =>
    clear h4
    obtain ⟨A7, c7, h5⟩ := hcut
    go_upto_region 9 with fail
    go_cut [] (fun wc => Sat E (nodeAt n (.slice (some ⟨gn, 0, none⟩) es.length c1) (.slice (some ad) ps.length c2) (es.set i (Y1, Y2)) ps * (nodeAt b (.slice A7 (Lb.length + 1) c7) (.slice B2 qb.length c6) (Lb ++ [(X1, X2)]) qb * (nodeAt a (.slice (some ⟨ga, 0, none⟩) La.length c3) (.slice A2 qa.length c4) La qa * F))) wc)
    case first =>
      obtain ⟨x0, _, x2, _, _, _⟩ := node_facts rfl rfl h5.right
      obtain ⟨y0, _, _, _, y4, _⟩ := node_facts rfl rfl h5.right.right
      obtain ⟨ada, hada, f0, f1⟩ := cells_at y4 hkk
      cases hada
      rw [HY.out] at f0 f1
      have s7 : Sat E (row 25 2 (.slice (some ⟨gn, 0, none⟩) es.length c1) es.length (ents es) * (blk n (.cells #[.slice (some ⟨gn, 0, none⟩) es.length c1, .slice (some ad) ps.length c2] 59) * (row 56 1 (.slice (some ad) ps.length c2) ps.length (ps.map ptrv) * (nodeAt b (.slice A7 (Lb.length + 1) c7) (.slice B2 qb.length c6) (Lb ++ [(X1, X2)]) qb * (nodeAt a (.slice (some ⟨ga, 0, none⟩) La.length c3) (.slice A2 qa.length c4) La qa * F))))) wc := h5.eq (by
        rw [star_left_comm, ents_out n]
      )
      have fz := fun i => s7.row_free i
      have a0 := s7.row_cell (i * 2) (by omega)
      have a1 := s7.row_cell (i * 2 + 1) (by omega)
      rw [(ents_at hi).1] at a0
      rw [(ents_at hi).2] at a1
      have Q := hid (((s7.row_store (i * 2) (.string Y1)).row_store (i * 2 + 1) (.int .i64 Y2)).drew)
      rw [← ents_set (Y1, Y2) hi] at Q
      clear h5 s7 y4 HX HY HK
      simp only [Nat.zero_mul, addr_plain] at f0 f1
      go_wp2_with fail
      refine wp_region_tail 11 (by kernel_rfl) (by kernel_rfl) ?_
      simp only [List.take_succ_cons, List.take_zero, List.drop_succ_cons, List.drop_zero]
      repeat still_step
      refine wpStill_nil ?_
      go_wp2_with fail
      go_meet
      rw [ents_out, List.length_set]
      exact Q.out
    case rest =>
      clear h5
      have h6 := hcut.eq (show _ = nodeAt a (.slice (some ⟨ga, 0, none⟩) La.length c3) (.slice A2 qa.length c4) La qa * (nodeAt n (.slice (some ⟨gn, 0, none⟩) es.length c1) (.slice (some ad) ps.length c2) (es.set i (Y1, Y2)) ps * (nodeAt b (.slice A7 (Lb.length + 1) c7) (.slice B2 qb.length c6) (Lb ++ [(X1, X2)]) qb * F)) by ac_rfl)
      clear hcut
      obtain ⟨y0, _, _, _, _, _⟩ := node_facts rfl rfl h6
      have hdel : Calls Try.prog 39 #[.slice (some ⟨ga, 0, none⟩) La.length c3, .int .i64 0, .int .i64 1] wc fun e w' => ∃ v', e = .returned v' ∧ Sat E (row 25 2 v' k ((ents La).take (0 * 2) ++ (ents La).drop (0 * 2 + 2)) * (blk a (.cells #[.slice (some ⟨ga, 0, none⟩) La.length c3, .slice A2 qa.length c4] 59) * (row 56 1 (.slice A2 qa.length c4) qa.length (qa.map ptrv) * (nodeAt n (.slice (some ⟨gn, 0, none⟩) es.length c1) (.slice (some ad) ps.length c2) (es.set i (Y1, Y2)) ps * (nodeAt b (.slice A7 (Lb.length + 1) c7) (.slice B2 qb.length c6) (Lb ++ [(X1, X2)]) qb * F))))) w' := delEnt _ La.length k 0 (ents La) HK.out (by omega) l2 (ents_one La) (h6.eq (ents_out ..))
      clear h6
      go_wp2_with fail
      refine hdel.mono ?_
      clear hdel y0
      rintro e w9 ⟨v9, rfl, q1⟩
      obtain ⟨A9, c9, rfl, _, _, _⟩ := q1.reads
      have d0 := q1.right.free_blk (i := 0)
      have d1 := q1.right.cell_blk (i := 0)
      simp only [List.getElem?_toArray, List.getElem?_cons_zero, List.getElem?_cons_succ] at d1
      have hd1 : (La.drop 1).length = k := by have := HK.out; rw [List.length_drop]; omega
      have h7 := put_ents (L := La.drop 1) hd1.symm (by rw [ents_drop]; rfl) q1
      have HD := hid hd1
      clear q1 hd1
      have hlf := leaf30 a qa.length c4 A2 (node_facts HD.out.symm rfl h7).2.1
      rcases Nat.eq_zero_or_pos qa.length with hz0 | hp0
      · obtain rfl : qa = [] := List.eq_nil_of_length_eq_zero hz0
        clear hz0
        have z2 : ((([] : List Nat).length : Int) == 0) = true := rfl
        have H7 := hid h7
        clear h7 HX HY HK
        go_wp2_with fail
        refine hlf.mono ?_
        rintro e w8 ⟨rfl, rfl⟩
        go_wp2_with fail
        refine bodyPost_end (results_none rfl _ _ _) rfl ?_
        refine ⟨⟨_, rfl⟩, ?_⟩
        have h7 := H7.out.node_shut
        have h8 := (h7.eq (star_left_comm _ _ _)).node_shut
        have h9 := (h8.eq (show _ = nodeAt b (.slice A7 (Lb.length + 1) c7) (.slice B2 qb.length c6) (Lb ++ [(X1, X2)]) qb * (node n (es.set i (Y1, Y2)) ps * (node a (La.drop 1) [] * F)) by ac_rfl)).node_shut
        refine h9.eq ?_
        simp only [List.take_nil, List.append_nil, List.drop_nil]
        ac_rfl
      · obtain ⟨m, hm⟩ : ∃ m, qa.length = m + 1 := ⟨qa.length - 1, by omega⟩
        obtain ⟨q, hq⟩ : ∃ q, qa[0]? = some q := ⟨qa[0], List.getElem?_eq_getElem (by omega)⟩
        have z2 : ((qa.length : Int) == 0) = false := beq_eq_false_iff_ne.2 (by omega)
        obtain ⟨gq, _, hv, _, _⟩ := (h7.eq (ptrs_out ..)).row_head (by omega)
        injection hv with hv1 _ hv2
        subst hv1 hv2
        have hmi : (0 : Int) < (qa.length : Int) := by omega
        have HM := hid hm
        have HQ := hid hq
        have H7 := hid h7
        clear hm hq h7
        go_wp2_with fail
        refine hlf.mono ?_
        clear hlf d0 d1
        rintro e w8 ⟨rfl, rfl⟩
        have h7 := H7.out
        clear H7
        generalize w9.setCell _ _ = w8 at *
        go_upto_region 12 with fail
        go_cut [] (fun wc => ∃ A8 c8, Sat E (nodeAt b (.slice A7 (Lb.length + 1) c7) (.slice A8 (qb.length + 1) c8) (Lb ++ [(X1, X2)]) (qb ++ [q]) * (nodeAt a (.slice A9 k c9) (.slice (some ⟨gq, 0, none⟩) qa.length c4) (La.drop 1) qa * (nodeAt n (.slice (some ⟨gn, 0, none⟩) es.length c1) (.slice (some ad) ps.length c2) (es.set i (Y1, Y2)) ps * F))) wc)
        case first =>
          have h8 := h7.eq (show _ = nodeAt b (.slice A7 (Lb.length + 1) c7) (.slice B2 qb.length c6) (Lb ++ [(X1, X2)]) qb * (nodeAt a (.slice A9 k c9) (.slice (some ⟨gq, 0, none⟩) qa.length c4) (La.drop 1) qa * (nodeAt n (.slice (some ⟨gn, 0, none⟩) es.length c1) (.slice (some ad) ps.length c2) (es.set i (Y1, Y2)) ps * F)) by ac_rfl)
          obtain ⟨_, y1, _, _, _, _⟩ := node_facts (n1 := Lb.length + 1) (L := Lb ++ [(X1, X2)]) (by simp) rfl h8
          obtain ⟨_, x1, _, _, _, x5⟩ := node_facts HD.out.symm rfl h8.right
          obtain ⟨adq, hadq, e0⟩ := ptr_at x5 HQ.out
          cases hadq
          unfold ptrv at e0
          simp only [addr_plain] at e0
          have s4 : Sat E (row 56 1 (.slice B2 qb.length c6) qb.length (qb.map ptrv) * (blk b (.cells #[.slice A7 (Lb.length + 1) c7, .slice B2 qb.length c6] 59) * (row 25 2 (.slice A7 (Lb.length + 1) c7) (Lb ++ [(X1, X2)]).length (ents (Lb ++ [(X1, X2)])) * (nodeAt a (.slice A9 k c9) (.slice (some ⟨gq, 0, none⟩) qa.length c4) (La.drop 1) qa * (nodeAt n (.slice (some ⟨gn, 0, none⟩) es.length c1) (.slice (some ad) ps.length c2) (es.set i (Y1, Y2)) ps * F))))) w8 := h8.eq (ptrs_out ..)
          have s5 := (s4.alloc_drop (.cells #[.pointer (some ⟨q, 0, none⟩)] 56)).drew
          have hR : Reads (w8.alloc (.cells [.pointer (some ⟨q, 0, none⟩)].toArray 56)).drew 1 (some ⟨w8.heap.size, 0, none⟩) 1 [.pointer (some ⟨q, 0, none⟩)] := (Reads.new 1 1 [.pointer (some ⟨q, 0, none⟩)] 56 rfl (by omega)).drew
          have s6 : Sat E _ (w8.drew.alloc (.cells #[.pointer (some ⟨q, 0, none⟩)] 56)) := s5
          have hR6 : Reads (w8.drew.alloc (.cells [.pointer (some ⟨q, 0, none⟩)].toArray 56)) 1 (some ⟨w8.heap.size, 0, none⟩) 1 [.pointer (some ⟨q, 0, none⟩)] := hR
          have x9 : (w8.alloc (.cells #[.pointer (some ⟨q, 0, none⟩)] 56)).cell? ⟨b, 1, none⟩ = some (.slice B2 qb.length c6) := (two_cells s5.right).2.1
          clear x5 h7 h8 s4 HX HY HK HM HQ
          go_region_law ((first | (refine step_append_sat rfl _ _ 57 56 (.pointer none) 1 8 rfl Try.underlying57 Try.info56 rfl (by decide) _ qb.length (qb.map ptrv) _ 1 1 [.pointer (some ⟨q, 0, none⟩)] rfl rfl s5 hR (by simp [Value.oneCell']) (by unfold maxLen; omega) (by omega) ?_) | (refine step_append_sat rfl _ _ 57 56 (.pointer none) 1 8 rfl Try.underlying57 Try.info56 rfl (by decide) _ qb.length (qb.map ptrv) _ 1 1 [.pointer (some ⟨q, 0, none⟩)] rfl rfl s6 hR6 (by simp [Value.oneCell']) (by unfold maxLen; omega) (by omega) ?_)); intro v7 w3 q1; obtain ⟨A8, c8, rfl, g7, _, _⟩ := q1.reads; have d0 := q1.right.free_blk (i := 1); have d1 := q1.right.cell_blk (i := 1); simp only [List.getElem?_toArray, List.getElem?_cons_zero, List.getElem?_cons_succ] at d1)
          all_goals
            have Q := hid (⟨A8, c8, put_ptrs (L := Lb ++ [(X1, X2)]) (ps := qb ++ [q]) (by simp) (by simp [ptrv]) q1⟩ : ∃ A8 c8, Sat E (nodeAt b (.slice A7 (Lb.length + 1) c7) (.slice A8 (qb.length + 1) c8) (Lb ++ [(X1, X2)]) (qb ++ [q]) * (nodeAt a (.slice A9 k c9) (.slice (some ⟨gq, 0, none⟩) qa.length c4) (La.drop 1) qa * (nodeAt n (.slice (some ⟨gn, 0, none⟩) es.length c1) (.slice (some ad) ps.length c2) (es.set i (Y1, Y2)) ps * F))) _)
            clear q1 s5 s6 hR hR6
            go_wp2
            go_meet
            exact Q.out
        case rest =>
          obtain ⟨A8, c8, h8⟩ := hcut
          clear h7
          have h9 := h8.eq (star_left_comm _ _ _)
          obtain ⟨_, y1, _, y3, _, _⟩ := node_facts HD.out.symm rfl h9
          have hdel : Calls Try.prog 55 #[.slice (some ⟨gq, 0, none⟩) qa.length c4, .int .i64 0, .int .i64 1] wc fun e w' => ∃ v', e = .returned v' ∧ Sat E (row 56 1 v' m ((qa.map ptrv).take (0 * 1) ++ (qa.map ptrv).drop (0 * 1 + 1)) * (blk a (.cells #[.slice A9 k c9, .slice (some ⟨gq, 0, none⟩) qa.length c4] 59) * (row 25 2 (.slice A9 k c9) (La.drop 1).length (ents (La.drop 1)) * (nodeAt b (.slice A7 (Lb.length + 1) c7) (.slice A8 (qb.length + 1) c8) (Lb ++ [(X1, X2)]) (qb ++ [q]) * (nodeAt n (.slice (some ⟨gn, 0, none⟩) es.length c1) (.slice (some ad) ps.length c2) (es.set i (Y1, Y2)) ps * F))))) w' := delNode _ qa.length m 0 (qa.map ptrv) HM.out (by omega) l5 (ptrs_one qa) (h9.eq (ptrs_out ..))
          clear h8 h9
          go_wp2_with fail
          refine hdel.mono ?_
          clear hdel y1 y3
          rintro e w10 ⟨v10, rfl, q1⟩
          obtain ⟨A10, c10, rfl, _, _, _⟩ := q1.reads
          have d0 := q1.right.free_blk (i := 1)
          have d1 := q1.right.cell_blk (i := 1)
          simp only [List.getElem?_toArray, List.getElem?_cons_zero, List.getElem?_cons_succ] at d1
          have hd1 : (qa.drop 1).length = m := by have := HM.out; rw [List.length_drop]; omega
          have hfin : qa.take 1 = [q] := by
            have h1 := HQ.out
            cases qa with
            | nil => simp at h1
            | cons q0 qa =>
              simp only [List.getElem?_cons_zero, Option.some.injEq] at h1
              rw [h1]; rfl
          have Q := hid (put_ptrs (ps := qa.drop 1) (L := La.drop 1) hd1.symm (by rw [List.map_drop]; rfl) q1)
          have HF := hid hfin
          clear q1 hd1 hfin HX HY HK HQ HM
          go_wp2_with fail
          refine bodyPost_end (results_none rfl _ _ _) rfl ?_
          refine ⟨⟨_, rfl⟩, ?_⟩
          rw [HF.out]
          have r1 := (Q.out.node_shut.eq (star_left_comm _ _ _)).node_shut
          have r2 := (r1.eq (show _ = nodeAt n (.slice (some ⟨gn, 0, none⟩) es.length c1) (.slice (some ad) ps.length c2) (es.set i (Y1, Y2)) ps * (node b (Lb ++ [(X1, X2)]) (qb ++ [q]) * (node a (La.drop 1) (qa.drop 1) * F)) by ac_rfl)).node_shut
          exact r2.eq (by ac_rfl)
end Go.Proofs.Ytobgfdongidaaaa
