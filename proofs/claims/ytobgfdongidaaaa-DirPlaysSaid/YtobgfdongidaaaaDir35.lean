import Derived.Test.YtobgfdongidaaaaDir33
namespace Go.Proofs.Ytobgfdongidaaaa
set_option linter.unusedVariables false
set_option linter.unusedSimpArgs false
open Go.RowKit Go.Proofs.Sep Go.Lib

set_option maxRecDepth 100000 in
set_option maxHeartbeats 8000000 in
theorem join49 {E w : World} {F : Asn} (n a b i : Nat) (es La Lb : List Ent) (ps qa qb : List Nat) (hpa : ps[i]? = some a) (hpb : ps[i + 1]? = some b) (X : Ent) (hX : es[i]? = some X)
    (l1 : es.length ≤ 900000) (l2 : La.length ≤ 900000) (l3 : Lb.length ≤ 900000) (l4 : ps.length ≤ 900000) (l5 : qa.length ≤ 900000) (l6 : qb.length ≤ 900000)
    (hS : Sat E (node n es ps * (node a La qa * (node b Lb qb * F))) w) :
    Calls Try.prog 49 #[ptrv n, .int .i64 i] w fun e w' => (∃ v, e = .returned v) ∧
      Sat E (node n (es.take i ++ es.drop (i + 1)) (ps.take (i + 1) ++ ps.drop (i + 2)) * (node a (La ++ X :: Lb) (qa ++ qb) * F)) w' := by
  obtain ⟨hi, hX⟩ := List.getElem?_eq_some_iff.1 hX
  have hjp : i + 1 < ps.length := (List.getElem?_eq_some_iff.1 hpb).1
  obtain ⟨j, hj⟩ : ∃ j, j = i + 1 := ⟨_, rfl⟩
  obtain ⟨j2, hj2⟩ : ∃ j, j = i + 2 := ⟨_, rfl⟩
  have hii : (i : Int) < (ps.length : Int) := by omega
  have hii2 : (j : Int) < (ps.length : Int) := by omega
  have hie : (i : Int) < (es.length : Int) := by omega
  have w1e : (i : Int) + 1 = (j : Int) := by omega
  have w2e : (i : Int) + 2 = (j2 : Int) := by omega
  have w1w := i64_wrap (x := (j : Int)) (by omega) (by omega)
  have w2w := i64_wrap (x := (j2 : Int)) (by omega) (by omega)
  rw [← hj] at hpb
  obtain ⟨N1, c1, N2, c2, g1, g2, h1⟩ := hS.node_open
  obtain ⟨A1, c3, A2, c4, g3, g4, h2⟩ := (h1.eq (star_left_comm _ _ _)).node_open
  obtain ⟨B1, c5, B2, c6, g5, g6, h3⟩ := (h2.eq (show _ = node b Lb qb * (nodeAt n (.slice N1 es.length c1) (.slice N2 ps.length c2) es ps * (nodeAt a (.slice A1 La.length c3) (.slice A2 qa.length c4) La qa * F)) by ac_rfl)).node_open
  obtain ⟨gp, _, hv, _, _⟩ := (h3.right.eq (ptrs_out ..)).row_head (by omega)
  injection hv with hv1 _ hv2
  subst hv1 hv2
  obtain ⟨gn, _, hv, _, _⟩ := (h3.right.eq (ents_out ..)).row_head (by omega)
  injection hv with hv1 _ hv2
  subst hv1 hv2
  obtain ⟨x0, x1, _, _, x4, x5⟩ := node_facts rfl rfl h3.right
  obtain ⟨ad, had, xq⟩ := ptr_at x5 hpa
  cases had
  obtain ⟨_, had, xr⟩ := ptr_at x5 hpb
  cases had
  have HJ := hid hj
  have HJ2 := hid hj2
  clear hS h1 h2 x4 x5 x0 hj hj2 hpa hpb hjp
  unfold ptrv at xq xr ⊢
  simp only [addr_plain] at xq xr
  go_enter Try.func49, Try.ntmps49
  go_wp2_with fail
  go_quiet (fail)
  generalize hw1 : (_ : World).drewN _ = w1
  have h4 : Sat E (nodeAt b (.slice B1 Lb.length c5) (.slice B2 qb.length c6) Lb qb * (nodeAt n (.slice (some ⟨gn, 0, none⟩) es.length c1) (.slice (some ⟨gp, 0, none⟩) ps.length c2) es ps * (nodeAt a (.slice A1 La.length c3) (.slice A2 qa.length c4) La qa * F))) w1 := hw1 ▸ h3.drewN _
  clear hw1 h3 xq xr x1
  obtain ⟨X1, X2⟩ := X
  have HX := hid hX
  clear hX
  go_upto_region 1 with fail
  go_cut [] (fun wc => ∃ A7 c7, Sat E (nodeAt a (.slice A7 (La.length + 1 + Lb.length) c7) (.slice A2 qa.length c4) (La ++ (X1, X2) :: Lb) qa * (nodeAt n (.slice (some ⟨gn, 0, none⟩) es.length c1) (.slice (some ⟨gp, 0, none⟩) ps.length c2) es ps * (nodeAt b (.slice B1 Lb.length c5) (.slice B2 qb.length c6) Lb qb * F))) wc)
  case first =>
    have h5 := h4.eq (show _ = nodeAt a (.slice A1 La.length c3) (.slice A2 qa.length c4) La qa * (nodeAt n (.slice (some ⟨gn, 0, none⟩) es.length c1) (.slice (some ⟨gp, 0, none⟩) ps.length c2) es ps * (nodeAt b (.slice B1 Lb.length c5) (.slice B2 qb.length c6) Lb qb * F)) by ac_rfl)
    obtain ⟨y0, _, _, _, _, _⟩ := node_facts rfl rfl h5
    obtain ⟨x0, _, _, _, x4, _⟩ := node_facts rfl rfl h5.right
    obtain ⟨z0, _, _, _, z4, _⟩ := node_facts rfl rfl h5.right.right
    obtain ⟨adn, hadn, e0, e1⟩ := cells_at x4 hi
    cases hadn
    rw [HX.out] at e0 e1
    have s4 : Sat E (row 25 2 (.slice A1 La.length c3) La.length (ents La) * (blk a (.cells #[.slice A1 La.length c3, .slice A2 qa.length c4] 59) * (row 56 1 (.slice A2 qa.length c4) qa.length (qa.map ptrv) * (nodeAt n (.slice (some ⟨gn, 0, none⟩) es.length c1) (.slice (some ⟨gp, 0, none⟩) ps.length c2) es ps * (nodeAt b (.slice B1 Lb.length c5) (.slice B2 qb.length c6) Lb qb * F))))) w1 := h5.eq (ents_out ..)
    have s5 := (s4.alloc_drop (.cells #[.string X1, .int .i64 X2] 25)).drew
    have hR : Reads (w1.alloc (.cells [.string X1, .int .i64 X2].toArray 25)).drew 2 (some ⟨w1.heap.size, 0, none⟩) 1 [.string X1, .int .i64 X2] := (Reads.new 2 1 [.string X1, .int .i64 X2] 25 rfl (by omega)).drew
    have s6 : Sat E _ (w1.drew.alloc (.cells #[.string X1, .int .i64 X2] 25)) := s5
    have hR6 : Reads (w1.drew.alloc (.cells [.string X1, .int .i64 X2].toArray 25)) 2 (some ⟨w1.heap.size, 0, none⟩) 1 [.string X1, .int .i64 X2] := hR
    have x9 : (w1.alloc (.cells #[.string X1, .int .i64 X2] 25)).cell? ⟨a, 0, none⟩ = some (.slice A1 La.length c3) := (two_cells s5.right).1
    have z9 : (w1.alloc (.cells #[.string X1, .int .i64 X2] 25)).cell? ⟨b, 0, none⟩ = some (.slice B1 Lb.length c5) := (node_facts rfl rfl s5.right.right.right.right).1
    clear x4 h4 h5 s4 z4 HX
    simp only [addr_plain] at e0 e1
    go_region_law (first
      | ((first | (refine step_append_sat rfl _ _ 22 25 (.agg #[.string ByteArray.empty, .int .i64 0]) 2 24 rfl Try.underlying22 Try.info25 rfl (by decide) _ La.length (ents La) _ 1 1 [.string X1, .int .i64 X2] rfl rfl s5 hR (by simp [Value.oneCell']) (by unfold maxLen; omega) (by omega) ?_) | (refine step_append_sat rfl _ _ 22 25 (.agg #[.string ByteArray.empty, .int .i64 0]) 2 24 rfl Try.underlying22 Try.info25 rfl (by decide) _ La.length (ents La) _ 1 1 [.string X1, .int .i64 X2] rfl rfl s6 hR6 (by simp [Value.oneCell']) (by unfold maxLen; omega) (by omega) ?_)); intro v7 w3 q1; obtain ⟨A7, c7, rfl, _, _, _⟩ := q1.reads; have d2 := (node_facts rfl rfl q1.right.right.right.right).1; have d3 := (node_facts rfl rfl q1.right.right.right.right).2.2.2.2.1)
      | ((first | (refine step_append_sat rfl _ _ 22 25 (.agg #[.string ByteArray.empty, .int .i64 0]) 2 24 rfl Try.underlying22 Try.info25 rfl (by decide) _ (La.length + 1) (ents La ++ [.string X1, .int .i64 X2]) _ Lb.length c5 (ents Lb) rfl rfl q1 d3 (ents_one Lb) (by unfold maxLen; omega) (by omega) ?_) | (refine step_append_sat rfl _ _ 22 25 (.agg #[.string ByteArray.empty, .int .i64 0]) 2 24 rfl Try.underlying22 Try.info25 rfl (by decide) _ (La.length + 1) (ents La ++ [.string X1, .int .i64 X2]) _ Lb.length c5 (ents Lb) rfl rfl q1.drew d3.drew (ents_one Lb) (by unfold maxLen; omega) (by omega) ?_)); intro v8 w4 q2; obtain ⟨A8, c8, rfl, _, _, _⟩ := q2.reads; have d0 := q2.right.free_blk (i := 0); have d1 := q2.right.cell_blk (i := 0); simp only [List.getElem?_toArray, List.getElem?_cons_zero, List.getElem?_cons_succ] at d1))
    all_goals
      have Q := hid (⟨A8, c8, put_ents (L := La ++ (X1, X2) :: Lb) (by simp only [List.length_append, List.length_cons]; omega) (by rw [ents_append]; simp [ents]) q2⟩ : ∃ A7 c7, Sat E (nodeAt a (.slice A7 (La.length + 1 + Lb.length) c7) (.slice A2 qa.length c4) (La ++ (X1, X2) :: Lb) qa * (nodeAt n (.slice (some ⟨gn, 0, none⟩) es.length c1) (.slice (some ⟨gp, 0, none⟩) ps.length c2) es ps * (nodeAt b (.slice B1 Lb.length c5) (.slice B2 qb.length c6) Lb qb * F))) _)
      clear q1 q2 s5 s6 hR hR6
      go_wp2
      go_meet
      exact Q.out
  case rest =>
    clear h4
    obtain ⟨A7, c7, h5⟩ := hcut
    have hLl : La.length + 1 + Lb.length = (La ++ (X1, X2) :: Lb).length := by simp only [List.length_append, List.length_cons]; omega
    have HLL := hid hLl
    clear hLl
    go_upto_region 2 with fail
    go_cut [] (fun wc => ∃ A8 c8, Sat E (nodeAt a (.slice A7 (La.length + 1 + Lb.length) c7) (.slice A8 (qa.length + qb.length) c8) (La ++ (X1, X2) :: Lb) (qa ++ qb) * (nodeAt n (.slice (some ⟨gn, 0, none⟩) es.length c1) (.slice (some ⟨gp, 0, none⟩) ps.length c2) es ps * (nodeAt b (.slice B1 Lb.length c5) (.slice B2 qb.length c6) Lb qb * F))) wc)
    case first =>
      obtain ⟨_, y1, _, _, _, _⟩ := node_facts HLL.out rfl h5
      obtain ⟨_, z1, _, _, _, z5⟩ := node_facts rfl rfl h5.right.right
      have s4 : Sat E (row 56 1 (.slice A2 qa.length c4) qa.length (qa.map ptrv) * (blk a (.cells #[.slice A7 (La.length + 1 + Lb.length) c7, .slice A2 qa.length c4] 59) * (row 25 2 (.slice A7 (La.length + 1 + Lb.length) c7) (La ++ (X1, X2) :: Lb).length (ents (La ++ (X1, X2) :: Lb)) * (nodeAt n (.slice (some ⟨gn, 0, none⟩) es.length c1) (.slice (some ⟨gp, 0, none⟩) ps.length c2) es ps * (nodeAt b (.slice B1 Lb.length c5) (.slice B2 qb.length c6) Lb qb * F))))) wc := h5.eq (ptrs_out ..)
      clear h5 HX
      go_region_law ((first | (refine step_append_sat rfl _ _ 57 56 (.pointer none) 1 8 rfl Try.underlying57 Try.info56 rfl (by decide) _ qa.length (qa.map ptrv) _ qb.length c6 (qb.map ptrv) rfl rfl s4.drew z5.drew (ptrs_one qb) (by unfold maxLen; omega) (by omega) ?_) | (refine step_append_sat rfl _ _ 57 56 (.pointer none) 1 8 rfl Try.underlying57 Try.info56 rfl (by decide) _ qa.length (qa.map ptrv) _ qb.length c6 (qb.map ptrv) rfl rfl s4 z5 (ptrs_one qb) (by unfold maxLen; omega) (by omega) ?_)); intro v7 w3 q1; obtain ⟨A8, c8, rfl, _, _, _⟩ := q1.reads; have d0 := q1.right.free_blk (i := 1); have d1 := q1.right.cell_blk (i := 1); simp only [List.getElem?_toArray, List.getElem?_cons_zero, List.getElem?_cons_succ] at d1)
      all_goals
        have Q := hid (⟨A8, c8, put_ptrs (L := La ++ (X1, X2) :: Lb) (ps := qa ++ qb) (by simp) (by simp) q1⟩ : ∃ A8 c8, Sat E (nodeAt a (.slice A7 (La.length + 1 + Lb.length) c7) (.slice A8 (qa.length + qb.length) c8) (La ++ (X1, X2) :: Lb) (qa ++ qb) * (nodeAt n (.slice (some ⟨gn, 0, none⟩) es.length c1) (.slice (some ⟨gp, 0, none⟩) ps.length c2) es ps * (nodeAt b (.slice B1 Lb.length c5) (.slice B2 qb.length c6) Lb qb * F))) _)
        clear q1 s4 z5
        go_wp2
        go_meet
        exact Q.out
    case rest =>
      clear h5
      obtain ⟨A8, c8, h6⟩ := hcut
      have h7 : Sat E (nodeAt n (.slice (some ⟨gn, 0, none⟩) es.length c1) (.slice (some ⟨gp, 0, none⟩) ps.length c2) es ps * (nodeAt a (.slice A7 (La.length + 1 + Lb.length) c7) (.slice A8 (qa.length + qb.length) c8) (La ++ (X1, X2) :: Lb) (qa ++ qb) * F)) wc := (h6.eq (show _ = nodeAt b (.slice B1 Lb.length c5) (.slice B2 qb.length c6) Lb qb * (nodeAt n (.slice (some ⟨gn, 0, none⟩) es.length c1) (.slice (some ⟨gp, 0, none⟩) ps.length c2) es ps * (nodeAt a (.slice A7 (La.length + 1 + Lb.length) c7) (.slice A8 (qa.length + qb.length) c8) (La ++ (X1, X2) :: Lb) (qa ++ qb) * F)) by ac_rfl)).right
      obtain ⟨n1, hn1⟩ : ∃ n1, es.length = n1 + 1 := ⟨es.length - 1, by omega⟩
      obtain ⟨n2, hn2⟩ : ∃ n2, ps.length = n2 + 1 := ⟨ps.length - 1, by omega⟩
      have HN1 := hid hn1
      have HN2 := hid hn2
      clear hn1 hn2 h6
      obtain ⟨x0, x1, _, _, _, _⟩ := node_facts rfl rfl h7
      have hdel : Calls Try.prog 39 #[.slice (some ⟨gn, 0, none⟩) es.length c1, .int .i64 i, .int .i64 j] wc fun e w' => ∃ v', e = .returned v' ∧ Sat E (row 25 2 v' n1 ((ents es).take (i * 2) ++ (ents es).drop (i * 2 + 2)) * (blk n (.cells #[.slice (some ⟨gn, 0, none⟩) es.length c1, .slice (some ⟨gp, 0, none⟩) ps.length c2] 59) * (row 56 1 (.slice (some ⟨gp, 0, none⟩) ps.length c2) ps.length (ps.map ptrv) * (nodeAt a (.slice A7 (La.length + 1 + Lb.length) c7) (.slice A8 (qa.length + qb.length) c8) (La ++ (X1, X2) :: Lb) (qa ++ qb) * F)))) w' := by
        rw [← w1e]
        exact delEnt _ es.length n1 i (ents es) HN1.out hi (by omega) (ents_one es) (h7.eq (ents_out ..))
      clear h7
      go_wp2_with fail
      refine hdel.mono ?_
      clear hdel x0 x1
      rintro e w9 ⟨v9, rfl, q1⟩
      obtain ⟨A9, c9, rfl, _, _, _⟩ := q1.reads
      have d0 := q1.right.free_blk (i := 0)
      have d1 := q1.right.cell_blk (i := 0)
      simp only [List.getElem?_toArray, List.getElem?_cons_zero, List.getElem?_cons_succ] at d1
      have hd1 : n1 = (es.take i ++ es.drop (i + 1)).length := by have := HN1.out; rw [List.length_append, List.length_take, List.length_drop]; omega
      have h8 : Sat E (nodeAt n (.slice A9 n1 c9) (.slice (some ⟨gp, 0, none⟩) ps.length c2) (es.take i ++ es.drop (i + 1)) ps * (nodeAt a (.slice A7 (La.length + 1 + Lb.length) c7) (.slice A8 (qa.length + qb.length) c8) (La ++ (X1, X2) :: Lb) (qa ++ qb) * F)) (w9.setCell ⟨n, 0, none⟩ (.slice A9 n1 c9)) := put_ents (L := es.take i ++ es.drop (i + 1)) hd1 (by rw [ents_append, ents_take, ents_drop, Nat.add_mul, Nat.one_mul]) q1
      have HD := hid hd1
      clear q1 hd1
      obtain ⟨_, x1, _, _, _, _⟩ := node_facts HD.out rfl h8
      have hdel : Calls Try.prog 55 #[.slice (some ⟨gp, 0, none⟩) ps.length c2, .int .i64 j, .int .i64 j2] (w9.setCell ⟨n, 0, none⟩ (.slice A9 n1 c9)) fun e w' => ∃ v', e = .returned v' ∧ Sat E (row 56 1 v' n2 ((ps.map ptrv).take (j * 1) ++ (ps.map ptrv).drop (j * 1 + 1)) * (blk n (.cells #[.slice A9 n1 c9, .slice (some ⟨gp, 0, none⟩) ps.length c2] 59) * (row 25 2 (.slice A9 n1 c9) (es.take i ++ es.drop (i + 1)).length (ents (es.take i ++ es.drop (i + 1))) * (nodeAt a (.slice A7 (La.length + 1 + Lb.length) c7) (.slice A8 (qa.length + qb.length) c8) (La ++ (X1, X2) :: Lb) (qa ++ qb) * F)))) w' := by
        have e : (j2 : Int) = (j : Int) + 1 := by omega
        rw [e]
        exact delNode _ ps.length n2 j (ps.map ptrv) HN2.out (by omega) (by omega) (ptrs_one ps) (h8.eq (ptrs_out ..))
      clear h8
      go_wp2_with fail
      refine hdel.mono ?_
      clear hdel x1 d0 d1
      rintro e w10 ⟨v10, rfl, q1⟩
      obtain ⟨A10, c10, rfl, _, _, _⟩ := q1.reads
      have d0 := q1.right.free_blk (i := 1)
      have d1 := q1.right.cell_blk (i := 1)
      simp only [List.getElem?_toArray, List.getElem?_cons_zero, List.getElem?_cons_succ] at d1
      have hd2 : n2 = (ps.take (i + 1) ++ ps.drop (i + 2)).length := by have := HN2.out; rw [List.length_append, List.length_take, List.length_drop]; omega
      have Q := hid (put_ptrs (ps := ps.take (i + 1) ++ ps.drop (i + 2)) (L := es.take i ++ es.drop (i + 1)) hd2 (by rw [List.map_append, List.map_take, List.map_drop, Nat.mul_one, HJ.out]) q1)
      clear q1 hd2 HX HN1 HN2 HD HLL
      go_wp2_with fail
      refine bodyPost_end (results_none rfl _ _ _) rfl ?_
      refine ⟨⟨_, rfl⟩, ?_⟩
      exact ((Q.out.node_shut.eq (star_left_comm _ _ _)).node_shut).eq (star_left_comm _ _ _)
end Go.Proofs.Ytobgfdongidaaaa
