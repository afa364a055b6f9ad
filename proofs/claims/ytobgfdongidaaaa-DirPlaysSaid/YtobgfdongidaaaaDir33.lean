import Derived.Test.YtobgfdongidaaaaDir31
import Derived.Deep.RegionLaw
import Derived.Deep.DeepCutAuto
import Derived.Deep.CutBlock
namespace Go.Proofs.Ytobgfdongidaaaa
set_option linter.unusedVariables false
set_option linter.unusedSimpArgs false
open Go.RowKit Go.Proofs.Sep Go.Lib

theorem ents_out (p : Nat) (v1 v2 : Value) (L : List Ent) (ps : List Nat) (G : Asn) : nodeAt p v1 v2 L ps * G = row 25 2 v1 L.length (ents L) * (blk p (.cells #[v1, v2] 59) * (row 56 1 v2 ps.length (ps.map ptrv) * G)) := by
  rw [nodeAt_eq]
  ac_rfl
theorem ptrs_out (p : Nat) (v1 v2 : Value) (L : List Ent) (ps : List Nat) (G : Asn) : nodeAt p v1 v2 L ps * G = row 56 1 v2 ps.length (ps.map ptrv) * (blk p (.cells #[v1, v2] 59) * (row 25 2 v1 L.length (ents L) * G)) := by
  rw [nodeAt_eq]
  ac_rfl
/-- A node's entries, put anew. -/
theorem put_ents {E w : World} {F : Asn} {p n : Nat} {v1 v2 v : Value} {L : List Ent} {ps : List Nat} {xs : List Value} (hn : n = L.length) (hx : xs = ents L) (h : Sat E (row 25 2 v n xs * (blk p (.cells #[v1, v2] 59) * (row 56 1 v2 ps.length (ps.map ptrv) * F))) w) :
    Sat E (nodeAt p v v2 L ps * F) (w.setCell ⟨p, 0, none⟩ v) := by
  subst hn hx
  have q : Sat E (blk p (.cells #[v, v2] 59) * _) (w.setCell ⟨p, 0, none⟩ v) := (h.eq (star_left_comm _ _ _)).setCell (i := 0) v
  rw [ents_out]
  exact q.eq (star_left_comm _ _ _)
theorem put_ptrs {E w : World} {F : Asn} {p n : Nat} {v1 v2 v : Value} {L : List Ent} {ps : List Nat} {xs : List Value} (hn : n = ps.length) (hx : xs = ps.map ptrv) (h : Sat E (row 56 1 v n xs * (blk p (.cells #[v1, v2] 59) * (row 25 2 v1 L.length (ents L) * F))) w) :
    Sat E (nodeAt p v1 v L ps * F) (w.setCell ⟨p, 1, none⟩ v) := by
  subst hn hx
  have q : Sat E (blk p (.cells #[v1, v] 59) * _) (w.setCell ⟨p, 1, none⟩ v) := (h.eq (star_left_comm _ _ _)).setCell (i := 1) v
  rw [ptrs_out]
  exact q.eq (star_left_comm _ _ _)
/-- A row's head, taken as a shorter row. -/
theorem row_cut {E w : World} {F : Asn} {e size n m c : Nat} {A : Option Addr} {xs : List Value} (hm : m ≤ n) (h : Sat E (row e size (.slice A n c) n xs * F) w) : Sat E (row e size (.slice A m c) m (xs.take (m * size)) * F) w := by
  rcases Nat.eq_zero_or_pos n with rfl | hn
  · obtain rfl : m = 0 := by omega
    have hl := h.row_len
    obtain rfl : xs = [] := List.eq_nil_of_length_eq_zero (by simpa using hl)
    simpa using h
  · obtain ⟨g, c', cur, hv, hnc, hcm, hcs, hct, hB⟩ := h.row_blk hn
    cases hv
    have := hB.blk_row (n := m) (size := size) (cap := c) (by omega) hcm hcs
    rw [← hct, List.take_take, Nat.min_eq_left (Nat.mul_le_mul_right _ hm)]
    exact this
theorem cells_at {w : World} {A : Option Addr} {L : List Ent} {n : Nat} (hR : Reads w 2 A n (ents L)) {k : Nat} (hk : k < L.length) :
    ∃ ad, A = some ad ∧ w.cell? (ad.add (k * 2)) = some (.string L[k].1) ∧ w.cell? { block := (ad.add (k * 2)).block, off := (ad.add (k * 2)).off + 1 } = some (.int .i64 L[k].2) := by
  have hl := hR.1
  rw [ents_length] at hl
  obtain ⟨ad, h1, h2⟩ := hR.at (by omega)
  exact ⟨ad, h1, h2 _ _ (ents_at hk).1, cell_two (h2 _ _ (ents_at hk).2)⟩

set_option maxRecDepth 100000 in
set_option maxHeartbeats 8000000 in
theorem shift_right {E w : World} {F : Asn} (n a b i j k : Nat) (es La Lb : List Ent) (ps qa qb : List Nat) (hj : j = i + 1) (hpa : ps[i]? = some a) (hpb : ps[j]? = some b) (X Y : Ent) (hX : es[i]? = some X) (hY : La[k]? = some Y) (hk : La.length = k + 1)
    (l1 : es.length ≤ 1000000) (l2 : La.length ≤ 1000000) (l3 : Lb.length ≤ 1000000) (l4 : ps.length ≤ 1000000) (l5 : qa.length ≤ 1000000) (l6 : qb.length ≤ 1000000)
    (hS : Sat E (node n es ps * (node a La qa * (node b Lb qb * F))) w) :
    Calls Try.prog 48 #[ptrv n, .int .i64 i, .int .i64 j] w fun e w' => (∃ v, e = .returned v) ∧
      Sat E (node n (es.set i Y) ps * (node a (La.take k) (qa.take (qa.length - 1)) * (node b (X :: Lb) (qa.drop (qa.length - 1) ++ qb) * F))) w' := by
  obtain ⟨hi, hX⟩ := List.getElem?_eq_some_iff.1 hX
  obtain ⟨hkk, hY⟩ := List.getElem?_eq_some_iff.1 hY
  have hjp : j < ps.length := (List.getElem?_eq_some_iff.1 hpb).1
  have hii : (i : Int) < (ps.length : Int) := by omega
  have hii2 : (j : Int) < (ps.length : Int) := by omega
  have hie : (i : Int) < (es.length : Int) := by omega
  have z1 : (i : Int) < (j : Int) := by omega
  obtain ⟨N1, c1, N2, c2, g1, g2, h1⟩ := hS.node_open
  obtain ⟨A1, c3, A2, c4, g3, g4, h2⟩ := (h1.eq (star_left_comm _ _ _)).node_open
  obtain ⟨B1, c5, B2, c6, g5, g6, h3⟩ := (h2.eq (show _ = node b Lb qb * (nodeAt n (.slice N1 es.length c1) (.slice N2 ps.length c2) es ps * (nodeAt a (.slice A1 La.length c3) (.slice A2 qa.length c4) La qa * F)) by ac_rfl)).node_open
  obtain ⟨x0, x1, _, _, x4, x5⟩ := node_facts rfl rfl h3.right
  obtain ⟨ad, rfl, xq⟩ := ptr_at x5 hpa
  obtain ⟨_, had, xr⟩ := ptr_at x5 hpb
  cases had
  clear hS h1 h2 x4 x5 x0 hj hpa hpb hjp
  unfold ptrv at xq xr ⊢
  go_enter Try.func48, Try.ntmps48
  go_wp2_with fail
  go_quiet (fail)
  generalize hw1 : (_ : World).drewN _ = w1
  have h4 : Sat E (nodeAt b (.slice B1 Lb.length c5) (.slice B2 qb.length c6) Lb qb * (nodeAt n (.slice N1 es.length c1) (.slice (some ad) ps.length c2) es ps * (nodeAt a (.slice A1 La.length c3) (.slice A2 qa.length c4) La qa * F))) w1 := hw1 ▸ h3.drewN _
  clear hw1 h3 xq xr x1
  obtain ⟨gn, _, hv, _, _⟩ := (h4.right.eq (ents_out ..)).row_head (by omega)
  injection hv with hv1 _ hv2
  subst hv1 hv2
  obtain ⟨ga, _, hv, _, _⟩ := (h4.right.right.eq (ents_out ..)).row_head (by omega)
  injection hv with hv1 _ hv2
  subst hv1 hv2
  obtain ⟨X1, X2⟩ := X
  obtain ⟨Y1, Y2⟩ := Y
  have hki : (k : Int) < (La.length : Int) := by omega
  have wk := i64_wrap (x := (k : Int)) (by omega) (by omega)
  have wk2 : (La.length : Int) - 1 = (k : Int) := by omega
  have HK := hid hk
  have HX := hid hX
  have HY := hid hY
  clear hk hX hY
  go_upto_region 2 with fail
  go_cut [] (fun wc => ∃ A7 c7, Sat E (nodeAt b (.slice A7 (Lb.length + 1) c7) (.slice B2 qb.length c6) ((X1, X2) :: Lb) qb * (nodeAt n (.slice (some ⟨gn, 0, none⟩) es.length c1) (.slice (some ad) ps.length c2) es ps * (nodeAt a (.slice (some ⟨ga, 0, none⟩) La.length c3) (.slice A2 qa.length c4) La qa * F))) wc)
  case first =>
    obtain ⟨y0, _, _, _, _, _⟩ := node_facts rfl rfl h4
    obtain ⟨x0, _, _, _, x4, _⟩ := node_facts rfl rfl h4.right
    obtain ⟨adn, hadn, e0, e1⟩ := cells_at x4 hi
    cases hadn
    rw [HX.out] at e0 e1
    have s5 : Sat E (row 25 2 (.slice B1 Lb.length c5) Lb.length (ents Lb) * (blk w1.heap.size (.cells [.string X1, .int .i64 X2].toArray 25) * (blk b (.cells #[.slice B1 Lb.length c5, .slice B2 qb.length c6] 59) * (row 56 1 (.slice B2 qb.length c6) qb.length (qb.map ptrv) * (nodeAt n (.slice (some ⟨gn, 0, none⟩) es.length c1) (.slice (some ad) ps.length c2) es ps * (nodeAt a (.slice (some ⟨ga, 0, none⟩) La.length c3) (.slice A2 qa.length c4) La qa * F)))))) (w1.alloc (.cells #[.string X1, .int .i64 X2] 25)).drew := (h4.alloc (.cells #[.string X1, .int .i64 X2] 25)).drew.eq (by
      rw [ents_out b]
      ac_rfl)
    have s6 : Sat E _ (w1.drew.alloc (.cells #[.string X1, .int .i64 X2] 25)) := s5
    have hins := insEnt (.slice B1 Lb.length c5) Lb.length 0 w1.heap.size (ents Lb) [.string X1, .int .i64 X2] (by omega) l3 rfl (by simp [Value.oneCell']) (ents_one Lb) s5
    have hins2 := insEnt (.slice B1 Lb.length c5) Lb.length 0 w1.heap.size (ents Lb) [.string X1, .int .i64 X2] (by omega) l3 rfl (by simp [Value.oneCell']) (ents_one Lb) s6
    have x9 : (w1.alloc (.cells #[.string X1, .int .i64 X2] 25)).cell? ⟨b, 0, none⟩ = some (.slice B1 Lb.length c5) := (two_cells s5.right.right).1
    clear x4 s5 s6 h4 HX HY HK
    simp only [addr_plain] at e0 e1
    go_region_law (first | (go_simp; go_at_call 42; first | refine hins.mono ?_ | refine hins2.mono ?_); rintro e w3 ⟨v7, rfl, q1⟩; obtain ⟨A7, c7, rfl, g7, _, _⟩ := q1.reads; have d0 := q1.right.right.free_blk (i := 0); have d1 := q1.right.right.cell_blk (i := 0); simp only [List.getElem?_toArray, List.getElem?_cons_zero, List.getElem?_cons_succ] at d1)
    all_goals
      have Q := hid (⟨A7, c7, put_ents (L := (X1, X2) :: Lb) rfl rfl q1.drop_mid⟩ : ∃ A7 c7, Sat E (nodeAt b (.slice A7 (Lb.length + 1) c7) (.slice B2 qb.length c6) ((X1, X2) :: Lb) qb * (nodeAt n (.slice (some ⟨gn, 0, none⟩) es.length c1) (.slice (some ad) ps.length c2) es ps * (nodeAt a (.slice (some ⟨ga, 0, none⟩) La.length c3) (.slice A2 qa.length c4) La qa * F))) _)
      clear q1 hins hins2
      go_wp2
      go_meet
      exact Q.out
  case rest =>
    clear h4
    obtain ⟨A7, c7, h5⟩ := hcut
    go_upto_region 3 with fail
    go_cut [] (fun wc => Sat E (nodeAt n (.slice (some ⟨gn, 0, none⟩) es.length c1) (.slice (some ad) ps.length c2) (es.set i (Y1, Y2)) ps * (nodeAt b (.slice A7 (Lb.length + 1) c7) (.slice B2 qb.length c6) ((X1, X2) :: Lb) qb * (nodeAt a (.slice (some ⟨ga, 0, none⟩) La.length c3) (.slice A2 qa.length c4) La qa * F))) wc)
    case first =>
      obtain ⟨x0, _, x2, _, _, _⟩ := node_facts rfl rfl h5.right
      obtain ⟨y0, _, _, _, y4, _⟩ := node_facts rfl rfl h5.right.right
      obtain ⟨ada, hada, f0, f1⟩ := cells_at y4 hkk
      cases hada
      rw [HY.out] at f0 f1
      have s7 : Sat E (row 25 2 (.slice (some ⟨gn, 0, none⟩) es.length c1) es.length (ents es) * (blk n (.cells #[.slice (some ⟨gn, 0, none⟩) es.length c1, .slice (some ad) ps.length c2] 59) * (row 56 1 (.slice (some ad) ps.length c2) ps.length (ps.map ptrv) * (nodeAt b (.slice A7 (Lb.length + 1) c7) (.slice B2 qb.length c6) ((X1, X2) :: Lb) qb * (nodeAt a (.slice (some ⟨ga, 0, none⟩) La.length c3) (.slice A2 qa.length c4) La qa * F))))) wc := h5.eq (by
        rw [star_left_comm, ents_out n]
      )
      have fz := fun i => s7.row_free i
      have a0 := s7.row_cell (i * 2) (by omega)
      have a1 := s7.row_cell (i * 2 + 1) (by omega)
      rw [(ents_at hi).1] at a0
      rw [(ents_at hi).2] at a1
      have Q := hid (((s7.row_store (i * 2) (.string Y1)).row_store (i * 2 + 1) (.int .i64 Y2)).drew)
      rw [← ents_set (Y1, Y2) hi] at Q
      clear h5 s7 y4 HX HY HK
      simp only [addr_plain] at f0 f1
      go_wp2_with fail
      refine wp_region_tail 17 (by kernel_rfl) (by kernel_rfl) ?_
      simp only [List.take_succ_cons, List.take_zero, List.drop_succ_cons, List.drop_zero]
      repeat still_step
      refine wpStill_nil ?_
      go_wp2_with fail
      go_meet
      rw [ents_out, List.length_set]
      exact Q.out
    case rest =>
      clear h5
      go_upto_region 4 with fail
      go_cut [] (fun wc => Sat E (nodeAt a (.slice (some ⟨ga, 0, none⟩) k c3) (.slice A2 qa.length c4) (La.take k) qa * (nodeAt n (.slice (some ⟨gn, 0, none⟩) es.length c1) (.slice (some ad) ps.length c2) (es.set i (Y1, Y2)) ps * (nodeAt b (.slice A7 (Lb.length + 1) c7) (.slice B2 qb.length c6) ((X1, X2) :: Lb) qb * F))) wc)
      case first =>
        have h6 := hcut.eq (show _ = nodeAt a (.slice (some ⟨ga, 0, none⟩) La.length c3) (.slice A2 qa.length c4) La qa * (nodeAt n (.slice (some ⟨gn, 0, none⟩) es.length c1) (.slice (some ad) ps.length c2) (es.set i (Y1, Y2)) ps * (nodeAt b (.slice A7 (Lb.length + 1) c7) (.slice B2 qb.length c6) ((X1, X2) :: Lb) qb * F)) by ac_rfl)
        obtain ⟨y0, _, y2, _, _, _⟩ := node_facts rfl rfl h6
        have hcut4 := fun W => cut_hi (P := Try.prog) 22 25 Try.underlying22 2 (by kernel_rfl) (some ⟨ga, 0, none⟩) La.length c3 k (by omega) W
        have Q := hid (put_ents (L := La.take k) (by rw [List.length_take]; omega) (ents_take La k).symm (row_cut (m := k) (by omega) (h6.eq (ents_out ..)))).drew
        clear h6 hcut HX HY HK
        go_wp2_with fail
        refine wp_region_tail 12 (by kernel_rfl) (by kernel_rfl) ?_
        simp only [List.take_succ_cons, List.take_zero, List.drop_succ_cons, List.drop_zero]
        repeat still_step
        refine wpStill_nil ?_
        go_wp2_with fail
        go_meet
        exact Q.out
      case rest =>
        have h6 := hcut
        clear hcut
        have hlf := leaf30 a qa.length c4 A2 (node_facts (by rw [List.length_take]; omega) rfl h6).2.1
        rcases Nat.eq_zero_or_pos qa.length with hz0 | hp0
        · obtain rfl : qa = [] := List.eq_nil_of_length_eq_zero hz0
          clear hz0
          have z2 : ((([] : List Nat).length : Int) == 0) = true := rfl
          clear HX HY HK
          go_wp2_with fail
          refine hlf.mono ?_
          rintro e w8 ⟨rfl, rfl⟩
          go_wp2_with fail
          (try simp only [Exit.inBlock, Exit.then]); refine bodyPost_ret (results_none rfl _ _ _) rfl ?_
          refine ⟨⟨_, rfl⟩, ?_⟩
          have h7 := h6.node_shut
          have h8 := (h7.eq (star_left_comm _ _ _)).node_shut
          have h9 := (h8.eq (show _ = nodeAt b (.slice A7 (Lb.length + 1) c7) (.slice B2 qb.length c6) ((X1, X2) :: Lb) qb * (node n (es.set i (Y1, Y2)) ps * (node a (La.take k) [] * F)) by ac_rfl)).node_shut
          exact h9.eq (by
            show node b ((X1, X2) :: Lb) qb * _ = node n _ ps * (node a (La.take k) [] * (node b ((X1, X2) :: Lb) qb * F))
            ac_rfl)
        · obtain ⟨m, hm⟩ : ∃ m, qa.length = m + 1 := ⟨qa.length - 1, by omega⟩
          obtain ⟨q, hq⟩ : ∃ q, qa[m]? = some q := ⟨qa[m], List.getElem?_eq_getElem (by omega)⟩
          have z2 : ((qa.length : Int) == 0) = false := beq_eq_false_iff_ne.2 (by omega)
          obtain ⟨gq, _, hv, _, _⟩ := (h6.eq (ptrs_out ..)).row_head (by omega)
          injection hv with hv1 _ hv2
          subst hv1 hv2
          have wkm := i64_wrap (x := (m : Int)) (by omega) (by omega)
          have wkm2 : (qa.length : Int) - 1 = (m : Int) := by omega
          have hmi : (m : Int) < (qa.length : Int) := by omega
          have HM := hid hm
          have HQ := hid hq
          clear hm hq hp0
          go_wp2_with fail
          refine hlf.mono ?_
          clear hlf
          rintro e w8 ⟨rfl, rfl⟩
          go_upto_region 6 with fail
          go_cut [] (fun wc => ∃ A8 c8, Sat E (nodeAt b (.slice A7 (Lb.length + 1) c7) (.slice A8 (qb.length + 1) c8) ((X1, X2) :: Lb) (q :: qb) * (nodeAt a (.slice (some ⟨ga, 0, none⟩) k c3) (.slice (some ⟨gq, 0, none⟩) qa.length c4) (La.take k) qa * (nodeAt n (.slice (some ⟨gn, 0, none⟩) es.length c1) (.slice (some ad) ps.length c2) (es.set i (Y1, Y2)) ps * F))) wc)
          case first =>
            have h7 := h6.eq (show _ = nodeAt b (.slice A7 (Lb.length + 1) c7) (.slice B2 qb.length c6) ((X1, X2) :: Lb) qb * (nodeAt a (.slice (some ⟨ga, 0, none⟩) k c3) (.slice (some ⟨gq, 0, none⟩) qa.length c4) (La.take k) qa * (nodeAt n (.slice (some ⟨gn, 0, none⟩) es.length c1) (.slice (some ad) ps.length c2) (es.set i (Y1, Y2)) ps * F)) by ac_rfl)
            obtain ⟨_, y1, _, _, _, _⟩ := node_facts (n1 := Lb.length + 1) (L := (X1, X2) :: Lb) rfl rfl h7
            obtain ⟨_, x1, _, _, _, x5⟩ := node_facts (by rw [List.length_take]; omega) rfl h7.right
            obtain ⟨adq, hadq, e0⟩ := ptr_at x5 HQ.out
            cases hadq
            unfold ptrv at e0
            simp only [addr_plain] at e0
            have s5 : Sat E (row 56 1 (.slice B2 qb.length c6) qb.length (qb.map ptrv) * (blk w8.heap.size (.cells [.pointer (some ⟨q, 0, none⟩)].toArray 56) * (blk b (.cells #[.slice A7 (Lb.length + 1) c7, .slice B2 qb.length c6] 59) * (row 25 2 (.slice A7 (Lb.length + 1) c7) ((X1, X2) :: Lb).length (ents ((X1, X2) :: Lb)) * (nodeAt a (.slice (some ⟨ga, 0, none⟩) k c3) (.slice (some ⟨gq, 0, none⟩) qa.length c4) (La.take k) qa * (nodeAt n (.slice (some ⟨gn, 0, none⟩) es.length c1) (.slice (some ad) ps.length c2) (es.set i (Y1, Y2)) ps * F)))))) (w8.alloc (.cells #[.pointer (some ⟨q, 0, none⟩)] 56)).drew := (h7.alloc (.cells #[.pointer (some ⟨q, 0, none⟩)] 56)).drew.eq (by
              rw [ptrs_out b]
              ac_rfl)
            have s6 : Sat E _ (w8.drew.alloc (.cells #[.pointer (some ⟨q, 0, none⟩)] 56)) := s5
            have hins := insNode (.slice B2 qb.length c6) qb.length 0 w8.heap.size (qb.map ptrv) [.pointer (some ⟨q, 0, none⟩)] (by omega) l6 rfl (by simp [Value.oneCell']) (ptrs_one qb) s5
            have hins2 := insNode (.slice B2 qb.length c6) qb.length 0 w8.heap.size (qb.map ptrv) [.pointer (some ⟨q, 0, none⟩)] (by omega) l6 rfl (by simp [Value.oneCell']) (ptrs_one qb) s6
            have x9 : (w8.alloc (.cells #[.pointer (some ⟨q, 0, none⟩)] 56)).cell? ⟨b, 1, none⟩ = some (.slice B2 qb.length c6) := (two_cells s5.right.right).2.1
            clear x5 s5 s6 h6 h7 HX HY HK HM HQ
            go_region_law (first | (go_simp; go_at_call 45; first | refine hins.mono ?_ | refine hins2.mono ?_); rintro e w3 ⟨v7, rfl, q1⟩; obtain ⟨A8, c8, rfl, g7, _, _⟩ := q1.reads; have d0 := q1.right.right.free_blk (i := 1); have d1 := q1.right.right.cell_blk (i := 1); simp only [List.getElem?_toArray, List.getElem?_cons_zero, List.getElem?_cons_succ] at d1)
            all_goals
              have Q := hid (⟨A8, c8, put_ptrs (L := (X1, X2) :: Lb) (ps := q :: qb) rfl rfl q1.drop_mid⟩ : ∃ A8 c8, Sat E (nodeAt b (.slice A7 (Lb.length + 1) c7) (.slice A8 (qb.length + 1) c8) ((X1, X2) :: Lb) (q :: qb) * (nodeAt a (.slice (some ⟨ga, 0, none⟩) k c3) (.slice (some ⟨gq, 0, none⟩) qa.length c4) (La.take k) qa * (nodeAt n (.slice (some ⟨gn, 0, none⟩) es.length c1) (.slice (some ad) ps.length c2) (es.set i (Y1, Y2)) ps * F))) _)
              clear q1 hins hins2
              go_wp2
              go_meet
              exact Q.out
          case rest =>
            obtain ⟨A8, c8, h7⟩ := hcut
            clear h6
            have h8 := h7.eq (star_left_comm _ _ _)
            obtain ⟨_, y1, _, y3, _, _⟩ := node_facts (by rw [List.length_take]; omega) rfl h8
            have hcut5 := fun W => cut_hi (P := Try.prog) 57 56 Try.underlying57 1 (by kernel_rfl) (some ⟨gq, 0, none⟩) qa.length c4 m (by omega) W
            have Q := hid (put_ptrs (n := m) (ps := qa.take m) (L := La.take k) (by have := HM.out; rw [List.length_take]; omega) (List.map_take (f := ptrv) (i := m)).symm ((row_cut (m := m) (by have := HM.out; omega) (h8.eq (ptrs_out ..))).eq (by rw [Nat.mul_one]))).drew
            have hfin : qa.drop m = [q] := by
              obtain ⟨h1, h2⟩ := List.getElem?_eq_some_iff.1 HQ.out
              rw [List.drop_eq_getElem_cons h1, h2, List.drop_of_length_le (by have := HM.out; omega)]
            have hm1 : qa.length - 1 = m := by have := HM.out; omega
            have HF := hid (And.intro hfin hm1)
            clear hfin hm1 h7 h8 HX HY HK HQ
            go_wp2_with fail
            refine wp_region_tail 12 (by kernel_rfl) (by kernel_rfl) ?_
            simp only [List.take_succ_cons, List.take_zero, List.drop_succ_cons, List.drop_zero]
            repeat still_step
            refine wpStill_nil ?_
            go_wp2_with fail
            (try simp only [Exit.inBlock, Exit.then]); refine bodyPost_ret (results_none rfl _ _ _) rfl ?_
            refine ⟨⟨_, rfl⟩, ?_⟩
            rw [HF.out.2, HF.out.1]
            have r1 := (Q.out.node_shut.eq (star_left_comm _ _ _)).node_shut
            have r2 := (r1.eq (show _ = nodeAt n (.slice (some ⟨gn, 0, none⟩) es.length c1) (.slice (some ad) ps.length c2) (es.set i (Y1, Y2)) ps * (node b ((X1, X2) :: Lb) (q :: qb) * (node a (La.take k) (qa.take m) * F)) by ac_rfl)).node_shut
            exact r2.eq (by
              show node n _ ps * (node b ((X1, X2) :: Lb) (q :: qb) * _) = node n _ ps * (node a (La.take k) _ * (node b ((X1, X2) :: Lb) (q :: qb) * F))
              ac_rfl)
end Go.Proofs.Ytobgfdongidaaaa
