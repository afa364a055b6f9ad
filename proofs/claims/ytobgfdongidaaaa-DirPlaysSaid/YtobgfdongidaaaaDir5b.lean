import Derived.Test.YtobgfdongidaaaaDir5a
namespace Go.Proofs.Ytobgfdongidaaaa
set_option linter.unusedVariables false
set_option linter.unusedSimpArgs false
open Go.RowKit Go.Proofs.Sep Go.Lib

set_option maxRecDepth 100000 in
set_option maxHeartbeats 20000000 in
/-- split: a node too full. -/
theorem split_full {E w : World} {F : Asn} (t m p q i k : Nat) (u1 u2 : Value) (L M : List Ent) (ps qs : List Nat) (hq : ps[i]? = some q) (hm : m ≤ M.length) (h3 : 3 ≤ m) (hk : k = M.length / 2) (hkM : k < M.length) (hps : ps.length ≤ 1000000) (hM : M.length ≤ 1000000) (hL : L.length ≤ 1000000) (hqs : qs.length ≤ 1000000)
    (hiL : i ≤ L.length) (hle : qs = [] ∨ k + 1 ≤ qs.length)
    (hS : Sat E (node p L ps * (node q M qs * (top t m u1 u2 * F))) w) :
    Calls Try.prog 34 #[ptrv t, ptrv p, .int .i64 i] w fun e w' => ∃ r, (∃ v, e = .returned v) ∧ Sat E (node p (insAt i [M[k]] L) (insAt (i + 1) [r] ps) * (node q (M.take k) (qs.take (k + 1)) * (node r (M.drop (k + 1)) (qs.drop (k + 1)) * (top t m u1 u2 * F)))) w' := by
  have hi : i < ps.length := (List.getElem?_eq_some_iff.1 hq).1
  have hii : (i : Int) < (ps.length : Int) := by omega
  have z1 : ¬ ((M.length : Nat) : Int) < (m : Int) := by omega
  have hdv : ((M.length : Nat) : Int) / 2 = (k : Int) := by omega
  have hkk : (k : Int) < (M.length : Int) := by omega
  have wk := i64_wrap (x := (k : Int) + 1) (by omega) (by omega)
  have wi := i64_wrap (x := (i : Int) + 1) (by omega) (by omega)
  have hsz : (Try.prog.info? 25).map (·.size) = some 2 := by kernel_rfl
  have hsz1 : (Try.prog.info? 56).map (·.size) = some 1 := by kernel_rfl
  obtain ⟨A1, c1, A2, c2, g1, g2, h1⟩ := hS.node_open
  obtain ⟨A3, c3, A4, c4, g3, g4, h2⟩ := (h1.eq (star_left_comm _ _ _)).node_open
  obtain ⟨y0, y1, y2, _, y4, y5⟩ := node_facts rfl rfl h2
  obtain ⟨x0, x1, _, _, x4, x5⟩ := node_facts rfl rfl h2.right
  have t0 : w.cell? ⟨t, 0, none⟩ = some (.int .i64 m) := by
    have := h2.right.right
    unfold top at this
    rw [this.cell_blk]; rfl
  obtain ⟨ad, rfl, xq⟩ := ptr_at x5 hq
  obtain ⟨A5, hcut, hcr⟩ := cut_from (P := Try.prog) 22 25 .i64 Try.underlying22 hsz A3 M.length c3 (k + 1) (by omega) g3
  have hcl := hcr w _ y4
  have hcut2 := fun W => cut_hi (P := Try.prog) 22 25 Try.underlying22 2 hsz A3 M.length c3 k (by omega) W
  simp only [Int.natCast_add, Int.natCast_one] at hcut
  clear hS h1 hk
  unfold ptrv at xq ⊢
  have HCR := hid hcr
  clear hcr
  go_enter Try.func34, Try.ntmps34
  go_wp2_with fail
  go_quiet (fail)
  go_wp2_with fail
  refine (cloneEnts A5 _ _ _ (h2.drewN _) (hcl.drewN _) (fun u hu => ents_one M u (List.mem_of_mem_drop hu)) (by omega)).mono ?_
  rintro e w1 ⟨v5, rfl, s1⟩
  obtain ⟨A6, c6, rfl, g6, _, _⟩ := s1.reads
  clear hcl y0 y1 y2 y4 y5 x0 x1 x4 x5 t0 xq h2
  go_wp2_with fail
  have s2 := s1.alloc (.cells #[.slice A6 (M.length - (k + 1)) c6, .slice none 0 0] 59)
  generalize w1.alloc _ = w2 at *
  generalize w1.heap.size = r at *
  have s3 : Sat E (nodeAt r (.slice A6 (M.length - (k + 1)) c6) (.slice none 0 0) (M.drop (k + 1)) [] * (nodeAt q (.slice A3 M.length c3) (.slice A4 qs.length c4) M qs * (nodeAt p (.slice A1 L.length c1) (.slice (some ad) ps.length c2) L ps * (top t m u1 u2 * F)))) w2 := by
    have s2' : Sat E (row 56 1 (.slice none 0 0) 0 [] * _) w2 := s2.row_nil
    refine s2'.eq ?_
    rw [nodeAt_eq r, ents_drop, List.length_drop, List.length_nil, List.map_nil]
    ac_rfl
  clear s1 s2
  obtain ⟨y0, y1, _, _, y4, y5⟩ := node_facts rfl rfl s3.right
  obtain ⟨x0, x1, _, _, x4, x5⟩ := node_facts rfl rfl s3.right.right
  obtain ⟨ad3, rfl, hat3⟩ := y4.at (by omega)
  have e0 := hat3 _ _ (ents_at hkM).1
  have e1 := cell_two (hat3 _ _ (ents_at hkM).2)
  have HAT := hid hat3
  clear hat3
  generalize hMk : M[k] = X at *
  obtain ⟨X1, X2⟩ := X
  simp only at e0 e1
  have s4 := (s3.alloc (.cells #[.string X1, .int .i64 X2] 25)).drew
  have s5 : Sat E (row 25 2 (.slice A1 L.length c1) L.length (ents L) * (blk w2.heap.size (.cells [.string X1, .int .i64 X2].toArray 25) * (blk p (.cells #[.slice A1 L.length c1, .slice (some ad) ps.length c2] 59) * (row 56 1 (.slice (some ad) ps.length c2) ps.length (ps.map ptrv) * (nodeAt r (.slice A6 (M.length - (k + 1)) c6) (.slice none 0 0) (M.drop (k + 1)) [] * (nodeAt q (.slice (some ad3) M.length c3) (.slice A4 qs.length c4) M qs * (top t m u1 u2 * F))))))) (w2.alloc (.cells #[.string X1, .int .i64 X2] 25)).drew := s4.eq (by
    rw [nodeAt_eq p]
    ac_rfl)
  have s6 : Sat E _ (w2.drew.alloc (.cells #[.string X1, .int .i64 X2] 25)) := s5
  have hins := insEnt (.slice A1 L.length c1) L.length i w2.heap.size (ents L) [.string X1, .int .i64 X2] hiL hL rfl (by simp [Value.oneCell']) (ents_one L) s5
  have hins2 := insEnt (.slice A1 L.length c1) L.length i w2.heap.size (ents L) [.string X1, .int .i64 X2] hiL hL rfl (by simp [Value.oneCell']) (ents_one L) s6
  have x9 : (w2.alloc (.cells #[.string X1, .int .i64 X2] 25)).cell? ⟨p, 0, none⟩ = some (.slice A1 L.length c1) := (two_cells s5.right.right).1
  clear s3 s4 s5 s6 y4 y5 x4 x5
  go_region_law (first | (go_simp; go_at_call 42; first | refine hins.mono ?_ | refine hins2.mono ?_); rintro e w3 ⟨v7, rfl, q1⟩; obtain ⟨A7, c7, rfl, g7, _, _⟩ := q1.reads; have d0 := q1.right.right.free_blk (i := 0); have d1 := q1.right.right.cell_blk (i := 0); simp only [List.getElem?_toArray, List.getElem?_cons_zero, List.getElem?_cons_succ] at d1)
  all_goals
    have q2 : Sat E (blk p (.cells #[.slice A7 (L.length + 1) c7, .slice (some ad) ps.length c2] 59) * _) (w3.setCell ⟨p, 0, none⟩ (.slice A7 (L.length + 1) c7)) := (q1.drop_mid.eq (star_left_comm _ _ _)).setCell (i := 0) _
    generalize w3.setCell _ _ = w4 at *
    have q3 : Sat E (nodeAt q (.slice (some ad3) M.length c3) (.slice A4 qs.length c4) M qs * (nodeAt p (.slice A7 (L.length + 1) c7) (.slice (some ad) ps.length c2) (insAt i [(X1, X2)] L) ps * (nodeAt r (.slice A6 (M.length - (k + 1)) c6) (.slice none 0 0) (M.drop (k + 1)) [] * (top t m u1 u2 * F)))) w4 := q2.eq (by
      rw [nodeAt_eq p, ents_ins, insAt_length L _ i hiL]
      ac_rfl)
    clear q1 q2 d0 d1 hins hins2 x9 e0 e1 x0 x1 y0 y1
    obtain ⟨y0, y1, _, _, y4, y5⟩ := node_facts rfl rfl q3
    have hcl := y4.take k (by omega)
    have hclone := cloneEnts (some ad3) k c3 _ q3 hcl (fun u hu => ents_one M u (List.mem_of_mem_take hu)) (by omega)
    clear y4 y5 hcl
    go_wp2_with fail
    refine hclone.mono ?_
    clear hclone y0 y1
    rintro e w5 ⟨v8, rfl, q4⟩
    obtain ⟨A8, c8, rfl, g8, _, _⟩ := q4.reads
    have q5 : Sat E (blk q (.cells #[.slice (some ad3) M.length c3, .slice A4 qs.length c4] 59) * (row 25 2 (.slice (some ad3) M.length c3) M.length (ents M) * (row 25 2 (.slice A8 k c8) k ((ents M).take (k * 2)) * (row 56 1 (.slice A4 qs.length c4) qs.length (qs.map ptrv) * (nodeAt p (.slice A7 (L.length + 1) c7) (.slice (some ad) ps.length c2) (insAt i [(X1, X2)] L) ps * (nodeAt r (.slice A6 (M.length - (k + 1)) c6) (.slice none 0 0) (M.drop (k + 1)) [] * (top t m u1 u2 * F))))))) w5 := q4.eq (by
      rw [nodeAt_eq q]
      ac_rfl)
    obtain ⟨f0, f1, f2, f3⟩ := two_cells q5
    have q6 : Sat E (blk q (.cells #[.slice A8 k c8, .slice A4 qs.length c4] 59) * _) (w5.setCell ⟨q, 0, none⟩ (.slice A8 k c8)) := q5.drop_mid.setCell (i := 0) _
    have hlf := leaf30 q qs.length c4 A4 (two_cells q6).2.1
    go_wp2_with fail
    refine hlf.mono ?_
    clear hlf f0 f1 f2 f3 q4 q5
    generalize w5.setCell _ _ = w6 at *
    rintro e w7 ⟨rfl, rfl⟩
    have hlk : (M.take k).length = k := by rw [List.length_take]; omega
    have q7 : Sat E (nodeAt q (.slice A8 k c8) (.slice A4 qs.length c4) (M.take k) qs * (nodeAt p (.slice A7 (L.length + 1) c7) (.slice (some ad) ps.length c2) (insAt i [(X1, X2)] L) ps * (nodeAt r (.slice A6 (M.length - (k + 1)) c6) (.slice none 0 0) (M.drop (k + 1)) [] * (top t m u1 u2 * F)))) w7 := q6.eq (by
      rw [nodeAt_eq q, ents_take, hlk]
      ac_rfl)
    clear q6
    rcases hle with hj | hj
    · have hz : ((qs.length : Int) == 0) = true := by rw [hj]; rfl
      have q8 : Sat E (nodeAt p (.slice A7 (L.length + 1) c7) (.slice (some ad) ps.length c2) (insAt i [(X1, X2)] L) ps * (nodeAt q (.slice A8 k c8) (.slice A4 qs.length c4) (M.take k) (qs.take (k + 1)) * (nodeAt r (.slice A6 (M.length - (k + 1)) c6) (.slice none 0 0) (M.drop (k + 1)) (qs.drop (k + 1)) * (top t m u1 u2 * F)))) w7 := q7.eq (by
        rw [show qs.take (k + 1) = qs by rw [hj]; rfl, show qs.drop (k + 1) = [] by rw [hj]; rfl]
        exact star_left_comm _ _ _)
      clear q7 q3
      obtain ⟨x0, x1, x2, x3, _, _⟩ := node_facts (insAt_length L _ i hiL).symm rfl q8
      have r1 : Sat E (row 56 1 (.slice (some ad) ps.length c2) ps.length (ps.map ptrv) * (blk (w7).heap.size (.cells [ptrv r].toArray 56) * (blk p (.cells #[.slice A7 (L.length + 1) c7, .slice (some ad) ps.length c2] 59) * (row 25 2 (.slice A7 (L.length + 1) c7) (insAt i [(X1, X2)] L).length (ents (insAt i [(X1, X2)] L)) * (nodeAt q (.slice A8 k c8) (.slice A4 qs.length c4) (M.take k) (qs.take (k + 1)) * (nodeAt r (.slice A6 (M.length - (k + 1)) c6) (.slice none 0 0) (M.drop (k + 1)) (qs.drop (k + 1)) * (top t m u1 u2 * F))))))) ((w7).alloc (.cells #[ptrv r] 56)) := (q8.alloc (.cells #[ptrv r] 56)).eq (by
        rw [nodeAt_eq p]
        ac_rfl)
      have hin := insNode (.slice (some ad) ps.length c2) ps.length (i + 1) (w7).heap.size (ps.map ptrv) [ptrv r] (by omega) hps rfl (ptrs_one [r]) (ptrs_one ps) r1
      simp only [Int.natCast_add, Int.natCast_one] at hin
      clear r1
      go_wp2_with fail
      refine hin.mono ?_
      clear hin x0 x1 x2 x3
      rintro e w10 ⟨v12, rfl, r2⟩
      obtain ⟨A12, c12, rfl, g12, _, _⟩ := r2.reads
      obtain ⟨x0, x1, x2, x3⟩ := two_cells r2.right.right
      have r3 : Sat E (blk p (.cells #[.slice A7 (L.length + 1) c7, .slice A12 (ps.length + 1) c12] 59) * _) (w10.setCell ⟨p, 1, none⟩ (.slice A12 (ps.length + 1) c12)) := (r2.drop_mid.eq (star_left_comm _ _ _)).setCell (i := 1) _
      have r4 : Sat E (nodeAt p (.slice A7 (L.length + 1) c7) (.slice A12 (ps.length + 1) c12) (insAt i [(X1, X2)] L) (insAt (i + 1) [r] ps) * (nodeAt q (.slice A8 k c8) (.slice A4 qs.length c4) (M.take k) (qs.take (k + 1)) * (nodeAt r (.slice A6 (M.length - (k + 1)) c6) (.slice none 0 0) (M.drop (k + 1)) (qs.drop (k + 1)) * (top t m u1 u2 * F)))) (w10.setCell ⟨p, 1, none⟩ (.slice A12 (ps.length + 1) c12)) := r3.eq (by
        rw [nodeAt_eq p, ptrs_ins, insAt_length ps _ (i + 1) (by omega)]
        ac_rfl)
      have r5 := (r4.node_shut.eq (star_left_comm _ _ _)).node_shut
      have r6 := (r5.eq (show _ = nodeAt r (.slice A6 (M.length - (k + 1)) c6) (.slice none 0 0) (M.drop (k + 1)) (qs.drop (k + 1)) * (node p (insAt i [(X1, X2)] L) (insAt (i + 1) [r] ps) * (node q _ _ * (top t m u1 u2 * F))) by ac_rfl)).node_shut
      have R7 := hid (r6.eq (show _ = node p (insAt i [(X1, X2)] L) (insAt (i + 1) [r] ps) * (node q _ _ * (node r _ _ * (top t m u1 u2 * F))) by ac_rfl))
      clear r2 r3 r4 r5 r6
      go_wp2_with fail
      first
        | refine bodyPost_end (results_none rfl _ _ _) rfl ?_
        | refine bodyPost_ret (results_none rfl _ _ _) rfl ?_
      first
        | exact ⟨r, ⟨_, rfl⟩, R7.out⟩
        | (rw [hMk]; exact ⟨r, ⟨_, rfl⟩, R7.out⟩)
    · have hz : ((qs.length : Int) == 0) = false := beq_eq_false_iff_ne.2 (by omega)
      obtain ⟨y0, y1, y2, y3, y4, y5⟩ := node_facts hlk.symm rfl q7
      obtain ⟨A9, hcut9, hcr9⟩ := cut_from (P := Try.prog) 57 56 .i64 Try.underlying57 hsz1 A4 qs.length c4 (k + 1) hj g4
      have hcl9 := hcr9 _ _ y5
      have hcut10 := fun W => cut_hi (P := Try.prog) 57 56 Try.underlying57 1 hsz1 A4 qs.length c4 (k + 1) (by omega) W
      simp only [Int.natCast_add, Int.natCast_one] at hcut9 hcut10
      have hc9 := cloneNodes A9 _ (c4 - (k + 1)) _ q7 hcl9 (fun u hu => ptrs_one qs u (List.mem_of_mem_drop hu)) (by omega)
      clear hcr9 hcl9 y4 y5 q3
      go_wp2_with fail
      refine hc9.mono ?_
      clear hc9 q7 y0 y1 y2 y3
      rintro e w8 ⟨v9, rfl, q8⟩
      obtain ⟨A11, c11, rfl, g11, _, _⟩ := q8.reads
      have q9 : Sat E (blk r (.cells #[.slice A6 (M.length - (k + 1)) c6, .slice none 0 0] 59) * (row 25 2 (.slice A6 (M.length - (k + 1)) c6) (M.drop (k + 1)).length (ents (M.drop (k + 1))) * (row 56 1 (.slice A11 (qs.length - (k + 1)) c11) (qs.length - (k + 1)) ((qs.map ptrv).drop ((k + 1) * 1)) * (nodeAt q (.slice A8 k c8) (.slice A4 qs.length c4) (M.take k) qs * (nodeAt p (.slice A7 (L.length + 1) c7) (.slice (some ad) ps.length c2) (insAt i [(X1, X2)] L) ps * (top t m u1 u2 * F)))))) w8 := (q8.eq (show _ = row 56 1 (.slice none 0 0) ([] : List Nat).length (([] : List Nat).map ptrv) * (blk r (.cells #[.slice A6 (M.length - (k + 1)) c6, .slice none 0 0] 59) * (row 25 2 (.slice A6 (M.length - (k + 1)) c6) (M.drop (k + 1)).length (ents (M.drop (k + 1))) * (row 56 1 (.slice A11 (qs.length - (k + 1)) c11) (qs.length - (k + 1)) ((qs.map ptrv).drop ((k + 1) * 1)) * (nodeAt q (.slice A8 k c8) (.slice A4 qs.length c4) (M.take k) qs * (nodeAt p (.slice A7 (L.length + 1) c7) (.slice (some ad) ps.length c2) (insAt i [(X1, X2)] L) ps * (top t m u1 u2 * F)))))) by
        rw [nodeAt_eq r]
        ac_rfl)).right
      obtain ⟨f0, f1, f2, f3⟩ := two_cells q9
      obtain ⟨y0, y1, y2, y3, _, _⟩ := node_facts hlk.symm rfl q9.right.right.right
      have q10 : Sat E (blk r (.cells #[.slice A6 (M.length - (k + 1)) c6, .slice A11 (qs.length - (k + 1)) c11] 59) * _) (w8.setCell ⟨r, 1, none⟩ (.slice A11 (qs.length - (k + 1)) c11)) := q9.setCell (i := 1) _
      have q11 : Sat E (nodeAt q (.slice A8 k c8) (.slice A4 qs.length c4) (M.take k) qs * (nodeAt p (.slice A7 (L.length + 1) c7) (.slice (some ad) ps.length c2) (insAt i [(X1, X2)] L) ps * (nodeAt r (.slice A6 (M.length - (k + 1)) c6) (.slice A11 (qs.length - (k + 1)) c11) (M.drop (k + 1)) (qs.drop (k + 1)) * (top t m u1 u2 * F)))) (w8.setCell ⟨r, 1, none⟩ (.slice A11 (qs.length - (k + 1)) c11)) := q10.eq (by
        rw [nodeAt_eq r, List.map_drop, List.length_drop (l := qs), Nat.mul_one]
        ac_rfl)
      have nrq : ¬ r = q := by
        have := q9.right.right.right
        have h9 : Sat E (blk r (.cells #[.slice A6 (M.length - (k + 1)) c6, .slice none 0 0] 59) * (blk q (.cells #[.slice A8 k c8, .slice A4 qs.length c4] 59) * _)) w8 := q9.eq (show _ = blk r (.cells #[.slice A6 (M.length - (k + 1)) c6, .slice none 0 0] 59) * (blk q (.cells #[.slice A8 k c8, .slice A4 qs.length c4] 59) * (row 25 2 (.slice A8 k c8) (M.take k).length (ents (M.take k)) * (row 56 1 (.slice A4 qs.length c4) qs.length (qs.map ptrv) * (row 25 2 (.slice A6 (M.length - (k + 1)) c6) (M.drop (k + 1)).length (ents (M.drop (k + 1))) * (row 56 1 (.slice A11 (qs.length - (k + 1)) c11) (qs.length - (k + 1)) ((qs.map ptrv).drop ((k + 1) * 1)) * (nodeAt p (.slice A7 (L.length + 1) c7) (.slice (some ad) ps.length c2) (insAt i [(X1, X2)] L) ps * (top t m u1 u2 * F))))))) by
          rw [nodeAt_eq q]
          ac_rfl)
        exact h9.ne_blk
      have nqr : ¬ q = r := fun h => nrq h.symm
      obtain ⟨_, _, _, _, _, z5⟩ := node_facts hlk.symm rfl q11
      have hc10 := cloneNodes A4 (k + 1) c4 _ q11 (z5.take (k + 1) hj) (fun u hu => ptrs_one qs u (List.mem_of_mem_take hu)) (by omega)
      clear z5 q8 q9 q10 q11
      go_wp2_with fail
      refine hc10.mono ?_
      clear hc10 f0 f1 f2 f3 y0 y1 y2 y3
      rintro e w9 ⟨v13, rfl, q12⟩
      obtain ⟨A13, c13, rfl, g13, _, _⟩ := q12.reads
      have q13 : Sat E (blk q (.cells #[.slice A8 k c8, .slice A4 qs.length c4] 59) * (row 56 1 (.slice A4 qs.length c4) qs.length (qs.map ptrv) * (row 56 1 (.slice A13 (k + 1) c13) (k + 1) ((qs.map ptrv).take ((k + 1) * 1)) * (row 25 2 (.slice A8 k c8) (M.take k).length (ents (M.take k)) * (nodeAt p (.slice A7 (L.length + 1) c7) (.slice (some ad) ps.length c2) (insAt i [(X1, X2)] L) ps * (nodeAt r (.slice A6 (M.length - (k + 1)) c6) (.slice A11 (qs.length - (k + 1)) c11) (M.drop (k + 1)) (qs.drop (k + 1)) * (top t m u1 u2 * F))))))) w9 := q12.eq (by
        rw [nodeAt_eq q]
        ac_rfl)
      obtain ⟨f0, f1, f2, f3⟩ := two_cells q13
      have q14 : Sat E (blk q (.cells #[.slice A8 k c8, .slice A13 (k + 1) c13] 59) * _) (w9.setCell ⟨q, 1, none⟩ (.slice A13 (k + 1) c13)) := q13.drop_mid.setCell (i := 1) _
      have hlq : (qs.take (k + 1)).length = k + 1 := by rw [List.length_take]; omega
      have q15 : Sat E (nodeAt p (.slice A7 (L.length + 1) c7) (.slice (some ad) ps.length c2) (insAt i [(X1, X2)] L) ps * (nodeAt q (.slice A8 k c8) (.slice A13 (k + 1) c13) (M.take k) (qs.take (k + 1)) * (nodeAt r (.slice A6 (M.length - (k + 1)) c6) (.slice A11 (qs.length - (k + 1)) c11) (M.drop (k + 1)) (qs.drop (k + 1)) * (top t m u1 u2 * F)))) (w9.setCell ⟨q, 1, none⟩ (.slice A13 (k + 1) c13)) := q14.eq (by
        rw [nodeAt_eq q, List.map_take, hlq, Nat.mul_one]
        ac_rfl)
      have npq : ¬ q = p := by
        have h9 : Sat E (blk q (.cells #[.slice A8 k c8, .slice A4 qs.length c4] 59) * (blk p (.cells #[.slice A7 (L.length + 1) c7, .slice (some ad) ps.length c2] 59) * _)) w9 := q13.drop_mid.drop_mid.drop_mid.eq (show _ = blk q (.cells #[.slice A8 k c8, .slice A4 qs.length c4] 59) * (blk p (.cells #[.slice A7 (L.length + 1) c7, .slice (some ad) ps.length c2] 59) * (row 25 2 (.slice A7 (L.length + 1) c7) (insAt i [(X1, X2)] L).length (ents (insAt i [(X1, X2)] L)) * (row 56 1 (.slice (some ad) ps.length c2) ps.length (ps.map ptrv) * (nodeAt r (.slice A6 (M.length - (k + 1)) c6) (.slice A11 (qs.length - (k + 1)) c11) (M.drop (k + 1)) (qs.drop (k + 1)) * (top t m u1 u2 * F))))) by
          rw [nodeAt_eq p]
          ac_rfl)
        exact h9.ne_blk
      have nqp : ¬ p = q := fun h => npq h.symm
      obtain ⟨p0, p1, p2, p3, _, _⟩ := node_facts (insAt_length L _ i hiL).symm rfl q13.right.right.right.right
      clear q12 q13 q14
      have hsz9 : (w9.setCell ⟨q, 1, none⟩ (.slice A13 (k + 1) c13)).heap.size = w9.heap.size := by simp [World.setCell]
      obtain ⟨x0, x1, x2, x3, _, _⟩ := node_facts (insAt_length L _ i hiL).symm rfl q15
      have r1 : Sat E (row 56 1 (.slice (some ad) ps.length c2) ps.length (ps.map ptrv) * (blk w9.heap.size (.cells [ptrv r].toArray 56) * (blk p (.cells #[.slice A7 (L.length + 1) c7, .slice (some ad) ps.length c2] 59) * (row 25 2 (.slice A7 (L.length + 1) c7) (insAt i [(X1, X2)] L).length (ents (insAt i [(X1, X2)] L)) * (nodeAt q (.slice A8 k c8) (.slice A13 (k + 1) c13) (M.take k) (qs.take (k + 1)) * (nodeAt r (.slice A6 (M.length - (k + 1)) c6) (.slice A11 (qs.length - (k + 1)) c11) (M.drop (k + 1)) (qs.drop (k + 1)) * (top t m u1 u2 * F))))))) ((w9.setCell ⟨q, 1, none⟩ (.slice A13 (k + 1) c13)).alloc (.cells #[ptrv r] 56)) := (q15.alloc (.cells #[ptrv r] 56)).eq (by
        rw [nodeAt_eq p, hsz9]
        ac_rfl)
      have hin := insNode (.slice (some ad) ps.length c2) ps.length (i + 1) w9.heap.size (ps.map ptrv) [ptrv r] (by omega) hps rfl (ptrs_one [r]) (ptrs_one ps) r1
      simp only [Int.natCast_add, Int.natCast_one] at hin
      clear r1
      go_wp2_with fail
      refine hin.mono ?_
      clear hin x0 x1 x2 x3
      rintro e w10 ⟨v12, rfl, r2⟩
      obtain ⟨A12, c12, rfl, g12, _, _⟩ := r2.reads
      obtain ⟨x0, x1, x2, x3⟩ := two_cells r2.right.right
      have r3 : Sat E (blk p (.cells #[.slice A7 (L.length + 1) c7, .slice A12 (ps.length + 1) c12] 59) * _) (w10.setCell ⟨p, 1, none⟩ (.slice A12 (ps.length + 1) c12)) := (r2.drop_mid.eq (star_left_comm _ _ _)).setCell (i := 1) _
      have r4 : Sat E (nodeAt p (.slice A7 (L.length + 1) c7) (.slice A12 (ps.length + 1) c12) (insAt i [(X1, X2)] L) (insAt (i + 1) [r] ps) * (nodeAt q (.slice A8 k c8) (.slice A13 (k + 1) c13) (M.take k) (qs.take (k + 1)) * (nodeAt r (.slice A6 (M.length - (k + 1)) c6) (.slice A11 (qs.length - (k + 1)) c11) (M.drop (k + 1)) (qs.drop (k + 1)) * (top t m u1 u2 * F)))) (w10.setCell ⟨p, 1, none⟩ (.slice A12 (ps.length + 1) c12)) := r3.eq (by
        rw [nodeAt_eq p, ptrs_ins, insAt_length ps _ (i + 1) (by omega)]
        ac_rfl)
      have r5 := (r4.node_shut.eq (star_left_comm _ _ _)).node_shut
      have r6 := (r5.eq (show _ = nodeAt r (.slice A6 (M.length - (k + 1)) c6) (.slice A11 (qs.length - (k + 1)) c11) (M.drop (k + 1)) (qs.drop (k + 1)) * (node p (insAt i [(X1, X2)] L) (insAt (i + 1) [r] ps) * (node q _ _ * (top t m u1 u2 * F))) by ac_rfl)).node_shut
      have R7 := hid (r6.eq (show _ = node p (insAt i [(X1, X2)] L) (insAt (i + 1) [r] ps) * (node q _ _ * (node r _ _ * (top t m u1 u2 * F))) by ac_rfl))
      clear r2 r3 r4 r5 r6
      go_wp2_with fail
      first
        | refine bodyPost_end (results_none rfl _ _ _) rfl ?_
        | refine bodyPost_ret (results_none rfl _ _ _) rfl ?_
      first
        | exact ⟨r, ⟨_, rfl⟩, R7.out⟩
        | (rw [hMk]; exact ⟨r, ⟨_, rfl⟩, R7.out⟩)
end Go.Proofs.Ytobgfdongidaaaa
