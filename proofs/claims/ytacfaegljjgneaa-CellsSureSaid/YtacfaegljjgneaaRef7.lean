import Derived.Test.YtacfaegljjgneaaRef6
namespace Go.Proofs.Ytacfaegljjgneaa
set_option linter.unusedVariables false
set_option linter.unusedSimpArgs false
open Go.RowKit Go.Proofs.Sep

set_option maxRecDepth 100000 in
set_option maxHeartbeats 4000000 in
theorem rfsync_calls {E w : World} {F : Asn} (s : Nat) (σ0 : St) (tr : List TOp) (ho : SOk σ0) (hl : tr.length ≤ 1000000) (hS : Sat E (rstore s σ0 tr * F) w) :
    Calls Try.prog 31 #[.pointer (some ⟨s, 0, none⟩)] w fun e w' => e = .returned (.int .i64 (sync σ0).1) ∧ Sat E (rstore s (sync σ0).2 (noted (sync σ0).1 (3, 0, []) tr) * F) w' := by
  have hbg := rbegin_calls s σ0 tr ho.o1 ho.o2 ho.l1 ho.l2 hS
  unfold sync noted
  generalize hq : begins σ0 = q at *
  obtain ⟨ok, σ⟩ := q
  simp only at hbg ⊢
  clear hq hS ho
  cases ok with
  | false =>
    rw [if_pos rfl]
    go_enter Try.func31, Try.ntmps31
    go_wp2_with fail
    refine hbg.mono ?_
    rintro e w1 ⟨rfl, g1⟩
    go_wp2
    go_ret
    exact ⟨rfl, g1⟩
  | true =>
    rw [if_neg (by simp)]
    go_enter Try.func31, Try.ntmps31
    go_wp2_with fail
    refine hbg.mono ?_
    clear hbg
    rintro e w1 ⟨rfl, g1⟩
    obtain ⟨r, x, hr, hx, h⟩ := rstore_open g1
    obtain ⟨A1, c1, A2, c2, A3, c3, A4, c4, e1, e2, e3, e4, R1, R2, R3, hc2, hc4⟩ := rstore_slices h
    obtain ⟨d0, d1, d2, d3, d4, d5, d6, d7, d8⟩ := rstore_cells h
    have hmm := R2.2.1
    rw [e2] at d7
    rw [e1] at d6
    have key : Sat E (blk s (.cells #[.int .i64 σ.size, .int .i64 x.after, .int .i64 σ.ops, .bool x.ar, .bool σ.down, .slice A3 x.kb.length c3, .slice A1 σ.n c1, .slice A2 σ.fl.length c2, x.tv] 56) * (row 22 1 (.slice A1 σ.n c1) σ.n r.cvals * (row 91 2 (.slice A2 σ.fl.length c2) σ.fl.length (flat r.fl) * (row 4 1 (.slice A3 x.kb.length c3) x.kb.length (bools x.kb) * (row 65 3 x.tv tr.length (tf x.t.L) * (bag x.t.P * (bag r.P * F))))))) w1 := by
      unfold ROP rsBlk at h
      rw [e1, e2, e3] at h
      exact h
    clear h R1 R2 R3 g1 e1 e2 e3 e4
    go_wp2_with fail
    go_loopw [3] (fun i wr => ∃ (k : Nat) (cvk : List Value), k ≤ σ.fl.length ∧ i = .int .i64 k ∧ Hid (({ r with cvals := cvk } : Rep).Ok { σ with cs := landTo (fun _ => true) σ k }) ∧ Sat E (blk s (.cells #[.int .i64 σ.size, .int .i64 x.after, .int .i64 σ.ops, .bool x.ar, .bool σ.down, .slice A3 x.kb.length c3, .slice A1 σ.n c1, .slice A2 σ.fl.length c2, x.tv] 56) * (row 22 1 (.slice A1 σ.n c1) σ.n cvk * (row 91 2 (.slice A2 σ.fl.length c2) σ.fl.length (flat r.fl) * (row 4 1 (.slice A3 x.kb.length c3) x.kb.length (bools x.kb) * (row 65 3 x.tv tr.length (tf x.t.L) * (bag x.t.P * (bag r.P * F))))))) wr) (fun i _ => σ.fl.length - (intOf i).toNat)
    case atStart => exact ⟨0, r.cvals, by omega, rfl, ⟨hr.n1, hr.n2, hr.cells, hr.f1, hr.fly⟩, key⟩
    case round =>
      clear key d0 d1 d2 d3 d4 d5 d6 d7 d8
      obtain ⟨k, cvk, hk, rfl, hok, hq⟩ := hrel
      have b6 := hq.cell_blk (i := 6)
      have b7 := hq.cell_blk (i := 7)
      simp only [List.getElem?_toArray, List.getElem?_cons_zero, List.getElem?_cons_succ] at b6 b7
      by_cases hlt : k < σ.fl.length
      · have hrl := hr.f1
        have hkd : (k : Int) < (σ.fl.length : Int) := by omega
        have wk := i64_wrap (x := (k : Int) + 1) (by omega) (by omega)
        obtain ⟨af, haf, hcf⟩ := hq.right.right.reads_at.at (by omega)
        obtain ⟨x0, x1⟩ := flat_at (l := r.fl) (k := k) (by omega)
        obtain ⟨y1, y2, y3, y4, y5⟩ := hr.fly k (by omega) hlt
        obtain ⟨A5, c5, e5, hR5⟩ := bag_at hq.right.right.right.right.right.right _ y2
        simp only at e5 hR5
        obtain ⟨j, hj, hjn⟩ : ∃ j : Nat, σ.fl[k].1 = j ∧ j < σ.n := ⟨σ.fl[k].1.toNat, by omega, by omega⟩
        have t0 := hcf _ _ x0
        have t1 := cell_two (hcf _ _ x1)
        rw [y1, hj] at t0
        rw [e5] at t1
        have hgd : σ.fl.getD k (0, []) = σ.fl[k] := by rw [List.getD_eq_getElem?_getD, List.getElem?_eq_getElem hlt]; rfl
        have hnext : landTo (fun _ => true) σ (k + 1) = (landTo (fun _ => true) σ k).set j σ.fl[k].2 := by
          simp only [landTo]
          rw [if_true, hgd, hj, Int.toNat_natCast]
        subst haf
        have hokn : ({ r with cvals := cvk.set j (.slice A5 σ.fl[k].2.length c5) } : Rep).Ok { σ with cs := landTo (fun _ => true) σ (k + 1) } := by
          refine ⟨by simp only [List.length_set]; exact hok.out.n1, by rw [hnext]; simp only [List.length_set]; exact hok.out.n2, ?_, hr.f1, hr.fly⟩
          intro i h1 h2
          simp only at h1 h2 ⊢
          simp only [List.getElem_set, hnext]
          split
          · exact .inr ⟨by rw [← e5]; exact y2, y3⟩
          · exact hok.out.cells i (by simpa using h1) (by rw [hnext] at h2; simpa using h2)
        have HN := hid hokn
        have hql := hq.eq (star_left_comm _ _ _)
        obtain ⟨ga, cga, e9, _, _⟩ := hql.row_head (by omega)
        injection e9 with e9 e9b e9c
        subst e9
        clear e9b e9c
        have l1 := hql.row_lt
        have f1 := hql.row_free j
        obtain ⟨uo, ho⟩ : ∃ uo, wr.cell? ⟨ga, j, none⟩ = some uo := by
          have := hql.row_cell j (by omega)
          exact ⟨_, this.trans (List.getElem?_eq_getElem (by rw [show cvk.length = σ.n from hok.out.n1]; exact hjn))⟩
        have hjd : (j : Int) < (σ.n : Int) := by omega
        have q2 := ((hql.row_store j (.slice A5 σ.fl[k].2.length c5)).drew).eq (star_left_comm _ _ _)
        have Q2 := hid q2
        clear q2 hnext hgd y1 y2 y3 y4 y5 hj x0 x1 hcf hokn hql e5
        go_wp2_with fail
        refine wp_region_tail 21 (by kernel_rfl) (by kernel_rfl) ?_
        simp only [List.take_succ_cons, List.take_zero, List.drop_succ_cons, List.drop_zero]
        repeat still_step
        refine wpStill_nil ?_
        go_wp2
        go_roundw
        case rel => exact ⟨k + 1, _, by omega, by go_num, HN, Q2.out⟩
        case measure => simp [intOf]; omega
      · obtain rfl : k = σ.fl.length := by omega
        have hkd : ¬ (σ.fl.length : Int) < (σ.fl.length : Int) := by omega
        have f7 := hq.free_blk (i := 7)
        have l2 := hq.lt_blk
        have q1 := hq.setCell (i := 7) (.slice none 0 0)
        simp only [List.setIfInBounds_toArray, List.set_cons_succ, List.set_cons_zero] at q1
        have q2 : Sat E (row 91 2 (.slice none 0 0) 0 (flat []) * _) _ := (q1.eq (perm91 _ _ _ _)).right.row_nil
        have hokn : ({ r with cvals := cvk, cv := .slice A1 σ.n c1, fv := .slice none 0 0, fl := [], kv := .slice A3 x.kb.length c3 } : Rep).Ok (lands (fun _ => true) σ) :=
          ⟨hok.out.n1, hok.out.n2, hok.out.cells, rfl, fun i h1 _ => by simp at h1⟩
        have hxn : x.Ok (lands (fun _ => true) σ) tr := ⟨hx.ar, hx.on, hx.t⟩
        have q3 : Sat E (ROP s (lands (fun _ => true) σ) tr { r with cvals := cvk, cv := .slice A1 σ.n c1, fv := .slice none 0 0, fl := [], kv := .slice A3 x.kb.length c3 } x F) _ := q2.eq (perm91 _ _ _ _).symm
        have q4 := hid q3
        have q5 := (rstore_cells q3).2.2.2.2.2.2.2.2
        have h5 : Sat E (row 5 1 (.slice none 0 0) 0 (nums .u8 []) * _) _ := q3.row_nil
        generalize ({ r with cvals := cvk, cv := .slice A1 σ.n c1, fv := .slice none 0 0, fl := [], kv := .slice A3 x.kb.length c3 } : Rep) = r2 at *
        generalize hτ : lands (fun _ => true) σ = τ at *
        have HT := hid hτ
        clear hτ
        have h6 : Sat E (row 65 3 x.tv tr.length (tf x.t.L) * (rsBlk s τ r2 x * (row 5 1 (.slice none 0 0) 0 (nums .u8 []) * (row 22 1 r2.cv τ.n r2.cvals * (row 91 2 r2.fv τ.fl.length (flat r2.fl) * (row 4 1 r2.kv x.kb.length (bools x.kb) * (bag x.t.P * (bag r2.P * F)))))))) _ := ((h5.alloc_drop (.cells #[.int .i64 3, .int .i64 0, .slice none 0 0] 65)).eq (by unfold ROP; ac_rfl))
        clear q1 q2 q3 q4 h5
        go_wp2_with (at_builtin; refine wpList_append_sat rfl _ _ 54 65 (.agg #[.int .i64 0, .int .i64 0, .slice none 0 0]) 3 40 rfl Try.underlying54 Try.info65 rfl (by decide) _ tr.length _ _ 1 1 [.int .i64 3, .int .i64 0, .slice none 0 0] rfl rfl h6 (Reads.newAt 3 1 [.int .i64 3, .int .i64 0, .slice none 0 0] 65 rfl (by omega) (by simp)) (by simp [Value.oneCell']) (by unfold maxLen; omega) (by omega) ?_; intro v1 w7 h7; obtain ⟨A7, c7, rfl, _, _, _⟩ := h7.reads; have d7x := (rstore_cells h7.right).2.2.2.2.2.2.2.2; have f7x := h7.right.free_blk (i := 8); have l7x := h7.right.lt_blk; have Q2 := hid (rnote_shut (k := 3) (a := 0) (b := []) hokn hxn h7); clear h7)
        go_ret
        rw [HT.out]
        exact ⟨rfl, Q2.out⟩
theorem permB (V B C K G X Y F : Asn) : V * (B * (C * (K * (G * (X * (Y * F)))))) = G * (V * (B * (C * (K * (X * (Y * F)))))) := by ac_rfl
set_option maxRecDepth 100000 in
set_option maxHeartbeats 1000000 in
theorem rfarm_calls {E w : World} {F : Asn} (s : Nat) (σ : St) (tr : List TOp) (after : Int) (A : Option Addr) (c : Nat) (ka : List Bool) (hn : ka.length ≤ 1000000) (hS : Sat E (rstore s σ tr * F) w) (hK : ∀ w, Sat E F w → Reads w 1 A ka.length (bools ka)) :
    Calls Try.prog 32 #[.pointer (some ⟨s, 0, none⟩), .int .i64 after, .slice A ka.length c] w fun e w' => e = .returned (.bool (arm σ after ka).1) ∧ Sat E (rstore s (arm σ after ka).2 tr * F) w' := by
  unfold arm
  by_cases ha : after < 1
  · rw [if_pos ha]
    go_enter Try.func32, Try.ntmps32
    go_wp2
    go_ret
    exact ⟨rfl, hS⟩
  · rw [if_neg ha]
    obtain ⟨r, x, hr, hx, h⟩ := rstore_open hS
    have hb := h.alloc (.cells #[] 4)
    have hrow : Sat E (row 4 1 (.slice (some ⟨w.heap.size, 0, none⟩) 0 0) 0 [] * ROP s σ tr r x F) (w.alloc (.cells #[] 4)) := hb.blk_row (n := 0) (cap := 0) (by omega) (by simp [maxLen]) rfl
    have hKF := (hK _ h.right.right.right.right.right.right.right).alloc (.cells #[] 4)
    clear hb h hS hK
    go_enter Try.func32, Try.ntmps32
    go_wp2_with (at_builtin; refine wpList_append_sat rfl _ _ 23 4 (.bool false) 1 1 rfl Try.underlying23 Try.info4 rfl (by decide) _ 0 [] A ka.length c (bools ka) rfl rfl hrow hKF (bools_one _) (by unfold maxLen; omega) (by omega) ?_; intro v1 w1 hS1; obtain ⟨A5, c5, rfl, _, _, _⟩ := hS1.reads; rw [List.nil_append, Nat.zero_add] at hS1; have h3 := hS1.right; have f1 := h3.free_blk (i := 1); have f3 := h3.free_blk (i := 3); have f5 := h3.free_blk (i := 5); obtain ⟨z0, z1, z2, z3, z4, z5, z6, z7, z8⟩ := rstore_cells h3; have lt := h3.lt_blk; have q1 := ((((hS1.eq (star_left_comm _ _ _)).setCell (i := 1) (.int .i64 after)).setCell (i := 3) (.bool true)).setCell (i := 5) (.slice A5 (0 + ka.length) c5)); clear hS1 h3)
    simp only [List.setIfInBounds_toArray, List.set_cons_succ, List.set_cons_zero, Nat.zero_add] at q1
    have hok : ({ r with kv := .slice A5 ka.length c5 } : Rep).Ok { σ with left := after, keep := ka } := ⟨hr.n1, hr.n2, hr.cells, hr.f1, hr.fly⟩
    have hxk : ({ x with ar := true, after := after, kb := ka } : RExt).Ok { σ with left := after, keep := ka } tr := ⟨(decide_eq_true (show 0 < after by omega)).symm, fun _ => ⟨rfl, rfl⟩, hx.t⟩
    have q3 := rstore_shut hok hxk (s := s) (F := row 4 1 r.kv x.kb.length (bools x.kb) * F) (q1.eq (by unfold ROP rsBlk; ac_rfl))
    have Q3 := hid q3.drop_mid
    clear q1 q3
    go_wp2
    go_ret
    exact ⟨rfl, Q3.out⟩
end Go.Proofs.Ytacfaegljjgneaa
