import Derived.Test.YtacfaegljjgneaaRef2
namespace Go.Proofs.Ytacfaegljjgneaa
set_option linter.unusedVariables false
set_option linter.unusedSimpArgs false
open Go.RowKit Go.Proofs.Sep

theorem keepFn_on {ka : List Bool} {k : Nat} (h : k < ka.length) : keepFn ka k = ka[k] := by
  unfold keepFn; rw [List.getD_eq_getElem?_getD, List.getElem?_eq_getElem h]; rfl
theorem keepFn_off {ka : List Bool} {k : Nat} (h : ¬ k < ka.length) : keepFn ka k = false := by
  unfold keepFn; rw [List.getD_eq_getElem?_getD, List.getElem?_eq_none (by omega)]; rfl
theorem perm91 (A B R F : Asn) : A * (B * (R * F)) = R * (A * (B * F)) := by ac_rfl
set_option maxRecDepth 100000 in
set_option maxHeartbeats 4000000 in
theorem rcrash_open {E w : World} {F : Asn} (s : Nat) (σ : St) (tr : List TOp) (A : Option Addr) (c : Nat) (ka : List Bool) (r : Rep) (x : RExt) (hr : r.Ok σ) (hx : σ.down = true → x.Ok σ tr) (ht : x.t.Ok tr) (h : Sat E (ROP s σ tr r x F) w)
    (hK : ∀ w, Sat E (row 4 1 r.kv x.kb.length (bools x.kb) * F) w → Reads w 1 A ka.length (bools ka)) :
    Calls Try.prog 33 #[.pointer (some ⟨s, 0, none⟩), .slice A ka.length c] w fun e w' => e = .returned (.bool (!σ.down)) ∧ Sat E (rstore s (crash ka σ) tr * F) w' := by
  obtain ⟨A1, c1, A2, c2, A3, c3, A4, c4, e1, e2, e3, e4, R1, R2, R3, hc2, hc4⟩ := rstore_slices h
  obtain ⟨d0, d1, d2, d3, d4, d5, d6, d7, d8⟩ := rstore_cells h
  have hmm := R2.2.1
  rw [e2] at d7
  rw [e1] at d6
  rcases Bool.eq_false_or_eq_true σ.down with hd | hd
  · have HD := hid hd
    have hfin := rstore_shut hr (hx hd) h
    rw [hd] at d4
    clear h hd
    go_enter Try.func33, Try.ntmps33
    go_wp2
    go_ret
    rw [HD.out, crash_down HD.out]
    exact ⟨rfl, hfin⟩
  · have HD := hid hd
    have key : Sat E (blk s (.cells #[.int .i64 σ.size, .int .i64 x.after, .int .i64 σ.ops, .bool x.ar, .bool σ.down, .slice A3 x.kb.length c3, .slice A1 σ.n c1, .slice A2 σ.fl.length c2, x.tv] 56) * (row 22 1 (.slice A1 σ.n c1) σ.n r.cvals * (row 91 2 (.slice A2 σ.fl.length c2) σ.fl.length (flat r.fl) * (row 4 1 (.slice A3 x.kb.length c3) x.kb.length (bools x.kb) * (row 65 3 x.tv tr.length (tf x.t.L) * (bag x.t.P * (bag r.P * F))))))) w := by
      unfold ROP rsBlk at h
      rw [e1, e2, e3] at h
      exact h
    rw [hd] at d4 key
    clear h R1 R2 R3 hd
    go_enter Try.func33, Try.ntmps33
    go_wp2_with fail
    go_loopw [5] (fun i wr => ∃ (k : Nat) (cvk : List Value), k ≤ σ.fl.length ∧ i = .int .i64 k ∧ Hid (({ r with cvals := cvk } : Rep).Ok { σ with cs := landTo (keepFn ka) σ k }) ∧ Sat E (blk s (.cells #[.int .i64 σ.size, .int .i64 x.after, .int .i64 σ.ops, .bool x.ar, .bool false, .slice A3 x.kb.length c3, .slice A1 σ.n c1, .slice A2 σ.fl.length c2, x.tv] 56) * (row 22 1 (.slice A1 σ.n c1) σ.n cvk * (row 91 2 (.slice A2 σ.fl.length c2) σ.fl.length (flat r.fl) * (row 4 1 (.slice A3 x.kb.length c3) x.kb.length (bools x.kb) * (row 65 3 x.tv tr.length (tf x.t.L) * (bag x.t.P * (bag r.P * F))))))) wr) (fun i _ => σ.fl.length - (intOf i).toNat)
    case atStart => exact ⟨0, r.cvals, by omega, rfl, ⟨hr.n1, hr.n2, hr.cells, hr.f1, hr.fly⟩, key⟩
    case round =>
      clear key d0 d1 d2 d3 d4 d5 d6 d7 d8
      obtain ⟨k, cvk, hk, rfl, hok, hq⟩ := hrel
      have b6 := hq.cell_blk (i := 6)
      have b7 := hq.cell_blk (i := 7)
      simp only [List.getElem?_toArray, List.getElem?_cons_zero, List.getElem?_cons_succ] at b6 b7
      by_cases hlt : k < σ.fl.length
      · have hrl := hr.f1
        have hkd : (k : Int) < (σ.fl.length : Int) := by omega
        have wk := i64_wrap (x := (k : Int) + 1) (by omega) (by omega)
        have hK1 := hK wr (by rw [e3]; exact (hq.right.right.eq (show _ = _ from rfl)).right.eq (show _ = row 65 3 x.tv tr.length (tf x.t.L) * (bag x.t.P * (bag r.P * (row 4 1 (.slice A3 x.kb.length c3) x.kb.length (bools x.kb) * F))) by ac_rfl) |>.right.right.right)
        by_cases hka : k < ka.length
        · obtain ⟨kd, hkd0, hkc⟩ := hK1.at (by omega)
          have hkb := hkc _ _ (bools_at hka)
          have hkl : (k : Int) < (ka.length : Int) := by omega
          clear hkc hK1
          cases hp0 : ka[k] with
          | true =>
            have hp : keepFn ka k = true := (keepFn_on hka).trans hp0
            rw [hp0] at hkb
            clear hp0
            have hkb2 := hkb
            subst hkd0
            obtain ⟨af, haf, hcf⟩ := hq.right.right.reads_at.at (by omega)
            obtain ⟨x0, x1⟩ := flat_at (l := r.fl) (k := k) (by omega)
            obtain ⟨y1, y2, y3, y4, y5⟩ := hr.fly k (by omega) hlt
            obtain ⟨A5, c5, e5, hR5⟩ := bag_at hq.right.right.right.right.right.right _ y2
            simp only at e5 hR5
            obtain ⟨j, hj, hjn⟩ : ∃ j : Nat, σ.fl[k].1 = j ∧ j < σ.n := ⟨σ.fl[k].1.toNat, by omega, by omega⟩
            have t0 := hcf _ _ x0
            have t1 := cell_two (hcf _ _ x1)
            rw [y1, hj] at t0
            rw [e5] at t1
            have hgd : σ.fl.getD k (0, []) = σ.fl[k] := by rw [List.getD_eq_getElem?_getD, List.getElem?_eq_getElem hlt]; rfl
            have hnext : landTo (keepFn ka) σ (k + 1) = (landTo (keepFn ka) σ k).set j σ.fl[k].2 := by
              simp only [landTo]
              rw [hp, if_pos rfl, hgd, hj, Int.toNat_natCast]
            subst haf
            have hokn : ({ r with cvals := cvk.set j (.slice A5 σ.fl[k].2.length c5) } : Rep).Ok { σ with cs := landTo (keepFn ka) σ (k + 1) } := by
              refine ⟨by simp only [List.length_set]; exact hok.out.n1, by rw [hnext]; simp only [List.length_set]; exact hok.out.n2, ?_, hr.f1, hr.fly⟩
              intro i h1 h2
              simp only at h1 h2 ⊢
              simp only [List.getElem_set, hnext]
              split
              · exact .inr ⟨by rw [← e5]; exact y2, y3⟩
              · exact hok.out.cells i (by simpa using h1) (by rw [hnext] at h2; simpa using h2)
            have HN := hid hokn
            have hql := hq.eq (star_left_comm _ _ _)
            obtain ⟨ga, cga, e9, _, _⟩ := hql.row_head (by omega)
            injection e9 with e9 e9b e9c
            subst e9
            clear e9b e9c
            have l1 := hql.row_lt
            have f1 := hql.row_free j
            obtain ⟨uo, ho⟩ : ∃ uo, wr.cell? ⟨ga, j, none⟩ = some uo := by
              have := hql.row_cell j (by omega)
              exact ⟨_, this.trans (List.getElem?_eq_getElem (by rw [show cvk.length = σ.n from hok.out.n1]; exact hjn))⟩
            have hjd : (j : Int) < (σ.n : Int) := by omega
            have q2 := ((hql.row_store j (.slice A5 σ.fl[k].2.length c5)).drew).eq (star_left_comm _ _ _)
            have Q2 := hid q2
            clear q2 hnext hgd y1 y2 y3 y4 y5 hj x0 x1 hcf hokn hql e5
            go_wp2_with fail
            refine wp_region_tail 21 (by kernel_rfl) (by kernel_rfl) ?_
            simp only [List.take_succ_cons, List.take_zero, List.drop_succ_cons, List.drop_zero]
            repeat still_step
            refine wpStill_nil ?_
            go_wp2
            go_roundw
            case rel => exact ⟨k + 1, _, by omega, by go_num, HN, Q2.out⟩
            case measure => simp [intOf]; omega
          | false =>
            have hp : keepFn ka k = false := (keepFn_on hka).trans hp0
            rw [hp0] at hkb
            clear hp0
            subst hkd0
            have HN : Hid (({ r with cvals := cvk } : Rep).Ok { σ with cs := landTo (keepFn ka) σ (k + 1) }) := by
              have hn : landTo (keepFn ka) σ (k + 1) = landTo (keepFn ka) σ k := by
                simp only [landTo]
                rw [hp, if_neg (by simp)]
              rw [hn]; exact hok
            clear hp
            go_wp2
            go_roundw
            case rel => exact ⟨k + 1, cvk, by omega, by go_num, HN, hq⟩
            case measure => simp [intOf]; omega
        · have hp := keepFn_off hka
          have hkl : ¬ (k : Int) < (ka.length : Int) := by omega
          clear hK1
          have HN : Hid (({ r with cvals := cvk } : Rep).Ok { σ with cs := landTo (keepFn ka) σ (k + 1) }) := by
            have hn : landTo (keepFn ka) σ (k + 1) = landTo (keepFn ka) σ k := by
              simp only [landTo]
              rw [hp, if_neg (by simp)]
            rw [hn]; exact hok
          clear hp
          go_wp2
          go_roundw
          case rel => exact ⟨k + 1, cvk, by omega, by go_num, HN, hq⟩
          case measure => simp [intOf]; omega
      · obtain rfl : k = σ.fl.length := by omega
        have hkd : ¬ (σ.fl.length : Int) < (σ.fl.length : Int) := by omega
        have f7 := hq.free_blk (i := 7)
        have f4 := hq.free_blk (i := 4)
        have f3 := hq.free_blk (i := 3)
        have b4 := hq.cell_blk (i := 4)
        have b3 := hq.cell_blk (i := 3)
        simp only [List.getElem?_toArray, List.getElem?_cons_zero, List.getElem?_cons_succ] at b3 b4
        have l2 := hq.lt_blk
        have q1 := (((hq.setCell (i := 7) (.slice none 0 0)).setCell (i := 4) (.bool true)).setCell (i := 3) (.bool false))
        simp only [List.setIfInBounds_toArray, List.set_cons_succ, List.set_cons_zero] at q1
        have q2 : Sat E (row 91 2 (.slice none 0 0) 0 (flat []) * _) _ := (q1.eq (perm91 _ _ _ _)).right.row_nil
        have hokn : ({ r with cvals := cvk, cv := .slice A1 σ.n c1, fv := .slice none 0 0, fl := [], kv := .slice A3 x.kb.length c3 } : Rep).Ok { lands (keepFn ka) σ with left := 0, keep := [], down := true } :=
          ⟨hok.out.n1, hok.out.n2, hok.out.cells, rfl, fun i h1 _ => by simp at h1⟩
        have hxn : ({ x with ar := false } : RExt).Ok { lands (keepFn ka) σ with left := 0, keep := [], down := true } tr := ⟨rfl, fun h => by simp at h, ht⟩
        have q3 := rstore_shut hokn hxn (q2.eq (perm91 _ _ _ _).symm)
        have Q3 := hid q3
        clear q1 q2 q3 hokn hxn
        go_wp2
        go_ret
        rw [HD.out, crash_up HD.out]
        exact ⟨rfl, Q3.out⟩
end Go.Proofs.Ytacfaegljjgneaa
