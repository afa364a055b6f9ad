import Derived.Test.YtacfaegljjgneaaCells3
namespace Go.Proofs.Ytacfaegljjgneaa
set_option linter.unusedVariables false
set_option linter.unusedSimpArgs false
open Go.RowKit Go.Proofs.Sep

theorem perm3 (A B C D : Asn) : A * (B * (C * D)) = B * (C * (A * D)) := by ac_rfl
/-- The cells behind the first k writes in flight, of those that p says. -/
def landTo (p : Nat → Bool) (σ : St) : Nat → List (List Int)
  | 0 => σ.cs
  | k + 1 => if p k = true then (landTo p σ k).set (σ.fl.getD k (0, [])).1.toNat (σ.fl.getD k (0, [])).2 else landTo p σ k
theorem landTo_length (p : Nat → Bool) (σ : St) (k : Nat) : (landTo p σ k).length = σ.cs.length := by
  induction k with
  | zero => rfl
  | succ k ih => simp only [landTo]; split <;> simp [ih]
def lands (p : Nat → Bool) (σ : St) : St := { σ with cs := landTo p σ σ.fl.length, fl := [] }
theorem keepFn_of (keep : List Bool) (i : Nat) : keep.getD i false = (decide (i < keep.length) && keep.getD i false) := by
  by_cases h : i < keep.length
  · simp [h]
  · rw [List.getD_eq_getElem?_getD, List.getElem?_eq_none (by omega)]; simp

set_option maxRecDepth 100000 in
set_option maxHeartbeats 400000 in
theorem all_keep {w : World} (i : Nat) : Calls Try.prog 61 #[.int .i64 i] w fun e w' => e = .returned (.bool true) ∧ w' = w := by
  go_enter Try.func61, Try.ntmps61
  go_wp2
  go_ret
  exact ⟨rfl, rfl⟩
set_option maxRecDepth 100000 in
set_option maxHeartbeats 400000 in
theorem some_keep {w : World} (i b : Nat) (A : Option Addr) (n c : Nat) (keep : List Bool) (hc : w.cell? ⟨b, 0, none⟩ = some (.slice A n c)) (hR : Reads w 1 A n (bools keep)) :
    Calls Try.prog 60 #[.int .i64 i, .pointer (some ⟨b, 0, none⟩)] w fun e w' => e = .returned (.bool (keep.getD i false)) ∧ w' = w := by
  have hl : keep.length = n := by have := hR.1; simpa [bools] using this
  subst hl
  have hmm := hR.2.1
  by_cases h : i < keep.length
  · obtain ⟨ad, rfl, hcc⟩ := hR.at (by omega)
    have d := hcc i _ (bools_at h)
    have hv : keep.getD i false = keep[i] := by rw [List.getD_eq_getElem?_getD, List.getElem?_eq_getElem h]; rfl
    rw [hv]
    have hid1 : (i : Int) < (keep.length : Int) := by omega
    clear hv hcc
    generalize keep[i] = kb at *
    go_enter Try.func60, Try.ntmps60
    go_wp2
    go_ret
    exact ⟨rfl, rfl⟩
  · have hv : keep.getD i false = false := by rw [List.getD_eq_getElem?_getD, List.getElem?_eq_none (by omega)]; rfl
    rw [hv]
    clear hv
    have hid1 : ¬ (i : Int) < (keep.length : Int) := by omega
    go_enter Try.func60, Try.ntmps60
    go_wp2
    go_ret
    exact ⟨ret_bool (by first | rfl | (simp; omega)), rfl⟩

set_option maxRecDepth 100000 in
set_option maxHeartbeats 2000000 in
theorem lands_all {E w : World} {F : Asn} (s : Nat) (σ : St) (p : Nat → Bool) (r : Rep) (hr : r.Ok σ) (h : Sat E (stBlk s σ r * (row 22 1 r.cv σ.n r.cvals * (row 87 2 r.fv σ.fl.length (flat r.fl) * (row 4 1 r.kv σ.keep.length (bools σ.keep) * (bag r.P * F))))) w)
    (hK : ∀ (i : Nat) (w : World), Sat E (row 4 1 r.kv σ.keep.length (bools σ.keep) * F) w → Calls Try.prog 61 #[.int .i64 i] w fun e w' => e = .returned (.bool (p i)) ∧ w' = w) :
    Calls Try.prog 59 #[.pointer (some ⟨s, 0, none⟩), .func (.func 61) #[] #[]] w fun e w' => e = .returned (.tuple #[]) ∧ Sat E (store s (lands p σ) * F) w' := by
  obtain ⟨A1, c1, A2, c2, A3, c3, e1, e2, e3, R1, R2, R3, hc2⟩ := store_slices h
  obtain ⟨d0, d1, d2, d3, d4, d5, d6⟩ := store_cells h
  rw [e2] at d2
  have hmm := R2.2.1
  have key : Sat E (blk s (.cells #[.slice A1 σ.n c1, .int .i64 σ.size, .slice A2 σ.fl.length c2, .int .i64 σ.left, .slice A3 σ.keep.length c3, .int .i64 σ.ops, .bool σ.down] 84) * (row 22 1 (.slice A1 σ.n c1) σ.n r.cvals * (row 87 2 (.slice A2 σ.fl.length c2) σ.fl.length (flat r.fl) * (row 4 1 (.slice A3 σ.keep.length c3) σ.keep.length (bools σ.keep) * (bag r.P * F))))) w := by
    unfold stBlk at h
    rw [e1, e2, e3] at h
    exact h
  clear h R1 R2 R3
  go_enter Try.func59, Try.ntmps59
  go_wp2_with fail
  go_loopw [11] (fun i wr => ∃ (k : Nat) (cvk : List Value), k ≤ σ.fl.length ∧ i = .int .i64 k ∧ Hid (({ r with cvals := cvk } : Rep).Ok { σ with cs := landTo p σ k }) ∧ Sat E (blk s (.cells #[.slice A1 σ.n c1, .int .i64 σ.size, .slice A2 σ.fl.length c2, .int .i64 σ.left, .slice A3 σ.keep.length c3, .int .i64 σ.ops, .bool σ.down] 84) * (row 22 1 (.slice A1 σ.n c1) σ.n cvk * (row 87 2 (.slice A2 σ.fl.length c2) σ.fl.length (flat r.fl) * (row 4 1 (.slice A3 σ.keep.length c3) σ.keep.length (bools σ.keep) * (bag r.P * F))))) wr) (fun i _ => σ.fl.length - (intOf i).toNat)
  case atStart => exact ⟨0, r.cvals, by omega, rfl, ⟨hr.n1, hr.n2, hr.cells, hr.f1, hr.fly⟩, key⟩
  case round =>
    clear key d0 d1 d2 d3 d4 d5 d6
    obtain ⟨k, cvk, hk, rfl, hok, hq⟩ := hrel
    by_cases hlt : k < σ.fl.length
    · have hrl := hr.f1
      have hkd : (k : Int) < (σ.fl.length : Int) := by omega
      obtain ⟨af, haf, hcf⟩ := hq.right.right.reads_at.at (by omega)
      obtain ⟨x0, x1⟩ := flat_at (l := r.fl) (k := k) (by omega)
      have t0 := hcf _ _ x0
      have t1 := cell_two (hcf _ _ x1)
      obtain ⟨y1, y2, y3, y4, y5⟩ := hr.fly k (by omega) hlt
      obtain ⟨A5, c5, e5, hR5⟩ := bag_at hq.right.right.right.right _ y2
      simp only at e5 hR5
      obtain ⟨j, hj, hjn⟩ : ∃ j : Nat, σ.fl[k].1 = j ∧ j < σ.n := ⟨σ.fl[k].1.toNat, by omega, by omega⟩
      rw [y1, hj] at t0
      rw [e5] at t1
      have hgd : σ.fl.getD k (0, []) = σ.fl[k] := by rw [List.getD_eq_getElem?_getD, List.getElem?_eq_getElem hlt]; rfl
      have hF : Sat E (row 4 1 r.kv σ.keep.length (bools σ.keep) * F) wr := by rw [e3]; exact hq.right.right.right.drop_mid
      have hnext : landTo p σ (k + 1) = if p k = true then (landTo p σ k).set j σ.fl[k].2 else landTo p σ k := by
        simp only [landTo]
        rw [hgd, hj, Int.toNat_natCast]
      subst haf
      have g1 := hq.alloc (.cells #[.int .i64 j, .slice A5 σ.fl[k].2.length c5] 87)
      have hcall := hK k (wr.alloc (.cells #[.int .i64 j, .slice A5 σ.fl[k].2.length c5] 87)) (hF.alloc_drop _)
      cases hp : p k with
      | true =>
        rw [hp] at hcall
        rw [hp, if_pos rfl] at hnext
        have hokn : ({ r with cvals := cvk.set j (.slice A5 σ.fl[k].2.length c5) } : Rep).Ok { σ with cs := landTo p σ (k + 1) } := by
          refine ⟨by simp only [List.length_set]; exact hok.out.n1, by rw [hnext]; simp only [List.length_set]; exact hok.out.n2, ?_, hr.f1, hr.fly⟩
          intro i h1 h2
          simp only at h1 h2 ⊢
          simp only [List.getElem_set, hnext]
          split
          · exact .inr ⟨by rw [← e5]; exact y2, y3⟩
          · exact hok.out.cells i (by simpa using h1) (by rw [hnext] at h2; simpa using h2)
        have HN := hid hokn
        have hql : Sat E (row 22 1 (.slice A1 σ.n c1) σ.n cvk * (blk wr.heap.size (.cells #[.int .i64 j, .slice A5 σ.fl[k].2.length c5] 87) * (blk s (.cells #[.slice A1 σ.n c1, .int .i64 σ.size, .slice (some af) σ.fl.length c2, .int .i64 σ.left, .slice A3 σ.keep.length c3, .int .i64 σ.ops, .bool σ.down] 84) * (row 87 2 (.slice (some af) σ.fl.length c2) σ.fl.length (flat r.fl) * (row 4 1 (.slice A3 σ.keep.length c3) σ.keep.length (bools σ.keep) * (bag r.P * F)))))) _ := g1.eq (by ac_rfl)
        obtain ⟨ga, cga, e9, _, _⟩ := hql.row_head (by omega)
        injection e9 with e9 e9b e9c
        subst e9
        clear e9b e9c
        have b0 := hql.right.cell_blk (i := 0)
        have b1 := hql.right.cell_blk (i := 1)
        have b2 := hql.right.right.cell_blk (i := 0)
        simp only [List.getElem?_toArray, List.getElem?_cons_zero, List.getElem?_cons_succ] at b0 b1 b2
        have l1 := hql.row_lt
        have f1 := hql.row_free j
        obtain ⟨uo, ho⟩ : ∃ uo, (wr.alloc (.cells #[.int .i64 j, .slice A5 σ.fl[k].2.length c5] 87)).cell? ⟨ga, j, none⟩ = some uo := by
          have := hql.row_cell j (by omega)
          exact ⟨_, this.trans (List.getElem?_eq_getElem (by rw [show cvk.length = σ.n from hok.out.n1]; exact hjn))⟩
        have hjd : (j : Int) < (σ.n : Int) := by omega
        have q1 := (hql.row_store j (.slice A5 σ.fl[k].2.length c5)).drew
        have q2 : Sat E (blk s (.cells #[.slice (some ⟨ga, 0, none⟩) σ.n c1, .int .i64 σ.size, .slice (some af) σ.fl.length c2, .int .i64 σ.left, .slice A3 σ.keep.length c3, .int .i64 σ.ops, .bool σ.down] 84) * (row 22 1 (.slice (some ⟨ga, 0, none⟩) σ.n c1) σ.n (cvk.set j (.slice A5 σ.fl[k].2.length c5)) * (row 87 2 (.slice (some af) σ.fl.length c2) σ.fl.length (flat r.fl) * (row 4 1 (.slice A3 σ.keep.length c3) σ.keep.length (bools σ.keep) * (bag r.P * F))))) _ := (q1.drop_mid).eq (by ac_rfl)
        have Q2 := hid q2
        clear q1 q2 hnext hp hgd y1 y2 y3 y4 y5 hj x0 x1 hcf hokn
        go_wp2_with (go_at_call 61; refine hcall.mono ?_; rintro e w5 ⟨rfl, rfl⟩)
        refine wp_region_tail 9 (by kernel_rfl) (by kernel_rfl) ?_
        simp only [List.take_succ_cons, List.take_zero, List.drop_succ_cons, List.drop_zero]
        repeat still_step
        refine wpStill_nil ?_
        go_wp2
        go_roundw
        case rel => exact ⟨k + 1, _, by omega, by go_num, HN, Q2.out⟩
        case measure => simp [intOf]; omega
      | false =>
        rw [hp] at hcall
        rw [hp, if_neg (by simp)] at hnext
        have HN : Hid (({ r with cvals := cvk } : Rep).Ok { σ with cs := landTo p σ (k + 1) }) := by rw [hnext]; exact hok
        clear hnext hp hgd y1 y2 y3 y4 y5 hj e5 x0 x1 hcf
        go_wp2_with (go_at_call 61; refine hcall.mono ?_; rintro e w5 ⟨rfl, rfl⟩)
        go_roundw
        case rel => exact ⟨k + 1, cvk, by omega, by go_num, HN, g1.right⟩
        case measure => simp [intOf]; omega
    · obtain rfl : k = σ.fl.length := by omega
      have b2 := hq.cell_blk (i := 2)
      simp only [List.getElem?_toArray, List.getElem?_cons_zero, List.getElem?_cons_succ] at b2
      have f2 := hq.free_blk (i := 2)
      have l2 := hq.lt_blk
      have q1 := hq.setCell (i := 2) (.slice none 0 0)
      have q2 : Sat E (blk s (.cells #[.slice A1 σ.n c1, .int .i64 σ.size, .slice none 0 0, .int .i64 σ.left, .slice A3 σ.keep.length c3, .int .i64 σ.ops, .bool σ.down] 84) * (row 22 1 (.slice A1 σ.n c1) σ.n cvk * (row 4 1 (.slice A3 σ.keep.length c3) σ.keep.length (bools σ.keep) * (bag r.P * F)))) _ := (q1.eq (show _ = row 87 2 (.slice A2 σ.fl.length c2) σ.fl.length (flat r.fl) * (blk s (.cells #[.slice A1 σ.n c1, .int .i64 σ.size, .slice none 0 0, .int .i64 σ.left, .slice A3 σ.keep.length c3, .int .i64 σ.ops, .bool σ.down] 84) * (row 22 1 (.slice A1 σ.n c1) σ.n cvk * (row 4 1 (.slice A3 σ.keep.length c3) σ.keep.length (bools σ.keep) * (bag r.P * F)))) by simp only [List.setIfInBounds_toArray, List.set_cons_succ, List.set_cons_zero]; ac_rfl)).right
      have q3 : Sat E (row 87 2 (.slice none 0 0) 0 (flat []) * _) _ := q2.row_nil
      have hokn : ({ r with cvals := cvk, cv := .slice A1 σ.n c1, fv := .slice none 0 0, fl := [], kv := .slice A3 σ.keep.length c3 } : Rep).Ok (lands p σ) :=
        ⟨hok.out.n1, hok.out.n2, hok.out.cells, rfl, fun i h1 _ => by simp at h1⟩
      have q4 : Sat E (store s (lands p σ) * F) _ := store_shut hokn (q3.eq (perm3 _ _ _ _))
      have Q4 := hid q4
      clear q1 q2 q3 q4 hokn
      go_wp2
      go_end0
      exact ⟨rfl, Q4.out⟩

set_option maxRecDepth 100000 in
set_option maxHeartbeats 2000000 in
theorem lands_some {E w : World} {F : Asn} (s : Nat) (σ : St) (p : Nat → Bool) (cb : Nat) (r : Rep) (hr : r.Ok σ) (h : Sat E (stBlk s σ r * (row 22 1 r.cv σ.n r.cvals * (row 87 2 r.fv σ.fl.length (flat r.fl) * (row 4 1 r.kv σ.keep.length (bools σ.keep) * (bag r.P * F))))) w)
    (hK : ∀ (i : Nat) (w : World), Sat E (row 4 1 r.kv σ.keep.length (bools σ.keep) * F) w → Calls Try.prog 60 #[.int .i64 i, .pointer (some ⟨cb, 0, none⟩)] w fun e w' => e = .returned (.bool (p i)) ∧ w' = w) :
    Calls Try.prog 59 #[.pointer (some ⟨s, 0, none⟩), .func (.func 60) #[] #[.pointer (some ⟨cb, 0, none⟩)]] w fun e w' => e = .returned (.tuple #[]) ∧ Sat E (store s (lands p σ) * F) w' := by
  obtain ⟨A1, c1, A2, c2, A3, c3, e1, e2, e3, R1, R2, R3, hc2⟩ := store_slices h
  obtain ⟨d0, d1, d2, d3, d4, d5, d6⟩ := store_cells h
  rw [e2] at d2
  have hmm := R2.2.1
  have key : Sat E (blk s (.cells #[.slice A1 σ.n c1, .int .i64 σ.size, .slice A2 σ.fl.length c2, .int .i64 σ.left, .slice A3 σ.keep.length c3, .int .i64 σ.ops, .bool σ.down] 84) * (row 22 1 (.slice A1 σ.n c1) σ.n r.cvals * (row 87 2 (.slice A2 σ.fl.length c2) σ.fl.length (flat r.fl) * (row 4 1 (.slice A3 σ.keep.length c3) σ.keep.length (bools σ.keep) * (bag r.P * F))))) w := by
    unfold stBlk at h
    rw [e1, e2, e3] at h
    exact h
  clear h R1 R2 R3
  go_enter Try.func59, Try.ntmps59
  go_wp2_with fail
  go_loopw [11] (fun i wr => ∃ (k : Nat) (cvk : List Value), k ≤ σ.fl.length ∧ i = .int .i64 k ∧ Hid (({ r with cvals := cvk } : Rep).Ok { σ with cs := landTo p σ k }) ∧ Sat E (blk s (.cells #[.slice A1 σ.n c1, .int .i64 σ.size, .slice A2 σ.fl.length c2, .int .i64 σ.left, .slice A3 σ.keep.length c3, .int .i64 σ.ops, .bool σ.down] 84) * (row 22 1 (.slice A1 σ.n c1) σ.n cvk * (row 87 2 (.slice A2 σ.fl.length c2) σ.fl.length (flat r.fl) * (row 4 1 (.slice A3 σ.keep.length c3) σ.keep.length (bools σ.keep) * (bag r.P * F))))) wr) (fun i _ => σ.fl.length - (intOf i).toNat)
  case atStart => exact ⟨0, r.cvals, by omega, rfl, ⟨hr.n1, hr.n2, hr.cells, hr.f1, hr.fly⟩, key⟩
  case round =>
    clear key d0 d1 d2 d3 d4 d5 d6
    obtain ⟨k, cvk, hk, rfl, hok, hq⟩ := hrel
    by_cases hlt : k < σ.fl.length
    · have hrl := hr.f1
      have hkd : (k : Int) < (σ.fl.length : Int) := by omega
      obtain ⟨af, haf, hcf⟩ := hq.right.right.reads_at.at (by omega)
      obtain ⟨x0, x1⟩ := flat_at (l := r.fl) (k := k) (by omega)
      have t0 := hcf _ _ x0
      have t1 := cell_two (hcf _ _ x1)
      obtain ⟨y1, y2, y3, y4, y5⟩ := hr.fly k (by omega) hlt
      obtain ⟨A5, c5, e5, hR5⟩ := bag_at hq.right.right.right.right _ y2
      simp only at e5 hR5
      obtain ⟨j, hj, hjn⟩ : ∃ j : Nat, σ.fl[k].1 = j ∧ j < σ.n := ⟨σ.fl[k].1.toNat, by omega, by omega⟩
      rw [y1, hj] at t0
      rw [e5] at t1
      have hgd : σ.fl.getD k (0, []) = σ.fl[k] := by rw [List.getD_eq_getElem?_getD, List.getElem?_eq_getElem hlt]; rfl
      have hF : Sat E (row 4 1 r.kv σ.keep.length (bools σ.keep) * F) wr := by rw [e3]; exact hq.right.right.right.drop_mid
      have hnext : landTo p σ (k + 1) = if p k = true then (landTo p σ k).set j σ.fl[k].2 else landTo p σ k := by
        simp only [landTo]
        rw [hgd, hj, Int.toNat_natCast]
      subst haf
      have g1 := hq.alloc (.cells #[.int .i64 j, .slice A5 σ.fl[k].2.length c5] 87)
      have hcall := hK k (wr.alloc (.cells #[.int .i64 j, .slice A5 σ.fl[k].2.length c5] 87)) (hF.alloc_drop _)
      cases hp : p k with
      | true =>
        rw [hp] at hcall
        rw [hp, if_pos rfl] at hnext
        have hokn : ({ r with cvals := cvk.set j (.slice A5 σ.fl[k].2.length c5) } : Rep).Ok { σ with cs := landTo p σ (k + 1) } := by
          refine ⟨by simp only [List.length_set]; exact hok.out.n1, by rw [hnext]; simp only [List.length_set]; exact hok.out.n2, ?_, hr.f1, hr.fly⟩
          intro i h1 h2
          simp only at h1 h2 ⊢
          simp only [List.getElem_set, hnext]
          split
          · exact .inr ⟨by rw [← e5]; exact y2, y3⟩
          · exact hok.out.cells i (by simpa using h1) (by rw [hnext] at h2; simpa using h2)
        have HN := hid hokn
        have hql : Sat E (row 22 1 (.slice A1 σ.n c1) σ.n cvk * (blk wr.heap.size (.cells #[.int .i64 j, .slice A5 σ.fl[k].2.length c5] 87) * (blk s (.cells #[.slice A1 σ.n c1, .int .i64 σ.size, .slice (some af) σ.fl.length c2, .int .i64 σ.left, .slice A3 σ.keep.length c3, .int .i64 σ.ops, .bool σ.down] 84) * (row 87 2 (.slice (some af) σ.fl.length c2) σ.fl.length (flat r.fl) * (row 4 1 (.slice A3 σ.keep.length c3) σ.keep.length (bools σ.keep) * (bag r.P * F)))))) _ := g1.eq (by ac_rfl)
        obtain ⟨ga, cga, e9, _, _⟩ := hql.row_head (by omega)
        injection e9 with e9 e9b e9c
        subst e9
        clear e9b e9c
        have b0 := hql.right.cell_blk (i := 0)
        have b1 := hql.right.cell_blk (i := 1)
        have b2 := hql.right.right.cell_blk (i := 0)
        simp only [List.getElem?_toArray, List.getElem?_cons_zero, List.getElem?_cons_succ] at b0 b1 b2
        have l1 := hql.row_lt
        have f1 := hql.row_free j
        obtain ⟨uo, ho⟩ : ∃ uo, (wr.alloc (.cells #[.int .i64 j, .slice A5 σ.fl[k].2.length c5] 87)).cell? ⟨ga, j, none⟩ = some uo := by
          have := hql.row_cell j (by omega)
          exact ⟨_, this.trans (List.getElem?_eq_getElem (by rw [show cvk.length = σ.n from hok.out.n1]; exact hjn))⟩
        have hjd : (j : Int) < (σ.n : Int) := by omega
        have q1 := (hql.row_store j (.slice A5 σ.fl[k].2.length c5)).drew
        have q2 : Sat E (blk s (.cells #[.slice (some ⟨ga, 0, none⟩) σ.n c1, .int .i64 σ.size, .slice (some af) σ.fl.length c2, .int .i64 σ.left, .slice A3 σ.keep.length c3, .int .i64 σ.ops, .bool σ.down] 84) * (row 22 1 (.slice (some ⟨ga, 0, none⟩) σ.n c1) σ.n (cvk.set j (.slice A5 σ.fl[k].2.length c5)) * (row 87 2 (.slice (some af) σ.fl.length c2) σ.fl.length (flat r.fl) * (row 4 1 (.slice A3 σ.keep.length c3) σ.keep.length (bools σ.keep) * (bag r.P * F))))) _ := (q1.drop_mid).eq (by ac_rfl)
        have Q2 := hid q2
        clear q1 q2 hnext hp hgd y1 y2 y3 y4 y5 hj x0 x1 hcf hokn
        go_wp2_with (go_at_call 60; refine hcall.mono ?_; rintro e w5 ⟨rfl, rfl⟩)
        refine wp_region_tail 9 (by kernel_rfl) (by kernel_rfl) ?_
        simp only [List.take_succ_cons, List.take_zero, List.drop_succ_cons, List.drop_zero]
        repeat still_step
        refine wpStill_nil ?_
        go_wp2
        go_roundw
        case rel => exact ⟨k + 1, _, by omega, by go_num, HN, Q2.out⟩
        case measure => simp [intOf]; omega
      | false =>
        rw [hp] at hcall
        rw [hp, if_neg (by simp)] at hnext
        have HN : Hid (({ r with cvals := cvk } : Rep).Ok { σ with cs := landTo p σ (k + 1) }) := by rw [hnext]; exact hok
        clear hnext hp hgd y1 y2 y3 y4 y5 hj e5 x0 x1 hcf
        go_wp2_with (go_at_call 60; refine hcall.mono ?_; rintro e w5 ⟨rfl, rfl⟩)
        go_roundw
        case rel => exact ⟨k + 1, cvk, by omega, by go_num, HN, g1.right⟩
        case measure => simp [intOf]; omega
    · obtain rfl : k = σ.fl.length := by omega
      have b2 := hq.cell_blk (i := 2)
      simp only [List.getElem?_toArray, List.getElem?_cons_zero, List.getElem?_cons_succ] at b2
      have f2 := hq.free_blk (i := 2)
      have l2 := hq.lt_blk
      have q1 := hq.setCell (i := 2) (.slice none 0 0)
      have q2 : Sat E (blk s (.cells #[.slice A1 σ.n c1, .int .i64 σ.size, .slice none 0 0, .int .i64 σ.left, .slice A3 σ.keep.length c3, .int .i64 σ.ops, .bool σ.down] 84) * (row 22 1 (.slice A1 σ.n c1) σ.n cvk * (row 4 1 (.slice A3 σ.keep.length c3) σ.keep.length (bools σ.keep) * (bag r.P * F)))) _ := (q1.eq (show _ = row 87 2 (.slice A2 σ.fl.length c2) σ.fl.length (flat r.fl) * (blk s (.cells #[.slice A1 σ.n c1, .int .i64 σ.size, .slice none 0 0, .int .i64 σ.left, .slice A3 σ.keep.length c3, .int .i64 σ.ops, .bool σ.down] 84) * (row 22 1 (.slice A1 σ.n c1) σ.n cvk * (row 4 1 (.slice A3 σ.keep.length c3) σ.keep.length (bools σ.keep) * (bag r.P * F)))) by simp only [List.setIfInBounds_toArray, List.set_cons_succ, List.set_cons_zero]; ac_rfl)).right
      have q3 : Sat E (row 87 2 (.slice none 0 0) 0 (flat []) * _) _ := q2.row_nil
      have hokn : ({ r with cvals := cvk, cv := .slice A1 σ.n c1, fv := .slice none 0 0, fl := [], kv := .slice A3 σ.keep.length c3 } : Rep).Ok (lands p σ) :=
        ⟨hok.out.n1, hok.out.n2, hok.out.cells, rfl, fun i h1 _ => by simp at h1⟩
      have q4 : Sat E (store s (lands p σ) * F) _ := store_shut hokn (q3.eq (perm3 _ _ _ _))
      have Q4 := hid q4
      clear q1 q2 q3 q4 hokn
      go_wp2
      go_end0
      exact ⟨rfl, Q4.out⟩
end Go.Proofs.Ytacfaegljjgneaa
