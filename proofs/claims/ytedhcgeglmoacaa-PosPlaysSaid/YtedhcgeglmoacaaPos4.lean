import Derived.Test.YtedhcgeglmoacaaPos3
import Derived.Test.YtedhcgeglmoacaaChs
namespace Go.Proofs.Ytedhcgeglmoacaa
set_option linter.unusedVariables false
set_option linter.unusedSimpArgs false
open Go.RowKit Go.Proofs.Sep
theorem Try.info46 : (Try.prog.info? 46).map (fun i => (i.zero, i.size, i.bytes)) = some (some (.agg #[.int .i64 0, .int .i64 0, .int .i64 0]), 3, 24) := by kernel_rfl

/-- The changes among the first k. -/
def chTo (l : List (Int × Int)) (c : List Bool) : Nat → List (Int × Int × Int)
  | 0 => []
  | k + 1 => chTo l c k ++ if c.getD k false = true then [((k : Int), l.getD k (0, 0))] else []
def chgs (l : List (Int × Int)) (c : List Bool) : List (Int × Int × Int) := chTo l c l.length
theorem chTo_length (l : List (Int × Int)) (c : List Bool) (k : Nat) : (chTo l c k).length ≤ k := by
  induction k with
  | zero => simp [chTo]
  | succ k ih => simp only [chTo, List.length_append]; split <;> simp <;> omega

set_option maxRecDepth 100000 in
set_option maxHeartbeats 1000000 in
theorem changes_calls {E w : World} {F : Asn} (m : Nat) (l : List (Int × Int)) (c : List Bool) (hS : Sat E (pmap m l c * F) w) (hn : l.length ≤ 1000000) :
    Calls Try.prog 24 #[.pointer (some ⟨m, 0, none⟩)] w fun e w' => ∃ v, e = .returned v ∧ Sat E (row 46 3 v (chgs l c).length (chs (chgs l c)) * (pmap m l c * F)) w' := by
  obtain ⟨A, ca, B, cb, _, _, _, _, hl, h2, _, _⟩ := pmap_open hS
  have c0 := h2.cell_blk (i := 0)
  simp only [List.getElem?_toArray, List.getElem?_cons_zero, List.getElem?_cons_succ] at c0
  go_enter Try.func24, Try.ntmps24
  go_wp2_with fail
  go_loopw [3, 11] (fun v i wr => ∃ k : Nat, k ≤ l.length ∧ i = .int .i64 k ∧ Sat E (row 46 3 v (chTo l c k).length (chs (chTo l c k)) * (blk m (.cells #[.slice A l.length ca, .slice B l.length cb] 114) * (row 39 2 (.slice A l.length ca) l.length (pairs l) * (row 4 1 (.slice B l.length cb) l.length (bools c) * F)))) wr) (fun _ i _ => l.length - (intOf i).toNat)
  case atStart => exact ⟨0, by omega, rfl, h2.row_nil⟩
  case round =>
    obtain ⟨k, hk, rfl, hr⟩ := hrel
    obtain ⟨Av, cv, rfl, _, _, _⟩ := hr.reads
    by_cases hlt : k < l.length
    · have hra : Sat E (row 39 2 (.slice A l.length ca) l.length (pairs l) * (row 4 1 (.slice B l.length cb) l.length (bools c) * (blk m (.cells #[.slice A l.length ca, .slice B l.length cb] 114) * (row 46 3 (.slice Av (chTo l c k).length cv) (chTo l c k).length (chs (chTo l c k)) * F)))) wr := hr.eq (by ac_rfl)
      obtain ⟨ga, cga, e1, _, _⟩ := hra.row_head (by omega)
      injection e1 with e1 e2 e3
      subst e1
      clear e2 e3
      obtain ⟨gb, cgb, e1, _, _⟩ := hra.right.row_head (by omega)
      injection e1 with e1 e2 e3
      subst e1
      clear e2 e3
      have a0 := hra.row_cell (k * 2) (by omega)
      have a1 := hra.row_cell (k * 2 + 1) (by omega)
      rw [pairs_at0 hlt] at a0
      rw [pairs_at1 hlt] at a1
      have b0 := hra.right.row_cell k (by omega)
      rw [bools_at (by omega)] at b0
      have r1 := hr.right.cell_blk (i := 1)
      simp only [List.getElem?_toArray, List.getElem?_cons_zero, List.getElem?_cons_succ] at r1
      have hlen := chTo_length l c k
      have lt1 := hra.right.row_lt
      have lt2 := hr.right.lt_blk
      have lt3 := hra.row_lt
      by_cases hx : c[k] = true
      · have hnx : chs (chTo l c k) ++ [.int .i64 k, .int .i64 l[k].1, .int .i64 l[k].2] = chs (chTo l c (k + 1)) := by
          simp only [chTo]
          rw [if_pos (by rw [List.getD_eq_getElem?_getD, List.getElem?_eq_getElem (by omega)]; simpa using hx), chs_append, List.getD_eq_getElem?_getD, List.getElem?_eq_getElem hlt]
          rfl
        have hnl : (chTo l c k).length + 1 = (chTo l c (k + 1)).length := by
          simp only [chTo]
          rw [if_pos (by rw [List.getD_eq_getElem?_getD, List.getElem?_eq_getElem (by omega)]; simpa using hx), List.length_append]
          rfl
        have HN := hid hnx
        have HL := hid hnl
        rw [hx] at b0
        clear hx hnx hnl
        have hbx := hr.alloc_drop (.cells #[.int .i64 l[k].1, .int .i64 l[k].2] 39)
        go_wp2_with (at_builtin; refine wpList_append_sat rfl _ _ 43 46 (.agg #[.int .i64 0, .int .i64 0, .int .i64 0]) 3 24 rfl Try.underlying43 Try.info46 rfl (by decide) _ (chTo l c k).length _ _ 1 1 [.int .i64 k, .int .i64 l[k].1, .int .i64 l[k].2] rfl rfl (hbx.alloc_drop _) (Reads.newAt 3 1 [.int .i64 k, .int .i64 l[k].1, .int .i64 l[k].2] 46 rfl (by omega) (by simp)) (by simp [Value.oneCell']) (by unfold maxLen; omega) (by omega) ?_; intro v1 w6 h6)
        rw [HN.out, HL.out] at h6
        go_wp2
        go_roundw
        case rel => exact ⟨k + 1, by omega, by go_num, h6⟩
        case measure => simp [intOf]; omega
      · have hx0 : c[k] = false := by simpa using hx
        have hnx : chTo l c (k + 1) = chTo l c k := by
          simp only [chTo]
          rw [if_neg (by rw [List.getD_eq_getElem?_getD, List.getElem?_eq_getElem (by omega)]; simp [hx0])]
          simp
        have HN := hid hnx
        rw [hx0] at b0
        clear hx hnx hx0
        go_wp2
        go_roundw
        case rel => exact ⟨k + 1, by omega, by go_num, by rw [HN.out]; exact hr.alloc_drop _⟩
        case measure => simp [intOf]; omega
    · obtain rfl : k = l.length := by omega
      go_wp2
      go_ret
      have q1 : Sat E (blk m (.cells #[.slice A l.length ca, .slice B l.length cb] 114) * (row 39 2 (.slice A l.length ca) l.length (pairs l) * (row 4 1 (.slice B l.length cb) l.length (bools c) * (row 46 3 (.slice Av (chTo l c l.length).length cv) (chTo l c l.length).length (chs (chTo l c l.length)) * F)))) wr := hr.eq (by ac_rfl)
      exact ⟨_, rfl, (pmap_shut q1).eq (star_left_comm _ _ _)⟩

/-- Are all of the changes for the map? -/
def fitsP (n : Nat) (cs : List (Int × Int × Int)) : Bool := cs.all fun c => mayP n c.1 c.2
def putTo (l : List (Int × Int)) (cs : List (Int × Int × Int)) : List (Int × Int) := cs.foldl (fun acc c => acc.set c.1.toNat c.2) l
def applyL (l : List (Int × Int)) (cs : List (Int × Int × Int)) : List (Int × Int) := if fitsP l.length cs = true then putTo l cs else l
theorem putTo_length (l : List (Int × Int)) (cs : List (Int × Int × Int)) : (putTo l cs).length = l.length := by
  unfold putTo
  induction cs generalizing l with
  | nil => rfl
  | cons c cs ih => rw [List.foldl_cons, ih]; simp
theorem putTo_snoc (l : List (Int × Int)) (cs : List (Int × Int × Int)) (c : Int × Int × Int) : putTo l (cs ++ [c]) = (putTo l cs).set c.1.toNat c.2 := by
  unfold putTo; rw [List.foldl_append]; rfl
theorem applyL_length (l : List (Int × Int)) (cs : List (Int × Int × Int)) : (applyL l cs).length = l.length := by
  unfold applyL; split
  · exact putTo_length l cs
  · rfl

set_option maxRecDepth 100000 in
set_option maxHeartbeats 1000000 in
theorem apply_calls {E w : World} {F : Asn} (m : Nat) (l : List (Int × Int)) (c : List Bool) (D : Option Addr) (cd : Nat) (cs : List (Int × Int × Int)) (hS : Sat E (pmap m l c * F) w)
    (hR : ∀ w, Sat E F w → Reads w 3 D cs.length (chs cs)) :
    Calls Try.prog 33 #[.pointer (some ⟨m, 0, none⟩), .slice D cs.length cd] w fun e w' => e = .returned (.bool (fitsP l.length cs)) ∧ Sat E (pmap m (applyL l cs) c * F) w' := by
  have hmm := (hR w hS.right).2.1
  go_enter Try.func33, Try.ntmps33
  go_wp2_with fail
  go_loopw [11] (fun i wr => ∃ k : Nat, k ≤ cs.length ∧ i = .int .i64 k ∧ Hid (fitsP l.length (cs.take k) = true) ∧ Sat E (pmap m l c * F) wr) (fun i _ => cs.length - (intOf i).toNat)
  case atStart => exact ⟨0, by omega, rfl, rfl, hS⟩
  case round =>
    obtain ⟨k, hk, rfl, hfit, hr⟩ := hrel
    by_cases hlt : k < cs.length
    · obtain ⟨ad, rfl, hc⟩ := (hR _ hr.right).at (by omega)
      obtain ⟨e0, e1, e2⟩ := chs_at hlt
      have d0 := hc _ _ e0
      have d1 := cell_two (hc _ _ e1)
      have d2 := cell_three (hc _ _ e2)
      clear hc e0 e1 e2
      have hm := may_calls (F := blk wr.heap.size (.cells #[.int .i64 cs[k].1, .int .i64 cs[k].2.1, .int .i64 cs[k].2.2] 46) * F) m l c cs[k].1 cs[k].2 ((hr.alloc (.cells #[.int .i64 cs[k].1, .int .i64 cs[k].2.1, .int .i64 cs[k].2.2] 46)).eq (by ac_rfl))
      unfold plc at hm
      go_wp2_with fail
      by_cases hx : mayP l.length cs[k].1 cs[k].2 = true
      · have hf2 : fitsP l.length (cs.take (k + 1)) = true := by
          have := hfit.out
          unfold fitsP at this ⊢
          rw [List.take_add_one, List.getElem?_eq_getElem hlt, Option.toList_some, List.all_append, this]
          simp [hx]
        have HF := hid hf2
        rw [hx] at hm
        clear hx hf2
        refine hm.mono ?_
        rintro e w1 ⟨rfl, h1⟩
        have h1 := (h1.eq (star_left_comm _ _ _)).right
        go_wp2
        go_roundw
        case rel => exact ⟨k + 1, by omega, by go_num, HF, h1⟩
        case measure => simp [intOf]; omega
      · have hx0 : mayP l.length cs[k].1 cs[k].2 = false := by simpa using hx
        have hnot : fitsP l.length cs = false := by
          unfold fitsP
          rw [List.all_eq_false]
          exact ⟨cs[k], List.getElem_mem _, hx⟩
        have HF := hid hnot
        rw [hx0] at hm
        clear hx hx0 hnot
        refine hm.mono ?_
        rintro e w1 ⟨rfl, h1⟩
        have h1 := (h1.eq (star_left_comm _ _ _)).right
        go_wp2
        go_ret
        refine ⟨ret_bool HF.out.symm, ?_⟩
        rw [show applyL l cs = l by unfold applyL; rw [HF.out]; rfl]
        exact h1
    · have hall : fitsP l.length cs = true := by
        have := hfit.out
        rwa [List.take_of_length_le (by omega)] at this
      have HA := hid hall
      clear hall hfit
      go_wp2_with fail
      go_loopw [25] (fun i wr => ∃ k : Nat, k ≤ cs.length ∧ i = .int .i64 k ∧ Sat E (pmap m (putTo l (cs.take k)) c * F) wr) (fun i _ => cs.length - (intOf i).toNat)
      case atStart => exact ⟨0, by omega, rfl, hr⟩
      case round =>
        clear hr
        obtain ⟨k, hk, rfl, hr⟩ := hrel
        by_cases hlt : k < cs.length
        · obtain ⟨ad, rfl, hc⟩ := (hR _ hr.right).at (by omega)
          obtain ⟨e0, e1, e2⟩ := chs_at hlt
          have d0 := hc _ _ e0
          have d1 := cell_two (hc _ _ e1)
          have d2 := cell_three (hc _ _ e2)
          clear hc e0 e1 e2
          have hmk : mayP l.length cs[k].1 cs[k].2 = true := by
            have := HA.out
            unfold fitsP at this
            rw [List.all_eq_true] at this
            exact this _ (List.getElem_mem _)
          obtain ⟨j, hj, hjl⟩ : ∃ j : Nat, cs[k].1 = j ∧ j < l.length := by
            unfold mayP inP at hmk
            simp only [Bool.and_eq_true, decide_eq_true_eq] at hmk
            exact ⟨cs[k].1.toNat, by omega, by omega⟩
          clear hmk
          have hnx : putTo l (cs.take (k + 1)) = (putTo l (cs.take k)).set j cs[k].2 := by
            rw [List.take_add_one, List.getElem?_eq_getElem hlt, Option.toList_some, putTo_snoc, hj, Int.toNat_natCast]
          have HN := hid hnx
          rw [hj] at d0
          generalize hq : cs[k].2 = q at *
          obtain ⟨q0, q1⟩ := q
          simp only at d1 d2
          clear hj hnx hq
          have hpl := putTo_length l (cs.take k)
          generalize putTo l (cs.take k) = lk at *
          obtain ⟨A, ca, B, cb, _, _, _, _, hl, h2, _, _⟩ := pmap_open hr
          have h3 : Sat E (row 39 2 (.slice A lk.length ca) lk.length (pairs lk) * (blk m (.cells #[.slice A lk.length ca, .slice B lk.length cb] 114) * (row 4 1 (.slice B lk.length cb) lk.length (bools c) * F))) wr := h2.eq (by ac_rfl)
          obtain ⟨ga, cga, e1, _, _⟩ := h3.row_head (by omega)
          injection e1 with e1 e2 e3
          subst e1
          clear e2 e3
          have n1 := h3.ne_row_blk (by omega)
          have l1 := h3.row_lt
          have l2 := h3.right.lt_blk
          have a0 := h3.row_cell (j * 2) (by omega)
          have a1 := h3.row_cell (j * 2 + 1) (by omega)
          rw [pairs_at0 (by omega)] at a0
          rw [pairs_at1 (by omega)] at a1
          have f0 := fun i => h3.row_free i
          have c0 := h2.cell_blk (i := 0)
          simp only [List.getElem?_toArray, List.getElem?_cons_zero, List.getElem?_cons_succ] at c0
          have hx := pairs_set (l := lk) (j := j) (by omega) (q0, q1)
          have q1' := (h3.row_store (j * 2) (.int .i64 q0)).row_store (j * 2 + 1) (.int .i64 q1)
          rw [hx] at q1'
          have q2' := ((q1'.alloc_drop (.cells #[.int .i64 j, .int .i64 q0, .int .i64 q1] 46)).drew).eq (star_left_comm _ _ _)
          rw [show lk.length = (lk.set j (q0, q1)).length by simp] at q2'
          have q3' := pmap_shut q2'
          rw [← HN.out] at q3'
          rw [hpl] at *
          have Q1 := hid q3'
          clear q1' q2' q3' hx HN
          go_wp2_with fail
          go_region
          go_wp2
          go_roundw
          case rel => exact ⟨k + 1, by omega, by go_num, Q1.out⟩
          case measure => simp [intOf]; omega
        · rw [List.take_of_length_le (by omega)] at hr
          go_wp2
          go_ret
          refine ⟨ret_bool HA.out.symm, ?_⟩
          rw [show applyL l cs = putTo l cs by unfold applyL; rw [if_pos HA.out]]
          exact hr
end Go.Proofs.Ytedhcgeglmoacaa
