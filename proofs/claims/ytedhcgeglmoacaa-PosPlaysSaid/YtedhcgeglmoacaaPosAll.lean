import Derived.Test.YtedhcgeglmoacaaPos6
namespace Go.Proofs.Ytedhcgeglmoacaa
set_option linter.unusedVariables false
set_option linter.unusedSimpArgs false
open Go.RowKit Go.Proofs.Sep

theorem chgs_none (L : List (Int × Int)) (n : Nat) : chgs L (List.replicate n false) = [] := by
  unfold chgs
  generalize L.length = k
  induction k with
  | zero => rfl
  | succ k ih =>
    simp only [chTo]
    rw [ih, List.getD_eq_getElem?_getD, List.getElem?_replicate]
    split <;> simp
theorem fits_snoc (n : Nat) (cs : List (Int × Int × Int)) (c : Int × Int × Int) : fitsP n (cs ++ [c]) = (fitsP n cs && mayP n c.1 c.2) := by unfold fitsP; simp
theorem may_cases (n : Nat) (k : Int) (p : Int × Int) : (mayP n k p = false ∧ (k < 0 ∨ (0 ≤ k ∧ (n : Int) ≤ k) ∨ (0 ≤ k ∧ k < n ∧ p.1 < 0) ∨ (0 ≤ k ∧ k < n ∧ 0 ≤ p.1 ∧ p.2 < 0))) ∨ (mayP n k p = true ∧ 0 ≤ k ∧ k < n ∧ 0 ≤ p.1 ∧ 0 ≤ p.2) := by
  by_cases h : 0 ≤ k ∧ k < n ∧ 0 ≤ p.1 ∧ 0 ≤ p.2
  · refine .inr ⟨?_, h⟩
    obtain ⟨h1, h2, h3, h4⟩ := h
    unfold mayP inP; simp [h1, h2, h3, h4]
  · refine .inl ⟨?_, by omega⟩
    unfold mayP inP
    by_cases h1 : 0 ≤ k ∧ k < n
    · by_cases h2 : 0 ≤ p.1
      · have h3 : ¬ 0 ≤ p.2 := by omega
        rw [decide_eq_false h3, Bool.and_false]
      · rw [decide_eq_false h2]; simp
    · rw [decide_eq_false h1]; simp

set_option maxRecDepth 100000 in
set_option maxHeartbeats 2000000 in
theorem posAll_ok {E w : World} {F : Asn} (A B : Option Addr) (ca cb : Nat) (l : List (Int × Int)) (cs : List (Int × Int × Int)) (hl : l.length ≤ 100) (hcl : cs.length ≤ 100) (hS : Sat E F w) (hR : ∀ w, Sat E F w → Reads w 2 A l.length (pairs l)) (hQ : ∀ w, Sat E F w → Reads w 3 B cs.length (chs cs)) :
    Calls Try.prog 8 #[.slice A l.length ca, .slice B cs.length cb] w fun e w' => e = .returned (.bool true) ∧ Sat E F w' := by
  go_enter Try.func8, Try.ntmps8
  go_wp2_with fail
  refine (first8 hS).mono ?_
  rintro e w1 ⟨rfl, g1⟩
  go_wp2_with fail
  refine (new_calls A ca l g1 hR (by omega)).mono ?_
  rintro e w2 ⟨a, rfl, g2⟩
  go_wp2_with fail
  refine (new_calls A ca l g2 (fun w hw => hR w hw.right) (by omega)).mono ?_
  rintro e w3 ⟨b, rfl, g3⟩
  clear g1 g2
  go_wp2_with fail
  go_loopw [7, 8] (fun f i wr => ∃ k : Nat, k ≤ cs.length ∧ i = .int .i64 k ∧ f = .bool (fitsP l.length (cs.take k)) ∧ Sat E (pmap b l (List.replicate l.length false) * (pmap a l (List.replicate l.length false) * F)) wr) (fun _ i _ => cs.length - (intOf i).toNat)
  case atStart => exact ⟨0, by omega, rfl, rfl, g3⟩
  case round =>
    clear g3
    obtain ⟨k, hk, rfl, rfl, hr⟩ := hrel
    by_cases hlt : k < cs.length
    · obtain ⟨ad, rfl, hc⟩ := (hQ _ hr.right.right).at (by omega)
      obtain ⟨e0, e1, e2⟩ := chs_at hlt
      have d0 := hc _ _ e0
      have d1 := cell_two (hc _ _ e1)
      have d2 := cell_three (hc _ _ e2)
      clear hc e0 e1 e2
      have hnx : fitsP l.length (cs.take (k + 1)) = (fitsP l.length (cs.take k) && mayP l.length cs[k].1 cs[k].2) := by
        rw [List.take_add_one, List.getElem?_eq_getElem hlt, Option.toList_some, fits_snoc]
      have HN := hid hnx
      clear hnx
      generalize fitsP l.length (cs.take k) = fk at *
      cases fk with
      | false =>
        go_wp2
        go_roundw
        case rel => exact ⟨k + 1, by omega, by go_num, by rw [HN.out, Bool.false_and], hr⟩
        case measure => simp [intOf]; omega
      | true =>
        rcases may_cases l.length cs[k].1 cs[k].2 with ⟨hm, hw | ⟨hw1, hw⟩ | ⟨hw1, hw2, hw⟩ | ⟨hw1, hw2, hw3, hw⟩⟩ | ⟨hm, hw1, hw2, hw3, hw⟩
        all_goals
          have HM := hid hm
          clear hm
          go_wp2
          go_roundw
          case rel => exact ⟨k + 1, by omega, by go_num, by first | (rw [HN.out, HM.out, Bool.true_and]; done) | (rw [HN.out, HM.out, Bool.true_and]; simp; omega), hr⟩
          case measure => simp [intOf]; omega
    · have hte : cs.take k = cs := List.take_of_length_le (by omega)
      rw [hte]
      clear hte
      generalize hfe : fitsP l.length cs = f
      have HF := hid hfe
      clear hfe
      have hap := apply_calls a l (List.replicate l.length false) B cb cs (hr.eq (star_left_comm _ _ _)) (fun w hw => hQ w hw.right)
      rw [HF.out] at hap
      go_wp2_with fail
      refine hap.mono ?_
      rintro e w4 ⟨rfl, h4⟩
      clear hap hr
      have h5 : Sat E (pmap b l (List.replicate l.length false) * (pmap a (applyL l cs) (List.replicate l.length false) * F)) w4 := h4.eq (star_left_comm _ _ _)
      clear h4
      have hLl := applyL_length l cs
      have HLL := hid hLl
      clear hLl
      have hfin : ∀ k, (f = true → k = cs.length) → (if f = true then putTo l (cs.take k) else l) = applyL l cs := by
        intro k hk
        unfold applyL
        rw [HF.out]
        cases f with
        | true => rw [hk rfl, List.take_length]
        | false => rfl
      have HFIN := hid hfin
      clear hfin
      go_wp2_with fail
      go_loopw [9] (fun i wr => ∃ (k : Nat) (c' : List Bool), k ≤ cs.length ∧ i = .int .i64 k ∧ Sat E (pmap b (if f = true then putTo l (cs.take k) else l) c' * (pmap a (applyL l cs) (List.replicate l.length false) * F)) wr) (fun i _ => cs.length - (intOf i).toNat)
      case atStart => exact ⟨0, List.replicate l.length false, by omega, rfl, by cases f <;> exact h5⟩
      case round =>
        clear h5
        obtain ⟨k, c', hk, rfl, hr⟩ := hrel
        by_cases hgo : k < cs.length ∧ f = true
        · obtain ⟨hlt, rfl⟩ := hgo
          simp only [if_true] at hr
          have hlk := putTo_length l (cs.take k)
          have hmay : mayP (putTo l (cs.take k)).length cs[k].1 cs[k].2 = true := by
            rw [hlk]
            have := HF.out
            unfold fitsP at this
            rw [List.all_eq_true] at this
            exact this _ (List.getElem_mem _)
          have hset : setL (putTo l (cs.take k)) cs[k].1 cs[k].2 = putTo l (cs.take (k + 1)) := by
            unfold setL
            rw [if_pos hmay, List.take_add_one, List.getElem?_eq_getElem hlt, Option.toList_some, putTo_snoc]
          have HM := hid hmay
          have HS := hid hset
          clear hmay hset hlk
          have hcs : ∀ w' : World, Sat E F w' → ∃ ad, B = some ad ∧ w'.cell? (ad.add (k * 3)) = some (.int .i64 cs[k].1) ∧ w'.cell? { block := (ad.add (k * 3)).block, off := (ad.add (k * 3)).off + 1 } = some (.int .i64 cs[k].2.1) ∧ w'.cell? { block := (ad.add (k * 3)).block, off := (ad.add (k * 3)).off + 2 } = some (.int .i64 cs[k].2.2) := by
            intro w' hw'
            obtain ⟨ad, he, hc⟩ := (hQ _ hw').at (by omega)
            obtain ⟨e0, e1, e2⟩ := chs_at hlt
            exact ⟨ad, he, hc _ _ e0, cell_two (hc _ _ e1), cell_three (hc _ _ e2)⟩
          obtain ⟨ad, rfl, d0, d1, d2⟩ := hcs wr hr.right.right
          have hkl : (k : Int) < (cs.length : Int) := by omega
          go_wp2_with fail
          refine wp_region_tail 11 (by kernel_rfl) (by kernel_rfl) ?_
          simp only [List.take_succ_cons, List.take_zero, List.drop_succ_cons, List.drop_zero]
          repeat still_step
          refine wpStill_nil ?_
          go_wp2_with fail
          refine (set_calls b _ c' cs[k].1 cs[k].2.1 cs[k].2.2 hr.drew).mono ?_
          rw [show (cs[k].2.1, cs[k].2.2) = cs[k].2 from rfl, HM.out, HS.out]
          rintro e w5 ⟨rfl, h6⟩
          go_wp2
          go_roundw
          case rel => exact ⟨k + 1, _, by omega, by go_num, h6⟩
          case measure => simp [intOf]; omega
        · have hstop : f = true → k = cs.length := by
            intro hf
            have : ¬ k < cs.length := fun h => hgo ⟨h, hf⟩
            omega
          rw [HFIN.out k hstop] at hr
          have hcase : (k < cs.length ∧ f = false) ∨ ¬ k < cs.length := by
            by_cases h : k < cs.length
            · refine .inl ⟨h, ?_⟩
              cases f with
              | true => exact absurd ⟨h, rfl⟩ hgo
              | false => rfl
            · exact .inr h
          clear hgo hstop HFIN HF hQ hR
          have hnone := chgs_none (applyL l cs) l.length
          have HNO := hid hnone
          clear hnone
          generalize applyL l cs = L at hr HLL HNO ⊢
          have hLn : L.length ≤ 100 := by rw [HLL.out]; omega
          rcases hcase with ⟨hlt, rfl⟩ | hlt
          all_goals
            go_wp2_with fail
            refine (all_calls a L _ (hr.eq (star_left_comm _ _ _)) (by omega)).mono ?_
            rintro e w5 ⟨vx, rfl, s1⟩
            obtain ⟨Ax, cx, rfl, _, _, _⟩ := s1.reads
            clear hr
            go_wp2_with fail
            refine (places_calls Ax cx L s1 (by omega) (fun w hw => hw.reads_at)).mono ?_
            rintro e w6 ⟨v1, rfl, s2⟩
            obtain ⟨A1, c1, rfl, _, _, _⟩ := s2.reads
            go_wp2_with fail
            refine (all_calls b L c' (s2.eq (show _ = pmap b L c' * (row 83 2 (.slice A1 L.length c1) L.length (pairs L) * (row 39 2 (.slice Ax L.length cx) L.length (pairs L) * (pmap a L (List.replicate l.length false) * F))) by ac_rfl)) (by omega)).mono ?_
            rintro e w7 ⟨v2, rfl, s3⟩
            obtain ⟨A2, c2, rfl, _, _, _⟩ := s3.reads
            go_wp2_with fail
            refine (places_calls A2 c2 L s3 (by omega) (fun w hw => hw.reads_at)).mono ?_
            rintro e w8 ⟨v3, rfl, s4⟩
            obtain ⟨A3, c3, rfl, _, _, rr3⟩ := s4.reads
            have rr1 := s4.right.right.right.reads_at
            go_wp2_with fail
            refine (samePlaces A1 A3 L.length L.length c1 c3 L L rr1 rr3).mono ?_
            rw [decide_eq_true (rfl : L = L)]
            rintro e w9 ⟨rfl, nq, rfl⟩
            have s5 : Sat E (pmap a L (List.replicate l.length false) * (row 39 2 (.slice Ax L.length cx) L.length (pairs L) * (pmap b L c' * F))) (w8.drewN nq) := (((s4.drewN nq).right.right).eq (show _ = row 83 2 (.slice A1 L.length c1) L.length (pairs L) * (pmap a L (List.replicate l.length false) * (row 39 2 (.slice Ax L.length cx) L.length (pairs L) * (pmap b L c' * F))) by ac_rfl)).right
            clear s4 s3 s2 s1 rr1 rr3
            go_wp2_with fail
            refine (changes_calls a L _ s5 (by omega)).mono ?_
            rw [HNO.out]
            rintro e w10 ⟨v4, rfl, s6⟩
            obtain ⟨A4, c4, rfl, _, _, _⟩ := s6.reads
            have s7 := s6.right.eq (star_left_comm _ _ _)
            clear s6 s5
            go_wp2_with fail
            go_loopw [11] (fun i wr => ∃ (k : Nat) (vs : List Value), k ≤ L.length ∧ i = .int .i64 k ∧ Sat E (row 39 2 (.slice Ax L.length cx) L.length vs * (pmap a L (List.replicate l.length false) * (pmap b L c' * F))) wr) (fun i _ => L.length - (intOf i).toNat)
            case atStart => exact ⟨0, _, by omega, rfl, s7⟩
            case round =>
              clear s7
              obtain ⟨q, vs, hq, rfl, t1⟩ := hrel
              by_cases hql : q < L.length
              · obtain ⟨g, cg, e1, _, _⟩ := t1.row_head (by omega)
                injection e1 with e1 e2 e3
                subst e1
                clear e2 e3
                have hvl := t1.row_len
                obtain ⟨uv, hct⟩ : ∃ uv, wr.cell? ⟨g, q * 2, none⟩ = some uv := ⟨_, (t1.row_cell (q * 2) (by omega)).trans (List.getElem?_eq_getElem (by omega))⟩
                have hf := t1.row_free (q * 2)
                have t2 := t1.row_store (q * 2) (.int .i64 99)
                clear hvl
                go_wp2
                go_roundw
                case rel => exact ⟨q + 1, _, by omega, by go_num, t2⟩
                case measure => simp [intOf]; omega
              · have t2 := t1.right
                clear t1
                go_wp2_with fail
                refine (first8 t2).mono ?_
                rintro e w11 ⟨rfl, t3⟩
                go_wp2_with fail
                refine (all_calls a L _ t3 (by omega)).mono ?_
                rintro e w12 ⟨v5, rfl, s1⟩
                obtain ⟨A5, c5, rfl, _, _, _⟩ := s1.reads
                go_wp2_with fail
                refine (places_calls A5 c5 L s1 (by omega) (fun w hw => hw.reads_at)).mono ?_
                rintro e w6 ⟨v1, rfl, s2⟩
                obtain ⟨A6, c6, rfl, _, _, _⟩ := s2.reads
                go_wp2_with fail
                refine (all_calls b L c' (s2.eq (show _ = pmap b L c' * (row 83 2 (.slice A6 L.length c6) L.length (pairs L) * (row 39 2 (.slice A5 L.length c5) L.length (pairs L) * (pmap a L (List.replicate l.length false) * F))) by ac_rfl)) (by omega)).mono ?_
                rintro e w7 ⟨v2, rfl, s3⟩
                obtain ⟨A7, c7, rfl, _, _, _⟩ := s3.reads
                go_wp2_with fail
                refine (places_calls A7 c7 L s3 (by omega) (fun w hw => hw.reads_at)).mono ?_
                rintro e w8 ⟨v3, rfl, s4⟩
                obtain ⟨A8, c8, rfl, _, _, rr3⟩ := s4.reads
                have rr1 := s4.right.right.right.reads_at
                go_wp2_with fail
                refine (samePlaces A6 A8 L.length L.length c6 c8 L L rr1 rr3).mono ?_
                rw [decide_eq_true (rfl : L = L)]
                rintro e w9 ⟨rfl, nq2, rfl⟩
                have s5 := (s4.drewN nq2).right.right.right.right.right.right
                clear s4 s3 s2 s1 rr1 rr3
                go_wp2
                go_ret
                exact ⟨rfl, s5⟩

set_option maxRecDepth 100000 in
set_option maxHeartbeats 1000000 in
theorem posAll {E w : World} {F : Asn} (A B : Option Addr) (ca cb : Nat) (l : List (Int × Int)) (cs : List (Int × Int × Int)) (hS : Sat E F w) (hR : ∀ w, Sat E F w → Reads w 2 A l.length (pairs l)) (hQ : ∀ w, Sat E F w → Reads w 3 B cs.length (chs cs)) :
    Calls Try.prog 8 #[.slice A l.length ca, .slice B cs.length cb] w fun e w' => e = .returned (.bool true) ∧ Sat E F w' := by
  by_cases hg : l.length ≤ 100 ∧ cs.length ≤ 100
  · exact posAll_ok A B ca cb l cs hg.1 hg.2 hS hR hQ
  · go_enter Try.func8, Try.ntmps8
    go_wp2_with fail
    refine (first8 hS).mono ?_
    rintro e w1 ⟨rfl, g1⟩
    go_wp2_with (go_at_call 20; refine (first8 (E := E) (F := F) (by assumption)).mono ?_; rintro e w2 ⟨rfl, h1⟩)
    all_goals first
      | (go_ret; exact ⟨rfl, by assumption⟩)
      | (exfalso; omega)

theorem PosAll_walk (W : World) (a0 : Option Addr) (len0 cap0 : Nat) (l0 : (List (Int × Int))) (h0 : (decSlice 16 (decPair (decInt .i64) (decInt .i64))).rel W l0 [.slice a0 len0 cap0]) (a1 : Option Addr) (len1 cap1 : Nat) (l1 : (List (Int × (Int × Int)))) (h1 : (decSlice 24 (decPair (decInt .i64) (decPair (decInt .i64) (decInt .i64)))).rel W l1 [.slice a1 len1 cap1]) :
    Calls Try.prog 8 #[.slice a0 len0 cap0, .slice a1 len1 cap1] W fun e w' => e = .returned (.bool true) ∧ Below W.heap.size W w' := by
  obtain ⟨A, c, he, _, _, _, hR, hw⟩ := dec_pairs h0
  simp at he
  obtain ⟨rfl, rfl, rfl⟩ := he
  obtain ⟨B, d, he, _, _, _, hQ⟩ := dec_chs h1
  simp at he
  obtain ⟨rfl, rfl, rfl⟩ := he
  exact (posAll _ _ _ _ l0 l1 (Sat.start W) (fun w hs => hR.keep fun k hk => hs.old1 hk) (fun w hs => hQ.keep fun k hk => hs.old1 hk)).mono fun e w' ⟨he, hs⟩ => ⟨he, hs.finish1⟩
end Go.Proofs.Ytedhcgeglmoacaa
