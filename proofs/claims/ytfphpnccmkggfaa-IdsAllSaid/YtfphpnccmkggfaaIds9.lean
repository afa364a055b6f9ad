import Derived.Test.YtfphpnccmkggfaaIds8
namespace Go.Proofs.Ytfphpnccmkggfaa
set_option linter.unusedVariables false
set_option linter.unusedSimpArgs false
open Go.RowKit Go.Proofs.Sep

theorem free_allI_first {n i j : Nat} {R : List Int} (hi : i < n) (h : freeOf n (allI i) = (j : Int) :: R) : j = i := by
  have h1 : (i : Int) ∈ freeOf n (allI i) := mem_freeOf.2 ⟨⟨by omega, by omega⟩, fun h => by have := mem_allI.1 h; omega⟩
  have h2 : (j : Int) ∈ freeOf n (allI i) := by rw [h]; simp
  have h3 := mem_freeOf.1 h2
  have h4 : ¬ (j : Int) < (i : Int) := fun hlt => h3.2 (mem_allI.2 ⟨by omega, hlt⟩)
  have h5 := freeOf_less n (allI i)
  rw [h] at h1 h5
  rw [List.pairwise_cons] at h5
  rcases List.mem_cons.1 h1 with e | e
  · omega
  · have := h5.1 _ e; omega
theorem less_one (T l : List Int) (x : Int) : less (less T l) [x] = less T (l ++ [x]) := by
  unfold less
  rw [List.filter_filter]
  apply List.filter_congr
  intro y _
  simp only [List.mem_append, List.mem_singleton, ← Bool.decide_and]
  rw [decide_eq_decide]
  constructor
  · rintro ⟨h1, h2⟩ h3; exact h3.elim h2 h1
  · exact fun h => ⟨fun e => h (.inr e), fun e => h (.inl e)⟩
theorem give_one {n : Nat} {l : List Int} (x : Int) : giveB (less (allI n) l) [x] = (decide (0 ≤ x) && decide (x < (n : Int)) && !decide (x ∈ l)) := by
  unfold giveB
  by_cases h0 : 0 ≤ x
  · by_cases h1 : x < (n : Int)
    · by_cases h2 : x ∈ l
      · rw [decide_eq_false (by rintro ⟨_, h⟩; exact (mem_less.1 (h x (by simp))).2 h2), decide_eq_true h0, decide_eq_true h1, decide_eq_true h2]; rfl
      · rw [decide_eq_true ⟨by simp, by intro y hy; rw [List.mem_singleton] at hy; subst hy; exact mem_less.2 ⟨mem_allI.2 ⟨h0, h1⟩, h2⟩⟩, decide_eq_true h0, decide_eq_true h1, decide_eq_false h2]; rfl
    · rw [decide_eq_false (by rintro ⟨_, h⟩; exact h1 (mem_allI.1 (mem_less.1 (h x (by simp))).1).2), decide_eq_false h1]; simp
  · rw [decide_eq_false (by rintro ⟨_, h⟩; exact h0 (mem_allI.1 (mem_less.1 (h x (by simp))).1).1), decide_eq_false h0]; rfl
theorem mem_free_back {n : Nat} {l : List Int} (hl : inR n l) (x : Int) : x ∈ l ↔ x ∈ freeOf n (less (allI n) l) := by
  rw [mem_freeOf, mem_less, mem_allI]
  constructor
  · intro h; exact ⟨hl x h, fun hh => hh.2 h⟩
  · rintro ⟨h1, h2⟩
    exact Classical.byContradiction fun h => h2 ⟨h1, h⟩

set_option maxRecDepth 100000 in
set_option maxHeartbeats 4000000 in
theorem idsLeast_ok {E w : World} {F : Asn} (n : Nat) (A : Option Addr) (c : Nat) (back : List Int) (hn : n ≤ 64) (hb : back.length ≤ 200) (hS : Sat E F w) (hR : ∀ w, Sat E F w → Reads w 1 A back.length (nums .i64 back)) :
    Calls Try.prog 9 #[.int .i64 n, .slice A back.length c] w fun e w' => e = .returned (.bool true) ∧ Sat E F w' := by
  have hf1 : ¬ (200 : Int) < (back.length : Int) := by omega
  have HM := hid (show mayPool n [] = true from decide_eq_true ⟨by omega, by omega, by simp, by simp⟩)
  go_enter Try.func9, Try.ntmps9
  go_wp2_with fail
  refine (first18 hS).mono ?_
  rintro e w1 ⟨rfl, g1⟩
  go_wp2_with fail
  refine (new_nat n none 0 0 [] hn g1 (fun w _ => ⟨by simp [nums], by omega, fun _ => rfl, fun _ h => by cases h⟩)).mono ?_
  rintro e w2 (⟨_, p, rfl, g2⟩ | ⟨hbad, _, _⟩)
  · clear g1 hS
    have g2 : Sat E (bp p n (poolOf n (allI 0)) * F) w2 := g2
    go_wp2_with fail
    go_loopw [7] (fun i wr => ∃ k : Nat, k ≤ n ∧ i = .int .i64 k ∧ Sat E (bp p n (poolOf n (allI k)) * F) wr) (fun i _ => n - (intOf i).toNat)
    case atStart => exact ⟨0, by omega, rfl, g2⟩
    case round =>
      clear g2
      obtain ⟨k, hk, rfl, hr⟩ := hrel
      by_cases hlt : k < n
      · have hkd : (k : Int) < (n : Int) := by omega
        go_wp2_with fail
        refine (take_calls p n _ hr).mono ?_
        rintro e w3 (⟨_, hbad, _⟩ | ⟨j, rfl, hj, hfj, h3⟩)
        · have : (k : Int) ∈ freeOf n (allI k) := mem_freeOf.2 ⟨⟨by omega, by omega⟩, fun h => by have := mem_allI.1 h; omega⟩
          rw [hbad] at this
          simp at this
        · obtain rfl := free_allI_first hlt hfj
          rw [← allI_succ] at h3
          clear hfj
          go_wp2
          go_roundw
          case rel => exact ⟨j + 1, by omega, by go_num, h3⟩
          case measure => simp [intOf]; omega
      · obtain rfl : k = n := by omega
        have hr0 : Sat E (bp p k (poolOf k (less (allI k) [])) * F) wr := by rw [less_nil]; exact hr
        go_wp2_with fail
        go_loopw [10, 11] (fun v i wr => ∃ (q : Nat) (l : List Int), q ≤ back.length ∧ i = .int .i64 q ∧ Hid (l.Nodup ∧ inR k l) ∧ l.length ≤ q ∧ Sat E (row 3 1 v l.length (nums .i64 l) * (bp p k (poolOf k (less (allI k) l)) * F)) wr) (fun _ i _ => back.length - (intOf i).toNat)
        case atStart => exact ⟨0, [], by omega, rfl, ⟨by simp, fun x hx => by simp at hx⟩, by simp, hr0.row_nil⟩
        case round =>
          clear hr hr0
          obtain ⟨q, l, hq, rfl, hl, hlq, hr⟩ := hrel
          obtain ⟨Av, cv, rfl, _, _, hRv⟩ := hr.reads
          by_cases hlt2 : q < back.length
          · have hqd : (q : Int) < (back.length : Int) := by omega
            obtain ⟨ad, hA, _⟩ := (hR _ hr.right.right).at (by omega)
            have hc0 : ∀ w, Sat E F w → w.cell? (ad.add q) = some (.int .i64 back[q]) := fun w h => (hR w h).2.2.2 ad hA q _ (nums_at hlt2)
            subst hA
            generalize hx : back[q] = x at *
            clear hx
            have d0 := hc0 _ hr.right.right
            have hg1 := hid (give_one (n := k) (l := l) x)
            have hT : inR k (less (allI k) l) := inR_less (fun y hy => mem_allI.1 hy)
            have hbp : ∀ {w' : World}, Sat E (row 3 1 (.slice Av l.length cv) l.length (nums .i64 l) * (bp p k (poolOf k (less (allI k) l)) * F)) w' → Sat E (bp p k (poolOf k (less (allI k) l)) * (blk w'.heap.size (.cells #[.int .i64 x] 3) * (row 3 1 (.slice Av l.length cv) l.length (nums .i64 l) * F))) (w'.alloc (.cells #[.int .i64 x] 3)) := fun h => (h.alloc (.cells #[.int .i64 x] 3)).eq (by ac_rfl)
            by_cases h0 : 0 ≤ x
            · by_cases h1 : x < (k : Int)
              · by_cases h2 : x ∈ l
                · have HD := hid (decide_eq_true h2)
                  have HG : Hid (giveB (less (allI k) l) [x] = false) := by show _ = _; rw [hg1.out, decide_eq_true h0, decide_eq_true h1, decide_eq_true h2]; rfl
                  clear h2
                  go_wp2_with fail
                  refine (hasInt Av l.length cv l x hRv).mono ?_
                  rw [HD.out]
                  rintro e w3 ⟨rfl, rfl⟩
                  go_wp2_with fail
                  refine (give_calls p k _ (some ⟨wr.heap.size, 0, none⟩) 1 1 [x] hT (by omega) (hbp hr) (fun w h => h.blk_reads (cs := [_]) rfl (by omega))).mono ?_
                  rw [HG.out, gave_false HG.out]
                  rintro e w4 ⟨rfl, h4⟩
                  have h5 : Sat E (row 3 1 (.slice Av l.length cv) l.length (nums .i64 l) * (bp p k (poolOf k (less (allI k) l)) * F)) w4 := h4.drop_mid.eq (star_left_comm _ _ _)
                  clear h4
                  go_wp2
                  go_roundw
                  case rel => exact ⟨q + 1, l, by omega, by go_num, hl, by omega, h5⟩
                  case measure => simp [intOf]; omega
                · have HD := hid (decide_eq_false h2)
                  have HG : Hid (giveB (less (allI k) l) [x] = true) := by show _ = _; rw [hg1.out, decide_eq_true h0, decide_eq_true h1, decide_eq_false h2]; rfl
                  have HL : Hid ((l ++ [x]).Nodup ∧ inR k (l ++ [x])) := ⟨by
                    rw [List.nodup_append]
                    refine ⟨hl.out.1, by simp, ?_⟩
                    intro a ha b hb
                    rw [List.mem_singleton] at hb
                    subst hb
                    rintro rfl
                    exact h2 ha, inR_snoc hl.out.2 h0 h1⟩
                  have hny : nums .i64 l ++ [.int .i64 x] = nums .i64 (l ++ [x]) := by rw [nums_append]; rfl
                  have hnl : l.length + 1 = (l ++ [x]).length := by simp
                  have HN := hid hny
                  have HNL := hid hnl
                  clear h2 hny hnl
                  go_wp2_with fail
                  refine (hasInt Av l.length cv l x hRv).mono ?_
                  rw [HD.out]
                  rintro e w3 ⟨rfl, rfl⟩
                  go_wp2_with fail
                  refine (give_calls p k _ (some ⟨wr.heap.size, 0, none⟩) 1 1 [x] hT (by omega) (hbp hr) (fun w h => h.blk_reads (cs := [_]) rfl (by omega))).mono ?_
                  rw [HG.out, gave_true HG.out, less_one]
                  rintro e w4 ⟨rfl, h4⟩
                  have h5 : Sat E (row 3 1 (.slice Av l.length cv) l.length (nums .i64 l) * (bp p k (poolOf k (less (allI k) (l ++ [x]))) * F)) w4 := h4.drop_mid.eq (star_left_comm _ _ _)
                  have d1 := hc0 _ h5.right.right
                  clear h4
                  go_wp2_with (at_builtin; refine wpList_append_sat rfl _ _ 22 3 (.int .i64 0) 1 8 rfl Try.underlying22 Try.info3 rfl (by decide) _ l.length _ _ 1 1 [.int .i64 x] rfl rfl (h5.alloc_drop _) (Reads.new 1 1 [.int .i64 x] 3 rfl (by omega)) (by simp [Value.oneCell']) (by unfold maxLen; omega) (by omega) ?_; intro v1 w8 h8)
                  rw [HN.out, HNL.out] at h8
                  go_wp2
                  go_roundw
                  case rel => exact ⟨q + 1, l ++ [x], by omega, by go_num, HL, by rw [← HNL.out]; omega, h8⟩
                  case measure => simp [intOf]; omega
              · have HG : Hid (giveB (less (allI k) l) [x] = false) := by show _ = _; rw [hg1.out, decide_eq_false h1]; simp
                go_wp2_with fail
                refine (give_calls p k _ (some ⟨wr.heap.size, 0, none⟩) 1 1 [x] hT (by omega) (hbp hr) (fun w h => h.blk_reads (cs := [_]) rfl (by omega))).mono ?_
                rw [HG.out, gave_false HG.out]
                rintro e w4 ⟨rfl, h4⟩
                have h5 : Sat E (row 3 1 (.slice Av l.length cv) l.length (nums .i64 l) * (bp p k (poolOf k (less (allI k) l)) * F)) w4 := h4.drop_mid.eq (star_left_comm _ _ _)
                clear h4
                go_wp2
                go_roundw
                case rel => exact ⟨q + 1, l, by omega, by go_num, hl, by omega, h5⟩
                case measure => simp [intOf]; omega
            · have HG : Hid (giveB (less (allI k) l) [x] = false) := by show _ = _; rw [hg1.out, decide_eq_false h0]; rfl
              go_wp2_with fail
              refine (give_calls p k _ (some ⟨wr.heap.size, 0, none⟩) 1 1 [x] hT (by omega) (hbp hr) (fun w h => h.blk_reads (cs := [_]) rfl (by omega))).mono ?_
              rw [HG.out, gave_false HG.out]
              rintro e w4 ⟨rfl, h4⟩
              have h5 : Sat E (row 3 1 (.slice Av l.length cv) l.length (nums .i64 l) * (bp p k (poolOf k (less (allI k) l)) * F)) w4 := h4.drop_mid.eq (star_left_comm _ _ _)
              clear h4
              go_wp2
              go_roundw
              case rel => exact ⟨q + 1, l, by omega, by go_num, hl, by omega, h5⟩
              case measure => simp [intOf]; omega
          · have hmf := hid (mem_free_back hl.out.2)
            go_wp2_with fail
            refine (sorted_calls Av cv l hr (by omega) (fun w h => h.reads_at)).mono ?_
            rintro e w3 ⟨v3, out, rfl, hperm, hris, h3⟩
            have hout : freeOf k (less (allI k) l) = out := (free_sorted hperm hris hl.out.1 hmf.out).symm
            have hol : out.length = l.length := hperm.length_eq
            have h4 : Sat E (row 3 1 v3 l.length (nums .i64 out) * (bp p k (poolOf k (less (allI k) l)) * F)) w3 := h3.drop_mid
            have HOUT := hid hout
            clear h3 hperm hris hr hout hRv
            obtain ⟨A3, c3, rfl, _, _, _⟩ := h4.reads
            go_wp2_with fail
            go_loopw [13] (fun i wr => ∃ (t : Nat) (U : List Int), t ≤ l.length ∧ i = .int .i64 t ∧ Hid (freeOf k U = out.drop t) ∧ Sat E (row 3 1 (.slice A3 l.length c3) l.length (nums .i64 out) * (bp p k (poolOf k U) * F)) wr) (fun i _ => l.length - (intOf i).toNat)
            case atStart => exact ⟨0, _, by omega, rfl, HOUT.out, h4⟩
            case round =>
              clear h4 HOUT
              obtain ⟨t, U, ht, rfl, hU, hr⟩ := hrel
              have hr1 : Sat E (bp p k (poolOf k U) * (row 3 1 (.slice A3 l.length c3) l.length (nums .i64 out) * F)) wr := hr.eq (star_left_comm _ _ _)
              by_cases hlt3 : t < l.length
              · have htd : (t : Int) < (l.length : Int) := by omega
                have hto : t < out.length := by omega
                have hdr := hid (hU.out.trans (List.drop_eq_getElem_cons hto))
                have hdl : (out.drop (t + 1)).length = l.length - (t + 1) := by rw [List.length_drop, hol]
                have HDL := hid hdl
                clear hdl hr
                go_wp2_with fail
                refine (take_calls p k U hr1).mono ?_
                rintro e w5 (⟨_, hbad, _⟩ | ⟨j, rfl, hj, hfj, h5⟩)
                · rw [hdr.out] at hbad; cases hbad
                · rw [hdr.out] at hfj
                  injection hfj with hj1 hj2
                  have HJ : Hid (freeOf k (U ++ [(j : Int)]) = out.drop (t + 1)) := hj2.symm
                  obtain ⟨a3, ha3, hc3⟩ := h5.right.reads_at.at (by omega)
                  have d3 := hc3 t _ (nums_at hto)
                  rw [hj1] at d3
                  subst ha3
                  clear hj1 hj2 hc3 hr1
                  have ws1 := i64_wrap (x := (l.length : Int) - 1) (by omega) (by omega)
                  have ws2 := i64_wrap (x := (l.length : Int) - 1 - (t : Int)) (by omega) (by omega)
                  have hz : ((l.length - (t + 1) : Nat) : Int) = (l.length : Int) - 1 - (t : Int) := by omega
                  go_wp2_with fail
                  refine (len_calls p k _ h5 (by omega)).mono ?_
                  rw [HJ.out, HDL.out, hz]
                  clear hz
                  rintro e w6 ⟨rfl, h6⟩
                  go_wp2
                  go_roundw
                  case rel => exact ⟨t + 1, _, by omega, by go_num, HJ, h6.eq (star_left_comm _ _ _)⟩
                  case measure => simp [intOf]; omega
              · have hUn : freeOf k U = [] := by rw [hU.out, List.drop_of_length_le (by omega)]
                have HUN := hid hUn
                clear hUn hU hr
                go_wp2_with fail
                refine (take_calls p k U hr1).mono ?_
                rintro e w5 (⟨rfl, _, h5⟩ | ⟨j, _, _, hbad, _⟩)
                · have h6 := h5.right.right
                  clear hr1 h5
                  go_wp2_with fail
                  refine (first18 h6).mono ?_
                  rintro e w7 ⟨rfl, h7⟩
                  go_wp2
                  go_ret
                  exact ⟨rfl, h7⟩
                · rw [HUN.out] at hbad; cases hbad
  · rw [HM.out] at hbad; cases hbad

set_option maxRecDepth 100000 in
set_option maxHeartbeats 2000000 in
theorem idsLeast {E w : World} {F : Asn} (x : Int) (A : Option Addr) (c : Nat) (back : List Int) (hS : Sat E F w) (hR : ∀ w, Sat E F w → Reads w 1 A back.length (nums .i64 back)) :
    Calls Try.prog 9 #[.int .i64 x, .slice A back.length c] w fun e w' => e = .returned (.bool true) ∧ Sat E F w' := by
  by_cases hx : 0 ≤ x ∧ x ≤ 64
  · obtain ⟨n, rfl⟩ := Int.eq_ofNat_of_zero_le hx.1
    by_cases hb : back.length ≤ 200
    · exact idsLeast_ok n A c back (by omega) hb hS hR
    · have hf1 : (200 : Int) < (back.length : Int) := by omega
      have HM := hid (show mayPool n [] = true from decide_eq_true ⟨by omega, by omega, by simp, by simp⟩)
      go_enter Try.func9, Try.ntmps9
      go_wp2_with fail
      refine (first18 hS).mono ?_
      rintro e w1 ⟨rfl, g1⟩
      go_wp2_with fail
      refine (new_nat n none 0 0 [] (by omega) g1 (fun w _ => ⟨by simp [nums], by omega, fun _ => rfl, fun _ h => by cases h⟩)).mono ?_
      rintro e w2 (⟨_, p, rfl, g2⟩ | ⟨hbad, _, _⟩)
      · go_wp2_with fail
        refine (first18 g2.right).mono ?_
        rintro e w3 ⟨rfl, g3⟩
        go_wp2
        go_ret
        exact ⟨rfl, g3⟩
      · rw [HM.out] at hbad; cases hbad
  · go_enter Try.func9, Try.ntmps9
    go_wp2_with fail
    refine (first18 hS).mono ?_
    rintro e w1 ⟨rfl, g1⟩
    go_wp2_with fail
    refine (newBad x none 0 0 (by omega)).mono ?_
    rintro e w2 ⟨rfl, rfl⟩
    go_wp2_with fail
    refine (first18 g1).mono ?_
    rintro e w3 ⟨rfl, g3⟩
    go_wp2
    go_ret
    exact ⟨rfl, g3⟩
theorem IdsLeast_walk (W : World) (a0 : Int) (w0 : (Lit.int .i64 a0).wf = true) (a1 : Option Addr) (len1 cap1 : Nat) (l1 : (List Int)) (h1 : (decSlice 8 (decInt .i64)).rel W l1 [.slice a1 len1 cap1]) :
    Calls Try.prog 9 #[.int .i64 a0, .slice a1 len1 cap1] W fun e w' => e = .returned (.bool true) ∧ Below W.heap.size W w' := by
  obtain ⟨A, c, he, hlc, _, _, hR, _⟩ := dec_ints h1
  simp at he
  obtain ⟨rfl, rfl, rfl⟩ := he
  exact (idsLeast a0 _ _ l1 (Sat.start W) (fun w hs => hR.keep fun k hk => hs.old1 hk)).mono fun e w' ⟨he, hs⟩ => ⟨he, hs.finish1⟩
end Go.Proofs.Ytfphpnccmkggfaa
