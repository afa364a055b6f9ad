import Derived.Test.YtfphpnccmkggfaaIds4
namespace Go.Proofs.Ytfphpnccmkggfaa
set_option linter.unusedVariables false
set_option linter.unusedSimpArgs false
open Go.RowKit Go.Proofs.Sep

theorem inR_free (n : Nat) (T : List Int) : inR n (freeOf n T) := fun x hx => (mem_freeOf.1 hx).1
theorem inR_app {n : Nat} {T U : List Int} (h1 : inR n T) (h2 : inR n U) : inR n (T ++ U) := fun x hx => (List.mem_append.1 hx).elim (h1 x) (h2 x)
theorem once_give (n : Nat) (used : List Int) : giveB (used ++ freeOf n used) (freeOf n used) = true :=
  decide_eq_true ⟨freeOf_nodup n used, fun x hx => List.mem_append_right _ hx⟩
theorem once_back (n : Nat) (used : List Int) : freeOf n (less (used ++ freeOf n used) (freeOf n used)) = freeOf n used := by
  refine freeOf_congr fun x h0 h1 => ?_
  rw [mem_less, List.mem_append, mem_freeOf]
  constructor
  · rintro ⟨h | h, h2⟩
    · exact h
    · exact absurd h h2
  · exact fun h => ⟨.inl h, fun h2 => h2.2 h⟩
theorem once_none (n : Nat) (used : List Int) (h : 0 < (freeOf n used).length) : giveB (less (used ++ freeOf n used) (freeOf n used)) (freeOf n used) = false := by
  refine decide_eq_false fun hh => ?_
  have h1 := hh.2 _ (List.getElem_mem h)
  rw [mem_less] at h1
  exact h1.2 (List.getElem_mem h)

set_option maxRecDepth 100000 in
set_option maxHeartbeats 4000000 in
theorem idsOnce_ok {E w : World} {F : Asn} (n : Nat) (A : Option Addr) (c : Nat) (used : List Int) (hn : n ≤ 64) (hul : used.length ≤ 200) (hS : Sat E F w) (hR : ∀ w, Sat E F w → Reads w 1 A used.length (nums .i64 used)) :
    Calls Try.prog 8 #[.int .i64 n, .slice A used.length c] w fun e w' => e = .returned (.bool true) ∧ Sat E F w' := by
  go_enter Try.func8, Try.ntmps8
  go_wp2_with fail
  refine (first18 hS).mono ?_
  rintro e w1 ⟨rfl, g1⟩
  go_wp2_with fail
  refine (new_nat n A used.length c used hn g1 hR).mono ?_
  rintro e w2 (⟨hmp, p, rfl, g2⟩ | ⟨_, rfl, g2⟩)
  · have hmp2 : used.Nodup ∧ inR n used := by
      unfold mayPool at hmp
      rw [decide_eq_true_eq] at hmp
      exact ⟨hmp.2.2.1, hmp.2.2.2⟩
    obtain ⟨hnd, hin⟩ := hmp2
    have hcnt := freeOf_count hnd hin
    have hfl := freeOf_length_le n used
    have H1 := hid (once_give n used)
    have H2 := hid (once_back n used)
    have H3 := hid (once_none n used)
    have H4 := hid (freeOf_less n used)
    have H5 := hid (inR_app hin (inR_free n used))
    clear hmp hnd hin g1 hS
    go_wp2_with fail
    refine (all_calls p n used g2 (by omega)).mono ?_
    obtain ⟨all, hall⟩ : ∃ all, all = freeOf n used := ⟨_, rfl⟩
    have HA := hid hall
    rw [← hall] at hcnt hfl H1 H2 H3 H4 H5
    rw [← hall]
    clear hall g2
    rintro e w3 ⟨va, rfl, g3⟩
    obtain ⟨Aa, ca, rfl, _, _, _⟩ := g3.reads
    have hcnt2 : (all.length : Int) + (used.length : Int) = (n : Int) := by omega
    have wc := i64_wrap (x := (all.length : Int) + (used.length : Int)) (by omega) (by omega)
    go_wp2_with fail
    go_loopw [8, 9] (fun v i wr => ∃ k : Nat, k ≤ all.length ∧ i = .int .i64 k ∧ Hid (freeOf n (used ++ all.take k) = all.drop k) ∧ Sat E (row 3 1 v k (nums .i64 (all.take k)) * (row 3 1 (.slice Aa all.length ca) all.length (nums .i64 all) * (bp p n (poolOf n (used ++ all.take k)) * F))) wr) (fun _ i _ => all.length - (intOf i).toNat)
    case atStart =>
      refine ⟨0, by omega, rfl, ?_, ?_⟩
      · show _ = _
        rw [List.take_zero, List.append_nil, List.drop_zero, HA.out]
      · rw [List.take_zero, List.append_nil]
        exact g3.row_nil
    case round =>
      clear g3
      obtain ⟨k, hk, rfl, hfr, hr⟩ := hrel
      obtain ⟨Av, cv, rfl, _, _, _⟩ := hr.reads
      have hr1 : Sat E (bp p n (poolOf n (used ++ all.take k)) * (row 3 1 (.slice Av k cv) k (nums .i64 (all.take k)) * (row 3 1 (.slice Aa all.length ca) all.length (nums .i64 all) * F))) wr := hr.eq (by ac_rfl)
      by_cases hlt : k < all.length
      · have hkd : (k : Int) < (all.length : Int) := by omega
        have hdrop : all.drop k = all[k] :: all.drop (k + 1) := List.drop_eq_getElem_cons hlt
        have HDR := hid (hfr.out.trans hdrop)
        have htake : all.take (k + 1) = all.take k ++ [all[k]] := by rw [List.take_add_one, List.getElem?_eq_getElem hlt, Option.toList_some]
        have hny : nums .i64 (all.take k) ++ [.int .i64 all[k]] = nums .i64 (all.take (k + 1)) := by rw [htake, nums_append]; rfl
        have hT : used ++ all.take k ++ [all[k]] = used ++ all.take (k + 1) := by rw [htake, List.append_assoc]
        have HN := hid hny
        have HT := hid hT
        have hless : ∀ (h : 0 < k), all[k - 1]'(by omega) < all[k] := fun h => List.pairwise_iff_getElem.1 H4.out (k - 1) k (by omega) hlt (by omega)
        have HLS := hid hless
        clear hdrop htake hny hT hless hr
        go_wp2_with fail
        refine (take_calls p n _ hr1).mono ?_
        rintro e w4 (⟨_, hb, _⟩ | ⟨j, rfl, hj, hfj, h4⟩)
        · rw [HDR.out] at hb; cases hb
        · rw [HDR.out] at hfj
          injection hfj with hj1 hj2
          have HJ2 : Hid (freeOf n (used ++ all.take (k + 1)) = all.drop (k + 1)) := by rw [← HT.out, hj1]; exact hj2.symm
          rw [← hj1, HT.out] at h4
          rw [← hj1]
          have hnf : decide (all[k] ∈ freeOf n (used ++ all.take (k + 1))) = false := by
            refine decide_eq_false fun h => (mem_freeOf.1 h).2 ?_
            rw [← HT.out]
            exact List.mem_append_right _ (List.mem_singleton.2 rfl)
          have HNF := hid hnf
          clear hj1 hj2 hnf hr1
          generalize hy : all[k] = y at *
          clear hy
          rcases Nat.eq_zero_or_pos k with hk0 | hk0
          · have z1 : ¬ (0 : Int) < (k : Int) := by omega
            clear hk0
            go_wp2_with fail
            refine (free_calls p n _ y h4).mono ?_
            rw [HNF.out]
            rintro e w5 ⟨rfl, h5⟩
            have h6 : Sat E (row 3 1 (.slice Av k cv) k (nums .i64 (all.take k)) * (row 3 1 (.slice Aa all.length ca) all.length (nums .i64 all) * (bp p n (poolOf n (used ++ all.take (k + 1))) * F))) w5 := h5.eq (by ac_rfl)
            clear h5 h4
            go_wp2_with (at_builtin; refine wpList_append_sat rfl _ _ 22 3 (.int .i64 0) 1 8 rfl Try.underlying22 Try.info3 rfl (by decide) _ k _ _ 1 1 [.int .i64 y] rfl rfl (h6.alloc_drop _) (Reads.new 1 1 [.int .i64 y] 3 rfl (by omega)) (by simp [Value.oneCell']) (by unfold maxLen; omega) (by omega) ?_; intro v1 w6 h7)
            rw [HN.out] at h7
            go_wp2
            go_roundw
            case rel => exact ⟨k + 1, by omega, by go_num, HJ2, h7⟩
            case measure => simp [intOf]; omega
          · obtain ⟨q, rfl⟩ : ∃ q, k = q + 1 := ⟨k - 1, by omega⟩
            have hls := HLS.out hk0
            simp only [Nat.add_sub_cancel] at hls
            have hls2 : ¬ y ≤ all[q] := by omega
            have z1 : (0 : Int) < ((q + 1 : Nat) : Int) := by omega
            have z2 : (0 : Int) < (q : Int) + 1 := by omega
            have ej : ((q + 1 : Nat) : Int) - 1 = (q : Int) := by omega
            have ej3 : IntKind.i64.wrap (q : Int) = (q : Int) := i64_wrap (by omega) (by omega)
            have ej2 : IntKind.i64.wrap (((q + 1 : Nat) : Int) - 1) = (q : Int) := by rw [ej]; exact ej3
            go_wp2_with fail
            refine (free_calls p n _ y h4).mono ?_
            rw [HNF.out]
            rintro e w5 ⟨rfl, h5⟩
            have h6 : Sat E (row 3 1 (.slice Av (q + 1) cv) (q + 1) (nums .i64 (all.take (q + 1))) * (row 3 1 (.slice Aa all.length ca) all.length (nums .i64 all) * (bp p n (poolOf n (used ++ all.take (q + 1 + 1))) * F))) w5 := h5.eq (by ac_rfl)
            clear h5 h4
            obtain ⟨g, cg, e1, _, _⟩ := h6.row_head (by omega)
            injection e1 with e1 e2 e3
            subst e1
            clear e2 e3
            have d1 := (h6.row_cell q (by omega)).trans (nums_at (by rw [List.length_take]; omega))
            rw [List.getElem_take] at d1
            go_wp2_with (at_builtin; refine wpList_append_sat rfl _ _ 22 3 (.int .i64 0) 1 8 rfl Try.underlying22 Try.info3 rfl (by decide) _ (q + 1) _ _ 1 1 [.int .i64 y] rfl rfl (h6.alloc_drop _) (Reads.new 1 1 [.int .i64 y] 3 rfl (by omega)) (by simp [Value.oneCell']) (by unfold maxLen; omega) (by omega) ?_; intro v1 w6 h7)
            rw [HN.out] at h7
            go_wp2
            go_roundw
            case rel => exact ⟨q + 1 + 1, by omega, by go_num, HJ2, h7⟩
            case measure => simp [intOf]; omega
      · obtain rfl : k = all.length := by omega
        have hfr2 := hfr.out
        rw [List.take_length] at hfr2 hr1
        rw [List.drop_length] at hfr2
        have HFR := hid hfr2
        clear hfr2 hfr hr
        go_wp2_with fail
        refine (take_calls p n _ hr1).mono ?_
        rintro e w4 (⟨rfl, _, h4⟩ | ⟨j, _, _, hb, _⟩)
        · clear hr1
          go_wp2_with fail
          refine (first18 h4).mono ?_
          rintro e w5 ⟨rfl, h5⟩
          go_wp2_with fail
          refine (intsEq Av Aa all.length all.length cv ca all all h5.right.reads_at h5.right.right.reads_at).mono ?_
          rw [decide_eq_true (rfl : all = all)]
          rintro e w6 ⟨rfl, nq, rfl⟩
          have h6 := h5.drewN nq
          go_wp2_with fail
          refine (give_calls p n (used ++ all) Av all.length cv all H5.out (by omega) h6 (fun w h => h.reads_at)).mono ?_
          rw [H1.out, gave_true H1.out]
          rintro e w7 ⟨rfl, h7⟩
          clear h6 h5 h4
          go_wp2_with fail
          refine (all_calls p n _ h7 (by omega)).mono ?_
          rw [H2.out]
          rintro e w8 ⟨vb, rfl, h8⟩
          obtain ⟨Ab, cb, rfl, _, _, _⟩ := h8.reads
          go_wp2_with fail
          refine (intsEq Ab Aa all.length all.length cb ca all all h8.reads_at h8.right.right.right.reads_at).mono ?_
          rw [decide_eq_true (rfl : all = all)]
          rintro e w9 ⟨rfl, nq2, rfl⟩
          have h9 := (h8.drewN nq2).right
          clear h8 h7
          rcases Nat.eq_zero_or_pos all.length with hz | hz
          · have z1 : ((all.length : Int) == 0) = true := by rw [hz]; rfl
            have h10 := h9.right.right.right
            clear hz
            go_wp2
            go_ret
            exact ⟨rfl, h10⟩
          · have z1 : ((all.length : Int) == 0) = false := by rw [beq_eq_false_iff_ne]; omega
            have HG := hid (H3.out hz)
            go_wp2_with fail
            refine (give_calls p n _ Av all.length cv all (inR_less H5.out) (by omega) h9 (fun w h => h.reads_at)).mono ?_
            rw [HG.out]
            rintro e w10 ⟨rfl, h10⟩
            have h11 := h10.right.right.right
            go_wp2
            go_ret
            exact ⟨rfl, h11⟩
        · rw [HFR.out] at hb; cases hb
  · go_wp2_with fail
    refine (first18 g2).mono ?_
    rintro e w3 ⟨rfl, g3⟩
    go_wp2
    go_ret
    exact ⟨rfl, g3⟩

set_option maxRecDepth 100000 in
set_option maxHeartbeats 2000000 in
theorem idsOnce {E w : World} {F : Asn} (x : Int) (A : Option Addr) (c : Nat) (used : List Int) (hS : Sat E F w) (hR : ∀ w, Sat E F w → Reads w 1 A used.length (nums .i64 used)) :
    Calls Try.prog 8 #[.int .i64 x, .slice A used.length c] w fun e w' => e = .returned (.bool true) ∧ Sat E F w' := by
  by_cases hu : used.length ≤ 200
  · by_cases hx : 0 ≤ x ∧ x ≤ 64
    · obtain ⟨n, rfl⟩ := Int.eq_ofNat_of_zero_le hx.1
      exact idsOnce_ok n A c used (by omega) hu hS hR
    · go_enter Try.func8, Try.ntmps8
      go_wp2_with fail
      refine (first18 hS).mono ?_
      rintro e w1 ⟨rfl, g1⟩
      go_wp2_with fail
      refine (newBad x A used.length c (by omega)).mono ?_
      rintro e w2 ⟨rfl, rfl⟩
      go_wp2_with fail
      refine (first18 g1).mono ?_
      rintro e w3 ⟨rfl, g3⟩
      go_wp2
      go_ret
      exact ⟨rfl, g3⟩
  · go_enter Try.func8, Try.ntmps8
    go_wp2_with fail
    refine (first18 hS).mono ?_
    rintro e w1 ⟨rfl, g1⟩
    go_wp2_with fail
    refine (first18 g1).mono ?_
    rintro e w3 ⟨rfl, g3⟩
    go_wp2
    go_ret
    exact ⟨rfl, g3⟩

theorem IdsOnce_walk (W : World) (a0 : Int) (w0 : (Lit.int .i64 a0).wf = true) (a1 : Option Addr) (len1 cap1 : Nat) (l1 : (List Int)) (h1 : (decSlice 8 (decInt .i64)).rel W l1 [.slice a1 len1 cap1]) :
    Calls Try.prog 8 #[.int .i64 a0, .slice a1 len1 cap1] W fun e w' => e = .returned (.bool true) ∧ Below W.heap.size W w' := by
  obtain ⟨A, c, he, hlc, _, _, hR, _⟩ := dec_ints h1
  simp at he
  obtain ⟨rfl, rfl, rfl⟩ := he
  exact (idsOnce a0 _ _ l1 (Sat.start W) (fun w hs => hR.keep fun k hk => hs.old1 hk)).mono fun e w' ⟨he, hs⟩ => ⟨he, hs.finish1⟩
end Go.Proofs.Ytfphpnccmkggfaa
