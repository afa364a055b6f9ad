import Derived.Test.YtedhcgeglmoacaaTapeEnd
import Derived.Test.YtedhcgeglmoacaaSepQuiet
import Derived.Test.YtedhcgeglmoacaaLeafLaws
import Derived.Test.YtedhcgeglmoacaaSepArgs
namespace Go.Proofs.Ytedhcgeglmoacaa
set_option linter.unusedVariables false
set_option linter.unusedSimpArgs false
open Go.RowKit Go.Proofs.Sep

theorem pow_name (h : Int) (h0 : 0 ≤ h) (h6 : h ≤ 6) : ∃ Z : Int, (2 : Int) ^ h.toNat = Z ∧ 1 ≤ Z ∧ Z ≤ 64 ∧ wrap64 Z = Z ∧ (Z == 0) = false := by
  obtain ⟨p1, p2, p3⟩ := pow_small h h0 h6
  exact ⟨_, rfl, p1, p2, p3, beq_eq_false_iff_ne.2 (by omega)⟩
theorem padsAt_append (bs : List Int) (d s m : Nat) : padsAt bs d s ++ padsAt bs (d + s) m = padsAt bs d (s + m) := by
  apply List.ext_getElem?
  intro i
  rcases Nat.lt_or_ge i s with h | h
  · rw [List.getElem?_append_left (by rw [padsAt_len]; exact h), padsAt_get _ _ _ _ h, padsAt_get _ _ _ _ (by omega)]
  · rw [List.getElem?_append_right (by rw [padsAt_len]; exact h), padsAt_len]
    rcases Nat.lt_or_ge i (s + m) with h1 | h1
    · rw [padsAt_get _ _ _ _ (by omega), padsAt_get _ _ _ _ h1]
      have e : d + s + (i - s) = d + i := by omega
      congr 1
      simp only [e]
    · rw [List.getElem?_eq_none (by rw [padsAt_len]; omega), List.getElem?_eq_none (by rw [padsAt_len]; omega)]

set_option maxRecDepth 100000 in
set_option maxHeartbeats 2000000 in
theorem tapeCuts {E w : World} {F : Asn} (Al : Option Addr) (n c : Nat) (ls : List Int) (Ap : Option Addr) (np cp : Nat) (bs : List Int) (Ac : Option Addr) (nc cc : Nat) (cs : List Int) (height : Int)
    (hS : Sat E F w) (hRl : ∀ w, Sat E F w → Reads w 1 Al n (nums .i64 ls)) (hRp : ∀ w, Sat E F w → Reads w 1 Ap np (nums .u8 bs)) (hRc : ∀ w, Sat E F w → Reads w 1 Ac nc (nums .i64 cs))
    (hn : n * 8 ≤ 140737488351232) (hnp : np ≤ 140737488351232) (hnc : nc * 8 ≤ 140737488351232) (hbr : ByteR bs) :
    Calls Try.prog 6 #[.slice Al n c, .slice Ap np cp, .slice Ac nc cc, .int .i64 height] w fun e w' => e = .returned (.bool true) ∧ Sat E F w' := by
  have hl : ls.length = n := by have := (hRl w hS).1; simpa [nums] using this
  have hlp : bs.length = np := by have := (hRp w hS).1; simpa [nums] using this
  have hlc : cs.length = nc := by have := (hRc w hS).1; simpa [nums] using this
  by_cases hg : 2000 < n ∨ 2000 < np ∨ 200 < nc
  · go_enter Try.func6, Try.ntmps6
    go_wp2_with (go_at_call 15; refine (first1 (E := E) (F := F) (by assumption)).mono ?_; rintro e w1 ⟨rfl, h1⟩)
    all_goals first
      | (go_ret; exact ⟨rfl, by assumption⟩)
      | (exfalso; omega)
  · have g1 : n ≤ 2000 := by omega
    have g2 : np ≤ 2000 := by omega
    have g3 : nc ≤ 200 := by omega
    clear hg
    go_enter Try.func6, Try.ntmps6
    go_wp2_with fail
    refine (first1 hS).mono ?_
    rintro e w1 ⟨rfl, h1⟩
    go_wp2_with fail
    refine (newPads Ap np cp bs h1 (hRp _ h1) hnp).mono ?_
    rintro e w2 ⟨a, rfl, h2⟩
    go_wp2_with fail
    refine (newPads Ap np cp bs h2 (hRp _ h2.right) hnp).mono ?_
    rintro e w3 ⟨b, rfl, h3⟩
    go_wp2_with fail
    refine (newLeaves Al n c ls h3 (hRl _ h3.right.right) hn).mono ?_
    rintro e w4 ⟨l, rfl, h4⟩
    go_wp2_with fail
    go_loopw [12, 13] (fun v i wr => ∃ (k s : Nat), k ≤ nc ∧ s ≤ 300 * k ∧ i = .int .i64 k ∧ Sat E (row 5 1 v s (nums .u8 (padsAt bs 0 s)) * (pads a s np bs * (pads b 0 np bs * (leaves l 0 n ls * F)))) wr) (fun _ i _ => nc - (intOf i).toNat)
    case atStart =>
      have h4' : Sat E (pads a 0 np bs * (pads b 0 np bs * (leaves l 0 n ls * F))) w4 := h4.eq (by ac_rfl)
      refine ⟨0, 0, by omega, by omega, rfl, ?_⟩
      rw [show nums .u8 (padsAt bs 0 0) = [] by simp [nums, padsAt]]
      exact h4'.row_nil
    case round =>
      obtain ⟨k, s, hk, hs, rfl, hr⟩ := hrel
      obtain ⟨Av, cv, rfl, hcv1, hcv2, hRv⟩ := hr.reads
      have hF := hr.right.right.right.right
      by_cases hlt : k < nc
      · obtain ⟨ad, rfl, hcell⟩ := (hRc wr hF).at (by omega)
        have hck := hcell k _ (nums_at (by omega))
        clear hcell
        by_cases hx : cs[k] < 1 ∨ 300 < cs[k]
        · go_wp2_with (go_at_call 15; refine (first1 (E := E) (F := F) hF).mono ?_; rintro e w5 ⟨rfl, h5⟩)
          all_goals first
            | (go_ret; exact ⟨rfl, by assumption⟩)
            | (exfalso; omega)
        · have x1 : 1 ≤ cs[k] := by omega
          have x2 : cs[k] ≤ 300 := by omega
          have y1 : ¬ cs[k] < 1 := by omega
          clear hx
          go_wp2_with fail
          refine (padDrawI a s np cs[k] bs (by omega) (by omega) (hr.eq (star_left_comm _ _ _)) (by omega)).mono ?_
          rintro e w5 ⟨g, rfl, h5⟩
          have h5' : Sat E (row 5 1 (.slice Av s cv) s (nums .u8 (padsAt bs 0 s)) * (row 5 1 (.slice (some ⟨g, 0, none⟩) cs[k].toNat cs[k].toNat) cs[k].toNat (nums .u8 (padsAt bs s cs[k].toNat)) * (pads a (s + cs[k].toNat) np bs * (pads b 0 np bs * (leaves l 0 n ls * F))))) w5 := h5.eq (by ac_rfl)
          have hR5 := h5.reads_at
          go_wp2_with (at_builtin; refine wpList_append_sat rfl _ _ 48 5 (.int .u8 0) 1 1 rfl Try.underlying48 Try.info5 rfl (by decide) _ s _ _ _ _ _ rfl rfl h5' hR5 (nums_one _ _) (by unfold maxLen; omega) (by omega) ?_; intro v1 w6 h6)
          rw [← nums_append, show padsAt bs 0 s ++ padsAt bs s cs[k].toNat = padsAt bs 0 (s + cs[k].toNat) by have := padsAt_append bs 0 s cs[k].toNat; rwa [Nat.zero_add] at this] at h6
          have h7 : Sat E (row 5 1 v1 (s + cs[k].toNat) (nums .u8 (padsAt bs 0 (s + cs[k].toNat))) * (pads a (s + cs[k].toNat) np bs * (pads b 0 np bs * (leaves l 0 n ls * F)))) w6 := h6.drop_mid
          clear h5' h5 h6 hR5
          go_wp2
          go_roundw
          case rel => exact ⟨k + 1, s + cs[k].toNat, by omega, by omega, by go_num, h7⟩
          case measure => simp [intOf]; omega
      · obtain rfl : k = nc := by omega
        have hbp : ByteR (padsAt bs 0 s) := padsAt_byte hbr 0 s
        have hgoal : ∀ wz, Sat E (row 5 1 (.slice Av s cv) s (nums .u8 (padsAt bs 0 s)) * (pads a s np bs * (pads b s np bs * (leaves l 0 n ls * F)))) wz → Sat E (row 5 1 (.slice Av s cv) s (nums .u8 (padsAt bs 0 s)) * (pads a s np bs * (pads b s np bs * (leaves l 0 n ls * F)))) wz := fun _ h => h
        rcases Nat.eq_zero_or_pos s with hs0 | hs0
        case' inl =>
          have hz := hgoal wr (by rw [hs0] at hr ⊢; exact hr)
          have e0 : decide ((0 : Nat) < s) = false := by simp; omega
          have HS0 := hid hs0
          clear hr hgoal hs0
          go_wp2_with fail
        case' inr =>
          have hr2 : Sat E (pads b 0 np bs * (row 5 1 (.slice Av s cv) s (nums .u8 (padsAt bs 0 s)) * (pads a s np bs * (leaves l 0 n ls * F)))) wr := hr.eq (by ac_rfl)
          go_wp2_with fail
          refine (padDraw b 0 np s bs (by omega) (by omega) hr2 (by omega)).mono ?_
          rintro e w5 ⟨g, rfl, h5⟩
          have hz := hgoal w5 ((h5.right).eq (by rw [Nat.zero_add]; ac_rfl))
          have hRa := h5.reads_at
          have hRb := hz.reads_at
          clear hr2 h5 hr hgoal
          go_wp2_with fail
          refine (bytesEq _ _ _ _ _ _ _ _ hRa hRb hbp hbp).mono ?_
          rintro e w8 ⟨rfl, rfl⟩
          rw [decide_eq_true (rfl : padsAt bs 0 s = padsAt bs 0 s)]
          clear hRa hRb
          go_wp2_with fail
        all_goals
          have hpl := padsAt_len bs 0 s
          go_loopw [14] (fun i wr => ∃ j : Nat, j ≤ s ∧ i = .int .i64 j ∧ Sat E (row 5 1 (.slice Av s cv) s (nums .u8 (padsAt bs 0 s)) * (pads a s np bs * (pads b s np bs * (leaves l 0 n ls * F)))) wr) (fun i _ => s - (intOf i).toNat)
          case atStart => exact ⟨0, by omega, rfl, hz⟩
          case round =>
            obtain ⟨j, hj, rfl, hr⟩ := hrel
            by_cases hlt : j < s
            · first
              | (exfalso; have := HS0.out; omega)
              | (obtain ⟨ad, rfl, hcell⟩ := hr.reads_at.at (by omega)
                 have hc1 := hcell j _ (nums_at (by omega))
                 have hv := padsAt_get bs 0 s j hlt
                 rw [List.getElem?_eq_getElem (by omega)] at hv
                 have hv' := Option.some.inj hv
                 have hR := hRp wr hr.right.right.right.right
                 clear hv hcell
                 by_cases hb : j < np
                 · have g5 : decide ((j : Int) < (np : Int)) = true := by simpa using hb
                   have g6 : decide ((np : Int) ≤ (j : Int)) = false := by simp; omega
                   have g7 : decide (j < np) = true := by simpa using hb
                   have g8 : decide (np ≤ j) = false := by simp; omega
                   rw [dif_pos (by omega)] at hv'
                   obtain ⟨ad2, rfl, hcell2⟩ := hR.at (by omega)
                   have hc2 := hcell2 j _ (nums_at (by omega))
                   rw [hv'] at hc1
                   simp only [Nat.zero_add] at hc1
                   clear hv' hcell2
                   go_wp2_with fail
                   go_quiet (fail)
                   go_wp2_with fail
                   go_roundw
                   case rel => exact ⟨j + 1, by omega, by go_num, hr.drewN _⟩
                   case measure => simp [intOf]; omega
                 · have g5 : decide ((j : Int) < (np : Int)) = false := by simpa using hb
                   have g6 : decide ((np : Int) ≤ (j : Int)) = true := by simp; omega
                   have g7 : decide (j < np) = false := by simpa using hb
                   have g8 : decide (np ≤ j) = true := by simp; omega
                   rw [dif_neg (by omega)] at hv'
                   rw [hv'] at hc1
                   clear hv'
                   go_wp2_with fail
                   go_quiet (fail)
                   go_wp2_with fail
                   go_roundw
                   case rel => exact ⟨j + 1, by omega, by go_num, hr.drewN _⟩
                   case measure => simp [intOf]; omega)
            · obtain rfl : j = s := by omega
              clear hz hpl hbp hRv
              by_cases hh : height < 0 ∨ 6 < height
              · have hbad := hid hh
                rcases hh with hh | hh
                all_goals
                  go_wp2_with fail
                  refine (draw_bad (E := E) (F := F) l 0 n ls height hbad.out).mono ?_
                  rintro e w9 ⟨rfl, rfl⟩
                  go_wp2_with fail
                  refine (first1 hr).mono ?_
                  rintro e w10 ⟨rfl, h10⟩
                  have h11 : Sat E (leaves l 0 n ls * (row 5 1 (.slice Av j cv) j (nums .u8 (padsAt bs 0 j)) * (pads a j np bs * (pads b j np bs * F)))) w10 := h10.eq (by ac_rfl)
                  go_wp2_with fail
                  refine (drawn_sat l 0 n ls h11).mono ?_
                  rintro e w11 ⟨rfl, h12⟩
                  go_wp2
                  go_ret
                  exact ⟨rfl, h12.right.right.right.right⟩
              · have q0 : 0 ≤ height := by omega
                have q6 : height ≤ 6 := by omega
                clear hh
                obtain ⟨Z, hZ, p1, p2, p3, z1⟩ := pow_name height q0 q6
                have hr0 : Sat E (leaves l 0 n ls * (row 5 1 (.slice Av j cv) j (nums .u8 (padsAt bs 0 j)) * (pads a j np bs * (pads b j np bs * F)))) wr := hr.eq (by ac_rfl)
                clear hr
                go_wp2_with fail
                go_loopw [17] (fun i wr => ∃ q : Nat, q ≤ n ∧ i = .int .i64 q ∧ Sat E (leaves l q n ls * (row 5 1 (.slice Av j cv) j (nums .u8 (padsAt bs 0 j)) * (pads a j np bs * (pads b j np bs * F)))) wr) (fun i _ => n - (intOf i).toNat)
                case atStart => exact ⟨0, by omega, rfl, hr0⟩
                case round =>
                  obtain ⟨q, hq, rfl, hr⟩ := hrel
                  by_cases hlt : q < n
                  · have hF := hr.right.right.right.right
                    by_cases hx : ls[q] < 0
                    · have hv : leafAt ls q height = 0 := by unfold leafAt; rw [dif_pos (by omega), if_pos hx]
                      have HV := hid hv
                      clear hv
                      go_wp2_with fail
                      refine (draw_any l q n ls height q0 q6 hr (by omega)).mono ?_
                      rw [HV.out]
                      rintro e w9 ⟨rfl, h9⟩
                      obtain ⟨ad, rfl, hcell⟩ := (hRl w9 h9.right.right.right.right).at (by omega)
                      have hc1 := hcell q _ (nums_at (by omega))
                      clear hcell
                      have g9 : ¬ 0 ≤ ls[q] := by omega
                      go_wp2
                      go_roundw
                      case rel => exact ⟨q + 1, by omega, by go_num, h9⟩
                      case measure => simp [intOf]; omega
                    · have hv : leafAt ls q height = ls[q] % 2 ^ height.toNat := by unfold leafAt; rw [dif_pos (by omega), if_neg hx]
                      have HV := hid hv
                      have m0 := leaf_nonneg ls q height
                      have m1 := leaf_lt ls q height
                      rw [hv] at m0 m1
                      rw [hZ] at m0 m1 hv HV
                      clear hv
                      have g9 : 0 ≤ ls[q] := by omega
                      go_wp2_with fail
                      refine (draw_any l q n ls height q0 q6 hr (by omega)).mono ?_
                      rw [HV.out]
                      rintro e w9 ⟨rfl, h9⟩
                      obtain ⟨ad, rfl, hcell⟩ := (hRl w9 h9.right.right.right.right).at (by omega)
                      have hc1 := hcell q _ (nums_at (by omega))
                      clear hcell
                      go_wp2
                      go_roundw
                      case rel => exact ⟨q + 1, by omega, by go_num, h9⟩
                      case measure => simp [intOf]; omega
                  · obtain rfl : q = n := by omega
                    have e1 : leaves l q q ls * (row 5 1 (.slice Av j cv) j (nums .u8 (padsAt bs 0 j)) * (pads a j np bs * (pads b j np bs * F))) = pads a j np bs * (leaves l q q ls * (row 5 1 (.slice Av j cv) j (nums .u8 (padsAt bs 0 j)) * (pads b j np bs * F))) := by ac_rfl
                    have e2 : leaves l q q ls * (row 5 1 (.slice Av j cv) j (nums .u8 (padsAt bs 0 j)) * (pads a j np bs * (pads b j np bs * F))) = pads b j np bs * (leaves l q q ls * (row 5 1 (.slice Av j cv) j (nums .u8 (padsAt bs 0 j)) * (pads a j np bs * F))) := by ac_rfl
                    have E1 := hid e1
                    have E2 := hid e2
                    clear e1 e2
                    go_wp2_with fail
                    refine wp_region_quietS _ (by kernel_rfl) (by kernel_rfl) hr ?_
                    intro hne
                    repeat (go_big_quiet_step (first
                      | (go_at_call 15; exact quietS (first1 (SW.h _)))
                      | (go_at_call 18; exact quietS (left_sat l q q ls (SW.h _) (by omega) (by omega)))
                      | (go_at_call_of 19 (Value.pointer (some ⟨a, 0, Option.none⟩)); exact quietS ((pads_drawn a j np bs ((SW.h _).eq E1.out)).mono fun _ _ h => ⟨h.1, h.2.eq E1.out.symm⟩))
                      | (go_at_call 19; exact quietS ((pads_drawn b j np bs ((SW.h _).eq E2.out)).mono fun _ _ h => ⟨h.1, h.2.eq E2.out.symm⟩))))
                    refine wpQuiet_nil ?_
                    intro _ hw'
                    obtain ⟨⟨w9, h9⟩, hw''⟩ := hw'
                    subst hw''
                    try dsimp only
                    go_wp2
                    go_ret
                    exact ⟨rfl, h9.right.right.right.right⟩
theorem TapeCuts_walk (W : World) (a0 : Option Addr) (len0 cap0 : Nat) (l0 : (List Int)) (h0 : (decSlice 8 (decInt .i64)).rel W l0 [.slice a0 len0 cap0]) (a1 : Option Addr) (len1 cap1 : Nat) (l1 : (List Int)) (h1 : (decSlice 1 (decInt .u8)).rel W l1 [.slice a1 len1 cap1]) (a2 : Option Addr) (len2 cap2 : Nat) (l2 : (List Int)) (h2 : (decSlice 8 (decInt .i64)).rel W l2 [.slice a2 len2 cap2]) (a3 : Int) (w3 : (Lit.int .i64 a3).wf = true) :
    Calls Try.prog 6 #[.slice a0 len0 cap0, .slice a1 len1 cap1, .slice a2 len2 cap2, .int .i64 a3] W fun e w' => e = .returned (.bool true) ∧ Below W.heap.size W w' := by
  obtain ⟨A, c, he, h01, h02, h03, hR0, hw0⟩ := dec_ints h0
  obtain ⟨A1, c1, he1, h11, h12, h13, hR1, hw1⟩ := dec_ints h1
  obtain ⟨A2, c2, he2, h21, h22, h23, hR2, hw2⟩ := dec_ints h2
  simp at he he1 he2
  obtain ⟨rfl, rfl, rfl⟩ := he
  obtain ⟨rfl, rfl, rfl⟩ := he1
  obtain ⟨rfl, rfl, rfl⟩ := he2
  exact (tapeCuts _ _ _ l0 _ _ _ l1 _ _ _ l2 a3 (Sat.start W) (fun w hs => hR0.keep fun k hk => hs.old1 hk) (fun w hs => hR1.keep fun k hk => hs.old1 hk) (fun w hs => hR2.keep fun k hk => hs.old1 hk) h03 (by omega) h23 (byteR_wf hw1)).mono fun e w' ⟨he, hs⟩ => ⟨he, hs.finish1⟩
end Go.Proofs.Ytedhcgeglmoacaa
