import Derived.Test.YtedhcgeglmoacaaRound5
namespace Go.Proofs.Ytedhcgeglmoacaa
set_option linter.unusedVariables false
set_option linter.unusedSimpArgs false
open Go.RowKit Go.Proofs.Sep

theorem le_sumLen (l : List (List Int)) : ∀ i (hi : i < l.length), l[i].length ≤ sumLen l := by
  intro i hi
  have h1 := sumLen_take hi
  have h2 := sumLen_take_le l (i + 1) hi
  omega
set_option maxRecDepth 100000 in
set_option maxHeartbeats 4000000 in
theorem roundFirst_ok {E w : World} {F : Asn} (m : Nat) (A B : Option Addr) (n ca cb : Nat) (hv : List Int) (l : List (List Int)) (hd : List Value) (hm : m ≤ 1000) (hn : n ≤ 200) (hS : Sat E F w)
    (hR : ∀ w, Sat E F w → Reads w 1 A n (nums .i64 hv)) (hQ : ∀ w, Sat E F w → Reads w 1 B l.length hd) (hO : ∀ w, Sat E F w → NeedsIn w l hd) :
    Calls Try.prog 12 #[.int .i64 m, .slice A n ca, .slice B l.length cb] w fun e w' => e = .returned (.bool true) ∧ Sat E F w' := by
  have hb : bnd (m : Int) = m := by unfold bnd; omega
  have hcok := coll_ok m hv l l.length (Nat.le_refl _)
  rw [List.take_length] at hcok
  have hcc := fun (hl : l.length ≤ 1000000) (hN : ∀ i (hi : i < l.length), l[i].length ≤ 1000000) w (hS : Sat E F w) => collect_calls (m : Int) m A B n ca cb hv l hd hb hS hl hN hR hQ hO
  generalize hid1 : coll m hv l = s at *
  obtain ⟨ids, late⟩ := s
  clear hid1
  obtain ⟨k1, k2, ⟨k3, k4⟩, k5, k6⟩ := hcok
  simp only at k1 k2 k3 k4 k5 k6 hcc
  have HD := hid (show dup ids = false by unfold dup; simp [k3])
  have H4 := hid k4
  have H5 := hid k5
  have H6 := hid k6
  have hf1 : ¬ (m : Int) < (ids.length : Int) := by omega
  have hf1n : decide (m < ids.length) = false := decide_eq_false (by omega)
  have hf2 : ¬ (m : Int) < 0 := by omega
  have hf3 : ¬ (1000 : Int) < (m : Int) := by omega
  have hf4 : ¬ (200 : Int) < (n : Int) := by omega
  clear k3 k4 k5 k6 hb
  go_enter Try.func12, Try.ntmps12
  go_wp2_with fail
  refine (first21 hS).mono ?_
  rintro e w1 ⟨rfl, g1⟩
  go_wp2_with fail
  refine (few21 B cb l hd g1 hQ hO).mono ?_
  rintro e w2 ⟨⟨rfl, hl1, hl2⟩ | rfl, g2⟩
  · go_wp2_with fail
    refine (hcc (by omega) (fun i hi => by have := le_sumLen l i hi; omega) _ g2).mono ?_
    clear hcc g1 hS
    rintro e w3 ⟨v1, v2, rfl, g3⟩
    obtain ⟨A1, c1, rfl, hc1, _, _⟩ := g3.reads
    obtain ⟨A2, c2, rfl, _, _, _⟩ := g3.right.reads
    have g4 := g3.alloc (.cells #[.slice A1 ids.length c1, .slice A2 l.length c2] 96)
    clear g3 g2
    have e0 : ∀ {w}, Sat E (blk w3.heap.size (.cells #[.slice A1 ids.length c1, .slice A2 l.length c2] 96) * (row 3 1 (.slice A1 ids.length c1) ids.length (nums .i64 ids) * (row 4 1 (.slice A2 l.length c2) l.length (bools late) * F))) w → w.cell? ⟨w3.heap.size, 0, none⟩ = some (.slice A1 ids.length c1) := fun h => h.cell_blk
    have e1 : ∀ {w}, Sat E (blk w3.heap.size (.cells #[.slice A1 ids.length c1, .slice A2 l.length c2] 96) * (row 3 1 (.slice A1 ids.length c1) ids.length (nums .i64 ids) * (row 4 1 (.slice A2 l.length c2) l.length (bools late) * F))) w → w.cell? ⟨w3.heap.size, 1, none⟩ = some (.slice A2 l.length c2) := fun h => h.cell_blk
    have eF : ∀ {w}, Sat E (blk w3.heap.size (.cells #[.slice A1 ids.length c1, .slice A2 l.length c2] 96) * (row 3 1 (.slice A1 ids.length c1) ids.length (nums .i64 ids) * (row 4 1 (.slice A2 l.length c2) l.length (bools late) * F))) w → Sat E F w := fun h => h.right.right.right
    have eI : ∀ {w}, Sat E (blk w3.heap.size (.cells #[.slice A1 ids.length c1, .slice A2 l.length c2] 96) * (row 3 1 (.slice A1 ids.length c1) ids.length (nums .i64 ids) * (row 4 1 (.slice A2 l.length c2) l.length (bools late) * F))) w → Reads w 1 A1 ids.length (nums .i64 ids) := fun h => h.right.reads_at
    have eL : ∀ {w}, Sat E (blk w3.heap.size (.cells #[.slice A1 ids.length c1, .slice A2 l.length c2] 96) * (row 3 1 (.slice A1 ids.length c1) ids.length (nums .i64 ids) * (row 4 1 (.slice A2 l.length c2) l.length (bools late) * F))) w → Reads w 1 A2 l.length (bools late) := fun h => h.right.right.reads_at
    generalize hX : blk w3.heap.size (.cells #[.slice A1 ids.length c1, .slice A2 l.length c2] 96) * (row 3 1 (.slice A1 ids.length c1) ids.length (nums .i64 ids) * (row 4 1 (.slice A2 l.length c2) l.length (bools late) * F)) = X at *
    clear hX
    have d0 := e0 g4
    have d1 := e1 g4
    go_wp2_with fail
    refine (twice_calls A1 c1 ids g4 hc1 (fun w h => eI h)).mono ?_
    rw [HD.out]
    rintro e w4 ⟨rfl, g5⟩
    have hil : ids.length ≤ 1000 := by omega
    clear g4 d0 d1
    go_wp2_with fail
    go_loopw [8] (fun i wr => ∃ k : Nat, k ≤ ids.length ∧ i = .int .i64 k ∧ Sat E X wr) (fun i _ => ids.length - (intOf i).toNat)
    case atStart => exact ⟨0, by omega, rfl, g5⟩
    case round =>
      clear g5
      obtain ⟨k, hk, rfl, hr⟩ := hrel
      have d0 := e0 hr
      have d1 := e1 hr
      by_cases hlt : k < ids.length
      · obtain ⟨ad, rfl, hc⟩ := (eI hr).at (by omega)
        have hca := hc k _ (nums_at hlt)
        have HN := hid (decide_eq_false (H4.out _ (List.getElem_mem hlt)))
        have hkd : (k : Int) < (ids.length : Int) := by omega
        clear hc
        go_wp2_with fail
        refine (has_sat A n ca hv ids[k] hr (hR _ (eF hr))).mono ?_
        rw [HN.out]
        rintro e w5 ⟨rfl, h5⟩
        go_wp2
        go_roundw
        case rel => exact ⟨k + 1, by omega, by go_num, h5⟩
        case measure => simp [intOf]; omega
      · go_wp2_with fail
        go_loopw [9] (fun i wr => ∃ k : Nat, k ≤ l.length ∧ i = .int .i64 k ∧ Sat E X wr) (fun i _ => l.length - (intOf i).toNat)
        case atStart => exact ⟨0, by omega, rfl, hr⟩
        case round =>
          clear hr d0 d1 hk hlt
          obtain ⟨k, hk, rfl, hr⟩ := hrel
          have d0 := e0 hr
          have d1 := e1 hr
          by_cases hlt : k < l.length
          · obtain ⟨ad, Ai, ci, rfl, q1, q2, q3⟩ := need_at hQ hO rfl hlt (eF hr)
            have hca := (q3 _ (eF hr)).1
            have hkd : (k : Int) < (l.length : Int) := by omega
            obtain ⟨a2, hA2, hcl⟩ := (eL hr).at (by omega)
            subst hA2
            have hcb := hcl k _ (bools_at (by omega))
            have hlateAll : ∀ {w}, Sat E X w → w.cell? (a2.add k) = some (.bool late[k]) := fun h => (eL h).2.2.2 a2 rfl k _ (bools_at (by omega))
            have hF0 : k = 0 → l[k].length ≤ m → late[k] = false := by
              rintro rfl hle
              have := H6.out hlt (by omega) hle
              rw [List.getElem?_eq_getElem (by omega)] at this
              exact Option.some.inj this
            have hLK : late[k] = false → ∀ x ∈ l[k], x ∈ hv ∨ x ∈ ids := fun h => H5.out k hlt hlt (by rw [List.getElem?_eq_getElem (by omega), h])
            have HLK := hid hLK
            have H0 := hid hF0
            clear hF0 hLK hcl
            generalize hlk : late[k] = lk at *
            clear hlk
            have h0l : (0 : Int) < (l.length : Int) := by omega
            have hcase : (((k : Int) == 0) = false) ∨ (((k : Int) == 0) = true ∧ wr.cell? ad = some (.slice Ai l[k].length ci) ∧ (l[k].length : Int) ≤ (m : Int) ∧ wr.cell? a2 = some (.bool false)) ∨ (((k : Int) == 0) = true ∧ wr.cell? ad = some (.slice Ai l[k].length ci) ∧ ¬ (l[k].length : Int) ≤ (m : Int)) := by
              rcases Nat.eq_zero_or_pos k with hk0 | hk0
              · have z0 : ∀ a : Addr, a.add k = a := fun a => by rw [hk0]; rfl
                rw [z0] at hca hcb
                have z1 : ((k : Int) == 0) = true := by rw [hk0]; rfl
                by_cases hle : l[k].length ≤ m
                · exact .inr (.inl ⟨z1, hca, by omega, by rw [hcb, H0.out hk0 hle]⟩)
                · exact .inr (.inr ⟨z1, hca, by omega⟩)
              · exact .inl (by simp; omega)
            clear H0
            rcases hcase with z1 | ⟨z1, z2, z3, z4⟩ | ⟨z1, z2, z3⟩
            all_goals
              go_wp2_with fail
              go_loopw [10] (fun i wr => ∃ q : Nat, q ≤ l[k].length ∧ i = .int .i64 q ∧ Sat E X wr) (fun i _ => l[k].length - (intOf i).toNat)
              case atStart => exact ⟨0, by omega, rfl, hr⟩
              case round =>
                obtain ⟨q, hq, rfl, hr2⟩ := hrel
                have d0 := e0 hr2
                have d1 := e1 hr2
                have hca := (q3 _ (eF hr2)).1
                have hcb := hlateAll hr2
                by_cases hlq : q < l[k].length
                · cases lk with
                  | true =>
                    go_wp2
                    go_roundw
                    case rel => exact ⟨k + 1, by omega, by go_num, hr2⟩
                    case measure => simp [intOf]; omega
                  | false =>
                    obtain ⟨bd, hbd, hcq⟩ := (q3 _ (eF hr2)).2.at (by omega)
                    subst hbd
                    have s0 : ∀ s : SW E X, s.w.cell? (ad.add k) = some (.slice (some bd) l[k].length ci) := fun s => (q3 _ (eF s.h)).1
                    have s1 : ∀ s : SW E X, s.w.cell? (bd.add q) = some (.int .i64 l[k][q]) := fun s => (q3 _ (eF s.h)).2.2.2.2 bd rfl q _ (nums_at hlq)
                    have s2 : ∀ s : SW E X, s.w.cell? ⟨w3.heap.size, 0, none⟩ = some (.slice A1 ids.length c1) := fun s => e0 s.h
                    have hin := HLK.out rfl l[k][q] (List.getElem_mem hlq)
                    have hqd : (q : Int) < (l[k].length : Int) := by omega
                    clear hcq
                    generalize hy : l[k][q] = y at *
                    clear hy
                    by_cases hx1 : y ∈ hv
                    · have cl1 : ∀ s : SW E X, Calls Try.prog 57 #[.slice A n ca, .int .i64 y] s.w fun e w'' => e = .returned (.bool true) ∧ ∃ s' : SW E X, w'' = s'.w := fun s => by
                        have := has_sat A n ca hv y s.h (hR _ (eF s.h))
                        rw [decide_eq_true hx1] at this
                        exact quietS this
                      clear hx1 hin
                      go_wp2_with fail
                      refine wp_region_quietS _ (by kernel_rfl) (by kernel_rfl) hr2 ?_
                      intro hne
                      repeat (go_big_quiet_step (first | (go_at_call 57; exact cl1 _)))
                      refine wpQuiet_nil ?_
                      intro w12 hw'
                      have h12 := SW.out hw'
                      clear hw' hne
                      go_wp2
                      go_roundw
                      case rel => exact ⟨q + 1, by omega, by go_num, h12⟩
                      case measure => simp [intOf]; omega
                    · have cl1 : ∀ s : SW E X, Calls Try.prog 57 #[.slice A n ca, .int .i64 y] s.w fun e w'' => e = .returned (.bool false) ∧ ∃ s' : SW E X, w'' = s'.w := fun s => by
                        have := has_sat A n ca hv y s.h (hR _ (eF s.h))
                        rw [decide_eq_false hx1] at this
                        exact quietS this
                      have cl2 : ∀ s : SW E X, Calls Try.prog 57 #[.slice A1 ids.length c1, .int .i64 y] s.w fun e w'' => e = .returned (.bool true) ∧ ∃ s' : SW E X, w'' = s'.w := fun s => by
                        have := has_sat A1 ids.length c1 ids y s.h (eI s.h)
                        rw [decide_eq_true (hin.resolve_left hx1)] at this
                        exact quietS this
                      clear hx1 hin
                      go_wp2_with fail
                      refine wp_region_quietS _ (by kernel_rfl) (by kernel_rfl) hr2 ?_
                      intro hne
                      repeat (go_big_quiet_step (first | (go_at_call_of 57 (Value.slice A n ca); exact cl1 _) | (go_at_call_of 57 (Value.slice A1 ids.length c1); exact cl2 _)))
                      refine wpQuiet_nil ?_
                      intro w12 hw'
                      have h12 := SW.out hw'
                      clear hw' hne
                      go_wp2
                      go_roundw
                      case rel => exact ⟨q + 1, by omega, by go_num, h12⟩
                      case measure => simp [intOf]; omega
                · go_wp2
                  go_roundw
                  case rel => exact ⟨k + 1, by omega, by go_num, hr2⟩
                  case measure => simp [intOf]; omega
          · go_wp2_with fail
            refine (first21 (eF hr)).mono ?_
            rintro e w6 ⟨rfl, h6⟩
            go_wp2
            go_ret
            exact ⟨rfl, h6⟩
  · go_wp2_with fail
    refine (first21 g2).mono ?_
    rintro e w3 ⟨rfl, g3⟩
    go_wp2
    go_ret
    exact ⟨rfl, g3⟩
end Go.Proofs.Ytedhcgeglmoacaa
