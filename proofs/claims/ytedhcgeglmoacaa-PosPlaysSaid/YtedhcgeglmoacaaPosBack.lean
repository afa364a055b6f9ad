import Derived.Test.YtedhcgeglmoacaaPosOps
namespace Go.Proofs.Ytedhcgeglmoacaa
set_option linter.unusedVariables false
set_option linter.unusedSimpArgs false
open Go.RowKit Go.Proofs.Sep

def Less (cs : List (Int × Int × Int)) : Prop := ∀ i (_ : 0 < i) (h : i < cs.length), (cs[i - 1]'(by omega)).1 < (cs[i]).1
theorem cell_off {w : World} {ad : Addr} {j m : Nat} {u : Value} (h : w.cell? (ad.add (j + m)) = some u) (hm : m ≠ 0) : w.cell? { block := (ad.add j).block, off := (ad.add j).off + m } = some u := by
  rw [← addr_add_add] at h
  unfold Addr.add at h ⊢
  rw [if_neg hm] at h
  exact h

set_option maxRecDepth 100000 in
set_option maxHeartbeats 2000000 in
theorem posBack_ok {E w : World} {F : Asn} (A B : Option Addr) (ca cb : Nat) (l : List (Int × Int)) (ops : List POp) (hd : List Value) (hl : l.length ≤ 100) (hS : Sat E F w) (hR : ∀ w, Sat E F w → Reads w 2 A l.length (pairs l))
    (hQ : ∀ w, Sat E F w → Reads w 5 B ops.length hd) (hO : ∀ w, Sat E F w → OpsIn (Reads w 3) ops hd) :
    Calls Try.prog 9 #[.slice A l.length ca, .slice B ops.length cb] w fun e w' => e = .returned (.bool true) ∧ Sat E F w' := by
  have hmm := (hQ w hS).2.1
  obtain ⟨h, hh⟩ : ∃ h, h = ops.length / 2 := ⟨_, rfl⟩
  have hh1 : h ≤ ops.length := by omega
  have hh2 : (h : Int) ≤ 9223372036854775807 := by omega
  have hdiv : IntKind.i64.wrap ((ops.length : Int) / 2) = (h : Int) := (i64_wrap (by omega) (by omega)).trans (by omega)
  have hdiv2 : (ops.length : Int) / 2 = (h : Int) := by omega
  clear hh
  have hcs : ∀ (k : Nat) (hk : k < ops.length) (w' : World), Sat E F w' → ∃ ad, B = some ad ∧ w'.cell? { block := (ad.add (k * 5)).block, off := (ad.add (k * 5)).off + 1 } = some (.int .i64 ops[k].2.1) ∧
      w'.cell? { block := (ad.add (k * 5)).block, off := (ad.add (k * 5)).off + 2 } = some (.int .i64 ops[k].2.2.1.1) ∧ w'.cell? { block := (ad.add (k * 5)).block, off := (ad.add (k * 5)).off + 3 } = some (.int .i64 ops[k].2.2.1.2) := by
    intro k hk w' hw'
    obtain ⟨ad, he, hc⟩ := (hQ _ hw').at (by omega)
    obtain ⟨_, e1, e2, e3, _⟩ := hO _ hw' k hk
    exact ⟨ad, he, cell_off (hc _ _ e1) (by omega), cell_off (hc _ _ e2) (by omega), cell_off (hc _ _ e3) (by omega)⟩
  go_enter Try.func9, Try.ntmps9
  go_wp2_with fail
  refine (first8 hS).mono ?_
  rintro e w1 ⟨rfl, g1⟩
  go_wp2_with fail
  refine (few8 B cb ops hd g1 hQ hO).mono ?_
  rintro e w2 ⟨⟨rfl, hle⟩ | rfl, g2⟩
  · go_wp2_with fail
    refine (new_calls A ca l g2 hR (by omega)).mono ?_
    rintro e w3 ⟨m, rfl, g3⟩
    clear g1 g2 hR
    go_wp2_with fail
    go_loopw [6] (fun i wr => ∃ (k : Nat) (L : List (Int × Int)) (C : List Bool), k ≤ h ∧ i = .int .i64 k ∧ Hid (L.length = l.length) ∧ Sat E (pmap m L C * F) wr) (fun i _ => h - (intOf i).toNat)
    case atStart => exact ⟨0, l, _, by omega, rfl, rfl, g3⟩
    case round =>
      clear g3
      obtain ⟨k, L, C, hk, rfl, HL, hr⟩ := hrel
      by_cases hlt : k < h
      · obtain ⟨ad, rfl, d1, d2, d3⟩ := hcs k (by omega) wr hr.right
        have hkl : (k : Int) < (ops.length : Int) := by omega
        go_wp2_with fail
        refine wp_region_tail 11 (by kernel_rfl) (by kernel_rfl) ?_
        simp only [List.take_succ_cons, List.take_zero, List.drop_succ_cons, List.drop_zero]
        repeat still_step
        refine wpStill_nil ?_
        go_wp2_with fail
        refine (set_calls m L C ops[k].2.1 ops[k].2.2.1.1 ops[k].2.2.1.2 hr.drew).mono ?_
        rintro e w5 ⟨rfl, h6⟩
        go_wp2
        go_roundw
        case rel => exact ⟨k + 1, _, _, by omega, by go_num, (setL_length _ _ _).trans HL.out, h6⟩
        case measure => simp [intOf]; omega
      · obtain rfl : k = h := by omega
        obtain ⟨k0, hk0⟩ : ∃ k0, k0 = k := ⟨_, rfl⟩
        have HK0 := hid hk0
        clear hk0
        have hLn : L.length ≤ 100 := by rw [HL.out]; exact hl
        go_wp2_with fail
        refine (settle_calls m L C hr).mono ?_
        rintro e w4 ⟨rfl, g4⟩
        go_wp2_with fail
        refine (all_calls m L _ g4 (by omega)).mono ?_
        rintro e w5 ⟨v, rfl, g5⟩
        obtain ⟨Av, cv, rfl, _, _, _⟩ := g5.reads
        go_wp2_with fail
        refine (new_calls Av cv L g5 (fun w hw => hw.reads_at) (by omega)).mono ?_
        rintro e w6 ⟨o, rfl, g6⟩
        have g7 : Sat E (pmap m L (List.replicate L.length false) * (pmap o L (List.replicate L.length false) * F)) w6 := (g6.eq (show _ = row 39 2 (.slice Av L.length cv) L.length (pairs L) * (pmap m L (List.replicate L.length false) * (pmap o L (List.replicate L.length false) * F)) by ac_rfl)).right
        clear g6 g5 g4 hr
        have hnone := chgs_none L L.length
        have HNO := hid hnone
        clear hnone
        have hnl := chgs_none
        go_wp2_with fail
        refine (changes_calls m L _ g7 (by omega)).mono ?_
        rw [HNO.out]
        rintro e w7 ⟨v, rfl, g8⟩
        obtain ⟨Av, cv, rfl, _, _, _⟩ := g8.reads
        have g9 := g8.right
        clear g8 g7
        clear hnl
        go_wp2_with fail
        go_loopw [8] (fun i wr => ∃ (k : Nat) (L2 : List (Int × Int)) (C2 : List Bool), k0 ≤ k ∧ k ≤ ops.length ∧ i = .int .i64 k ∧ Hid (Half L L2 C2) ∧ Sat E (pmap m L2 C2 * (pmap o L (List.replicate L.length false) * F)) wr) (fun i _ => ops.length - (intOf i).toNat)
        case atStart => exact ⟨k, L, _, by have := HK0.out; omega, by omega, rfl, half_start L, g9⟩
        case round =>
          clear g9
          obtain ⟨q, L2, C2, hq1, hq2, rfl, HH, hr⟩ := hrel
          have hL2 : L2.length ≤ 100 := by rw [HH.out.1]; exact hLn
          by_cases hlt : q < ops.length
          · obtain ⟨ad, rfl, d1, d2, d3⟩ := hcs q (by omega) wr hr.right.right
            have hkl : (q : Int) < (ops.length : Int) := by omega
            go_wp2_with fail
            refine wp_region_tail 11 (by kernel_rfl) (by kernel_rfl) ?_
            simp only [List.take_succ_cons, List.take_zero, List.drop_succ_cons, List.drop_zero]
            repeat still_step
            refine wpStill_nil ?_
            go_wp2_with fail
            refine (set_calls m L2 C2 ops[q].2.1 ops[q].2.2.1.1 ops[q].2.2.1.2 hr.drew).mono ?_
            rintro e w5 ⟨rfl, h6⟩
            go_wp2
            go_roundw
            case rel => exact ⟨q + 1, _, _, by omega, by omega, by go_num, half_set HH.out _ _, h6⟩
            case measure => simp [intOf]; omega
          · have hle2 := chTo_length L2 C2 L2.length
            have hless : Less (chgs L2 C2) := chgs_less L2 C2
            obtain ⟨ap1, ap2⟩ := apply_chgs HH.out
            have HA1 := hid ap1
            have HA2 := hid ap2
            have HLS := hless
            have hcl : (chgs L2 C2).length ≤ l.length := by
              have : (chgs L2 C2).length ≤ L2.length := hle2
              rw [HH.out.1, HL.out] at this
              exact this
            clear ap1 ap2 hle2 hless hcs hdiv hdiv2 hQ hO
            go_wp2_with fail
            refine (changes_calls m L2 C2 hr (by omega)).mono ?_
            generalize chgs L2 C2 = cs at HA1 HA2 HLS hcl ⊢
            rintro e w8 ⟨v, rfl, g10⟩
            obtain ⟨Ac, cc, rfl, _, _, _⟩ := g10.reads
            clear hr
            go_wp2_with fail
            go_loopw [10] (fun i wr => ∃ k : Nat, 1 ≤ k ∧ i = .int .i64 k ∧ (k ≤ cs.length ∨ k = 1) ∧ Sat E (row 46 3 (.slice Ac cs.length cc) cs.length (chs cs) * (pmap m L2 C2 * (pmap o L (List.replicate L.length false) * F))) wr) (fun i _ => cs.length - (intOf i).toNat)
            case atStart => exact ⟨1, by omega, rfl, .inr rfl, g10⟩
            case round =>
              clear g10
              obtain ⟨i, hi1, rfl, hi2, hr⟩ := hrel
              by_cases hil : i < cs.length
              · obtain ⟨j, rfl⟩ : ∃ j, i = j + 1 := ⟨i - 1, by omega⟩
                have hlt2 := HLS (j + 1) (by omega) hil
                simp only [Nat.add_sub_cancel] at hlt2
                obtain ⟨g, cg, e1, _, _⟩ := hr.row_head (by omega)
                injection e1 with e1 e2 e3
                subst e1
                clear e2 e3
                have a0 := (hr.row_cell ((j + 1) * 3) (by omega)).trans (chs_at hil).1
                have a1 := (hr.row_cell (j * 3) (by omega)).trans (chs_at (k := j) (by omega)).1
                have ej : ((j + 1 : Nat) : Int) - 1 = (j : Int) := by omega
                have ej2 : IntKind.i64.wrap (((j + 1 : Nat) : Int) - 1) = (j : Int) := by rw [ej]; exact i64_wrap (by omega) (by omega)
                have ej3 : IntKind.i64.wrap (j : Int) = (j : Int) := i64_wrap (by omega) (by omega)
                have hj1 : ((j : Int) + 1) < (cs.length : Int) := by omega
                have hj2 : (j : Int) < (cs.length : Int) := by omega
                have hno : ¬ cs[j + 1].1 ≤ cs[j].1 := by omega
                go_wp2_with fail
                go_quiet (fail)
                have hr3 := hr.drewN nq
                go_wp2
                go_roundw
                case rel => exact ⟨j + 1 + 1, by omega, by go_num, by omega, hr3⟩
                case measure => simp [intOf]; omega
              · have hno2 := chgs_none L2 L.length
                have HN2 := hid hno2
                have hcl2 : (cs.length : Int) ≤ (l.length : Int) := by omega
                clear hno2
                have hL2' : L2.length ≤ 100 := hL2
                go_wp2_with fail
                refine (first8 hr).mono ?_
                rintro e w9 ⟨rfl, s1⟩
                go_wp2_with fail
                refine (apply_calls o L _ Ac cc cs (s1.eq (show _ = pmap o L (List.replicate L.length false) * (row 46 3 (.slice Ac cs.length cc) cs.length (chs cs) * (pmap m L2 C2 * F)) by ac_rfl)) (fun w hw => hw.reads_at)).mono ?_
                rw [HA1.out, HA2.out]
                rintro e w10 ⟨rfl, s2⟩
                clear s1 hr
                go_wp2_with fail
                refine (all_calls o L2 _ s2 (by omega)).mono ?_
                rintro e w11 ⟨v1, rfl, s3⟩
                obtain ⟨A1, c1, rfl, _, _, _⟩ := s3.reads
                go_wp2_with fail
                refine (places_calls A1 c1 L2 s3 (by omega) (fun w hw => hw.reads_at)).mono ?_
                rintro e w12 ⟨v2, rfl, s4⟩
                obtain ⟨A2, c2, rfl, _, _, _⟩ := s4.reads
                go_wp2_with fail
                refine (all_calls m L2 C2 (s4.eq (show _ = pmap m L2 C2 * (row 83 2 (.slice A2 L2.length c2) L2.length (pairs L2) * (row 39 2 (.slice A1 L2.length c1) L2.length (pairs L2) * (pmap o L2 (List.replicate L.length false) * (row 46 3 (.slice Ac cs.length cc) cs.length (chs cs) * F)))) by ac_rfl)) (by omega)).mono ?_
                rintro e w13 ⟨v3, rfl, s5⟩
                obtain ⟨A3, c3, rfl, _, _, _⟩ := s5.reads
                go_wp2_with fail
                refine (places_calls A3 c3 L2 s5 (by omega) (fun w hw => hw.reads_at)).mono ?_
                rintro e w14 ⟨v4, rfl, s6⟩
                obtain ⟨A4, c4, rfl, _, _, rr4⟩ := s6.reads
                have rr2 := s6.right.right.right.reads_at
                go_wp2_with fail
                refine (samePlaces A2 A4 L2.length L2.length c2 c4 L2 L2 rr2 rr4).mono ?_
                rw [decide_eq_true (rfl : L2 = L2)]
                rintro e w15 ⟨rfl, nq, rfl⟩
                have s7 : Sat E (pmap o L2 (List.replicate L.length false) * (row 46 3 (.slice Ac cs.length cc) cs.length (chs cs) * F)) (w14.drewN nq) := (s6.drewN nq).right.right.right.right.right
                clear s6 s5 s4 s3 s2 rr2 rr4
                go_wp2_with fail
                refine (changes_calls o L2 _ s7 (by omega)).mono ?_
                rw [HN2.out]
                rintro e w16 ⟨v5, rfl, s8⟩
                obtain ⟨A5, c5, rfl, _, _, _⟩ := s8.reads
                have s9 := s8.right.right.right
                clear s8 s7
                go_wp2
                go_ret
                exact ⟨ret_bool (by first | rfl | (simp; omega)), s9⟩
  · go_wp2_with fail
    refine (first8 g2).mono ?_
    rintro e w3 ⟨rfl, g3⟩
    go_wp2
    go_ret
    exact ⟨rfl, g3⟩

set_option maxRecDepth 100000 in
set_option maxHeartbeats 1000000 in
theorem posBack {E w : World} {F : Asn} (A B : Option Addr) (ca cb : Nat) (l : List (Int × Int)) (ops : List POp) (hd : List Value) (hS : Sat E F w) (hR : ∀ w, Sat E F w → Reads w 2 A l.length (pairs l))
    (hQ : ∀ w, Sat E F w → Reads w 5 B ops.length hd) (hO : ∀ w, Sat E F w → OpsIn (Reads w 3) ops hd) :
    Calls Try.prog 9 #[.slice A l.length ca, .slice B ops.length cb] w fun e w' => e = .returned (.bool true) ∧ Sat E F w' := by
  by_cases hl : l.length ≤ 100
  · exact posBack_ok A B ca cb l ops hd hl hS hR hQ hO
  · go_enter Try.func9, Try.ntmps9
    go_wp2_with fail
    refine (first8 hS).mono ?_
    rintro e w1 ⟨rfl, g1⟩
    go_wp2_with fail
    refine (first8 g1).mono ?_
    rintro e w2 ⟨rfl, g2⟩
    go_wp2
    go_ret
    exact ⟨rfl, g2⟩
theorem OpsIn.keep {w w' : World} {l : List POp} {hd : List Value} (h : OpsIn (Reads w 3) l hd) (hk : ∀ k, k < w.heap.size → w'.heap[k]? = w.heap[k]?) : OpsIn (Reads w' 3) l hd := by
  intro i hi
  obtain ⟨a, b, c, d, B, e, f, g⟩ := h i hi
  exact ⟨a, b, c, d, B, e, f, g.keep hk⟩

theorem PosBack_walk (W : World) (a0 : Option Addr) (len0 cap0 : Nat) (l0 : (List (Int × Int))) (h0 : (decSlice 16 (decPair (decInt .i64) (decInt .i64))).rel W l0 [.slice a0 len0 cap0]) (a1 : Option Addr) (len1 cap1 : Nat) (l1 : (List (Int × (Int × ((Int × Int) × (List (Int × (Int × Int)))))))) (h1 : (decSlice 56 (decPair (decInt .i64) (decPair (decInt .i64) (decPair (decPair (decInt .i64) (decInt .i64)) (decSlice 24 (decPair (decInt .i64) (decPair (decInt .i64) (decInt .i64)))))))).rel W l1 [.slice a1 len1 cap1]) :
    Calls Try.prog 9 #[.slice a0 len0 cap0, .slice a1 len1 cap1] W fun e w' => e = .returned (.bool true) ∧ Below W.heap.size W w' := by
  obtain ⟨A, c, he, _, _, _, hR, hw⟩ := dec_pairs h0
  simp at he
  obtain ⟨rfl, rfl, rfl⟩ := he
  obtain ⟨B, d, hd, he, _, _, hQ, hO⟩ := dec_ops h1
  simp at he
  obtain ⟨rfl, rfl, rfl⟩ := he
  exact (posBack _ _ _ _ l0 l1 hd (Sat.start W) (fun w hs => hR.keep fun k hk => hs.old1 hk) (fun w hs => hQ.keep fun k hk => hs.old1 hk) (fun w hs => hO.keep fun k hk => hs.old1 hk)).mono fun e w' ⟨he, hs⟩ => ⟨he, hs.finish1⟩
end Go.Proofs.Ytedhcgeglmoacaa
