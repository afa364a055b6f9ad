import Derived.Test.YtedhcgeglmoacaaRound3
namespace Go.Proofs.Ytedhcgeglmoacaa
set_option linter.unusedVariables false
set_option linter.unusedSimpArgs false
open Go.RowKit Go.Proofs.Sep

/-- The marks of a round under way. -/
def marks (late : List Bool) (m : Nat) : List Bool := late ++ List.replicate (m - late.length) false
theorem marks_true {late : List Bool} {m : Nat} (h : late.length < m) : (marks late m).set late.length true = marks (late ++ [true]) m := by
  unfold marks
  rw [List.set_append, if_neg (by omega), Nat.sub_self, show m - late.length = (m - (late ++ [true]).length) + 1 by simp; omega, List.replicate_succ]
  simp
theorem marks_false {late : List Bool} {m : Nat} (h : late.length < m) : marks late m = marks (late ++ [false]) m := by
  unfold marks
  rw [show m - late.length = (m - (late ++ [false]).length) + 1 by simp; omega, List.replicate_succ]
  simp
theorem marks_full {late : List Bool} {m : Nat} (h : late.length = m) : marks late m = late := by
  unfold marks
  rw [h, Nat.sub_self]; simp

set_option maxRecDepth 100000 in
set_option maxHeartbeats 4000000 in
theorem rcollect_calls {E w : World} {F : Asn} (x : Int) (lim : Nat) (A B : Option Addr) (n c d : Nat) (hv : List Int) (l : List (List Int)) (hd : List Value) (hx : bnd x = lim) (hx2 : x ≤ 10000) (hS : Sat E F w) (hn : l.length ≤ 1000000) (hN : ∀ i (hi : i < l.length), l[i].length ≤ 1000000)
    (hR : ∀ w, Sat E F w → Reads w 1 A n (nums .i64 hv)) (hQ : ∀ w, Sat E F w → Reads w 1 B l.length hd) (hO : ∀ w, Sat E F w → NeedsIn w l hd) :
    Calls Try.prog 50 #[.int .i64 x, .slice A n c, .slice B l.length d] w fun e w' => ∃ v1 v2, e = .returned (.tuple #[v1, v2]) ∧ Sat E (row 3 1 v1 (coll lim hv l).1.length (nums .i64 (coll lim hv l).1) * (row 4 1 v2 l.length (bools (coll lim hv l).2) * F)) w' := by
  have hmx : (lim : Int) = max x 0 := by unfold bnd at hx; omega
  clear hx
  have hmk := fun w => run_make_row' (P := Try.prog) 88 4 (.bool false) 1 Try.underlying88 Try.info4 rfl .i64 .i64 l.length (by omega) (by omega) w
  have h4 := hS.row_made (.bool false) 4 l.length (by omega)
  rw [show List.replicate l.length (Value.bool false) = bools (marks [] l.length) by simp [bools, marks]] at h4
  have h5 : Sat E (row 3 1 (.slice none 0 0) 0 (nums .i64 []) * (row 4 1 (.slice (some ⟨w.heap.size, 0, none⟩) l.length l.length) l.length (bools (marks [] l.length)) * F)) _ := h4.row_nil
  have H5 := hid h5
  clear h4 h5
  go_enter Try.func50, Try.ntmps50
  go_wp2_with fail
  go_loopw [8, 10] (fun vo i wr => ∃ (k : Nat) (out : List Int) (late : List Bool), k ≤ l.length ∧ i = .int .i64 k ∧ Hid (coll lim hv (l.take k) = (out, late)) ∧ out.length ≤ lim ∧ Hid (late.length = k) ∧ Sat E (row 3 1 vo out.length (nums .i64 out) * (row 4 1 (.slice (some ⟨w.heap.size, 0, none⟩) l.length l.length) l.length (bools (marks late l.length)) * F)) wr) (fun _ i _ => l.length - (intOf i).toNat)
  case atStart => exact ⟨0, [], [], by omega, rfl, rfl, by simp, rfl, H5.out⟩
  case round =>
    clear H5
    obtain ⟨k, out, late, hk, rfl, hco, hil, hll, hr⟩ := hrel
    obtain ⟨Ao, co, rfl, _, _, hRo⟩ := hr.reads
    have hf := hr.right.right
    by_cases hlt : k < l.length
    · obtain ⟨ad, Ai, ci, rfl, q1, q2, q3⟩ := need_at hQ hO rfl hlt hf
      have hca := (q3 _ hf).1
      have hNk := hN k hlt
      have hkc := hid (coll_take (lim := lim) (hv := hv) hlt)
      have hkd : (k : Int) < (l.length : Int) := by omega
      obtain ⟨G, hG⟩ : ∃ G, (row 3 1 (.slice Ao out.length co) out.length (nums .i64 out) * (row 4 1 (.slice (some ⟨w.heap.size, 0, none⟩) l.length l.length) l.length (bools (marks late l.length)) * F)) = G := ⟨_, rfl⟩
      have hGF : ∀ w, Sat E G w → Sat E F w := fun w h => by rw [← hG] at h; exact h.right.right
      have hGO : ∀ w, Sat E G w → Reads w 1 Ao out.length (nums .i64 out) := fun w h => by rw [← hG] at h; exact h.reads_at
      rw [hG] at hr
      have HG := hid hG
      clear hG
      have h2 : Sat E (row 3 1 (.slice none 0 0) 0 (nums .i64 []) * G) wr := hr.row_nil
      go_wp2_with fail
      go_loopw [11, 12] (fun v i wr => ∃ (q : Nat) (t : List Int), q ≤ l[k].length ∧ i = .int .i64 q ∧ Hid (addTo hv out (l[k].take q) = out ++ t) ∧ t.length ≤ q ∧ Sat E (row 3 1 v t.length (nums .i64 t) * G) wr) (fun _ i _ => l[k].length - (intOf i).toNat)
      case atStart => exact ⟨0, [], by omega, rfl, (by simp [addTo] : addTo hv out (l[k].take 0) = out ++ []), by simp, h2⟩
      case round =>
        clear h2 hr hca
        obtain ⟨q, t, hq, rfl, hat, htl, hr2⟩ := hrel
        obtain ⟨Av, cv, rfl, _, _, hRv⟩ := hr2.reads
        have hf2 := hGF _ hr2.right
        have hRo2 := hGO _ hr2.right
        have hca := (q3 _ hf2).1
        by_cases hlq : q < l[k].length
        · obtain ⟨bd, rfl, hcq⟩ := (q3 _ hf2).2.at (by omega)
          have hcx := hcq q _ (nums_at hlq)
          have hst := hid ((addTo_take (hv := hv) (acc := out) hlq).trans (by rw [hat.out] : _ = addOne hv (out ++ t) (l[k][q])))
          have hRh := hR _ hf2
          clear hcq
          have hqd : (q : Int) < (l[k].length : Int) := by omega
          generalize hy : l[k][q] = y at *
          clear hy
          by_cases hx1 : y ∈ hv
          · have HD := hid (decide_eq_true hx1)
            have hs2 : addOne hv (out ++ t) y = out ++ t := by unfold addOne; rw [if_pos (.inl hx1)]
            have HS := hid (hst.out.trans hs2)
            clear hx1 hs2
            go_wp2_with fail
            refine (has_calls A n c hv y hRh).mono ?_
            rw [HD.out]
            rintro e w3 ⟨rfl, rfl⟩
            go_wp2
            go_roundw
            case rel => exact ⟨q + 1, t, by omega, by go_num, HS, by omega, hr2⟩
            case measure => simp [intOf]; omega
          · by_cases hx2 : y ∈ out
            · have HD := hid (decide_eq_false hx1)
              have HD2 := hid (decide_eq_true hx2)
              have hs2 : addOne hv (out ++ t) y = out ++ t := by unfold addOne; rw [if_pos (.inr (List.mem_append_left _ hx2))]
              have HS := hid (hst.out.trans hs2)
              clear hx1 hx2 hs2
              go_wp2_with fail
              refine (has_calls A n c hv y hRh).mono ?_
              rw [HD.out]
              rintro e w3 ⟨rfl, rfl⟩
              go_wp2_with fail
              refine (has_calls Ao out.length co out y hRo2).mono ?_
              rw [HD2.out]
              rintro e w3 ⟨rfl, rfl⟩
              go_wp2
              go_roundw
              case rel => exact ⟨q + 1, t, by omega, by go_num, HS, by omega, hr2⟩
              case measure => simp [intOf]; omega
            · by_cases hx3 : y ∈ t
              · have HD := hid (decide_eq_false hx1)
                have HD2 := hid (decide_eq_false hx2)
                have HD3 := hid (decide_eq_true hx3)
                have hs2 : addOne hv (out ++ t) y = out ++ t := by unfold addOne; rw [if_pos (.inr (List.mem_append_right _ hx3))]
                have HS := hid (hst.out.trans hs2)
                clear hx1 hx2 hx3 hs2
                go_wp2_with fail
                refine (has_calls A n c hv y hRh).mono ?_
                rw [HD.out]
                rintro e w3 ⟨rfl, rfl⟩
                go_wp2_with fail
                refine (has_calls Ao out.length co out y hRo2).mono ?_
                rw [HD2.out]
                rintro e w3 ⟨rfl, rfl⟩
                go_wp2_with fail
                refine (has_calls Av t.length cv t y hRv).mono ?_
                rw [HD3.out]
                rintro e w3 ⟨rfl, rfl⟩
                go_wp2
                go_roundw
                case rel => exact ⟨q + 1, t, by omega, by go_num, HS, by omega, hr2⟩
                case measure => simp [intOf]; omega
              · have HD := hid (decide_eq_false hx1)
                have HD2 := hid (decide_eq_false hx2)
                have HD3 := hid (decide_eq_false hx3)
                have hs2 : addOne hv (out ++ t) y = out ++ (t ++ [y]) := by
                  unfold addOne
                  rw [if_neg (fun h => h.elim hx1 (fun h => (List.mem_append.1 h).elim hx2 hx3)), List.append_assoc]
                have HS := hid (hst.out.trans hs2)
                have hny : nums .i64 t ++ [.int .i64 y] = nums .i64 (t ++ [y]) := by rw [nums_append]; rfl
                have hnl : t.length + 1 = (t ++ [y]).length := by simp
                have HN := hid hny
                have HL := hid hnl
                clear hx1 hx2 hx3 hs2 hny hnl
                go_wp2_with fail
                refine (has_calls A n c hv y hRh).mono ?_
                rw [HD.out]
                rintro e w3 ⟨rfl, rfl⟩
                go_wp2_with fail
                refine (has_calls Ao out.length co out y hRo2).mono ?_
                rw [HD2.out]
                rintro e w3 ⟨rfl, rfl⟩
                go_wp2_with fail
                refine (has_calls Av t.length cv t y hRv).mono ?_
                rw [HD3.out]
                rintro e w3 ⟨rfl, rfl⟩
                go_wp2_with (at_builtin; refine wpList_append_sat rfl _ _ 22 3 (.int .i64 0) 1 8 rfl Try.underlying22 Try.info3 rfl (by decide) _ t.length _ _ 1 1 [.int .i64 y] rfl rfl (hr2.alloc_drop _) (Reads.new 1 1 [.int .i64 y] 3 rfl (by omega)) (by simp [Value.oneCell']) (by unfold maxLen; omega) (by omega) ?_; intro v1 w6 h6)
                rw [HN.out, HL.out] at h6
                go_wp2
                go_roundw
                case rel => exact ⟨q + 1, t ++ [y], by omega, by go_num, HS, by simp; omega, h6⟩
                case measure => simp [intOf]; omega
        · have hat2 : addTo hv out l[k] = out ++ t := by have := hat.out; rwa [List.take_of_length_le (by omega)] at this
          have hone : coll lim hv (l.take (k + 1)) = if lim < (out ++ t).length then (out, late ++ [true]) else (out ++ t, late ++ [false]) := by
            rw [hkc.out, hco.out]; unfold collOne; simp only [hat2]
          have HO := hid hone
          clear hat2 hone
          rw [← HG.out] at hr2
          have hlat : late.length = k := hll.out
          have wa := i64_wrap (x := (out.length : Int) + (t.length : Int)) (by omega) (by omega)
          by_cases hlate : lim < (out ++ t).length
          · have HO2 : Hid (coll lim hv (l.take (k + 1)) = (out, late ++ [true])) := HO.out.trans (if_pos hlate)
            have HLL : Hid ((late ++ [true]).length = k + 1) := by show _ = _; rw [List.length_append, hlat]; rfl
            rw [List.length_append] at hlate
            have g1 : (0 : Int) < (t.length : Int) := by omega
            have g2 : x < (out.length : Int) + (t.length : Int) := by omega
            have h6 : Sat E (row 4 1 (.slice (some ⟨w.heap.size, 0, none⟩) l.length l.length) l.length (bools (marks late l.length)) * (row 3 1 (.slice Ao out.length co) out.length (nums .i64 out) * F)) wr := hr2.right.eq (by ac_rfl)
            have f1 := h6.row_free k
            have lt1 := h6.row_lt
            obtain ⟨uv, d1⟩ : ∃ uv, wr.cell? ⟨w.heap.size, k, none⟩ = some (.bool uv) := ⟨_, (h6.row_cell k (by omega)).trans (bools_at (by simp [marks]; omega))⟩
            have h7 := h6.row_store k (.bool true)
            rw [show (bools (marks late l.length)).set k (.bool true) = bools (marks (late ++ [true]) l.length) by rw [← marks_true (by omega), hlat]; simp [bools, List.map_set]] at h7
            have H7 := hid h7
            clear hr2 h7 h6 hll hlat
            go_wp2
            go_roundw
            case rel => exact ⟨k + 1, out, late ++ [true], by omega, by go_num, HO2, by omega, HLL, H7.out.eq (star_left_comm _ _ _)⟩
            case measure => simp [intOf]; omega
          · have HO2 : Hid (coll lim hv (l.take (k + 1)) = (out ++ t, late ++ [false])) := HO.out.trans (if_neg hlate)
            have HLL : Hid ((late ++ [false]).length = k + 1) := by show _ = _; rw [List.length_append, hlat]; rfl
            have hlm : marks late l.length = marks (late ++ [false]) l.length := marks_false (by omega)
            rw [List.length_append] at hlate
            have hnl : out.length + t.length = (out ++ t).length := by simp
            have hny : nums .i64 out ++ nums .i64 t = nums .i64 (out ++ t) := (nums_append ..).symm
            have HN := hid hny
            have HL := hid hnl
            have HM := hid hlm
            have h6 : Sat E (row 3 1 (.slice Ao out.length co) out.length (nums .i64 out) * (row 3 1 (.slice Av t.length cv) t.length (nums .i64 t) * (row 4 1 (.slice (some ⟨w.heap.size, 0, none⟩) l.length l.length) l.length (bools (marks late l.length)) * F))) wr := hr2.eq (by ac_rfl)
            clear hny hnl hlm hll hlat
            by_cases g1 : (0 : Int) < (t.length : Int)
            · have g2 : ¬ x < (out.length : Int) + (t.length : Int) := by omega
              go_wp2_with (at_builtin; refine wpList_append_sat rfl _ _ 22 3 (.int .i64 0) 1 8 rfl Try.underlying22 Try.info3 rfl (by decide) _ out.length _ Av t.length cv (nums .i64 t) rfl rfl h6 h6.right.reads_at (nums_one _ _) (by unfold maxLen; omega) (by omega) ?_; intro v1 w6 h7)
              rw [HN.out, HL.out] at h7
              go_wp2
              go_roundw
              case rel => exact ⟨k + 1, out ++ t, late ++ [false], by omega, by go_num, HO2, by rw [← HL.out]; omega, HLL, by rw [← HM.out]; exact h7.drop_mid⟩
              case measure => simp [intOf]; omega
            · go_wp2_with (at_builtin; refine wpList_append_sat rfl _ _ 22 3 (.int .i64 0) 1 8 rfl Try.underlying22 Try.info3 rfl (by decide) _ out.length _ Av t.length cv (nums .i64 t) rfl rfl h6 h6.right.reads_at (nums_one _ _) (by unfold maxLen; omega) (by omega) ?_; intro v1 w6 h7)
              rw [HN.out, HL.out] at h7
              go_wp2
              go_roundw
              case rel => exact ⟨k + 1, out ++ t, late ++ [false], by omega, by go_num, HO2, by rw [← HL.out]; omega, HLL, by rw [← HM.out]; exact h7.drop_mid⟩
              case measure => simp [intOf]; omega
    · obtain rfl : k = l.length := by omega
      have hco2 := hco.out
      rw [List.take_of_length_le (Nat.le_refl _)] at hco2
      rw [marks_full hll.out] at hr
      have HC := hid hco2
      clear hco2 hco
      go_wp2
      go_ret2
      refine ⟨_, _, rfl, ?_⟩
      rw [HC.out]
      exact hr

theorem nil_reads (w : World) (xs : List Value) (size : Nat) (h : xs = []) : Reads w size none 0 xs := by
  subst h
  exact ⟨by simp, by omega, fun _ => rfl, fun _ h => by cases h⟩
end Go.Proofs.Ytedhcgeglmoacaa
