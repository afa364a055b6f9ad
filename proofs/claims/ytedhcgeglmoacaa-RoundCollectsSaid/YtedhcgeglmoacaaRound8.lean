import Derived.Test.YtedhcgeglmoacaaRound7
namespace Go.Proofs.Ytedhcgeglmoacaa
set_option linter.unusedVariables false
set_option linter.unusedSimpArgs false
open Go.RowKit Go.Proofs.Sep

theorem lacks_take {hv need : List Int} {q : Nat} (h : q < need.length) : lacks hv (need.take (q + 1)) = (lacks hv (need.take q) || decide (need[q] ∉ hv)) := by
  unfold lacks
  rw [List.take_add_one, List.getElem?_eq_getElem h, Option.toList_some, List.any_append]
  simp

set_option maxRecDepth 100000 in
set_option maxHeartbeats 4000000 in
theorem roundAll_ok {E w : World} {F : Asn} (A B : Option Addr) (n ca cb : Nat) (hv : List Int) (l : List (List Int)) (hd : List Value) (hn : n ≤ 200) (hS : Sat E F w)
    (hR : ∀ w, Sat E F w → Reads w 1 A n (nums .i64 hv)) (hQ : ∀ w, Sat E F w → Reads w 1 B l.length hd) (hO : ∀ w, Sat E F w → NeedsIn w l hd) :
    Calls Try.prog 13 #[.slice A n ca, .slice B l.length cb] w fun e w' => e = .returned (.bool true) ∧ Sat E F w' := by
  have hf4 : ¬ (200 : Int) < (n : Int) := by omega
  go_enter Try.func13, Try.ntmps13
  go_wp2_with fail
  refine (first21 hS).mono ?_
  rintro e w1 ⟨rfl, g1⟩
  go_wp2_with fail
  refine (few21 B cb l hd g1 hQ hO).mono ?_
  rintro e w2 ⟨⟨rfl, hl1, hl2⟩ | rfl, g2⟩
  · have hNl : ∀ i (hi : i < l.length), l[i].length ≤ 2000 := fun i hi => by have := le_sumLen l i hi; omega
    have hwl : ∀ k, k ≤ l.length → (wantOf hv (l.take k)).length ≤ 2000 := fun k hk => by
      have h1 := wantOf_length hv l k hk
      have h2 := sumLen_take_le l k hk
      omega
    clear g1 hS
    go_wp2_with fail
    go_loopw [5, 6] (fun v i wr => ∃ k : Nat, k ≤ l.length ∧ i = .int .i64 k ∧ Sat E (row 3 1 v (wantOf hv (l.take k)).length (nums .i64 (wantOf hv (l.take k))) * F) wr) (fun _ i _ => l.length - (intOf i).toNat)
    case atStart => exact ⟨0, by omega, rfl, g2.row_nil⟩
    case round =>
      clear g2
      obtain ⟨k, hk, rfl, hr⟩ := hrel
      by_cases hlt : k < l.length
      · obtain ⟨ad, Ai, ci, rfl, q1, q2, q3⟩ := need_at hQ hO rfl hlt hr.right
        have hNk := hNl k hlt
        have hkd : (k : Int) < (l.length : Int) := by omega
        have hwk := hwl k hk
        have hnx := hid (wantOf_take (hv := hv) hlt)
        generalize hwa : wantOf hv (l.take k) = wa at *
        clear hwa
        go_wp2_with fail
        go_loopw [5, 7] (fun v i wr => ∃ (q : Nat) (t : List Int), q ≤ l[k].length ∧ i = .int .i64 q ∧ Hid (addTo hv wa (l[k].take q) = t) ∧ t.length ≤ 2000 + q ∧ Sat E (row 3 1 v t.length (nums .i64 t) * F) wr) (fun _ i _ => l[k].length - (intOf i).toNat)
        case atStart => exact ⟨0, wa, by omega, rfl, rfl, by omega, hr⟩
        case round =>
          clear hr
          obtain ⟨q, t, hq, rfl, hat, htl, hr2⟩ := hrel
          obtain ⟨Av, cv, rfl, _, _, hRv⟩ := hr2.reads
          have hca := (q3 _ hr2.right).1
          by_cases hlq : q < l[k].length
          · obtain ⟨bd, hbd, hcq⟩ := (q3 _ hr2.right).2.at (by omega)
            subst hbd
            have hcx := hcq q _ (nums_at hlq)
            have hst := hid ((addTo_take (hv := hv) (acc := wa) hlq).trans (by rw [hat.out] : _ = addOne hv t (l[k][q])))
            have hRh := hR _ hr2.right
            clear hcq
            have hqd : (q : Int) < (l[k].length : Int) := by omega
            generalize hy : l[k][q] = y at *
            clear hy
            by_cases hx1 : y ∈ hv
            · have HD := hid (decide_eq_true hx1)
              have hs2 : addOne hv t y = t := by unfold addOne; rw [if_pos (.inl hx1)]
              have HS := hid (hst.out.trans hs2)
              clear hx1 hs2
              go_wp2_with fail
              refine (has_calls A n ca hv y hRh).mono ?_
              rw [HD.out]
              rintro e w3 ⟨rfl, rfl⟩
              go_wp2
              go_roundw
              case rel => exact ⟨q + 1, t, by omega, by go_num, HS, by omega, hr2⟩
              case measure => simp [intOf]; omega
            · by_cases hx2 : y ∈ t
              · have HD := hid (decide_eq_false hx1)
                have HD2 := hid (decide_eq_true hx2)
                have hs2 : addOne hv t y = t := by unfold addOne; rw [if_pos (.inr hx2)]
                have HS := hid (hst.out.trans hs2)
                clear hx1 hx2 hs2
                go_wp2_with fail
                refine (has_calls A n ca hv y hRh).mono ?_
                rw [HD.out]
                rintro e w3 ⟨rfl, rfl⟩
                go_wp2_with fail
                refine (has_calls Av t.length cv t y hRv).mono ?_
                rw [HD2.out]
                rintro e w3 ⟨rfl, rfl⟩
                go_wp2
                go_roundw
                case rel => exact ⟨q + 1, t, by omega, by go_num, HS, by omega, hr2⟩
                case measure => simp [intOf]; omega
              · have HD := hid (decide_eq_false hx1)
                have HD2 := hid (decide_eq_false hx2)
                have hs2 : addOne hv t y = t ++ [y] := by unfold addOne; rw [if_neg (fun h => h.elim hx1 hx2)]
                have HS := hid (hst.out.trans hs2)
                have hny : nums .i64 t ++ [.int .i64 y] = nums .i64 (t ++ [y]) := by rw [nums_append]; rfl
                have hnl : t.length + 1 = (t ++ [y]).length := by simp
                have HN := hid hny
                have HL := hid hnl
                clear hx1 hx2 hs2 hny hnl
                go_wp2_with fail
                refine (has_calls A n ca hv y hRh).mono ?_
                rw [HD.out]
                rintro e w3 ⟨rfl, rfl⟩
                go_wp2_with fail
                refine (has_calls Av t.length cv t y hRv).mono ?_
                rw [HD2.out]
                rintro e w3 ⟨rfl, rfl⟩
                go_wp2_with (at_builtin; refine wpList_append_sat rfl _ _ 22 3 (.int .i64 0) 1 8 rfl Try.underlying22 Try.info3 rfl (by decide) _ t.length _ _ 1 1 [.int .i64 y] rfl rfl (hr2.alloc_drop _) (Reads.new 1 1 [.int .i64 y] 3 rfl (by omega)) (by simp [Value.oneCell']) (by unfold maxLen; omega) (by omega) ?_; intro v1 w6 h6)
                rw [HN.out, HL.out] at h6
                go_wp2
                go_roundw
                case rel => exact ⟨q + 1, t ++ [y], by omega, by go_num, HS, by simp; omega, h6⟩
                case measure => simp [intOf]; omega
          · have hat2 : wantOf hv (l.take (k + 1)) = t := by
              have := hat.out
              rw [List.take_of_length_le (by omega)] at this
              exact hnx.out.trans this
            have HA2 := hid hat2
            clear hat2
            go_wp2
            go_roundw
            case rel => exact ⟨k + 1, by omega, by go_num, by rw [HA2.out]; exact hr2⟩
            case measure => simp [intOf]; omega
      · obtain rfl : k = l.length := by omega
        have hwk := hwl l.length (Nat.le_refl _)
        have hroom := coll_room 2000 hv l hl2 l.length (Nat.le_refl _)
        have hnone := coll_none hv l l.length (Nat.le_refl _)
        rw [List.take_length] at hr hwk hroom hnone
        clear hwl
        have hc : ∀ (x : Int) (lim : Nat) (hb : bnd x = lim) (w : World) (G : Asn) (hG : ∀ w, Sat E G w → Sat E F w), Sat E G w → Calls Try.prog 49 #[.int .i64 x, .slice A n ca, .slice B l.length cb] w fun e w' => ∃ v1 v2, e = .returned (.agg #[v1, v2]) ∧ Sat E (row 3 1 v1 (coll lim hv l).1.length (nums .i64 (coll lim hv l).1) * (row 4 1 v2 l.length (bools (coll lim hv l).2) * G)) w' := fun x lim hb w G hG hS =>
          collect_calls x lim A B n ca cb hv l hd hb hS (by omega) (fun i hi => by have := hNl i hi; omega) (fun w h => hR w (hG w h)) (fun w h => hQ w (hG w h)) (fun w h => hO w (hG w h))
        obtain ⟨Aw, cw, rfl, _, _, _⟩ := hr.reads
        go_wp2_with fail
        refine (hc 2000 2000 (by decide) wr _ (fun w h => h.right) hr).mono ?_
        rw [hroom]
        clear hroom
        rintro e w3 ⟨v1, v2, rfl, g3⟩
        dsimp only at g3
        generalize wantOf hv l = want at *
        obtain ⟨A1, c1, rfl, hc1, _, _⟩ := g3.reads
        obtain ⟨A2, c2, rfl, _, _, _⟩ := g3.right.reads
        have g4 := g3.alloc (.cells #[.slice A1 want.length c1, .slice A2 l.length c2] 96)
        clear g3 hr
        go_wp2_with fail
        refine (hc 0 0 (by decide) _ _ (fun w h => h.right.right.right.right) g4).mono ?_
        rw [hnone]
        clear hnone
        rintro e w4 ⟨v3, v4, rfl, g5⟩
        dsimp only [List.length_nil] at g5
        obtain ⟨A3, c3, rfl, _, _, _⟩ := g5.reads
        obtain ⟨A4, c4, rfl, _, _, _⟩ := g5.right.reads
        have g6 := g5.alloc (.cells #[.slice A3 0 c3, .slice A4 l.length c4] 96)
        clear g5 g4
        have en1 : ∀ {w}, Sat E (blk w4.heap.size (.cells #[.slice A3 0 c3, .slice A4 l.length c4] 96) * (row 3 1 (.slice A3 0 c3) 0 (nums .i64 []) * (row 4 1 (.slice A4 l.length c4) l.length (bools (l.map (lacks hv))) * (blk w3.heap.size (.cells #[.slice A1 want.length c1, .slice A2 l.length c2] 96) * (row 3 1 (.slice A1 want.length c1) want.length (nums .i64 want) * (row 4 1 (.slice A2 l.length c2) l.length (bools (List.replicate l.length false)) * (row 3 1 (.slice Aw want.length cw) want.length (nums .i64 want) * F))))))) w → w.cell? ⟨w4.heap.size, 0, none⟩ = some (.slice A3 0 c3) := fun h => h.cell_blk
        have en2 : ∀ {w}, Sat E (blk w4.heap.size (.cells #[.slice A3 0 c3, .slice A4 l.length c4] 96) * (row 3 1 (.slice A3 0 c3) 0 (nums .i64 []) * (row 4 1 (.slice A4 l.length c4) l.length (bools (l.map (lacks hv))) * (blk w3.heap.size (.cells #[.slice A1 want.length c1, .slice A2 l.length c2] 96) * (row 3 1 (.slice A1 want.length c1) want.length (nums .i64 want) * (row 4 1 (.slice A2 l.length c2) l.length (bools (List.replicate l.length false)) * (row 3 1 (.slice Aw want.length cw) want.length (nums .i64 want) * F))))))) w → w.cell? ⟨w4.heap.size, 1, none⟩ = some (.slice A4 l.length c4) := fun h => h.cell_blk
        have eb1 : ∀ {w}, Sat E (blk w4.heap.size (.cells #[.slice A3 0 c3, .slice A4 l.length c4] 96) * (row 3 1 (.slice A3 0 c3) 0 (nums .i64 []) * (row 4 1 (.slice A4 l.length c4) l.length (bools (l.map (lacks hv))) * (blk w3.heap.size (.cells #[.slice A1 want.length c1, .slice A2 l.length c2] 96) * (row 3 1 (.slice A1 want.length c1) want.length (nums .i64 want) * (row 4 1 (.slice A2 l.length c2) l.length (bools (List.replicate l.length false)) * (row 3 1 (.slice Aw want.length cw) want.length (nums .i64 want) * F))))))) w → w.cell? ⟨w3.heap.size, 0, none⟩ = some (.slice A1 want.length c1) := fun h => h.right.right.right.cell_blk
        have eb2 : ∀ {w}, Sat E (blk w4.heap.size (.cells #[.slice A3 0 c3, .slice A4 l.length c4] 96) * (row 3 1 (.slice A3 0 c3) 0 (nums .i64 []) * (row 4 1 (.slice A4 l.length c4) l.length (bools (l.map (lacks hv))) * (blk w3.heap.size (.cells #[.slice A1 want.length c1, .slice A2 l.length c2] 96) * (row 3 1 (.slice A1 want.length c1) want.length (nums .i64 want) * (row 4 1 (.slice A2 l.length c2) l.length (bools (List.replicate l.length false)) * (row 3 1 (.slice Aw want.length cw) want.length (nums .i64 want) * F))))))) w → w.cell? ⟨w3.heap.size, 1, none⟩ = some (.slice A2 l.length c2) := fun h => h.right.right.right.cell_blk
        have eN : ∀ {w}, Sat E (blk w4.heap.size (.cells #[.slice A3 0 c3, .slice A4 l.length c4] 96) * (row 3 1 (.slice A3 0 c3) 0 (nums .i64 []) * (row 4 1 (.slice A4 l.length c4) l.length (bools (l.map (lacks hv))) * (blk w3.heap.size (.cells #[.slice A1 want.length c1, .slice A2 l.length c2] 96) * (row 3 1 (.slice A1 want.length c1) want.length (nums .i64 want) * (row 4 1 (.slice A2 l.length c2) l.length (bools (List.replicate l.length false)) * (row 3 1 (.slice Aw want.length cw) want.length (nums .i64 want) * F))))))) w → Reads w 1 A4 l.length (bools (l.map (lacks hv))) := fun h => h.right.right.reads_at
        have eI : ∀ {w}, Sat E (blk w4.heap.size (.cells #[.slice A3 0 c3, .slice A4 l.length c4] 96) * (row 3 1 (.slice A3 0 c3) 0 (nums .i64 []) * (row 4 1 (.slice A4 l.length c4) l.length (bools (l.map (lacks hv))) * (blk w3.heap.size (.cells #[.slice A1 want.length c1, .slice A2 l.length c2] 96) * (row 3 1 (.slice A1 want.length c1) want.length (nums .i64 want) * (row 4 1 (.slice A2 l.length c2) l.length (bools (List.replicate l.length false)) * (row 3 1 (.slice Aw want.length cw) want.length (nums .i64 want) * F))))))) w → Reads w 1 A1 want.length (nums .i64 want) := fun h => h.right.right.right.right.reads_at
        have eL : ∀ {w}, Sat E (blk w4.heap.size (.cells #[.slice A3 0 c3, .slice A4 l.length c4] 96) * (row 3 1 (.slice A3 0 c3) 0 (nums .i64 []) * (row 4 1 (.slice A4 l.length c4) l.length (bools (l.map (lacks hv))) * (blk w3.heap.size (.cells #[.slice A1 want.length c1, .slice A2 l.length c2] 96) * (row 3 1 (.slice A1 want.length c1) want.length (nums .i64 want) * (row 4 1 (.slice A2 l.length c2) l.length (bools (List.replicate l.length false)) * (row 3 1 (.slice Aw want.length cw) want.length (nums .i64 want) * F))))))) w → Reads w 1 A2 l.length (bools (List.replicate l.length false)) := fun h => h.right.right.right.right.right.reads_at
        have eW : ∀ {w}, Sat E (blk w4.heap.size (.cells #[.slice A3 0 c3, .slice A4 l.length c4] 96) * (row 3 1 (.slice A3 0 c3) 0 (nums .i64 []) * (row 4 1 (.slice A4 l.length c4) l.length (bools (l.map (lacks hv))) * (blk w3.heap.size (.cells #[.slice A1 want.length c1, .slice A2 l.length c2] 96) * (row 3 1 (.slice A1 want.length c1) want.length (nums .i64 want) * (row 4 1 (.slice A2 l.length c2) l.length (bools (List.replicate l.length false)) * (row 3 1 (.slice Aw want.length cw) want.length (nums .i64 want) * F))))))) w → Reads w 1 Aw want.length (nums .i64 want) := fun h => h.right.right.right.right.right.right.reads_at
        have eF : ∀ {w}, Sat E (blk w4.heap.size (.cells #[.slice A3 0 c3, .slice A4 l.length c4] 96) * (row 3 1 (.slice A3 0 c3) 0 (nums .i64 []) * (row 4 1 (.slice A4 l.length c4) l.length (bools (l.map (lacks hv))) * (blk w3.heap.size (.cells #[.slice A1 want.length c1, .slice A2 l.length c2] 96) * (row 3 1 (.slice A1 want.length c1) want.length (nums .i64 want) * (row 4 1 (.slice A2 l.length c2) l.length (bools (List.replicate l.length false)) * (row 3 1 (.slice Aw want.length cw) want.length (nums .i64 want) * F))))))) w → Sat E F w := fun h => h.right.right.right.right.right.right.right
        generalize hX : blk w4.heap.size (.cells #[.slice A3 0 c3, .slice A4 l.length c4] 96) * (row 3 1 (.slice A3 0 c3) 0 (nums .i64 []) * (row 4 1 (.slice A4 l.length c4) l.length (bools (l.map (lacks hv))) * (blk w3.heap.size (.cells #[.slice A1 want.length c1, .slice A2 l.length c2] 96) * (row 3 1 (.slice A1 want.length c1) want.length (nums .i64 want) * (row 4 1 (.slice A2 l.length c2) l.length (bools (List.replicate l.length false)) * (row 3 1 (.slice Aw want.length cw) want.length (nums .i64 want) * F)))))) = X at *
        clear hX hc hNl
        go_wp2_with fail
        go_loopw [10] (fun i wr => ∃ k : Nat, k ≤ l.length ∧ i = .int .i64 k ∧ Sat E X wr) (fun i _ => l.length - (intOf i).toNat)
        case atStart => exact ⟨0, by omega, rfl, g6⟩
        case round =>
          clear g6 hk hlt
          obtain ⟨k, hk, rfl, hr⟩ := hrel
          by_cases hlt : k < l.length
          · obtain ⟨ad, Ai, ci, rfl, q1, q2, q3⟩ := need_at hQ hO rfl hlt (eF hr)
            have hkd : (k : Int) < (l.length : Int) := by omega
            go_wp2_with fail
            go_loopw [11, 12] (fun lb i wr => ∃ (q : Nat) (b : Bool), q ≤ l[k].length ∧ i = .int .i64 q ∧ Hid (lacks hv (l[k].take q) = b) ∧ lb = .bool b ∧ Sat E X wr) (fun _ i _ => l[k].length - (intOf i).toNat)
            case atStart => exact ⟨0, false, by omega, rfl, rfl, rfl, hr⟩
            case round =>
              clear hr
              obtain ⟨q, b, hq, rfl, hlb, rfl, hr2⟩ := hrel
              have hca := (q3 _ (eF hr2)).1
              by_cases hlq : q < l[k].length
              · have hqd : (q : Int) < (l[k].length : Int) := by omega
                have hst := hid (lacks_take (hv := hv) hlq)
                cases b with
                | true =>
                  have HS : Hid (lacks hv (l[k].take (q + 1)) = true) := by show _ = _; rw [hst.out, hlb.out]; rfl
                  go_wp2
                  go_roundw
                  case rel => exact ⟨q + 1, true, by omega, by go_num, HS, rfl, hr2⟩
                  case measure => simp [intOf]; omega
                | false =>
                  obtain ⟨bd, hbd, hcq⟩ := (q3 _ (eF hr2)).2.at (by omega)
                  subst hbd
                  have hcx := hcq q _ (nums_at hlq)
                  have hRh := hR _ (eF hr2)
                  clear hcq
                  generalize hy : l[k][q] = y at *
                  clear hy
                  by_cases hx1 : y ∈ hv
                  · have HD := hid (decide_eq_true hx1)
                    have HS : Hid (lacks hv (l[k].take (q + 1)) = false) := by show _ = _; rw [hst.out, hlb.out]; simp [hx1]
                    clear hx1
                    go_wp2_with fail
                    refine (has_calls A n ca hv y hRh).mono ?_
                    rw [HD.out]
                    rintro e w5 ⟨rfl, rfl⟩
                    go_wp2
                    go_roundw
                    case rel => exact ⟨q + 1, false, by omega, by go_num, HS, rfl, hr2⟩
                    case measure => simp [intOf]; omega
                  · have HD := hid (decide_eq_false hx1)
                    have HS : Hid (lacks hv (l[k].take (q + 1)) = true) := by show _ = _; rw [hst.out, hlb.out]; simp [hx1]
                    clear hx1
                    go_wp2_with fail
                    refine (has_calls A n ca hv y hRh).mono ?_
                    rw [HD.out]
                    rintro e w5 ⟨rfl, rfl⟩
                    go_wp2
                    go_roundw
                    case rel => exact ⟨q + 1, true, by omega, by go_num, HS, rfl, hr2⟩
                    case measure => simp [intOf]; omega
              · have hlb2 : lacks hv l[k] = b := by have := hlb.out; rwa [List.take_of_length_le (by omega)] at this
                obtain ⟨a2, hA2, hcl⟩ := (eL hr2).at (by omega)
                obtain ⟨a4, hA4, hcn⟩ := (eN hr2).at (by omega)
                subst hA2 hA4
                have z2 := hcl k (.bool false) (by rw [bools_at (by simpa using hlt), List.getElem_replicate])
                have z4 := hcn k (.bool b) (by rw [bools_at (by simpa using hlt), List.getElem_map, hlb2])
                have y1 := eb2 hr2
                have y2 := en2 hr2
                clear hcl hcn hlb2
                cases b with
                | true =>
                  go_wp2
                  go_roundw
                  case rel => exact ⟨k + 1, by omega, by go_num, hr2⟩
                  case measure => simp [intOf]; omega
                | false =>
                  go_wp2
                  go_roundw
                  case rel => exact ⟨k + 1, by omega, by go_num, hr2⟩
                  case measure => simp [intOf]; omega
          · go_wp2_with fail
            refine (first21 hr).mono ?_
            rintro e w6 ⟨rfl, h6⟩
            have y1 := eb1 h6
            go_wp2_with fail
            refine (ints_sat A1 Aw want.length want.length c1 cw want want h6 (eI h6) (eW h6)).mono ?_
            rw [decide_eq_true (rfl : want = want)]
            rintro e w7 ⟨rfl, h7⟩
            have y2 := en1 h7
            have h8 := eF h7
            go_wp2
            go_ret
            exact ⟨rfl, h8⟩
  · go_wp2_with fail
    refine (first21 g2).mono ?_
    rintro e w3 ⟨rfl, g3⟩
    go_wp2
    go_ret
    exact ⟨rfl, g3⟩
end Go.Proofs.Ytedhcgeglmoacaa
