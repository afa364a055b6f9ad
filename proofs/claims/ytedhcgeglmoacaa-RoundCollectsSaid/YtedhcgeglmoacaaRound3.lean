import Derived.Test.YtedhcgeglmoacaaRound2
namespace Go.Proofs.Ytedhcgeglmoacaa
set_option linter.unusedVariables false
set_option linter.unusedSimpArgs false
open Go.RowKit Go.Proofs.Sep
theorem Try.info22 : (Try.prog.info? 22).map (fun i => (i.zero, i.size, i.bytes)) = some (some (.slice none 0 0), 1, 24) := by kernel_rfl

/-- What the cells of a slice of needs hold. -/
def NeedsIn (w : World) (l : List (List Int)) (hd : List Value) : Prop := ∀ i (hi : i < l.length), ∃ Ai ci, hd[i]? = some (.slice Ai l[i].length ci) ∧ l[i].length ≤ ci ∧ Reads w 1 Ai l[i].length (nums .i64 l[i])
theorem NeedsIn.keep {w w' : World} {l : List (List Int)} {hd : List Value} (h : NeedsIn w l hd) (hk : ∀ k, k < w.heap.size → w'.heap[k]? = w.heap[k]?) : NeedsIn w' l hd := by
  intro i hi
  obtain ⟨Ai, ci, e1, e2, e3⟩ := h i hi
  exact ⟨Ai, ci, e1, e2, e3.keep hk⟩
theorem dec_lists {b1 b2 : Nat} {w : World} {l : List (List Int)} {cs : List Value} (h : (decSlice b1 (decSlice b2 (decInt .i64))).rel w l cs) :
    ∃ A c hd, cs = [.slice A l.length c] ∧ l.length ≤ c ∧ c ≤ maxLen ∧ Reads w 1 A l.length hd ∧ NeedsIn w l hd := by
  obtain ⟨A, c, css, h0, h1, h2, h3, h4, h5, h6⟩ := h
  refine ⟨A, c, css.flatten, h0, h1, h2, h6, ?_⟩
  intro i hi
  obtain ⟨Ai, ci, e, q1, q2, q3, q4, q5⟩ := dec_ints (h5 i hi (by omega))
  refine ⟨Ai, ci, ?_, q1, q4⟩
  have hall : ∀ c ∈ css, c.length = 1 := by
    intro c hc
    obtain ⟨j, hj, rfl⟩ := List.getElem_of_mem hc
    obtain ⟨A2, c2, e2, _⟩ := dec_ints (h5 j (by omega) hj)
    rw [e2]; rfl
  have := flatten_at hall i 0 (by omega) (by omega)
  rw [Nat.mul_one, Nat.add_zero, e] at this
  simpa using this
/-- The cell of the k-th need, and what it reads. -/
theorem need_at {E : World} {F : Asn} {A : Option Addr} {m : Nat} {l : List (List Int)} {hd : List Value} (hQ : ∀ w, Sat E F w → Reads w 1 A m hd) (hO : ∀ w, Sat E F w → NeedsIn w l hd) (hm : m = l.length) {k : Nat} (hk : k < l.length) {w0 : World} (h0 : Sat E F w0) :
    ∃ ad Ai ci, A = some ad ∧ l[k].length ≤ ci ∧ l[k].length ≤ 9223372036854775807 ∧ ∀ w, Sat E F w → w.cell? (ad.add k) = some (.slice Ai l[k].length ci) ∧ Reads w 1 Ai l[k].length (nums .i64 l[k]) := by
  obtain ⟨ad, hA, _⟩ := (hQ _ h0).at (by omega)
  obtain ⟨Ai, ci, e1, e2, e3⟩ := hO _ h0 k hk
  refine ⟨ad, Ai, ci, hA, e2, e3.2.1, fun w hw => ?_⟩
  obtain ⟨Aj, cj, f1, f2, f3⟩ := hO _ hw k hk
  rw [e1] at f1
  injection f1 with f1
  injection f1 with f1 _ f4
  subst f1
  exact ⟨(hQ _ hw).2.2.2 ad hA k _ e1, f3⟩

set_option maxRecDepth 100000 in
set_option maxHeartbeats 1000000 in
theorem few21 {E w : World} {F : Asn} (A : Option Addr) (c : Nat) (l : List (List Int)) (hd : List Value) (hS : Sat E F w) (hQ : ∀ w, Sat E F w → Reads w 1 A l.length hd) (hO : ∀ w, Sat E F w → NeedsIn w l hd) :
    Calls Try.prog 48 #[.slice A l.length c] w fun e w' => ((e = .returned (.bool true) ∧ l.length ≤ 100 ∧ sumLen l ≤ 2000) ∨ e = .returned (.bool false)) ∧ Sat E F w' := by
  have hmm := (hQ w hS).2.1
  go_enter Try.func48, Try.ntmps48
  go_wp2_with fail
  go_loopw [3, 4] (fun s i wr => ∃ k t : Nat, k ≤ l.length ∧ k ≤ 100 ∧ t ≤ 2001 * k ∧ i = .int .i64 k ∧ s = .int .i64 t ∧ Hid (t ≤ 2000 → sumLen (l.take k) = t) ∧ Sat E F wr) (fun _ i _ => l.length - (intOf i).toNat)
  case atStart => exact ⟨0, 0, by omega, by omega, by omega, rfl, rfl, (by simp [sumLen] : 0 ≤ 2000 → sumLen (l.take 0) = 0), hS⟩
  case round =>
    obtain ⟨k, t, hk, hk2, ht, rfl, rfl, hsum, hr⟩ := hrel
    by_cases hgo : k < l.length ∧ k < 100
    · obtain ⟨hlt, hlt2⟩ := hgo
      obtain ⟨ad, Ai, ci, rfl, q1, q2, q3⟩ := need_at hQ hO rfl hlt hr
      have hca := (q3 _ hr).1
      have hst := hid (sumLen_take hlt)
      clear q3
      have wa := i64_wrap (x := (t : Int) + (l[k].length : Int))
      have wb := i64_wrap (x := (t : Int) + 2001) (by omega) (by omega)
      by_cases hmin : l[k].length ≤ 2000
      · have wa2 := wa (by omega) (by omega)
        have hmn2 : ¬ (2001 : Int) < (l[k].length : Int) := by omega
        have HK : Hid (t + l[k].length ≤ 2000 → sumLen (l.take (k + 1)) = t + l[k].length) := fun h => by rw [hst.out, hsum.out (by omega)]
        clear wa
        go_wp2
        go_roundw
        case rel => exact ⟨k + 1, t + l[k].length, by omega, by omega, by omega, by go_num, by go_num, HK, hr⟩
        case measure => simp [intOf]; omega
      · have hmn2 : (2001 : Int) ≤ (l[k].length : Int) := by omega
        have HK : Hid (t + 2001 ≤ 2000 → sumLen (l.take (k + 1)) = t + 2001) := fun h => by omega
        clear wa
        go_wp2
        go_roundw
        case rel => exact ⟨k + 1, t + 2001, by omega, by omega, by omega, by go_num, by congr 1; split <;> omega, HK, hr⟩
        case measure => simp [intOf]; omega
    · by_cases hge : k < l.length
      · go_wp2
        go_ret
        exact ⟨.inr rfl, hr⟩
      · have hle : l.length ≤ 100 := by omega
        by_cases ht2 : t ≤ 2000
        · have hs2 : sumLen l ≤ 2000 := by
            have := hsum.out ht2
            rw [List.take_of_length_le (by omega)] at this
            omega
          go_wp2
          go_ret
          exact ⟨.inl ⟨ret_bool (by first | rfl | (simp; omega)), hle, hs2⟩, hr⟩
        · go_wp2
          go_ret
          exact ⟨.inr (ret_bool (by first | rfl | (simp; omega))), hr⟩

set_option maxRecDepth 100000 in
set_option maxHeartbeats 2000000 in
theorem collect_calls {E w : World} {F : Asn} (x : Int) (lim : Nat) (A B : Option Addr) (n c d : Nat) (hv : List Int) (l : List (List Int)) (hd : List Value) (hx : bnd x = lim) (hS : Sat E F w) (hn : l.length ≤ 1000000) (hN : ∀ i (hi : i < l.length), l[i].length ≤ 1000000)
    (hR : ∀ w, Sat E F w → Reads w 1 A n (nums .i64 hv)) (hQ : ∀ w, Sat E F w → Reads w 1 B l.length hd) (hO : ∀ w, Sat E F w → NeedsIn w l hd) :
    Calls Try.prog 49 #[.int .i64 x, .slice A n c, .slice B l.length d] w fun e w' => ∃ v1 v2, e = .returned (.agg #[v1, v2]) ∧ Sat E (row 3 1 v1 (coll lim hv l).1.length (nums .i64 (coll lim hv l).1) * (row 4 1 v2 l.length (bools (coll lim hv l).2) * F)) w' := by
  have hb := fun w => bound_calls (w := w) x
  have hbl := bnd_le x
  simp only [hx] at hb hbl
  clear hx
  have h0 := (hS.alloc (.cells #[.slice none 0 0, .slice none 0 0] 96)).alloc (.cells #[.slice none 0 0, .slice none 0 0] 96)
  have h1 : Sat E (row 3 1 (.slice none 0 0) 0 (nums .i64 []) * (row 4 1 (.slice none 0 0) 0 (bools []) * (blk (w.heap.size + 1) (.cells #[.slice none 0 0, .slice none 0 0] 96) * (blk w.heap.size (.cells #[.slice none 0 0, .slice none 0 0] 96) * F)))) _ := (show Sat E (blk (w.heap.size + 1) (.cells #[.slice none 0 0, .slice none 0 0] 96) * (blk w.heap.size (.cells #[.slice none 0 0, .slice none 0 0] 96) * F)) _ by simpa using h0).row_nil.row_nil
  have H1 := hid h1
  clear h0 h1
  go_enter Try.func49, Try.ntmps49
  go_wp2_with fail
  go_loopw [16] (fun i wr => ∃ (k : Nat) (ids : List Int) (late : List Bool) (va vb : Value), k ≤ l.length ∧ i = .int .i64 k ∧ Hid (coll lim hv (l.take k) = (ids, late)) ∧ ids.length ≤ lim ∧ Sat E (row 3 1 va ids.length (nums .i64 ids) * (row 4 1 vb k (bools late) * (blk (w.heap.size + 1) (.cells #[va, vb] 96) * (blk w.heap.size (.cells #[.slice none 0 0, .slice none 0 0] 96) * F)))) wr) (fun i _ => l.length - (intOf i).toNat)
  case atStart => exact ⟨0, [], [], _, _, by omega, rfl, rfl, by simp, H1.out⟩
  case round =>
    clear H1
    obtain ⟨k, ids, late, va, vb, hk, rfl, hco, hil, hr⟩ := hrel
    obtain ⟨Aa, ca, rfl, _, _, hRa⟩ := hr.reads
    obtain ⟨Ab, cb, rfl, _, _, _⟩ := hr.right.reads
    have hf := hr.right.right.right.right
    have c0 := hr.right.right.cell_blk (i := 0)
    have c1 := hr.right.right.cell_blk (i := 1)
    simp only [List.getElem?_toArray, List.getElem?_cons_zero, List.getElem?_cons_succ] at c0 c1
    by_cases hlt : k < l.length
    · obtain ⟨ad, Ai, ci, rfl, q1, q2, q3⟩ := need_at hQ hO rfl hlt hf
      have hca := (q3 _ hf).1
      have hNk := hN k hlt
      have hkc := hid (coll_take (lim := lim) (hv := hv) hlt)
      have hkd : (k : Int) < (l.length : Int) := by omega
      go_wp2_with fail
      refine (cloneInts Aa ids.length ca _ hr hRa (nums_one _ _) (by omega)).mono ?_
      rintro e w2 ⟨v, rfl, h2⟩
      obtain ⟨G, hG⟩ : ∃ G, (row 3 1 (.slice Aa ids.length ca) ids.length (nums .i64 ids) * (row 4 1 (.slice Ab k cb) k (bools late) * (blk (w.heap.size + 1) (.cells #[.slice Aa ids.length ca, .slice Ab k cb] 96) * (blk w.heap.size (.cells #[.slice none 0 0, .slice none 0 0] 96) * F)))) = G := ⟨_, rfl⟩
      have hGF : ∀ w, Sat E G w → Sat E F w := fun w h => by rw [← hG] at h; exact h.right.right.right.right
      rw [hG] at h2
      have HG := hid hG
      clear hG hr hca c0 c1
      go_wp2_with fail
      go_loopw [10, 25] (fun v i wr => ∃ (q : Nat) (t : List Int), q ≤ l[k].length ∧ i = .int .i64 q ∧ Hid (addTo hv ids (l[k].take q) = t) ∧ t.length ≤ lim + q ∧ Sat E (row 3 1 v t.length (nums .i64 t) * G) wr) (fun _ i _ => l[k].length - (intOf i).toNat)
      case atStart => exact ⟨0, ids, by omega, rfl, rfl, by omega, h2⟩
      case round =>
        clear h2
        obtain ⟨q, t, hq, rfl, hat, htl, hr2⟩ := hrel
        obtain ⟨Av, cv, rfl, _, _, hRv⟩ := hr2.reads
        have hf2 := hGF _ hr2.right
        by_cases hlq : q < l[k].length
        · obtain ⟨bd, rfl, hcq⟩ := (q3 _ hf2).2.at (by omega)
          have hcx := hcq q _ (nums_at hlq)
          have hst := hid ((addTo_take (hv := hv) (acc := ids) hlq).trans (by rw [hat.out] : _ = addOne hv t (l[k][q])))
          have hRh := hR _ hf2
          clear hcq
          have hqd : (q : Int) < (l[k].length : Int) := by omega
          generalize hy : l[k][q] = y at *
          clear hy
          by_cases hx1 : y ∈ hv
          · have HD := hid (decide_eq_true hx1)
            have hs2 : addOne hv t y = t := by unfold addOne; rw [if_pos (.inl hx1)]
            have HS := hid (hst.out.trans hs2)
            clear hx1 hs2
            go_wp2_with fail
            refine (contains_calls A n c hv y hRh).mono ?_
            rw [HD.out]
            rintro e w3 ⟨rfl, rfl⟩
            go_wp2
            go_roundw
            case rel => exact ⟨q + 1, t, by omega, by go_num, HS, by omega, hr2⟩
            case measure => simp [intOf]; omega
          · by_cases hx2 : y ∈ t
            · have HD := hid (decide_eq_false hx1)
              have HD2 := hid (decide_eq_true hx2)
              have hs2 : addOne hv t y = t := by unfold addOne; rw [if_pos (.inr hx2)]
              have HS := hid (hst.out.trans hs2)
              clear hx1 hx2 hs2
              go_wp2_with fail
              refine (contains_calls A n c hv y hRh).mono ?_
              rw [HD.out]
              rintro e w3 ⟨rfl, rfl⟩
              go_wp2_with fail
              refine (contains_calls Av t.length cv t y hRv).mono ?_
              rw [HD2.out]
              rintro e w3 ⟨rfl, rfl⟩
              go_wp2
              go_roundw
              case rel => exact ⟨q + 1, t, by omega, by go_num, HS, by omega, hr2⟩
              case measure => simp [intOf]; omega
            · have HD := hid (decide_eq_false hx1)
              have HD2 := hid (decide_eq_false hx2)
              have hs2 : addOne hv t y = t ++ [y] := by unfold addOne; rw [if_neg (fun h => h.elim hx1 hx2)]
              have HS := hid (hst.out.trans hs2)
              have hny : nums .i64 t ++ [.int .i64 y] = nums .i64 (t ++ [y]) := by rw [nums_append]; rfl
              have hnl : t.length + 1 = (t ++ [y]).length := by simp
              have HN := hid hny
              have HL := hid hnl
              clear hx1 hx2 hs2 hny hnl
              go_wp2_with fail
              refine (contains_calls A n c hv y hRh).mono ?_
              rw [HD.out]
              rintro e w3 ⟨rfl, rfl⟩
              go_wp2_with fail
              refine (contains_calls Av t.length cv t y hRv).mono ?_
              rw [HD2.out]
              rintro e w3 ⟨rfl, rfl⟩
              go_wp2_with (at_builtin; refine wpList_append_sat rfl _ _ 22 3 (.int .i64 0) 1 8 rfl Try.underlying22 Try.info3 rfl (by decide) _ t.length _ _ 1 1 [.int .i64 y] rfl rfl (hr2.alloc_drop _) (Reads.new 1 1 [.int .i64 y] 3 rfl (by omega)) (by simp [Value.oneCell']) (by unfold maxLen; omega) (by omega) ?_; intro v1 w6 h6)
              rw [HN.out, HL.out] at h6
              go_wp2
              go_roundw
              case rel => exact ⟨q + 1, t ++ [y], by omega, by go_num, HS, by simp; omega, h6⟩
              case measure => simp [intOf]; omega
        · have hat2 : addTo hv ids l[k] = t := by have := hat.out; rwa [List.take_of_length_le (by omega)] at this
          have hone : coll lim hv (l.take (k + 1)) = if lim < t.length then (ids, late ++ [true]) else (t, late ++ [false]) := by
            rw [hkc.out, hco.out]; unfold collOne; simp only [hat2]
          have HO := hid hone
          clear hat2 hone
          rw [← HG.out] at hr2
          by_cases hlate : lim < t.length
          · have h5 := hr2.right
            have HO2 : Hid (coll lim hv (l.take (k + 1)) = (ids, late ++ [true])) := HO.out.trans (if_pos hlate)
            have h6 : Sat E (row 4 1 (.slice Ab k cb) k (bools late) * (blk (w.heap.size + 1) (.cells #[.slice Aa ids.length ca, .slice Ab k cb] 96) * (row 3 1 (.slice Aa ids.length ca) ids.length (nums .i64 ids) * (blk w.heap.size (.cells #[.slice none 0 0, .slice none 0 0] 96) * F)))) wr := h5.eq (by ac_rfl)
            have c1 := h6.right.cell_blk (i := 1)
            simp only [List.getElem?_toArray, List.getElem?_cons_zero, List.getElem?_cons_succ] at c1
            have hny : bools late ++ [.bool true] = bools (late ++ [true]) := by rw [bools_append]; rfl
            have HN := hid hny
            have hld : (lim : Int) < (t.length : Int) := by omega
            have hle1 := h6.right.lt_blk
            clear hr2 h5 hny
            go_wp2_with fail
            refine (hb _).mono ?_
            rintro e w3 ⟨rfl, rfl⟩
            go_wp2_with (at_builtin; refine wpList_append_sat rfl _ _ 88 4 (.bool false) 1 1 rfl Try.underlying88 Try.info4 rfl (by decide) _ k _ _ 1 1 [.bool true] rfl rfl (h6.alloc_drop _) (Reads.new 1 1 [.bool true] 4 rfl (by omega)) (by simp [Value.oneCell']) (by unfold maxLen; omega) (by omega) ?_; intro v1 w6 h7; obtain ⟨Aw, cw, rfl, _, _, _⟩ := h7.reads; have f1 := h7.right.free_blk (i := 1); have d1 := h7.right.cell_blk (i := 1); simp only [List.getElem?_toArray, List.getElem?_cons_zero, List.getElem?_cons_succ] at d1)
            rw [HN.out] at h7
            have h8 := (h7.eq (star_left_comm _ _ _)).setCell (i := 1) (.slice Aw (k + 1) cw)
            go_wp2
            go_roundw
            case rel => exact ⟨k + 1, ids, late ++ [true], _, .slice Aw (k + 1) cw, by omega, by go_num, HO2, hil, (show Sat E (blk (w.heap.size + 1) (.cells #[.slice Aa ids.length ca, .slice Aw (k + 1) cw] 96) * _) _ from h8).eq (by ac_rfl)⟩
            case measure => simp [intOf]; omega
          · have HO2 : Hid (coll lim hv (l.take (k + 1)) = (t, late ++ [false])) := HO.out.trans (if_neg hlate)
            have h5 : Sat E (blk (w.heap.size + 1) (.cells #[.slice Aa ids.length ca, .slice Ab k cb] 96) * (row 4 1 (.slice Ab k cb) k (bools late) * (row 3 1 (.slice Av t.length cv) t.length (nums .i64 t) * (row 3 1 (.slice Aa ids.length ca) ids.length (nums .i64 ids) * (blk w.heap.size (.cells #[.slice none 0 0, .slice none 0 0] 96) * F))))) wr := hr2.eq (by ac_rfl)
            have f0 := h5.free_blk (i := 0)
            have c0 := h5.cell_blk (i := 0)
            have c1 := h5.cell_blk (i := 1)
            simp only [List.getElem?_toArray, List.getElem?_cons_zero, List.getElem?_cons_succ] at c0 c1
            have h6 := (show Sat E (blk (w.heap.size + 1) (.cells #[.slice Av t.length cv, .slice Ab k cb] 96) * _) _ from h5.setCell (i := 0) (.slice Av t.length cv)).eq (star_left_comm _ _ _)
            have e1 := h6.right.cell_blk (i := 1)
            simp only [List.getElem?_toArray, List.getElem?_cons_zero, List.getElem?_cons_succ] at e1
            have hny : bools late ++ [.bool false] = bools (late ++ [false]) := by rw [bools_append]; rfl
            have HN := hid hny
            have hld : ¬ (lim : Int) < (t.length : Int) := by omega
            have hle1 := h5.lt_blk
            clear hr2 h5 hny
            go_wp2_with fail
            refine (hb _).mono ?_
            rintro e w3 ⟨rfl, rfl⟩
            go_wp2_with (at_builtin; refine wpList_append_sat rfl _ _ 88 4 (.bool false) 1 1 rfl Try.underlying88 Try.info4 rfl (by decide) _ k _ _ 1 1 [.bool false] rfl rfl (h6.alloc_drop _) (Reads.newAt 1 1 [.bool false] 4 rfl (by omega) (by simp)) (by simp [Value.oneCell']) (by unfold maxLen; omega) (by omega) ?_; intro v1 w6 h7; obtain ⟨Aw, cw, rfl, _, _, _⟩ := h7.reads; have f1 := h7.right.free_blk (i := 1); have d1 := h7.right.cell_blk (i := 1); simp only [List.getElem?_toArray, List.getElem?_cons_zero, List.getElem?_cons_succ] at d1)
            rw [HN.out] at h7
            have h8 := (h7.eq (star_left_comm _ _ _)).setCell (i := 1) (.slice Aw (k + 1) cw)
            have h9 : Sat E (row 3 1 (.slice Av t.length cv) t.length (nums .i64 t) * (row 4 1 (.slice Aw (k + 1) cw) (k + 1) (bools (late ++ [false])) * (blk (w.heap.size + 1) (.cells #[.slice Av t.length cv, .slice Aw (k + 1) cw] 96) * (blk w.heap.size (.cells #[.slice none 0 0, .slice none 0 0] 96) * F)))) _ := ((show Sat E (blk (w.heap.size + 1) (.cells #[.slice Av t.length cv, .slice Aw (k + 1) cw] 96) * _) _ from h8).eq (show _ = row 3 1 (.slice Aa ids.length ca) ids.length (nums .i64 ids) * (row 3 1 (.slice Av t.length cv) t.length (nums .i64 t) * (row 4 1 (.slice Aw (k + 1) cw) (k + 1) (bools (late ++ [false])) * (blk (w.heap.size + 1) (.cells #[.slice Av t.length cv, .slice Aw (k + 1) cw] 96) * (blk w.heap.size (.cells #[.slice none 0 0, .slice none 0 0] 96) * F)))) by ac_rfl)).right
            go_wp2
            go_roundw
            case rel => exact ⟨k + 1, t, late ++ [false], _, .slice Aw (k + 1) cw, by omega, by go_num, HO2, by omega, h9⟩
            case measure => simp [intOf]; omega
    · obtain rfl : k = l.length := by omega
      have hco2 := hco.out
      rw [List.take_of_length_le (Nat.le_refl _)] at hco2
      have HC := hid hco2
      clear hco2 hco
      have f0 := hr.right.right.right.free_blk (i := 0)
      have f1 := hr.right.right.right.free_blk (i := 1)
      have d0 := hr.right.right.right.cell_blk (i := 0)
      have d1 := hr.right.right.right.cell_blk (i := 1)
      simp only [List.getElem?_toArray, List.getElem?_cons_zero, List.getElem?_cons_succ] at d0 d1
      have h5 : Sat E (blk w.heap.size (.cells #[.slice none 0 0, .slice none 0 0] 96) * (row 3 1 (.slice Aa ids.length ca) ids.length (nums .i64 ids) * (row 4 1 (.slice Ab l.length cb) l.length (bools late) * (blk (w.heap.size + 1) (.cells #[.slice Aa ids.length ca, .slice Ab l.length cb] 96) * F)))) wr := hr.eq (by ac_rfl)
      have h6 : Sat E (blk w.heap.size (.cells #[.slice Aa ids.length ca, .slice Ab l.length cb] 96) * (row 3 1 (.slice Aa ids.length ca) ids.length (nums .i64 ids) * (row 4 1 (.slice Ab l.length cb) l.length (bools late) * (blk (w.heap.size + 1) (.cells #[.slice Aa ids.length ca, .slice Ab l.length cb] 96) * F)))) _ := (h5.setCell (i := 0) (.slice Aa ids.length ca)).setCell (i := 1) (.slice Ab l.length cb)
      have H6 := hid h6
      clear h5 h6
      go_wp2
      refine bodyPost_ret (results_cell_row rfl _ _ w.heap.size 96 #[.slice Aa ids.length ca, .slice Ab l.length cb] (0, 0) _ (by simp) ?_ Try.underlying96 rfl (by kernel_rfl)) rfl ?_
      · have := H6.out.at_blk; simpa using this
      · refine ⟨_, _, rfl, ?_⟩
        rw [HC.out]
        exact (H6.out.right.eq (show _ = blk (w.heap.size + 1) (.cells #[.slice Aa ids.length ca, .slice Ab l.length cb] 96) * (row 3 1 (.slice Aa ids.length ca) ids.length (nums .i64 ids) * (row 4 1 (.slice Ab l.length cb) l.length (bools late) * F)) by ac_rfl)).right
end Go.Proofs.Ytedhcgeglmoacaa
