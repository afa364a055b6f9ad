import Derived.Test.YtobgfdongidaaaaDir53
import Derived.Deep.RegionLaw
namespace Go.Proofs.Ytobgfdongidaaaa
set_option linter.unusedVariables false
set_option linter.unusedSimpArgs false
open Go.RowKit Go.Proofs.Sep Go.Lib

theorem ents_set_id {M : List Ent} {k : Nat} (hk : k < M.length) (id : Int) : (ents M).set (k * 2 + 1) (.int .i64 id) = ents (M.set k (M[k].1, id)) := by
  rw [ents_set (M[k].1, id) hk]
  congr 1
  have h1 := (ents_at hk).1
  obtain ⟨hi, h2⟩ := List.getElem?_eq_some_iff.1 h1
  simp only
  rw [← h2]
  exact (List.set_getElem_self hi).symm
theorem reads_nil (w : World) : Reads w 2 none ([] : List Ent).length (ents []) := ⟨rfl, by simp, fun _ => rfl, fun ad h => by cases h⟩
set_option maxRecDepth 100000 in
set_option maxHeartbeats 16000000 in
theorem dirMap {E w : World} {F : Asn} (ord : Int) (A : Option Addr) (c : Nat) (l : List OpE) (hS : Sat E F w) (hA : ∀ w, Sat E F w → Reads w 4 A l.length (opents l)) (hz : ∀ x ∈ l, x.2.2.1.size ≤ 140737488351232 ∧ x.2.2.2.size ≤ 140737488351232) :
    Calls Try.prog 5 #[.int .i64 ord, .slice A l.length c] w fun e w' => e = .returned (.bool true) ∧ Sat E F w' := by
  go_enter Try.func5, Try.ntmps5
  go_wp2_with fail
  refine (first7 hS).mono ?_
  rintro e w1 ⟨rfl, g1⟩
  clear hS
  have hfew := few18 A c l hz g1 hA
  clear g1
  go_wp2_with fail
  refine hfew.mono ?_
  clear hfew
  rintro e w2 ⟨⟨b, rfl, hb⟩, g2⟩
  have h7 := first7 g2
  cases b with
  | false =>
    clear hb
    go_wp2_with fail
    refine h7.mono ?_
    rintro e w3 ⟨rfl, g3⟩
    go_wp2_with fail
    go_ret
    exact ⟨rfl, g3⟩
  | true =>
    have hl4 := hb rfl
    clear hb
    by_cases h3 : (300 : Int) < (l.length : Int)
    · go_wp2_with fail
      refine h7.mono ?_
      rintro e w3 ⟨rfl, g3⟩
      go_wp2_with fail
      go_ret
      exact ⟨rfl, g3⟩
    · clear h7
      by_cases hord : ord < 3 ∨ 64 < ord
      · have hn0 := new_no (w := w2) ord (.slice none 0 0) hord
        clear hord
        go_wp2_with fail
        refine hn0.mono ?_
        clear hn0
        rintro e w4 ⟨rfl, rfl⟩
        go_wp2_with fail
        refine (first7 g2).mono ?_
        rintro e w3 ⟨rfl, g3⟩
        go_wp2_with fail
        go_ret
        exact ⟨rfl, g3⟩
      · obtain ⟨m, rfl⟩ : ∃ m : Nat, ord = m := ⟨ord.toNat, by omega⟩
        have hm3 : 3 ≤ m := by omega
        have hm : m ≤ 64 := by omega
        have hn1 : Calls Try.prog 8 #[.int .i64 m, .slice none 0 0] w2 fun r w' => ∃ T, r = .returned (.tuple #[ptrv T, .int .i64 0]) ∧ Sat E (dir T m [] * F) w' := new_yes m none 0 [] hm3 hm (by simp) g2 (fun w _ => reads_nil w)
        clear hord g2
        go_wp2_with fail
        refine hn1.mono ?_
        clear hn1
        rintro e w4 ⟨T, rfl, s4⟩
        unfold ptrv
        go_wp2_with fail
        go_loopw [7, 8] (fun mv iv wr => ∃ (k : Nat) (L M : List Ent), k ≤ l.length ∧ iv = .int .i64 k ∧ Hid (MapOK L M) ∧ M.length ≤ k ∧ Sat E (row 25 2 mv M.length (ents M) * (dir T m L * F)) wr) (fun _ iv _ => l.length - (intOf iv).toNat)
        case atStart => exact ⟨0, [], [], by omega, rfl, mapok_nil, by simp, s4.row_nil⟩
        case round =>
          clear s4
          obtain ⟨k, L, M, hk, rfl, hok, hMk, hq⟩ := hrel
          obtain ⟨B, d, hB, hd1, hd2, _⟩ := hq.reads
          subst hB
          by_cases hlt : k < l.length
          · have hkd : (k : Int) < (l.length : Int) := by omega
            have wk := i64_wrap (x := (k : Int) + 1) (by omega) (by omega)
            have hop := fun (G1 G2 : Asn) (w : World) (h : Sat E (G1 * (G2 * F)) w) => op_at (hA w h.right.right) hlt
            generalize l[k] = O at *
            obtain ⟨kd, id, K, H⟩ := O
            obtain ⟨ad, hAd, o0, o1, o2, _⟩ := hop _ _ _ hq
            subst hAd
            (try simp only at o0 o1 o2)
            have hop2 := hid (fun (G1 G2 : Asn) (w : World) (h : Sat E (G1 * (G2 * F)) w) => (by
              obtain ⟨_, h1, h2, h3, h4, _⟩ := hop G1 G2 w h
              cases h1
              exact ⟨h2, h3, h4⟩ : w.cell? (ad.add (k * 4)) = some (.int .i64 kd) ∧ w.cell? { block := (ad.add (k * 4)).block, off := (ad.add (k * 4)).off + 1 } = some (.int .i64 id) ∧ w.cell? { block := (ad.add (k * 4)).block, off := (ad.add (k * 4)).off + 2 } = some (.string K)))
            clear hop
            have hLl : L.length ≤ 900000 := by have := hok.out.len; omega
            have hat := at19 B d M K (by omega) hq (fun w h => h.reads_at)
            have hgt := get13 T m L K hLl (hq.eq (star_left_comm _ _ _))
            unfold ptrv at hgt
            go_wp2_with fail
            refine hat.mono ?_
            clear hat
            rintro e w5 ⟨⟨i, rfl, hi⟩, rfl⟩
            rcases hi with ⟨kk, hkk, rfl, hkey⟩ | ⟨rfl, hno⟩
            · have i1 : (0 : Int) ≤ (kk : Int) := by omega
              have i2 : (kk : Int) < (M.length : Int) := by omega
              obtain ⟨bd, hbd, _, y1⟩ := cells_at hq.reads_at hkk
              subst hbd
              have hgv := hok.out.get hkk
              have hhas : hasKey K L = true := has_mem.2 ⟨M[kk], (hok.out.mem _).2 (List.getElem_mem _), hkey⟩
              rw [hkey] at hgv
              rw [hgv, hhas] at hgt
              generalize hI0 : M[kk].2 = I0 at *
              obtain ⟨gB, _, hv, _, _⟩ := hq.row_head (by omega)
              injection hv with hv1 _ hv2
              cases hv1
              subst hv2
              (try simp only [addr_plain] at y1)
              obtain ⟨j, hj⟩ : ∃ j, j = kk + 1 := ⟨_, rfl⟩
              have ej : (kk : Int) + 1 = (j : Int) := by omega
              have wj := i64_wrap (x := (j : Int)) (by omega) (by omega)
              have HKEY := hid hkey
              have HJ := hid hj
              have HKK := hid hkk
              have HOK := hid hok.out
              clear hkey hj hgv hq hok hI0
              go_wp2_with fail
              refine hgt.mono ?_
              clear hgt y1 o0 o1 o2
              rintro e w6 ⟨rfl, s6⟩
              obtain ⟨o0, o1, o2⟩ := hop2.out _ _ _ s6
              by_cases hk1 : kd = 1
              · subst hk1
                have hdl := delete14 T m L K hm3 hm hLl s6
                rw [hhas] at hdl
                unfold ptrv at hdl
                clear s6
                go_wp2_with fail
                refine hdl.mono ?_
                clear hdl o0 o1 o2
                rintro e w7 ⟨rfl, s7⟩
                go_upto_region 23 with fail
                go_cut [7] (fun mv wc => Sat E (row 25 2 mv (M.take kk ++ M.drop (kk + 1)).length (ents (M.take kk ++ M.drop (kk + 1))) * (dir T m (delR K L) * F)) wc)
                case first =>
                  have s8 := s7.eq (star_left_comm _ _ _)
                  have hcut1 := fun W => cut_hi (P := Try.prog) 22 25 Try.underlying22 2 (by kernel_rfl) (some ⟨gB, 0, none⟩) M.length d kk (by omega) W
                  obtain ⟨A', hcut2, hread⟩ := cut_from (P := Try.prog) (size := 2) 22 25 .i64 Try.underlying22 (by kernel_rfl) (some ⟨gB, 0, none⟩) M.length d j (by have := HJ.out; omega) hd1
                  have hq1 : Sat E (row 25 2 (.slice (some ⟨w7.heap.size, 0, none⟩) 0 0) 0 [] * (row 25 2 (.slice (some ⟨gB, 0, none⟩) M.length d) M.length (ents M) * (dir T m (delR K L) * F))) (w7.alloc (.cells #[] 25)).drew := ((s8.alloc (.cells #[] 25)).blk_row (n := 0) (cap := 0) (by omega) (by simp [maxLen]) rfl).drew
                  have hq2 : Sat E _ (w7.drew.alloc (.cells #[] 25)) := hq1
                  have hRa := hq1.right.reads_at.take kk (by omega)
                  have hRb : Reads (w7.drew.alloc (.cells #[] 25)) 2 _ kk _ := hRa
                  have h1t : ∀ u ∈ (ents M).take (kk * 2), u.oneCell' = true := fun u hu => ents_one M u (List.mem_of_mem_take hu)
                  have h1d : ∀ u ∈ (ents M).drop (j * 2), u.oneCell' = true := fun u hu => ents_one M u (List.mem_of_mem_drop hu)
                  have HRD := hid (fun w h => hread w (ents M) h)
                  have H1T := hid h1t
                  have H1D := hid h1d
                  clear s7 s8 hread h1t h1d
                  go_region_law (first
                    | ((first | (refine step_append_sat rfl _ _ 22 25 (.agg #[.string ByteArray.empty, .int .i64 0]) 2 24 rfl Try.underlying22 Try.info25 rfl (by decide) _ 0 [] _ kk d _ rfl rfl hq1 hRa H1T.out (by unfold maxLen; omega) (by omega) ?_) | (refine step_append_sat rfl _ _ 22 25 (.agg #[.string ByteArray.empty, .int .i64 0]) 2 24 rfl Try.underlying22 Try.info25 rfl (by decide) _ 0 [] _ kk d _ rfl rfl hq2 hRb H1T.out (by unfold maxLen; omega) (by omega) ?_)); intro v8 w8 q1; rw [Nat.zero_add, List.nil_append] at q1; obtain ⟨A8, c8, rfl, _, _, _⟩ := q1.reads; have d3 := HRD.out _ q1.right.reads_at)
                    | ((first | (refine step_append_sat rfl _ _ 22 25 (.agg #[.string ByteArray.empty, .int .i64 0]) 2 24 rfl Try.underlying22 Try.info25 rfl (by decide) _ kk _ _ (M.length - j) (d - j) _ rfl rfl q1 d3 H1D.out (by unfold maxLen; omega) (by omega) ?_) | (refine step_append_sat rfl _ _ 22 25 (.agg #[.string ByteArray.empty, .int .i64 0]) 2 24 rfl Try.underlying22 Try.info25 rfl (by decide) _ kk _ _ (M.length - j) (d - j) _ rfl rfl q1.drew d3.drew H1D.out (by unfold maxLen; omega) (by omega) ?_)); intro v9 w9 q2))
                  all_goals
                    have Q := hid q2
                    clear q1 q2 hq1 hq2 hRa hRb
                    go_wp2
                    go_meet
                    have q3 := Q.out.drop_mid
                    rw [show kk + (M.length - j) = (M.take kk ++ M.drop (kk + 1)).length by have := HJ.out; have := HKK.out; rw [List.length_append, List.length_take, List.length_drop]; omega, HJ.out, ← ents_take, ← ents_drop, ← ents_append] at q3
                    exact q3
                case rest =>
                  clear s7
                  obtain ⟨A9, c9, h9, _, _, _⟩ := hcut.reads
                  subst h9
                  have hok2 := HOK.out.del HKK.out
                  rw [HKEY.out] at hok2
                  have hln := len15 T m (delR K L) (hcut.eq (star_left_comm _ _ _))
                  rw [hok2.len] at hln
                  unfold ptrv at hln
                  have hle2 : (M.take kk ++ M.drop (kk + 1)).length ≤ k + 1 := by have := HKK.out; rw [List.length_append, List.length_take, List.length_drop]; omega
                  generalize M.take kk ++ M.drop (kk + 1) = M2 at *
                  have HOK2 := hid hok2
                  clear hok2
                  go_wp2_with fail
                  refine hln.mono ?_
                  clear hln
                  rintro e w9 ⟨rfl, rfl⟩
                  go_wp2_with fail
                  go_roundw
                  case rel => exact ⟨k + 1, delR K L, M2, by omega, by go_num, HOK2.out, hle2, hcut⟩
                  case measure => simp [intOf]; omega
              · have z1 : (kd == 1) = false := beq_eq_false_iff_ne.2 hk1
                have z2 : ¬ kd = 1 := hk1
                have hput := put20 T m L (K, id) hm3 hm (by have := HOK.out.len; omega) s6
                have hput2 := put20 T m L (K, id) hm3 hm (by have := HOK.out.len; omega) s6.drew
                rw [show hasKey (K, id).1 L = true from hhas] at hput hput2
                unfold ptrv at hput hput2
                clear hk1
                go_upto_region 24 with fail
                go_cut [120] (fun v wc => v = .bool false ∧ Sat E (row 25 2 (.slice (some ⟨gB, 0, none⟩) M.length d) M.length (ents M) * (dir T m (insR (K, id) L) * F)) wc)
                case first =>
                  clear s6
                  go_region_law (first | (go_simp; go_at_call 20; first | refine hput.mono ?_ | refine hput2.mono ?_); rintro e w7 ⟨rfl, s7⟩; obtain ⟨o0, o1, o2⟩ := hop2.out _ _ _ s7)
                  all_goals
                    have Q := hid (s7.eq (star_left_comm _ _ _))
                    clear s7 hput hput2
                    go_wp2
                    go_meet
                    exact ⟨rfl, by first | exact Q.out | exact Q.out.drew⟩
                case rest =>
                  obtain ⟨hv, s7⟩ := hcut
                  subst hv
                  clear s6 hput hput2 o0 o1 o2
                  obtain ⟨o0, o1, o2⟩ := hop2.out _ _ _ s7
                  have fz := s7.row_free (kk * 2 + 1)
                  have a1 := s7.row_cell (kk * 2 + 1) (by have := HKK.out; omega)
                  rw [(ents_at HKK.out).2] at a1
                  have q1 := s7.row_store (kk * 2 + 1) (.int .i64 id)
                  rw [ents_set_id HKK.out, HKEY.out] at q1
                  have hok2 := HOK.out.set HKK.out id
                  rw [HKEY.out] at hok2
                  have hln := len15 T m (insR (K, id) L) (q1.eq (star_left_comm _ _ _))
                  rw [hok2.len, List.length_set] at hln
                  unfold ptrv at hln
                  have HOK2 := hid hok2
                  have Q1 := hid q1
                  clear hok2 q1 s7
                  go_wp2_with fail
                  refine hln.mono ?_
                  clear hln
                  rintro e w9 ⟨rfl, rfl⟩
                  go_wp2_with fail
                  go_roundw
                  case rel => exact ⟨k + 1, _, _, by omega, by go_num, HOK2.out, by rw [List.length_set]; omega, by rw [List.length_set]; exact Q1.out⟩
                  case measure => simp [intOf]; omega
            · have hhas : hasKey K L = false := by rw [hok.out.has]; exact hno
              have hget0 : getR K L = 0 := getR_no hhas
              rw [hhas, hget0] at hgt
              have HOK := hid hok.out
              have HNO := hid hno
              clear hget0 hok hno hq
              go_wp2_with fail
              refine hgt.mono ?_
              clear hgt o0 o1 o2
              rintro e w6 ⟨rfl, s6⟩
              obtain ⟨o0, o1, o2⟩ := hop2.out _ _ _ s6
              by_cases hk1 : kd = 1
              · subst hk1
                have hdl := delete14 T m L K hm3 hm hLl s6
                rw [hhas, delR_no hhas] at hdl
                unfold ptrv at hdl
                clear s6
                go_wp2_with fail
                refine hdl.mono ?_
                clear hdl o0 o1 o2
                rintro e w7 ⟨rfl, s7⟩
                have hln := len15 T m L s7
                rw [HOK.out.len] at hln
                unfold ptrv at hln
                go_wp2_with fail
                refine hln.mono ?_
                clear hln
                rintro e w9 ⟨rfl, rfl⟩
                go_wp2_with fail
                go_roundw
                case rel => exact ⟨k + 1, L, M, by omega, by go_num, HOK.out, by omega, s7.eq (star_left_comm _ _ _)⟩
                case measure => simp [intOf]; omega
              · have z1 : (kd == 1) = false := beq_eq_false_iff_ne.2 hk1
                have z2 : ¬ kd = 1 := hk1
                have hput := put20 T m L (K, id) hm3 hm (by have := HOK.out.len; omega) s6
                have hput2 := put20 T m L (K, id) hm3 hm (by have := HOK.out.len; omega) s6.drew
                rw [show hasKey (K, id).1 L = false from hhas] at hput hput2
                unfold ptrv at hput hput2
                clear hk1
                go_upto_region 24 with fail
                go_cut [120] (fun v wc => v = .bool false ∧ Sat E (row 25 2 (.slice B M.length d) M.length (ents M) * (dir T m (insR (K, id) L) * F)) wc)
                case first =>
                  clear s6
                  go_region_law (first | (go_simp; go_at_call 20; first | refine hput.mono ?_ | refine hput2.mono ?_); rintro e w7 ⟨rfl, s7⟩; obtain ⟨o0, o1, o2⟩ := hop2.out _ _ _ s7)
                  all_goals
                    have Q := hid (s7.eq (star_left_comm _ _ _))
                    clear s7 hput hput2
                    go_wp2
                    go_meet
                    exact ⟨rfl, by first | exact Q.out | exact Q.out.drew⟩
                case rest =>
                  obtain ⟨hv, s7⟩ := hcut
                  subst hv
                  clear s6 hput hput2 o0 o1 o2
                  obtain ⟨o0, o1, o2⟩ := hop2.out _ _ _ s7
                  go_upto_region 28 with fail
                  go_cut [7] (fun mv wc => Sat E (row 25 2 mv (M.length + 1) (ents (M ++ [(K, id)])) * (dir T m (insR (K, id) L) * F)) wc)
                  case first =>
                    have hq2 := (s7.alloc_drop (.cells #[.string K, .int .i64 id] 25)).drew
                    have hR : Reads (wc.alloc (.cells [.string K, .int .i64 id].toArray 25)).drew 2 (some ⟨wc.heap.size, 0, none⟩) 1 [.string K, .int .i64 id] := (Reads.new 2 1 [.string K, .int .i64 id] 25 rfl (by omega)).drew
                    have hq3 : Sat E _ (wc.drew.alloc (.cells #[.string K, .int .i64 id] 25)) := hq2
                    have hR3 : Reads (wc.drew.alloc (.cells [.string K, .int .i64 id].toArray 25)) 2 (some ⟨wc.heap.size, 0, none⟩) 1 [.string K, .int .i64 id] := hR
                    have HE : Hid (ents M ++ [.string K, .int .i64 id] = ents (M ++ [(K, id)])) := hid (by rw [ents_append]; rfl)
                    clear s7
                    go_region_law ((first | (refine step_append_sat rfl _ _ 22 25 (.agg #[.string ByteArray.empty, .int .i64 0]) 2 24 rfl Try.underlying22 Try.info25 rfl (by decide) _ M.length (ents M) _ 1 1 [.string K, .int .i64 id] rfl rfl hq2 hR (by simp [Value.oneCell']) (by unfold maxLen; omega) (by omega) ?_) | (refine step_append_sat rfl _ _ 22 25 (.agg #[.string ByteArray.empty, .int .i64 0]) 2 24 rfl Try.underlying22 Try.info25 rfl (by decide) _ M.length (ents M) _ 1 1 [.string K, .int .i64 id] rfl rfl hq3 hR3 (by simp [Value.oneCell']) (by unfold maxLen; omega) (by omega) ?_)); intro v9 w9 q2)
                    all_goals
                      rw [HE.out] at q2
                      have Q := hid q2
                      clear q2 hq2 hq3 hR hR3
                      go_wp2
                      go_meet
                      exact Q.out
                  case rest =>
                    clear s7 o0 o1 o2
                    obtain ⟨A9, c9, h9, _, _, _⟩ := hcut.reads
                    subst h9
                    have hok2 := HOK.out.new HNO.out id
                    have hln := len15 T m (insR (K, id) L) (hcut.eq (star_left_comm _ _ _))
                    rw [hok2.len, List.length_append, List.length_cons, List.length_nil] at hln
                    unfold ptrv at hln
                    have HOK2 := hid hok2
                    clear hok2
                    have zz : ((0 + 1 : Nat) : Int) = 1 := rfl
                    go_wp2_with fail
                    refine hln.mono ?_
                    clear hln
                    rintro e w9 ⟨rfl, rfl⟩
                    go_wp2_with fail
                    go_roundw
                    case rel => exact ⟨k + 1, _, _, by omega, by go_num, HOK2.out, by rw [List.length_append, List.length_cons, List.length_nil]; omega, by rw [List.length_append, List.length_cons, List.length_nil]; exact hcut⟩
                    case measure => simp [intOf]; omega
          · obtain rfl : k = l.length := by omega
            have hkd : ¬ (l.length : Int) < (l.length : Int) := by omega
            have HOK := hid hok.out
            have HLL := hid hok.out.len
            have hML : M.length ≤ 300 := by omega
            have ha := all9 T m L (by have := HLL.out; omega) (hq.eq (star_left_comm _ _ _))
            rw [HLL.out] at ha
            unfold ptrv at ha
            clear hok hlt hq
            go_wp2_with fail
            refine ha.mono ?_
            clear ha
            rintro e w5 ⟨v5, rfl, s5⟩
            obtain ⟨C, cc, rfl, _, _, _⟩ := s5.reads
            have hn2 : Calls Try.prog 8 #[.int .i64 7, .slice none 0 0] w5 fun r w' => ∃ U, r = .returned (.tuple #[ptrv U, .int .i64 0]) ∧ Sat E (dir U 7 [] * _) w' := new_yes 7 none 0 [] (by omega) (by omega) (by simp) s5 (fun w _ => reads_nil w)
            clear s5
            go_wp2_with fail
            refine hn2.mono ?_
            clear hn2
            rintro e w6 ⟨U, rfl, s6⟩
            have s7 : Sat E (dir U 7 (L.drop M.length) * (row 25 2 (.slice C M.length cc) M.length (ents L) * (row 25 2 (.slice B M.length d) M.length (ents M) * (dir T m L * F)))) w6 := by
              rw [List.drop_of_length_le (by have := HLL.out; omega)]
              exact s6.eq (by ac_rfl)
            clear s6
            unfold ptrv
            have wm := i64_wrap (x := (M.length : Int) - 1) (by omega) (by omega)
            go_wp2_with fail
            go_loopw [17] (fun iv wr => ∃ j : Nat, j ≤ M.length ∧ iv = .int .i64 ((j : Int) - 1) ∧ Sat E (dir U 7 (L.drop j) * (row 25 2 (.slice C M.length cc) M.length (ents L) * (row 25 2 (.slice B M.length d) M.length (ents M) * (dir T m L * F)))) wr) (fun iv _ => (intOf iv + 1).toNat)
            case atStart => exact ⟨M.length, by omega, rfl, s7⟩
            case round =>
              clear s7
              obtain ⟨j, hj, rfl, hq⟩ := hrel
              cases j with
              | zero =>
                have z0 : ¬ (0 : Int) ≤ ((0 : Nat) : Int) - 1 := by omega
                rw [List.drop_zero] at hq
                have h7 := first7 hq
                clear hq
                go_wp2_with fail
                refine h7.mono ?_
                clear h7
                rintro e w7 ⟨rfl, s8⟩
                have ha := all9 U 7 L (by have := HLL.out; omega) s8
                rw [HLL.out] at ha
                unfold ptrv at ha
                clear s8
                go_wp2_with fail
                refine ha.mono ?_
                clear ha
                rintro e w8 ⟨v9, rfl, s9⟩
                obtain ⟨A9, c9, rfl, _, _, _⟩ := s9.reads
                have e1 := entries11 A9 c9 L (by have := HLL.out; omega) s9 (fun w h => by rw [HLL.out]; exact h.reads_at)
                rw [HLL.out] at e1
                clear s9
                go_wp2_with fail
                refine e1.mono ?_
                clear e1
                rintro e w9 ⟨v10, rfl, s10⟩
                obtain ⟨A10, c10, rfl, _, _, _⟩ := s10.reads
                have e2 := entries11 C cc L (by have := HLL.out; omega) s10 (fun w h => by rw [HLL.out]; exact h.right.right.right.reads_at)
                rw [HLL.out] at e2
                clear s10
                go_wp2_with fail
                refine e2.mono ?_
                clear e2
                rintro e w10 ⟨v11, rfl, s11⟩
                obtain ⟨A11, c11, rfl, _, _, _⟩ := s11.reads
                have e3 := same10 A10 A11 c10 c11 L L (by have := HLL.out; omega) (by have := HLL.out; omega) s11 (fun w h => by rw [HLL.out]; exact h.right.reads_at) (fun w h => by rw [HLL.out]; exact h.reads_at)
                rw [show decide (L = L) = true by simp, HLL.out] at e3
                clear s11
                go_wp2_with fail
                refine e3.mono ?_
                clear e3
                rintro e w11 ⟨rfl, s12⟩
                have s13 := s12.eq (show _ = dir U 7 L * (row 32 2 (.slice A11 M.length c11) M.length (ents L) * (row 32 2 (.slice A10 M.length c10) M.length (ents L) * (row 25 2 (.slice A9 M.length c9) M.length (ents L) * (row 25 2 (.slice C M.length cc) M.length (ents L) * (row 25 2 (.slice B M.length d) M.length (ents M) * (dir T m L * F)))))) by ac_rfl)
                have e4 := shaped16 U 7 L (by omega) (by omega) (by have := HLL.out; omega) s13
                unfold ptrv at e4
                rw [show ((7 : Nat) : Int) = 7 from rfl] at e4
                clear s12 s13
                go_wp2_with fail
                refine e4.mono ?_
                clear e4
                rintro e w12 ⟨rfl, s14⟩
                go_wp2_with fail
                go_ret
                exact ⟨rfl, s14.right.right.right.right.right.right.right⟩
              | succ i =>
                rw [show (((i + 1 : Nat) : Int) - 1) = (i : Int) by omega]
                have z0 : (0 : Int) ≤ (i : Int) := by omega
                have hiM : (i : Int) < (M.length : Int) := by omega
                have hiL : i < L.length := by have := HLL.out; omega
                have wi := i64_wrap (x := (i : Int) - 1) (by omega) (by omega)
                obtain ⟨hin, hno⟩ := insR_drop HOK.out.rises hiL
                have hxm : L[i] ∈ M := (HOK.out.mem _).1 (List.getElem_mem _)
                have hlr := fun (G : Asn) (w : World) (h : Sat E (G * (row 25 2 (.slice C M.length cc) M.length (ents L) * (row 25 2 (.slice B M.length d) M.length (ents M) * (dir T m L * F)))) w) => cells_at (h.right.reads_at) hiL
                have hat := at19 B d M L[i].1 (by omega) hq (fun w h => h.right.right.reads_at)
                have hput := fun (w : World) (h : Sat E (dir U 7 (L.drop (i + 1)) * (row 25 2 (.slice C M.length cc) M.length (ents L) * (row 25 2 (.slice B M.length d) M.length (ents M) * (dir T m L * F)))) w) => put20 U 7 (L.drop (i + 1)) L[i] (by omega) (by omega) (by have := HLL.out; rw [List.length_drop]; omega) h
                rw [hno, hin] at hput
                have hmu : ∀ (kk : Nat) (h : kk < M.length), M[kk].1 = L[i].1 → M[kk].2 = L[i].2 := fun kk h e => by
                  obtain ⟨j2, hj2, e2⟩ := List.getElem_of_mem hxm
                  have := HOK.out.keys.inj h hj2 (by rw [e2]; exact e)
                  subst this
                  rw [e2]
                generalize hX : L[i] = X at *
                obtain ⟨X1, X2⟩ := X
                obtain ⟨ad, hAd, x0, x1⟩ := hlr _ _ hq
                subst hAd
                (try simp only at x0 x1)
                have HLR := hid (fun (G : Asn) (w : World) (h : Sat E (G * (row 25 2 (.slice (some ad) M.length cc) M.length (ents L) * (row 25 2 (.slice B M.length d) M.length (ents M) * (dir T m L * F)))) w) => (by
                  obtain ⟨_, h1, h2, h3⟩ := hlr G w h
                  cases h1
                  exact ⟨h2, h3⟩ : w.cell? (ad.add (i * 2)) = some (.string X1) ∧ w.cell? { block := (ad.add (i * 2)).block, off := (ad.add (i * 2)).off + 1 } = some (.int .i64 X2)))
                have HPUT := hid hput
                have HMU := hid hmu
                have HXM := hid hxm
                clear hlr hput hin hno hX hxm hiL hmu
                go_wp2_with fail
                refine hat.mono ?_
                clear hat
                rintro e w7 ⟨⟨i2, rfl, hi⟩, rfl⟩
                rcases hi with ⟨kk, hkk, rfl, hkey⟩ | ⟨rfl, hno⟩
                · have m2 := HMU.out kk hkk hkey
                  have i1 : ¬ (kk : Int) < 0 := by omega
                  have i2 : (kk : Int) < (M.length : Int) := by omega
                  obtain ⟨bd, hbd, y0, y1⟩ := cells_at hq.right.right.reads_at hkk
                  subst hbd
                  (try simp only at m2)
                  rw [m2] at y1
                  have p1 := HPUT.out _ hq
                  have p2 := HPUT.out _ hq.drew
                  unfold ptrv at p1 p2
                  have y1' := fun (G1 G2 : Asn) (w : World) (h : Sat E (G1 * (G2 * (row 25 2 (.slice (some bd) M.length d) M.length (ents M) * (dir T m L * F)))) w) => (cells_at h.right.right.reads_at hkk)
                  have HY : Hid (∀ (G1 G2 : Asn) (w : World), Sat E (G1 * (G2 * (row 25 2 (.slice (some bd) M.length d) M.length (ents M) * (dir T m L * F)))) w → w.cell? { block := (bd.add (kk * 2)).block, off := (bd.add (kk * 2)).off + 1 } = some (.int .i64 X2)) := hid (fun G1 G2 w h => by
                    obtain ⟨_, h1, h2, h3⟩ := y1' G1 G2 w h
                    cases h1
                    rw [h3, m2])
                  clear y1' m2 hkey y0
                  go_upto_region 39 with fail
                  go_cut [212] (fun v wc => v = .bool false ∧ Sat E (dir U 7 (L.drop i) * (row 25 2 (.slice (some ad) M.length cc) M.length (ents L) * (row 25 2 (.slice (some bd) M.length d) M.length (ents M) * (dir T m L * F)))) wc)
                  case first =>
                    clear hq
                    refine wp_region_tail 27 (by kernel_rfl) (by kernel_rfl) ?_
                    simp only [List.take_succ_cons, List.take_zero, List.drop_succ_cons, List.drop_zero]
                    repeat still_step
                    refine wpStill_nil ?_
                    go_wp2_with fail
                    refine p2.mono ?_
                    clear p1 p2
                    rintro e w8 ⟨rfl, s8⟩
                    go_wp2_with fail
                    go_meet
                    exact ⟨rfl, s8⟩
                  case rest =>
                    obtain ⟨hv, s8⟩ := hcut
                    subst hv
                    clear hq p1 p2 x0 x1 y1
                    go_wp2_with fail
                    go_roundw
                    case rel => exact ⟨i, by omega, by go_num, s8⟩
                    case measure => first | (simp [intOf]; done) | (simp [intOf]; omega)
                · exfalso
                  have := has_mem.2 ⟨(X1, X2), HXM.out, rfl⟩
                  rw [hno] at this
                  cases this
end Go.Proofs.Ytobgfdongidaaaa
