import Derived.Test.YtfphpnccmkggfaaIds5
import Derived.Deep.DeepCutAuto
namespace Go.Proofs.Ytfphpnccmkggfaa
set_option linter.unusedVariables false
set_option linter.unusedSimpArgs false
open Go.RowKit Go.Proofs.Sep

def fineTo (T l : List Int) (q : Nat) : Bool := decide l.Nodup && (l.take q).all fun x => decide (x ∈ T)
theorem fineTo_succ {T l : List Int} {q : Nat} (h : q < l.length) : fineTo T l (q + 1) = (fineTo T l q && decide (l[q] ∈ T)) := by
  unfold fineTo
  rw [List.take_add_one, List.getElem?_eq_getElem h, Option.toList_some, List.all_append]
  simp [Bool.and_assoc]
theorem fineTo_full (T l : List Int) : fineTo T l l.length = giveB T l := by
  unfold fineTo giveB
  rw [List.take_length, Bool.decide_and, List.all_eq]
  simp
theorem fineTo_zero (T l : List Int) : fineTo T l 0 = !dup l := by
  unfold fineTo dup
  simp
theorem less_take {T l : List Int} {q : Nat} (h : q < T.length) : less (T.take (q + 1)) l = less (T.take q) l ++ if T[q] ∉ l then [T[q]] else [] := by
  unfold less
  rw [List.take_add_one, List.getElem?_eq_getElem h, Option.toList_some, List.filter_append]
  congr 1
  by_cases hm : T[q] ∈ l <;> simp [hm]
theorem intsSame {w : World} (A B : Option Addr) (n m c d : Nat) (xs : List Int) (hA : Reads w 1 A n (nums .i64 xs)) (hB : Reads w 1 B m (nums .i64 xs)) :
    Calls Try.prog 16 #[.slice A n c, .slice B m d] w fun e w' => e = .returned (.bool true) ∧ ∃ q, w' = w.drewN q := by
  have h := intsEq A B n m c d xs xs hA hB
  rw [decide_eq_true (rfl : xs = xs)] at h
  exact h
theorem less_length_le (T l : List Int) : (less T l).length ≤ T.length := List.length_filter_le ..

set_option maxRecDepth 100000 in
set_option maxHeartbeats 4000000 in
theorem idsPlay_ok {E w : World} {F : Asn} (n : Nat) (A B : Option Addr) (c cb : Nat) (used : List Int) (l : List IOp) (hd : List Value) (id : Int) (hn : n ≤ 64) (hul : used.length ≤ 200) (huc : used.length ≤ c) (hS : Sat E F w)
    (hR : ∀ w, Sat E F w → Reads w 1 A used.length (nums .i64 used)) (hQ : ∀ w, Sat E F w → Reads w 2 B l.length hd) (hO : ∀ w, Sat E F w → IOpsIn w l hd) :
    Calls Try.prog 7 #[.int .i64 n, .slice A used.length c, .slice B l.length cb, .int .i64 id] w fun e w' => e = .returned (.bool true) ∧ Sat E F w' := by
  have hf4 : ¬ (200 : Int) < (used.length : Int) := by omega
  go_enter Try.func7, Try.ntmps7
  go_wp2_with fail
  refine (first18 hS).mono ?_
  rintro e w1 ⟨rfl, g1⟩
  go_wp2_with fail
  refine (few18 B cb l hd g1 hQ hO).mono ?_
  rintro e w2 ⟨⟨rfl, hl1⟩ | rfl, g2⟩
  · clear g1 hS
    go_wp2_with fail
    refine (new_nat n A used.length c used hn g2 hR).mono ?_
    rintro e w3 (⟨hmp, p, rfl, g3⟩ | ⟨hmp, rfl, g3⟩)
    · have hin : inR n used := by
        unfold mayPool at hmp
        rw [decide_eq_true_eq] at hmp
        exact hmp.2.2.2
      have HIN := hid hin
      have HMP := hid hmp
      clear hmp hin g2
      go_wp2_with fail
      refine (mayPool_calls n A c used g3 huc (fun w h => hR w h.right)).mono ?_
      rw [HMP.out]
      rintro e w4 ⟨rfl, g4⟩
      clear g3
      go_wp2_with fail
      refine (copyInts A used.length c _ g4 (hR _ g4.right) (nums_one _ _) (by omega)).mono ?_
      rintro e w5 ⟨vt, rfl, g5⟩
      clear g4
      go_wp2_with fail
      go_loopw [12, 13] (fun v i wr => ∃ (k : Nat) (T : List Int), k ≤ l.length ∧ i = .int .i64 k ∧ Hid (inR n T) ∧ T.length ≤ 200 + k ∧ Sat E (row 3 1 v T.length (nums .i64 T) * (bp p n (poolOf n T) * F)) wr) (fun _ i _ => l.length - (intOf i).toNat)
      case atStart => exact ⟨0, used, by omega, rfl, HIN, by omega, g5⟩
      case round =>
        clear g5 HIN HMP
        obtain ⟨k, T, hk, rfl, HT, hTl, hr⟩ := hrel
        obtain ⟨At, ct, rfl, htc, _, _⟩ := hr.reads
        by_cases hlt : k < l.length
        · obtain ⟨ad, Ai, ci, rfl, q1, q2, q3⟩ := iop_at hQ hO hlt hr.right.right
          have hkd : (k : Int) < (l.length : Int) := by omega
          have hfl := freeOf_length_le n T
          go_wp2_with fail
          refine (rfree_calls n At T.length ct T hr (by omega) (fun w h => h.reads_at)).mono ?_
          rintro e w6 ⟨vf, rfl, g6⟩
          obtain ⟨Af, cf, rfl, _, _, _⟩ := g6.reads
          have hca := (q3 _ g6.right.right.right).1
          clear hr
          generalize hop : l[k] = op at *
          obtain ⟨kind, ids⟩ := op
          simp only at q1 q2 q3 hca
          clear hop
          go_upto_if 78 with fail
          go_cut [12, 14] (fun v _ wc => ∃ U : List Int, Hid (inR n U) ∧ U.length ≤ 200 + (k + 1) ∧ Sat E (row 3 1 v U.length (nums .i64 U) * (bp p n (poolOf n U) * F)) wc)
          case first =>
            by_cases hkind : kind = 0
            · have g7 : Sat E (bp p n (poolOf n T) * (row 3 1 (.slice Af (freeOf n T).length cf) (freeOf n T).length (nums .i64 (freeOf n T)) * (row 3 1 (.slice At T.length ct) T.length (nums .i64 T) * F))) w6 := g6.eq (by ac_rfl)
              have z0 : (kind == 0) = true := by rw [hkind]; rfl
              clear hkind q3
              go_wp2_with fail
              refine (take_calls p n T g7).mono ?_
              rintro e w7 (⟨rfl, hfr, g8⟩ | ⟨j, rfl, hj, hfr, g8⟩)
              · have hz : (freeOf n T).length = 0 := by rw [hfr]; rfl
                have z1 : ¬ (0 : Int) < ((freeOf n T).length : Int) := by omega
                have h9 : Sat E (row 3 1 (.slice At T.length ct) T.length (nums .i64 T) * (bp p n (poolOf n T) * F)) w7 := g8.drop_mid.eq (star_left_comm _ _ _)
                have HU := HT
                rw [hz]
                clear hfr hz g8 g7 z1
                go_wp2
                go_meet
                exact ⟨T, HU, by omega, h9⟩
              · have hz : 0 < (freeOf n T).length := by rw [hfr]; simp
                have z1 : (0 : Int) < ((freeOf n T).length : Int) := by omega
                obtain ⟨af, haf, hcf⟩ := g8.right.reads_at.at hz
                subst haf
                have z2 := hcf 0 (.int .i64 j) (by rw [hfr]; rfl)
                have z3 : w7.cell? af = some (.int .i64 j) := z2
                have h9 : Sat E (row 3 1 (.slice At T.length ct) T.length (nums .i64 T) * (row 3 1 (.slice (some af) (freeOf n T).length cf) (freeOf n T).length (nums .i64 (freeOf n T)) * (bp p n (poolOf n (T ++ [(j : Int)])) * F))) w7 := g8.eq (by ac_rfl)
                have HU := hid (inR_snoc HT.out (Int.natCast_nonneg j) (by omega : (j : Int) < n))
                have hny : nums .i64 T ++ [.int .i64 j] = nums .i64 (T ++ [(j : Int)]) := by rw [nums_append]; rfl
                have hnl : T.length + 1 = (T ++ [(j : Int)]).length := by simp
                have HN := hid hny
                have HL := hid hnl
                clear hcf hfr g8 g7 hny hnl
                go_wp2_with (at_builtin; refine wpList_append_sat rfl _ _ 22 3 (.int .i64 0) 1 8 rfl Try.underlying22 Try.info3 rfl (by decide) _ T.length _ _ 1 1 [.int .i64 j] rfl rfl (h9.alloc_drop _) (Reads.new 1 1 [.int .i64 j] 3 rfl (by omega)) (by simp [Value.oneCell']) (by unfold maxLen; omega) (by omega) ?_; intro v1 w8 h8)
                rw [HN.out, HL.out] at h8
                have h9b := h8.drop_mid
                have hUl : (T ++ [(j : Int)]).length ≤ 200 + (k + 1) := by rw [← HL.out]; omega
                clear h8 h9 HN HL
                generalize T ++ [(j : Int)] = U at *
                obtain ⟨At, ct, rfl, _, _, _⟩ := h9b.reads
                have h9 := h9b
                clear h9b
                go_wp2
                go_meet
                exact ⟨U, HU, by omega, h9⟩
            · have hk0 : (kind == 0) = false := by rw [beq_eq_false_iff_ne]; exact hkind
              clear hkind
              have hid0 : ∀ {w}, Sat E (row 3 1 (.slice Af (freeOf n T).length cf) (freeOf n T).length (nums .i64 (freeOf n T)) * (row 3 1 (.slice At T.length ct) T.length (nums .i64 T) * (bp p n (poolOf n T) * F))) w → Sat E F w := fun h => h.right.right.right
              have eT : ∀ {w}, Sat E (row 3 1 (.slice Af (freeOf n T).length cf) (freeOf n T).length (nums .i64 (freeOf n T)) * (row 3 1 (.slice At T.length ct) T.length (nums .i64 T) * (bp p n (poolOf n T) * F))) w → Reads w 1 At T.length (nums .i64 T) := fun h => h.right.reads_at
              have eO : ∀ {w}, Sat E (row 3 1 (.slice Af (freeOf n T).length cf) (freeOf n T).length (nums .i64 (freeOf n T)) * (row 3 1 (.slice At T.length ct) T.length (nums .i64 T) * (bp p n (poolOf n T) * F))) w → Sat E (row 3 1 (.slice At T.length ct) T.length (nums .i64 T) * (bp p n (poolOf n T) * F)) w := fun h => h.right
              generalize hX : row 3 1 (.slice Af (freeOf n T).length cf) (freeOf n T).length (nums .i64 (freeOf n T)) * (row 3 1 (.slice At T.length ct) T.length (nums .i64 T) * (bp p n (poolOf n T) * F)) = X at *
              clear hX
              have hcb := (q3 _ (hid0 g6)).2.1
              have hfz := hid (fineTo_zero T ids)
              go_wp2_with fail
              refine (twice_calls Ai ci ids g6 q1 (fun w h => (q3 _ (hid0 h)).2.2)).mono ?_
              rintro e w7 ⟨rfl, g7⟩
              clear g6 hcb hca
              go_wp2_with fail
              go_loopw [17, 18] (fun fb i wr => ∃ (q : Nat) (b : Bool), q ≤ ids.length ∧ i = .int .i64 q ∧ Hid (fineTo T ids q = b) ∧ fb = .bool b ∧ Sat E X wr) (fun _ i _ => ids.length - (intOf i).toNat)
              case atStart => exact ⟨0, !dup ids, by omega, rfl, hfz, rfl, g7⟩
              case round =>
                clear g7 hfz
                obtain ⟨q, b, hq, rfl, hfb, rfl, hr2⟩ := hrel
                have hcb := (q3 _ (hid0 hr2)).2.1
                by_cases hlq : q < ids.length
                · have hqd : (q : Int) < (ids.length : Int) := by omega
                  have hst := hid (fineTo_succ (T := T) hlq)
                  cases b with
                  | false =>
                    have HS : Hid (fineTo T ids (q + 1) = false) := by show _ = _; rw [hst.out, hfb.out]; rfl
                    go_wp2
                    go_roundw
                    case rel => exact ⟨q + 1, false, by omega, by go_num, HS, rfl, hr2⟩
                    case measure => simp [intOf]; omega
                  | true =>
                    obtain ⟨bd, hbd, hcq⟩ := (q3 _ (hid0 hr2)).2.2.at (by omega)
                    subst hbd
                    have hcx := hcq q _ (nums_at hlq)
                    clear hcq
                    generalize hy : ids[q] = y at *
                    clear hy
                    obtain ⟨b2, hb2⟩ : ∃ b2, decide (y ∈ T) = b2 := ⟨_, rfl⟩
                    have HS : Hid (fineTo T ids (q + 1) = b2) := by show _ = _; rw [hst.out, hfb.out, hb2]; rfl
                    have HB2 := hid hb2
                    clear hb2
                    go_wp2_with fail
                    refine (hasInt At T.length ct T y (eT hr2)).mono ?_
                    rw [HB2.out]
                    rintro e w8 ⟨rfl, rfl⟩
                    go_wp2
                    go_roundw
                    case rel => exact ⟨q + 1, b2, by omega, by go_num, HS, rfl, hr2⟩
                    case measure => simp [intOf]; omega
                · have hgb : giveB T ids = b := by
                    have := hfb.out
                    rw [show q = ids.length by omega, fineTo_full] at this
                    exact this
                  have HGB := hid hgb
                  have h3 := eO hr2
                  clear hgb hfb
                  go_wp2_with fail
                  refine (give_calls p n T Ai ids.length ci ids HT.out (by omega) (h3.eq (star_left_comm _ _ _)) (fun w h => (q3 _ h.right).2.2)).mono ?_
                  rw [HGB.out]
                  rintro e w8 ⟨rfl, g8⟩
                  clear h3 hr2
                  cases b with
                  | false =>
                    rw [gave_false HGB.out] at g8
                    have h9 : Sat E (row 3 1 (.slice At T.length ct) T.length (nums .i64 T) * (bp p n (poolOf n T) * F)) w8 := g8.eq (star_left_comm _ _ _)
                    have HU := HT
                    clear g8 eT eO hid0
                    go_wp2
                    go_meet
                    exact ⟨T, HU, by omega, h9⟩
                  | true =>
                    rw [gave_true HGB.out] at g8
                    have g9 : Sat E (row 3 1 (.slice At T.length ct) T.length (nums .i64 T) * (bp p n (poolOf n (less T ids)) * F)) w8 := g8.eq (star_left_comm _ _ _)
                    have HU := hid (inR_less (l := ids) HT.out)
                    have hUl := less_length_le T ids
                    clear g8 eT eO hid0
                    go_wp2_with fail
                    go_loopw [19, 20] (fun v i wr => ∃ q : Nat, q ≤ T.length ∧ i = .int .i64 q ∧ Sat E (row 3 1 v (less (T.take q) ids).length (nums .i64 (less (T.take q) ids)) * (row 3 1 (.slice At T.length ct) T.length (nums .i64 T) * (bp p n (poolOf n (less T ids)) * F))) wr) (fun _ i _ => T.length - (intOf i).toNat)
                    case atStart => exact ⟨0, by omega, rfl, g9.row_nil⟩
                    case round =>
                      clear g9
                      obtain ⟨q, hq, rfl, hr2⟩ := hrel
                      obtain ⟨Av, cv, rfl, _, _, _⟩ := hr2.reads
                      have hll := less_length_le (T.take q) ids
                      rw [List.length_take] at hll
                      by_cases hlq : q < T.length
                      · have hqd : (q : Int) < (T.length : Int) := by omega
                        obtain ⟨at2, hat2, hcq⟩ := hr2.right.reads_at.at (by omega)
                        subst hat2
                        have s1 : ∀ s : SW E (row 3 1 (.slice Av (less (T.take q) ids).length cv) (less (T.take q) ids).length (nums .i64 (less (T.take q) ids)) * (row 3 1 (.slice (some at2) T.length ct) T.length (nums .i64 T) * (bp p n (poolOf n (less T ids)) * F))), s.w.cell? (at2.add q) = some (.int .i64 T[q]) := fun s => s.h.right.reads_at.2.2.2 at2 rfl q _ (nums_at hlq)
                        have s0 : ∀ s : SW E (row 3 1 (.slice Av (less (T.take q) ids).length cv) (less (T.take q) ids).length (nums .i64 (less (T.take q) ids)) * (row 3 1 (.slice (some at2) T.length ct) T.length (nums .i64 T) * (bp p n (poolOf n (less T ids)) * F))), s.w.cell? { block := (ad.add (k * 2)).block, off := (ad.add (k * 2)).off + 1 } = some (.slice Ai ids.length ci) := fun s => (q3 _ s.h.right.right.right).2.1
                        have s2 : ∀ s : SW E (row 3 1 (.slice Av (less (T.take q) ids).length cv) (less (T.take q) ids).length (nums .i64 (less (T.take q) ids)) * (row 3 1 (.slice (some at2) T.length ct) T.length (nums .i64 T) * (bp p n (poolOf n (less T ids)) * F))), Reads s.w 1 Ai ids.length (nums .i64 ids) := fun s => (q3 _ s.h.right.right.right).2.2
                        have hlt2 := hid (less_take (l := ids) hlq)
                        clear hcq
                        generalize hy : T[q] = y at *
                        clear hy
                        by_cases hm : y ∈ ids
                        · have cl : ∀ s : SW E (row 3 1 (.slice Av (less (T.take q) ids).length cv) (less (T.take q) ids).length (nums .i64 (less (T.take q) ids)) * (row 3 1 (.slice (some at2) T.length ct) T.length (nums .i64 T) * (bp p n (poolOf n (less T ids)) * F))), Calls Try.prog 35 #[.slice Ai ids.length ci, .int .i64 y] s.w fun e w'' => e = .returned (.bool true) ∧ ∃ s' : SW E (row 3 1 (.slice Av (less (T.take q) ids).length cv) (less (T.take q) ids).length (nums .i64 (less (T.take q) ids)) * (row 3 1 (.slice (some at2) T.length ct) T.length (nums .i64 T) * (bp p n (poolOf n (less T ids)) * F))), w'' = s'.w := fun s => by
                            have := has_sat Ai ids.length ci ids y s.h (s2 s)
                            rw [decide_eq_true hm] at this
                            exact quietS this
                          have HS : Hid (less (T.take (q + 1)) ids = less (T.take q) ids) := by show _ = _; rw [hlt2.out, if_neg (by simpa using hm), List.append_nil]
                          clear hm s2 hlt2
                          go_wp2_with fail
                          refine wp_region_quietS _ (by kernel_rfl) (by kernel_rfl) hr2 ?_
                          intro hne
                          repeat (go_big_quiet_step (first | (go_at_call 35; exact cl _)))
                          refine wpQuiet_nil ?_
                          intro w12 hw'
                          have h12 := SW.out hw'
                          clear hw' hne
                          go_wp2
                          go_roundw
                          case rel => exact ⟨q + 1, by omega, by go_num, by rw [HS.out]; exact h12⟩
                          case measure => simp [intOf]; omega
                        · have cl : ∀ s : SW E (row 3 1 (.slice Av (less (T.take q) ids).length cv) (less (T.take q) ids).length (nums .i64 (less (T.take q) ids)) * (row 3 1 (.slice (some at2) T.length ct) T.length (nums .i64 T) * (bp p n (poolOf n (less T ids)) * F))), Calls Try.prog 35 #[.slice Ai ids.length ci, .int .i64 y] s.w fun e w'' => e = .returned (.bool false) ∧ ∃ s' : SW E (row 3 1 (.slice Av (less (T.take q) ids).length cv) (less (T.take q) ids).length (nums .i64 (less (T.take q) ids)) * (row 3 1 (.slice (some at2) T.length ct) T.length (nums .i64 T) * (bp p n (poolOf n (less T ids)) * F))), w'' = s'.w := fun s => by
                            have := has_sat Ai ids.length ci ids y s.h (s2 s)
                            rw [decide_eq_false hm] at this
                            exact quietS this
                          have hs2 : less (T.take (q + 1)) ids = less (T.take q) ids ++ [y] := by rw [hlt2.out, if_pos hm]
                          have hny : nums .i64 (less (T.take q) ids) ++ [.int .i64 y] = nums .i64 (less (T.take (q + 1)) ids) := by rw [hs2, nums_append]; rfl
                          have hnl : (less (T.take q) ids).length + 1 = (less (T.take (q + 1)) ids).length := by rw [hs2]; simp
                          have HN := hid hny
                          have HL := hid hnl
                          clear hm s2 hlt2 hs2 hny hnl
                          go_wp2_with fail
                          refine wp_region_quietS _ (by kernel_rfl) (by kernel_rfl) hr2 ?_
                          intro hne
                          repeat (go_big_quiet_step (first | (go_at_call 35; exact cl _)))
                          refine wpQuiet_nil ?_
                          intro w12 hw'
                          have h12 := SW.out hw'
                          have s3 := s1 ⟨w12, h12⟩
                          simp only at s3
                          clear hw' hne s0 cl
                          go_wp2_with (at_builtin; refine wpList_append_sat rfl _ _ 22 3 (.int .i64 0) 1 8 rfl Try.underlying22 Try.info3 rfl (by decide) _ (less (T.take q) ids).length _ _ 1 1 [.int .i64 y] rfl rfl (h12.alloc_drop _) (Reads.new 1 1 [.int .i64 y] 3 rfl (by omega)) (by simp [Value.oneCell']) (by unfold maxLen; omega) (by omega) ?_; intro v1 w8 h8)
                          rw [HN.out, HL.out] at h8
                          go_wp2
                          go_roundw
                          case rel => exact ⟨q + 1, by omega, by go_num, h8⟩
                          case measure => simp [intOf]; omega
                      · rw [List.take_of_length_le (by omega)] at hr2
                        have h9 := hr2.drop_mid
                        have hUl2 : (less T ids).length ≤ 200 + (k + 1) := by omega
                        have hlen : (less (T.take q) ids).length = (less T ids).length := by rw [List.take_of_length_le (by omega)]
                        clear hr2 hll
                        generalize less T ids = U at *
                        have HLN := hid hlen
                        clear hlen
                        go_wp2
                        go_meet
                        exact ⟨U, HU, by omega, by rw [HLN.out]; exact h9⟩
          case rest =>
            clear g6 q3 q1 q2 hca HT
            obtain ⟨U, HU, hUl, h9⟩ := hcut
            obtain ⟨At, ct, rfl, _, _, _⟩ := h9.reads
            go_wp2_with fail
            refine (rfree_calls n At U.length ct U h9 (by omega) (fun w h => h.reads_at)).mono ?_
            rintro e w10 ⟨vf2, rfl, h10⟩
            obtain ⟨Af2, cf2, rfl, _, _, _⟩ := h10.reads
            have h10b : Sat E (bp p n (poolOf n U) * (row 3 1 (.slice Af2 (freeOf n U).length cf2) (freeOf n U).length (nums .i64 (freeOf n U)) * (row 3 1 (.slice At U.length ct) U.length (nums .i64 U) * F))) w10 := h10.eq (by ac_rfl)
            have hfU := freeOf_length_le n U
            obtain ⟨bb, hbb⟩ : ∃ bb, decide (id ∈ freeOf n U) = bb := ⟨_, rfl⟩
            have HBB := hid hbb
            clear hbb h10
            go_wp2_with fail
            refine (all_calls p n U h10b (by omega)).mono ?_
            rintro e w11 ⟨va, rfl, h11⟩
            obtain ⟨Aa, ca2, rfl, _, _, _⟩ := h11.reads
            go_wp2_with fail
            refine (intsSame Aa Af2 (freeOf n U).length (freeOf n U).length ca2 cf2 (freeOf n U) h11.reads_at h11.right.right.reads_at).mono ?_
            rintro e w12 ⟨rfl, nq, rfl⟩
            have h12 := (h11.drewN nq).right
            clear h11
            go_wp2_with fail
            refine (len_calls p n U h12 (by omega)).mono ?_
            rintro e w13 ⟨rfl, h13⟩
            go_wp2_with fail
            refine (free_calls p n U id h13).mono ?_
            rw [HBB.out]
            rintro e w14 ⟨rfl, h14⟩
            go_wp2_with fail
            refine (hasInt Af2 (freeOf n U).length cf2 (freeOf n U) id h14.right.reads_at).mono ?_
            rw [HBB.out]
            rintro e w15 ⟨rfl, rfl⟩
            have h15 : Sat E (row 3 1 (.slice At U.length ct) U.length (nums .i64 U) * (bp p n (poolOf n U) * F)) w14 := h14.drop_mid.eq (star_left_comm _ _ _)
            clear h14 h13 h12 h10b h9
            have hbb2 : (bb != bb) = false := by simp
            go_wp2
            go_roundw
            case rel => exact ⟨k + 1, U, by omega, by go_num, HU, by omega, h15⟩
            case measure => simp [intOf]; omega
        · go_wp2_with fail
          refine (first18 hr.right.right).mono ?_
          rintro e w6 ⟨rfl, h6⟩
          go_wp2
          go_ret
          exact ⟨rfl, h6⟩
    · have HMP := hid hmp
      clear hmp g2
      go_wp2_with fail
      refine (mayPool_calls n A c used g3 huc hR).mono ?_
      rw [HMP.out]
      rintro e w4 ⟨rfl, g4⟩
      go_wp2_with fail
      refine (first18 g4).mono ?_
      rintro e w5 ⟨rfl, g5⟩
      go_wp2
      go_ret
      exact ⟨rfl, g5⟩
  · go_wp2_with fail
    refine (first18 g2).mono ?_
    rintro e w3 ⟨rfl, g3⟩
    go_wp2
    go_ret
    exact ⟨rfl, g3⟩
end Go.Proofs.Ytfphpnccmkggfaa
