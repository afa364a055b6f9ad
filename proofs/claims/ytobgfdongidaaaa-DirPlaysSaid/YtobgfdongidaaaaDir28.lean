import Derived.Test.YtobgfdongidaaaaDir25
import Derived.Deep.DeepCutAuto
import Derived.Deep.CutBlock
import Derived.Deep.RegionLaw
namespace Go.Proofs.Ytobgfdongidaaaa
set_option linter.unusedVariables false
set_option linter.unusedSimpArgs false
open Go.RowKit Go.Proofs.Sep Go.Lib

theorem wpList_append_sat_g {P : Program} {ops : Array Oper} {rest : List Oper} {o : Oper} {a : Act} {Q : Exit → Act → World → Prop} {E : World} {F : Asn} {w : World} (hw : Region.wanted o (yielded ops a.tmps) = true) (s x : Operand) (t e : TypeId) (z : Value) (size bytes : Nat)
    (ho : o.op = .call { callee := .builtin .append, args := #[s, x], argTypes := #[t, t] })
    (ht : P.underlying t = some (.slice e)) (hinfo : (P.info? e).map (fun i => (i.zero, i.size, i.bytes)) = some (some z, size, bytes)) (hz : z.cells.size = size) (hsz : 0 < size)
    (v : Value) (n : Nat) (xs : List Value) (A : Option Addr) (m c : Nat) (news : List Value) (hs : a.eval s = v) (hx : a.eval x = .slice A m c)
    (hS : Sat E (row e size v n xs * F) w) (hR : Reads w size A m news) (h1 : ∀ u ∈ news, u.oneCell' = true)
    (h63 : n + m ≤ maxLen) (hl : (n + m) * bytes ≤ 140737488355328)
    (h : ∀ v1 w1, Sat E (row e size v1 (n + m) (xs ++ news) * F) w1 → wpList P ops Q rest (a.put o.dst v1) w1) :
    wpList P ops Q (o :: rest) a w := by
  obtain ⟨v1, w1, hrun, h2⟩ := run_append_sat (P := P) t e o.type z size bytes ht hinfo hz hsz v n xs A m c news hS hR h1 h63 hl
  refine wpList_step fun K hK => ?_
  rw [if_pos hw]
  unfold Oper.wp
  simp [execOp, ho, resolve, invoke, builtin, hs, hx, hrun, Result.andThen]
  exact hK _ _ (h v1 w1 h2)
set_option maxRecDepth 100000 in
set_option maxHeartbeats 8000000 in
theorem dirRanges {E w : World} {F : Asn} (ord lim : Int) (A : Option Addr) (c : Nat) (l : List Ent) (lo mid hi : ByteArray) (hS : Sat E F w) (hA : ∀ w, Sat E F w → Reads w 2 A l.length (ents l)) (hz : ∀ x ∈ l, x.1.size ≤ 140737488351232) (hlo : lo.size ≤ 140737488351232) (hmid : mid.size ≤ 140737488351232) (hhi : hi.size ≤ 140737488351232) :
    Calls Try.prog 3 #[.int .i64 ord, .slice A l.length c, .string lo, .string mid, .string hi, .int .i64 lim] w fun e w' => e = .returned (.bool true) ∧ Sat E F w' := by
  go_enter Try.func3, Try.ntmps3
  go_wp2_with fail
  refine (first7 hS).mono ?_
  rintro e w1 ⟨rfl, g1⟩
  clear hS
  go_wp2_with fail
  go_loopw [13, 14] (fun n i wr => ∃ k : Nat, k ≤ l.length ∧ k ≤ 200 ∧ i = .int .i64 k ∧ n = .int .i64 (wsum l k) ∧ Sat E F wr) (fun _ i _ => l.length - (intOf i).toNat)
  case atStart => exact ⟨0, by omega, by omega, rfl, rfl, g1⟩
  case round =>
    clear g1
    obtain ⟨k, hkl, hk2, rfl, rfl, hr⟩ := hrel
    by_cases hlt : k < l.length ∧ k < 200
    · have hkd : (k : Int) < (l.length : Int) := by omega
      have hkd2 : (k : Int) < 200 := by omega
      have wk := i64_wrap (x := (k : Int) + 1) (by omega) (by omega)
      obtain ⟨ad, hAd, q⟩ := ent_at hA hlt.1 hr
      obtain ⟨x0, x1⟩ := q _ hr
      subst hAd
      have HW := hid (wsum_succ l k hlt.1)
      have HL := hid (wsum_le l k)
      have hzz := hz l[k] (List.getElem_mem _)
      have hm : Nat.min l[k].1.size 20001 ≤ 20001 := Nat.min_le_right _ _
      have ws := i64_wrap (x := (wsum l k : Int) + (Nat.min l[k].1.size 20001 : Nat)) (by omega) (by have := HL.out; omega)
      generalize hx : l[k].1 = X at *
      by_cases hmm : (20001 : Int) < (X.size : Int)
      · have e : Nat.min X.size 20001 = 20001 := Nat.min_eq_right (by omega)
        rw [e] at HW ws
        go_wp2_with fail
        go_roundw
        case rel =>
          refine ⟨k + 1, by omega, by omega, by go_num, ?_, hr⟩
          have h5 := HL.out
          have h6 := HW.out
          exact congrArg (Value.int .i64) ((wrap64_id (by omega) (by omega)).trans (by omega))
        case measure => simp [intOf]; omega
      · have e : Nat.min X.size 20001 = X.size := Nat.min_eq_left (by omega)
        rw [e] at HW ws
        go_wp2_with fail
        go_roundw
        case rel =>
          refine ⟨k + 1, by omega, by omega, by go_num, ?_, hr⟩
          have h6 := HW.out
          exact congrArg (Value.int .i64) (by omega)
        case measure => simp [intOf]; omega
    · have hKN : ∃ (n : Nat), wsum l k = n ∧ n ≤ 4020000 := ⟨_, rfl, by have := wsum_le l k; omega⟩
      obtain ⟨n, hn, hn2⟩ := hKN
      rw [hn]
      clear hn
      have hcall := first7 hr
      by_cases c0 : 200 < (l.length : Int)
      · have h1 : (k : Int) < (l.length : Int) := by omega
        have h2 : ¬ (k : Int) < 200 := by omega
        go_wp2_with fail
        refine hcall.mono ?_
        rintro e w2 ⟨rfl, g2⟩
        go_wp2_with fail
        go_ret
        exact ⟨rfl, g2⟩
      · have h1 : ¬ (k : Int) < (l.length : Int) := by omega
        by_cases c1 : 20000 < (n : Int)
        · go_wp2_with fail
          refine hcall.mono ?_
          rintro e w2 ⟨rfl, g2⟩
          go_wp2_with fail
          go_ret
          exact ⟨rfl, g2⟩
        · skip
          by_cases c2 : 1000 < (lo.size : Int)
          · go_wp2_with fail
            refine hcall.mono ?_
            rintro e w2 ⟨rfl, g2⟩
            go_wp2_with fail
            go_ret
            exact ⟨rfl, g2⟩
          · skip
            by_cases c3 : 1000 < (hi.size : Int)
            · go_wp2_with fail
              refine hcall.mono ?_
              rintro e w2 ⟨rfl, g2⟩
              go_wp2_with fail
              go_ret
              exact ⟨rfl, g2⟩
            · skip
              by_cases c4 : 1000 < (mid.size : Int)
              · go_wp2_with fail
                refine hcall.mono ?_
                rintro e w2 ⟨rfl, g2⟩
                go_wp2_with fail
                go_ret
                exact ⟨rfl, g2⟩
              · skip
                by_cases c5 : 1000 < lim
                · go_wp2_with fail
                  refine hcall.mono ?_
                  rintro e w2 ⟨rfl, g2⟩
                  go_wp2_with fail
                  go_ret
                  exact ⟨rfl, g2⟩
                · skip
                  clear hcall
                  by_cases hord : ord < 3 ∨ 64 < ord
                  · have hn0 := new_no (w := wr) ord (.slice A l.length c) hord
                    go_wp2_with fail
                    refine hn0.mono ?_
                    clear hn0 hord
                    rintro e w2 ⟨rfl, rfl⟩
                    go_wp2_with fail
                    refine (first7 hr).mono ?_
                    rintro e w2 ⟨rfl, g2⟩
                    go_wp2_with fail
                    go_ret
                    exact ⟨rfl, g2⟩
                  · obtain ⟨m, rfl⟩ : ∃ m : Nat, ord = m := ⟨ord.toNat, by omega⟩
                    have hn1 := new_yes m A c l (by omega) (by omega) (by omega) hr hA
                    have HRI := hid (insAll_rises l)
                    have hle := insAll_le l
                    have hll : (insAll l).length ≤ 200 := by omega
                    generalize insAll l = L at *
                    have hord1 : ¬ (m : Int) < 3 := by omega
                    clear hle hord hA hkl hk2 hlt hr
                    go_wp2_with fail
                    refine hn1.mono ?_
                    clear hn1 c0 h1 c1 c2 c3 c4 c5 hord1
                    rintro e w2 ⟨T, rfl, s2⟩
                    have ha := all9 T m L (by omega) s2
                    unfold ptrv at ha ⊢
                    go_wp2_with fail
                    refine ha.mono ?_
                    clear ha s2
                    rintro e w3 ⟨v, rfl, s3⟩
                    obtain ⟨B, d, rfl, _, _, _⟩ := s3.reads
                    have hB : ∀ w, Sat E (row 25 2 (.slice B L.length d) L.length (ents L) * (dir T m L * F)) w → Reads w 2 B L.length (ents L) := fun w h => h.reads_at
                    go_wp2_with fail
                    generalize hG : (row 25 2 (.slice B L.length d) L.length (ents L) * (dir T m L * F)) = G at *
                    go_loopw [17, 19] (fun o i wr => ∃ k : Nat, k ≤ L.length ∧ i = .int .i64 k ∧ Sat E (row 32 2 o (wantR lo hi lim L k).length (ents (wantR lo hi lim L k)) * G) wr) (fun _ i _ => L.length - (intOf i).toNat)
                    case atStart => exact ⟨0, by omega, rfl, by rw [wantR_zero]; exact s3.row_nil⟩
                    case round =>
                      clear s3
                      obtain ⟨k, hk, rfl, hq⟩ := hrel
                      by_cases hlt : k < L.length
                      · have hkd : (k : Int) < (L.length : Int) := by omega
                        have wk := i64_wrap (x := (k : Int) + 1) (by omega) (by omega)
                        obtain ⟨ad, hAd, q⟩ := ent_at hB hlt hq.right
                        obtain ⟨x0, x1⟩ := q _ hq.right
                        subst hAd
                        obtain ⟨O, co, ho, _, _, _⟩ := hq.reads
                        subst ho
                        have hn1 := wantR_no lo hi lim L k hlt
                        have hn2 := wantR_full lo hi lim L k hlt
                        have hn3 := wantR_yes lo hi lim L k hlt
                        have hwl := wantR_le lo hi lim L k
                        generalize hws : wantR lo hi lim L (k + 1) = WS at *
                        generalize hwn : wantR lo hi lim L k = WN at *
                        generalize hx : L[k] = X at *
                        have HWS := hid hws
                        clear hws hwn hx
                        obtain ⟨X1, X2⟩ := X
                        have H1 := hid hn1
                        have H2 := hid hn2
                        have H3 := hid hn3
                        clear hn1 hn2 hn3 q
                        simp only at x0 x1
                        have hin : inR lo hi (X1, X2) = (!decide (klt X1 lo) && !decide (klt hi X1)) := rfl
                        by_cases a1 : klt X1 lo
                        · have z1 : Op.bytesLess X1.toList lo.toList = true := by rw [key_lss]; exact decide_eq_true a1
                          have hres := H1.out (by rw [hin]; simp [a1])
                          subst hres
                          have HWS := HWS.out
                          clear a1 hin H1 H2 H3
                          go_wp2_with fail
                          go_roundw
                          case rel => exact ⟨k + 1, by omega, by go_num, by rw [HWS]; exact hq⟩
                          case measure => simp [intOf]; omega
                        · have z1 : Op.bytesLess X1.toList lo.toList = false := by rw [key_lss]; exact decide_eq_false a1
                          by_cases a2 : klt hi X1
                          · have z2 : Op.bytesLess X1.toList hi.toList = false := by rw [key_lss]; exact decide_eq_false (klt_asymm a2)
                            have z3 : ¬ X1.toList = hi.toList := fun h => by
                              have := key_leq X1 hi
                              rw [h] at this
                              simp [a2] at this
                            have hres := H1.out (by rw [hin]; simp [a2])
                            subst hres
                            have HWS := HWS.out
                            clear a1 a2 hin H1 H2 H3
                            go_wp2_with fail
                            go_roundw
                            case rel => exact ⟨k + 1, by omega, by go_num, by rw [HWS]; exact hq⟩
                            case measure => simp [intOf]; omega
                          · rcases klt_or X1 hi with h | rfl | h
                            rotate_left 2
                            · exact absurd h a2
                            · have z2 : Op.bytesLess X1.toList hi.toList = true := by rw [key_lss]; exact decide_eq_true h
                              clear h
                              by_cases a3 : (WN.length : Int) < lim
                              · have hres := H3.out (by rw [hin]; simp [a1, a2]) a3
                                subst hres
                                have HWS := HWS.out
                                clear a1 a2 hin H1 H2 H3
                                have hnx : ents (WN ++ [(X1, X2)]) = ents WN ++ [.string X1, .int .i64 X2] := by rw [ents_append]; rfl
                                have HN := hid hnx
                                have HWS := hid HWS
                                clear hnx
                                go_wp2_with fail
                                have hq2 := (hq.alloc_drop (.cells #[.string X1, .int .i64 X2] 32)).drew
                                have hR : Reads (wr.alloc (.cells [.string X1, .int .i64 X2].toArray 32)).drew 2 (some ⟨wr.heap.size, 0, none⟩) 1 [.string X1, .int .i64 X2] := (Reads.new 2 1 [.string X1, .int .i64 X2] 32 rfl (by omega)).drew
                                have hq3 : Sat E _ (wr.drew.alloc (.cells #[.string X1, .int .i64 X2] 32)) := hq2
                                have hR3 : Reads (wr.drew.alloc (.cells [.string X1, .int .i64 X2].toArray 32)) 2 (some ⟨wr.heap.size, 0, none⟩) 1 [.string X1, .int .i64 X2] := hR
                                go_region_law ((first | (refine step_append_sat rfl _ _ 30 32 (.agg #[.string ByteArray.empty, .int .i64 0]) 2 24 rfl Try.underlying30 Try.info32 rfl (by decide) _ WN.length (ents WN) _ 1 1 [.string X1, .int .i64 X2] rfl rfl hq2 hR (by simp [Value.oneCell']) (by unfold maxLen; omega) (by omega) ?_) | (refine step_append_sat rfl _ _ 30 32 (.agg #[.string ByteArray.empty, .int .i64 0]) 2 24 rfl Try.underlying30 Try.info32 rfl (by decide) _ WN.length (ents WN) _ 1 1 [.string X1, .int .i64 X2] rfl rfl hq3 hR3 (by simp [Value.oneCell']) (by unfold maxLen; omega) (by omega) ?_)); intro v1 w1 hS1)
                                all_goals
                                  rw [← HN.out] at hS1
                                  go_wp2_with fail
                                  go_roundw
                                  case rel => exact ⟨k + 1, by omega, by go_num, by rw [HWS.out, List.length_append]; exact hS1⟩
                                  case measure => simp [intOf]; omega
                              · have hres := H2.out (by omega)
                                subst hres
                                have HWS := HWS.out
                                clear a1 a2 hin H1 H2 H3
                                go_wp2_with fail
                                go_roundw
                                case rel => exact ⟨k + 1, by omega, by go_num, by rw [HWS]; exact hq⟩
                                case measure => simp [intOf]; omega
                            · have z2 : Op.bytesLess X1.toList X1.toList = false := by rw [key_lss]; exact decide_eq_false (klt_irrefl _)
                              by_cases a3 : (WN.length : Int) < lim
                              · have hres := H3.out (by rw [hin]; simp [a1, a2]) a3
                                subst hres
                                have HWS := HWS.out
                                clear a1 a2 hin H1 H2 H3
                                have hnx : ents (WN ++ [(X1, X2)]) = ents WN ++ [.string X1, .int .i64 X2] := by rw [ents_append]; rfl
                                have HN := hid hnx
                                have HWS := hid HWS
                                clear hnx
                                go_wp2_with fail
                                have hq2 := (hq.alloc_drop (.cells #[.string X1, .int .i64 X2] 32)).drew
                                have hR : Reads (wr.alloc (.cells [.string X1, .int .i64 X2].toArray 32)).drew 2 (some ⟨wr.heap.size, 0, none⟩) 1 [.string X1, .int .i64 X2] := (Reads.new 2 1 [.string X1, .int .i64 X2] 32 rfl (by omega)).drew
                                have hq3 : Sat E _ (wr.drew.alloc (.cells #[.string X1, .int .i64 X2] 32)) := hq2
                                have hR3 : Reads (wr.drew.alloc (.cells [.string X1, .int .i64 X2].toArray 32)) 2 (some ⟨wr.heap.size, 0, none⟩) 1 [.string X1, .int .i64 X2] := hR
                                go_region_law ((first | (refine step_append_sat rfl _ _ 30 32 (.agg #[.string ByteArray.empty, .int .i64 0]) 2 24 rfl Try.underlying30 Try.info32 rfl (by decide) _ WN.length (ents WN) _ 1 1 [.string X1, .int .i64 X2] rfl rfl hq2 hR (by simp [Value.oneCell']) (by unfold maxLen; omega) (by omega) ?_) | (refine step_append_sat rfl _ _ 30 32 (.agg #[.string ByteArray.empty, .int .i64 0]) 2 24 rfl Try.underlying30 Try.info32 rfl (by decide) _ WN.length (ents WN) _ 1 1 [.string X1, .int .i64 X2] rfl rfl hq3 hR3 (by simp [Value.oneCell']) (by unfold maxLen; omega) (by omega) ?_)); intro v1 w1 hS1)
                                all_goals
                                  rw [← HN.out] at hS1
                                  go_wp2_with fail
                                  go_roundw
                                  case rel => exact ⟨k + 1, by omega, by go_num, by rw [HWS.out, List.length_append]; exact hS1⟩
                                  case measure => simp [intOf]; omega
                              · have hres := H2.out (by omega)
                                subst hres
                                have HWS := HWS.out
                                clear a1 a2 hin H1 H2 H3
                                go_wp2_with fail
                                go_roundw
                                case rel => exact ⟨k + 1, by omega, by go_num, by rw [HWS]; exact hq⟩
                                case measure => simp [intOf]; omega
                      · obtain rfl : k = L.length := by omega
                        have hkd : ¬ (L.length : Int) < (L.length : Int) := by omega
                        rw [wantR_all lo hi lim L HRI.out] at hq
                        have HRL := hid (fun lo hi lim => rangeR_le lo hi lim L HRI.out)
                        have HR2 := hid (rangeR_two lo mid hi L HRI.out (by omega))
                        subst hG
                        have s4 := hq.drop_mid
                        have hr1 := range12 T m L lo hi lim (by omega) (s4.eq (star_left_comm _ _ _))
                        have hW := HRL.out lo hi lim
                        generalize rangeR lo hi lim L = W at *
                        clear hq hB hlt hk s4
                        unfold ptrv at hr1
                        go_wp2_with fail
                        refine hr1.mono ?_
                        clear hr1
                        rintro e w5 ⟨v5, rfl, s5⟩
                        obtain ⟨A5, d5, rfl, _, _, _⟩ := s5.reads
                        have he := entries11 A5 d5 W (by omega) s5 (fun w h => h.reads_at)
                        go_wp2_with fail
                        refine he.mono ?_
                        clear he s5
                        rintro e w6 ⟨v6, rfl, s6⟩
                        obtain ⟨A6, d6, rfl, _, _, _⟩ := s6.reads
                        obtain ⟨A7, d7, ho, _, _, _⟩ := s6.right.right.right.reads
                        subst ho
                        have hsm := same10 A6 A7 d6 d7 W W (by omega) (by omega) s6 (fun w h => h.reads_at) (fun w h => h.right.right.right.reads_at)
                        rw [show decide (W = W) = true by simp] at hsm
                        go_wp2_with fail
                        refine hsm.mono ?_
                        clear hsm
                        rintro e w8 ⟨rfl, s8⟩
                        have sd := s8.right.right.drop_mid
                        clear s6 s8
                        clear hW
                        have hends : ∀ {w}, Sat E (dir T m L * F) w → Calls Try.prog 7 #[] w fun r w' => r = .returned (.bool true) ∧ Sat E (dir T m L * F) w' := fun h => first7 h
                        have h7 := hends sd
                        by_cases b1 : klt mid lo
                        · have z1 : Op.bytesLess lo.toList mid.toList = false := by rw [key_lss]; exact decide_eq_false (klt_asymm b1)
                          have z2 : ¬ lo.toList = mid.toList := fun h => by
                            have := key_lss mid lo
                            rw [h] at this
                            rw [key_lss] at this
                            simp [b1, klt_irrefl] at this
                          clear HRL HR2 b1
                          go_wp2_with fail
                          refine h7.mono ?_
                          rintro e w9 ⟨rfl, s9⟩
                          go_wp2_with fail
                          go_ret
                          exact ⟨rfl, s9.right⟩
                        · by_cases b2 : klt hi mid
                          · have z1 : Op.bytesLess lo.toList mid.toList = true ∨ lo.toList = mid.toList := by
                              have := key_leq lo mid
                              simpa [b1] using this
                            have z3 : Op.bytesLess mid.toList hi.toList = false := by rw [key_lss]; exact decide_eq_false (klt_asymm b2)
                            have z4 : (mid.toList == hi.toList) = false := beq_eq_false_iff_ne.2 fun h => by
                              have := key_lss hi mid
                              rw [h] at this
                              rw [key_lss] at this
                              simp [b2, klt_irrefl] at this
                            clear HRL HR2
                            rcases klt_or lo mid with h | rfl | h
                            rotate_left 2
                            · exact absurd h b1
                            · have z2 : Op.bytesLess lo.toList mid.toList = true := by rw [key_lss]; exact decide_eq_true h
                              clear h z1 b1 b2
                              go_wp2_with fail
                              refine h7.mono ?_
                              rintro e w9 ⟨rfl, s9⟩
                              go_wp2_with fail
                              go_ret
                              exact ⟨rfl, s9.right⟩
                            · have z2 : Op.bytesLess lo.toList lo.toList = false := by rw [key_lss]; exact decide_eq_false (klt_irrefl _)
                              clear z1 b1 b2
                              go_wp2_with fail
                              refine h7.mono ?_
                              rintro e w9 ⟨rfl, s9⟩
                              go_wp2_with fail
                              go_ret
                              exact ⟨rfl, s9.right⟩
                          · have HA := hid (fun (w : World) (F : Asn) (h : Sat E (dir T m L * F) w) => range12 T m L lo mid 500 (by omega) h)
                            have HB := hid (fun (w : World) (F : Asn) (h : Sat E (dir T m L * F) w) => range12 T m L (nextKey mid) hi 500 (by omega) h)
                            have HC := hid (fun (w : World) (F : Asn) (h : Sat E (dir T m L * F) w) => range12 T m L lo hi 500 (by omega) h)
                            have l1 := HRL.out lo mid 500
                            have l2 := HRL.out (nextKey mid) hi 500
                            have l3 := HRL.out lo hi 500
                            have hres := HR2.out b1 b2
                            generalize rangeR lo mid 500 L = W1 at HA l1 hres
                            generalize rangeR (nextKey mid) hi 500 L = W2 at HB l2 hres
                            generalize rangeR lo hi 500 L = W3 at HC l3 hres
                            have HN1 : Hid (W1.length + W2.length = W3.length) := hid (by rw [← hres, List.length_append])
                            have HN2 : Hid (ents W1 ++ ents W2 = ents W3) := hid (by rw [← hres, ents_append])
                            unfold ptrv at HA HB HC
                            unfold nextKey at HB
                            clear HRL HR2 hres h7
                            rcases klt_or lo mid with h | rfl | h
                            rotate_left 2
                            · exact absurd h b1
                            · have z1 : Op.bytesLess lo.toList mid.toList = true := by rw [key_lss]; exact decide_eq_true h
                              clear h b1
                              rcases klt_or mid hi with h | rfl | h
                              rotate_left 2
                              · exact absurd h b2
                              · have z2 : Op.bytesLess mid.toList hi.toList = true := by rw [key_lss]; exact decide_eq_true h
                                clear h b2
                                go_wp2_with fail
                                refine (HA.out w8 F sd).mono ?_
                                rintro e w9 ⟨va, rfl, s9⟩
                                obtain ⟨Aa, da, rfl, _, _, _⟩ := s9.reads
                                go_wp2_with fail
                                refine (HB.out w9 _ (s9.eq (star_left_comm _ _ _))).mono ?_
                                rintro e w10 ⟨vb, rfl, s10⟩
                                obtain ⟨Ab, db, rfl, _, _, _⟩ := s10.reads
                                clear sd s9
                                go_wp2_with fail
                                refine (first7 s10).mono ?_
                                rintro e w11 ⟨rfl, s11⟩
                                have e1 := entries11 Aa da W1 (by omega) s11 (fun w h => h.right.right.reads_at)
                                clear s10
                                go_wp2_with fail
                                refine e1.mono ?_
                                rintro e w12 ⟨v1, rfl, s12⟩
                                obtain ⟨A1, d1, rfl, _, _, _⟩ := s12.reads
                                have e2 := entries11 Ab db W2 (by omega) s12 (fun w h => h.right.reads_at)
                                clear e1 s11
                                go_wp2_with fail
                                refine e2.mono ?_
                                rintro e w13 ⟨v2, rfl, s13⟩
                                obtain ⟨A2, d2, rfl, _, _, _⟩ := s13.reads
                                have hR13 := s13.reads_at
                                have g13 := s13.eq (star_left_comm _ _ _)
                                clear e2 s12
                                go_wp2_with (at_builtin; refine wpList_append_sat_g (by rfl) _ _ 30 32 (.agg #[.string ByteArray.empty, .int .i64 0]) 2 24 rfl Try.underlying30 Try.info32 rfl (by decide) _ W1.length (ents W1) A2 W2.length d2 (ents W2) rfl rfl g13 hR13 (ents_one _) (by unfold maxLen; omega) (by omega) ?_; intro v3 w14 s14; rw [HN1.out, HN2.out] at s14; obtain ⟨A3, d3, rfl, _, _, _⟩ := s14.reads)
                                have s14b : Sat E (dir T m L * (row 32 2 (.slice A3 W3.length d3) W3.length (ents W3) * (row 32 2 (.slice A2 W2.length d2) W2.length (ents W2) * (row 25 2 (.slice Ab W2.length db) W2.length (ents W2) * (row 25 2 (.slice Aa W1.length da) W1.length (ents W1) * F))))) w14 := s14.eq (by ac_rfl)
                                have e3 := HC.out w14 _ s14b
                                clear g13 hR13 s14 s14b
                                refine e3.mono ?_
                                clear e3
                                rintro e w15 ⟨vc, rfl, s15⟩
                                obtain ⟨Ac, dc, rfl, _, _, _⟩ := s15.reads
                                have e4 := entries11 Ac dc W3 (by omega) s15 (fun w h => h.reads_at)
                                go_wp2_with fail
                                refine e4.mono ?_
                                clear e4 s15
                                rintro e w16 ⟨v4, rfl, s16⟩
                                obtain ⟨A4, d4, rfl, _, _, _⟩ := s16.reads
                                have e5 := same10 A3 A4 d3 d4 W3 W3 (by omega) (by omega) s16 (fun w h => h.right.right.right.reads_at) (fun w h => h.reads_at)
                                rw [show decide (W3 = W3) = true by simp] at e5
                                go_wp2_with fail
                                refine e5.mono ?_
                                clear e5 s16
                                rintro e w17 ⟨rfl, s17⟩
                                go_wp2_with fail
                                go_ret
                                exact ⟨rfl, s17.right.right.right.right.right.right.right⟩
                              · have z2 : Op.bytesLess mid.toList mid.toList = false := by rw [key_lss]; exact decide_eq_false (klt_irrefl _)
                                clear b2
                                go_wp2_with fail
                                refine (HA.out w8 F sd).mono ?_
                                rintro e w9 ⟨va, rfl, s9⟩
                                obtain ⟨Aa, da, rfl, _, _, _⟩ := s9.reads
                                go_wp2_with fail
                                refine (HB.out w9 _ (s9.eq (star_left_comm _ _ _))).mono ?_
                                rintro e w10 ⟨vb, rfl, s10⟩
                                obtain ⟨Ab, db, rfl, _, _, _⟩ := s10.reads
                                clear sd s9
                                go_wp2_with fail
                                refine (first7 s10).mono ?_
                                rintro e w11 ⟨rfl, s11⟩
                                have e1 := entries11 Aa da W1 (by omega) s11 (fun w h => h.right.right.reads_at)
                                clear s10
                                go_wp2_with fail
                                refine e1.mono ?_
                                rintro e w12 ⟨v1, rfl, s12⟩
                                obtain ⟨A1, d1, rfl, _, _, _⟩ := s12.reads
                                have e2 := entries11 Ab db W2 (by omega) s12 (fun w h => h.right.reads_at)
                                clear e1 s11
                                go_wp2_with fail
                                refine e2.mono ?_
                                rintro e w13 ⟨v2, rfl, s13⟩
                                obtain ⟨A2, d2, rfl, _, _, _⟩ := s13.reads
                                have hR13 := s13.reads_at
                                have g13 := s13.eq (star_left_comm _ _ _)
                                clear e2 s12
                                go_wp2_with (at_builtin; refine wpList_append_sat_g (by rfl) _ _ 30 32 (.agg #[.string ByteArray.empty, .int .i64 0]) 2 24 rfl Try.underlying30 Try.info32 rfl (by decide) _ W1.length (ents W1) A2 W2.length d2 (ents W2) rfl rfl g13 hR13 (ents_one _) (by unfold maxLen; omega) (by omega) ?_; intro v3 w14 s14; rw [HN1.out, HN2.out] at s14; obtain ⟨A3, d3, rfl, _, _, _⟩ := s14.reads)
                                have s14b : Sat E (dir T m L * (row 32 2 (.slice A3 W3.length d3) W3.length (ents W3) * (row 32 2 (.slice A2 W2.length d2) W2.length (ents W2) * (row 25 2 (.slice Ab W2.length db) W2.length (ents W2) * (row 25 2 (.slice Aa W1.length da) W1.length (ents W1) * F))))) w14 := s14.eq (by ac_rfl)
                                have e3 := HC.out w14 _ s14b
                                clear g13 hR13 s14 s14b
                                refine e3.mono ?_
                                clear e3
                                rintro e w15 ⟨vc, rfl, s15⟩
                                obtain ⟨Ac, dc, rfl, _, _, _⟩ := s15.reads
                                have e4 := entries11 Ac dc W3 (by omega) s15 (fun w h => h.reads_at)
                                go_wp2_with fail
                                refine e4.mono ?_
                                clear e4 s15
                                rintro e w16 ⟨v4, rfl, s16⟩
                                obtain ⟨A4, d4, rfl, _, _, _⟩ := s16.reads
                                have e5 := same10 A3 A4 d3 d4 W3 W3 (by omega) (by omega) s16 (fun w h => h.right.right.right.reads_at) (fun w h => h.reads_at)
                                rw [show decide (W3 = W3) = true by simp] at e5
                                go_wp2_with fail
                                refine e5.mono ?_
                                clear e5 s16
                                rintro e w17 ⟨rfl, s17⟩
                                go_wp2_with fail
                                go_ret
                                exact ⟨rfl, s17.right.right.right.right.right.right.right⟩
                            · have z1 : Op.bytesLess lo.toList lo.toList = false := by rw [key_lss]; exact decide_eq_false (klt_irrefl _)
                              clear b1
                              rcases klt_or lo hi with h | rfl | h
                              rotate_left 2
                              · exact absurd h b2
                              · have z2 : Op.bytesLess lo.toList hi.toList = true := by rw [key_lss]; exact decide_eq_true h
                                clear h b2
                                go_wp2_with fail
                                refine (HA.out w8 F sd).mono ?_
                                rintro e w9 ⟨va, rfl, s9⟩
                                obtain ⟨Aa, da, rfl, _, _, _⟩ := s9.reads
                                go_wp2_with fail
                                refine (HB.out w9 _ (s9.eq (star_left_comm _ _ _))).mono ?_
                                rintro e w10 ⟨vb, rfl, s10⟩
                                obtain ⟨Ab, db, rfl, _, _, _⟩ := s10.reads
                                clear sd s9
                                go_wp2_with fail
                                refine (first7 s10).mono ?_
                                rintro e w11 ⟨rfl, s11⟩
                                have e1 := entries11 Aa da W1 (by omega) s11 (fun w h => h.right.right.reads_at)
                                clear s10
                                go_wp2_with fail
                                refine e1.mono ?_
                                rintro e w12 ⟨v1, rfl, s12⟩
                                obtain ⟨A1, d1, rfl, _, _, _⟩ := s12.reads
                                have e2 := entries11 Ab db W2 (by omega) s12 (fun w h => h.right.reads_at)
                                clear e1 s11
                                go_wp2_with fail
                                refine e2.mono ?_
                                rintro e w13 ⟨v2, rfl, s13⟩
                                obtain ⟨A2, d2, rfl, _, _, _⟩ := s13.reads
                                have hR13 := s13.reads_at
                                have g13 := s13.eq (star_left_comm _ _ _)
                                clear e2 s12
                                go_wp2_with (at_builtin; refine wpList_append_sat_g (by rfl) _ _ 30 32 (.agg #[.string ByteArray.empty, .int .i64 0]) 2 24 rfl Try.underlying30 Try.info32 rfl (by decide) _ W1.length (ents W1) A2 W2.length d2 (ents W2) rfl rfl g13 hR13 (ents_one _) (by unfold maxLen; omega) (by omega) ?_; intro v3 w14 s14; rw [HN1.out, HN2.out] at s14; obtain ⟨A3, d3, rfl, _, _, _⟩ := s14.reads)
                                have s14b : Sat E (dir T m L * (row 32 2 (.slice A3 W3.length d3) W3.length (ents W3) * (row 32 2 (.slice A2 W2.length d2) W2.length (ents W2) * (row 25 2 (.slice Ab W2.length db) W2.length (ents W2) * (row 25 2 (.slice Aa W1.length da) W1.length (ents W1) * F))))) w14 := s14.eq (by ac_rfl)
                                have e3 := HC.out w14 _ s14b
                                clear g13 hR13 s14 s14b
                                refine e3.mono ?_
                                clear e3
                                rintro e w15 ⟨vc, rfl, s15⟩
                                obtain ⟨Ac, dc, rfl, _, _, _⟩ := s15.reads
                                have e4 := entries11 Ac dc W3 (by omega) s15 (fun w h => h.reads_at)
                                go_wp2_with fail
                                refine e4.mono ?_
                                clear e4 s15
                                rintro e w16 ⟨v4, rfl, s16⟩
                                obtain ⟨A4, d4, rfl, _, _, _⟩ := s16.reads
                                have e5 := same10 A3 A4 d3 d4 W3 W3 (by omega) (by omega) s16 (fun w h => h.right.right.right.reads_at) (fun w h => h.reads_at)
                                rw [show decide (W3 = W3) = true by simp] at e5
                                go_wp2_with fail
                                refine e5.mono ?_
                                clear e5 s16
                                rintro e w17 ⟨rfl, s17⟩
                                go_wp2_with fail
                                go_ret
                                exact ⟨rfl, s17.right.right.right.right.right.right.right⟩
                              · clear b2
                                go_wp2_with fail
                                refine (HA.out w8 F sd).mono ?_
                                rintro e w9 ⟨va, rfl, s9⟩
                                obtain ⟨Aa, da, rfl, _, _, _⟩ := s9.reads
                                go_wp2_with fail
                                refine (HB.out w9 _ (s9.eq (star_left_comm _ _ _))).mono ?_
                                rintro e w10 ⟨vb, rfl, s10⟩
                                obtain ⟨Ab, db, rfl, _, _, _⟩ := s10.reads
                                clear sd s9
                                go_wp2_with fail
                                refine (first7 s10).mono ?_
                                rintro e w11 ⟨rfl, s11⟩
                                have e1 := entries11 Aa da W1 (by omega) s11 (fun w h => h.right.right.reads_at)
                                clear s10
                                go_wp2_with fail
                                refine e1.mono ?_
                                rintro e w12 ⟨v1, rfl, s12⟩
                                obtain ⟨A1, d1, rfl, _, _, _⟩ := s12.reads
                                have e2 := entries11 Ab db W2 (by omega) s12 (fun w h => h.right.reads_at)
                                clear e1 s11
                                go_wp2_with fail
                                refine e2.mono ?_
                                rintro e w13 ⟨v2, rfl, s13⟩
                                obtain ⟨A2, d2, rfl, _, _, _⟩ := s13.reads
                                have hR13 := s13.reads_at
                                have g13 := s13.eq (star_left_comm _ _ _)
                                clear e2 s12
                                go_wp2_with (at_builtin; refine wpList_append_sat_g (by rfl) _ _ 30 32 (.agg #[.string ByteArray.empty, .int .i64 0]) 2 24 rfl Try.underlying30 Try.info32 rfl (by decide) _ W1.length (ents W1) A2 W2.length d2 (ents W2) rfl rfl g13 hR13 (ents_one _) (by unfold maxLen; omega) (by omega) ?_; intro v3 w14 s14; rw [HN1.out, HN2.out] at s14; obtain ⟨A3, d3, rfl, _, _, _⟩ := s14.reads)
                                have s14b : Sat E (dir T m L * (row 32 2 (.slice A3 W3.length d3) W3.length (ents W3) * (row 32 2 (.slice A2 W2.length d2) W2.length (ents W2) * (row 25 2 (.slice Ab W2.length db) W2.length (ents W2) * (row 25 2 (.slice Aa W1.length da) W1.length (ents W1) * F))))) w14 := s14.eq (by ac_rfl)
                                have e3 := HC.out w14 _ s14b
                                clear g13 hR13 s14 s14b
                                refine e3.mono ?_
                                clear e3
                                rintro e w15 ⟨vc, rfl, s15⟩
                                obtain ⟨Ac, dc, rfl, _, _, _⟩ := s15.reads
                                have e4 := entries11 Ac dc W3 (by omega) s15 (fun w h => h.reads_at)
                                go_wp2_with fail
                                refine e4.mono ?_
                                clear e4 s15
                                rintro e w16 ⟨v4, rfl, s16⟩
                                obtain ⟨A4, d4, rfl, _, _, _⟩ := s16.reads
                                have e5 := same10 A3 A4 d3 d4 W3 W3 (by omega) (by omega) s16 (fun w h => h.right.right.right.reads_at) (fun w h => h.reads_at)
                                rw [show decide (W3 = W3) = true by simp] at e5
                                go_wp2_with fail
                                refine e5.mono ?_
                                clear e5 s16
                                rintro e w17 ⟨rfl, s17⟩
                                go_wp2_with fail
                                go_ret
                                exact ⟨rfl, s17.right.right.right.right.right.right.right⟩
end Go.Proofs.Ytobgfdongidaaaa
