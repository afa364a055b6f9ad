import Derived.Test.YtobgfdongidaaaaDir49
import Derived.Deep.DeepCutAuto
import Derived.Deep.CutBlock
import Derived.Deep.RegionLaw
namespace Go.Proofs.Ytobgfdongidaaaa
set_option linter.unusedVariables false
set_option linter.unusedSimpArgs false
open Go.RowKit Go.Proofs.Sep Go.Lib

theorem bytes_ne {a b : ByteArray} (h : ¬ a = b) : (a.toList == b.toList) = false := beq_eq_false_iff_ne.2 fun e => h (by
  rw [Lib.toList_data, Lib.toList_data] at e
  exact kcmp_eq (by unfold kcmp; rw [e]; exact cb_refl _))
set_option maxRecDepth 100000 in
set_option maxHeartbeats 8000000 in
theorem dirOrder {E w : World} {F : Asn} (ord turn : Int) (A : Option Addr) (c : Nat) (l : List Ent) (hS : Sat E F w) (hA : ∀ w, Sat E F w → Reads w 2 A l.length (ents l)) (hz : ∀ x ∈ l, x.1.size ≤ 140737488351232) (ht : turn ≤ 9223372036854775807) :
    Calls Try.prog 4 #[.int .i64 ord, .slice A l.length c, .int .i64 turn] w fun e w' => e = .returned (.bool true) ∧ Sat E F w' := by
  go_enter Try.func4, Try.ntmps4
  go_wp2_with fail
  refine (first7 hS).mono ?_
  rintro e w1 ⟨rfl, g1⟩
  clear hS
  go_wp2_with fail
  go_loopw [7, 8] (fun n i wr => ∃ k : Nat, k ≤ l.length ∧ k ≤ 200 ∧ i = .int .i64 k ∧ n = .int .i64 (wsum l k) ∧ Hid (Diff l k) ∧ Sat E F wr) (fun _ i _ => l.length - (intOf i).toNat)
  case atStart => exact ⟨0, by omega, by omega, rfl, rfl, fun i j _ _ h => absurd h (by omega), g1⟩
  case round =>
    clear g1
    obtain ⟨k, hkl, hk2, rfl, rfl, hdf, hr⟩ := hrel
    by_cases hlt : k < l.length ∧ k < 200
    · have hkd : (k : Int) < (l.length : Int) := by omega
      have hkd2 : (k : Int) < 200 := by omega
      have wk := i64_wrap (x := (k : Int) + 1) (by omega) (by omega)
      obtain ⟨ad, hAd, q⟩ := ent_at hA hlt.1 hr
      obtain ⟨x0, x1⟩ := q _ hr
      subst hAd
      have HW := hid (wsum_succ l k hlt.1)
      have HL := hid (wsum_le l k)
      have hzz := hz l[k] (List.getElem_mem _)
      have hm : Nat.min l[k].1.size 20001 ≤ 20001 := Nat.min_le_right _ _
      generalize hx : l[k].1 = X at *
      have HX := hid hx
      clear hx
      go_upto_region 7 with fail
      go_cut [7] (fun v wc => v = .int .i64 (wsum l (k + 1)) ∧ Sat E F wc)
      case first =>
        by_cases hmm : (20001 : Int) < (X.size : Int)
        · have e : Nat.min X.size 20001 = 20001 := Nat.min_eq_right (by omega)
          rw [e] at HW
          go_wp2_with fail
          go_meet
          refine ⟨?_, hr⟩
          have h5 := HL.out
          have h6 := HW.out
          exact congrArg (Value.int .i64) ((wrap64_id (by omega) (by omega)).trans (by omega))
        · have e : Nat.min X.size 20001 = X.size := Nat.min_eq_left (by omega)
          rw [e] at HW
          have ws := i64_wrap (x := (wsum l k : Int) + (X.size : Nat)) (by omega) (by have := HL.out; omega)
          go_wp2_with fail
          go_meet
          refine ⟨?_, hr⟩
          have h6 := HW.out
          exact congrArg (Value.int .i64) (by omega)
      case rest =>
        obtain ⟨hv, hr2⟩ := hcut
        subst hv
        clear hr x0 x1 q hm hzz HW
        go_wp2_with fail
        go_loopw [9] (fun jv wr => ∃ j : Nat, j ≤ k ∧ jv = .int .i64 j ∧ Hid (∀ (j' : Nat) (h : j' < j) (h2 : j' < l.length), l[j'].1 ≠ X) ∧ Sat E F wr) (fun jv _ => k - (intOf jv).toNat)
        case atStart => exact ⟨0, by omega, rfl, fun j' h _ => absurd h (by omega), hr2⟩
        case round =>
          clear hr2
          obtain ⟨j, hj, rfl, hdj, hr3⟩ := hrel
          by_cases hjk : j < k
          · have hjd : (j : Int) < (k : Int) := by omega
            have hjl : j < l.length := by omega
            have hjd2 : (j : Int) < (l.length : Int) := by omega
            have wj := i64_wrap (x := (j : Int) + 1) (by omega) (by omega)
            obtain ⟨_, hAd, q⟩ := ent_at hA hlt.1 hr3
            cases hAd
            obtain ⟨x0, x1⟩ := q _ hr3
            obtain ⟨_, hAd, q'⟩ := ent_at hA hjl hr3
            cases hAd
            obtain ⟨y0, y1⟩ := q' _ hr3
            rw [HX.out] at x0
            clear q q'
            generalize hy : l[j].1 = Y at *
            have HY := hid hy
            clear hy
            by_cases hxy : Y = X
            · subst hxy
              have hcall := fun n => first7 (hr3.drewN n)
              go_wp2_with fail
              go_quiet (fail)
              go_wp2_with fail
              refine (hcall _).mono ?_
              rintro e w5 ⟨rfl, g5⟩
              go_wp2_with fail
              go_ret
              exact ⟨rfl, g5⟩
            · have z3 := bytes_ne hxy
              have HN := hid hxy
              clear hxy
              go_wp2_with fail
              go_quiet (fail)
              go_wp2_with fail
              go_roundw
              case rel =>
                refine ⟨j + 1, by omega, by go_num, fun j' h h2 => ?_, hr3.drewN _⟩
                rcases Nat.lt_or_ge j' j with h3 | h3
                · exact hdj j' h3 h2
                · obtain rfl : j' = j := by omega
                  rw [HY.out]
                  exact HN.out
              case measure => simp [intOf]; omega
          · obtain rfl : j = k := by omega
            have hjd : ¬ (j : Int) < (j : Int) := by omega
            clear hjk
            go_wp2_with fail
            go_roundw
            case rel =>
              refine ⟨j + 1, by omega, by omega, by go_num, rfl, fun i j' hi hj' h => ?_, hr3⟩
              rcases Nat.lt_or_ge i j with h3 | h3
              · exact hdf i j' hi hj' h3
              · obtain rfl : i = j := by omega
                rw [HX.out]
                exact hdj j' hj' (by omega)
            case measure => simp [intOf]; omega
    · have hKN : ∃ (n : Nat), wsum l k = n ∧ n ≤ 4020000 := ⟨_, rfl, by have := wsum_le l k; omega⟩
      obtain ⟨n, hn, hn2⟩ := hKN
      rw [hn]
      clear hn
      have hcall := first7 hr
      by_cases c0 : 200 < (l.length : Int)
      · have h1 : (k : Int) < (l.length : Int) := by omega
        have h2 : ¬ (k : Int) < 200 := by omega
        go_wp2_with fail
        refine hcall.mono ?_
        rintro e w2 ⟨rfl, g2⟩
        go_wp2_with fail
        go_ret
        exact ⟨rfl, g2⟩
      · have h1 : ¬ (k : Int) < (l.length : Int) := by omega
        by_cases c1 : 20000 < (n : Int)
        · go_wp2_with fail
          refine hcall.mono ?_
          rintro e w2 ⟨rfl, g2⟩
          go_wp2_with fail
          go_ret
          exact ⟨rfl, g2⟩
        · skip
          by_cases c2 : turn < 0
          · go_wp2_with fail
            refine hcall.mono ?_
            rintro e w2 ⟨rfl, g2⟩
            go_wp2_with fail
            go_ret
            exact ⟨rfl, g2⟩
          · skip
            clear hcall
            obtain ⟨tn, rfl⟩ : ∃ tn : Nat, turn = tn := ⟨turn.toNat, by omega⟩
            obtain rfl : k = l.length := by omega
            obtain ⟨sN, hsN⟩ : ∃ sN, sN = tn % l.length := ⟨_, rfl⟩
            have HSN := hid hsN
            clear hsN
            go_wp2_with fail
            go_loopw [10, 11] (fun mv iv wr => ∃ k : Nat, k ≤ l.length ∧ iv = .int .i64 k ∧ Sat E (row 25 2 mv k (ents (rot l sN k)) * F) wr) (fun _ iv _ => l.length - (intOf iv).toNat)
            case atStart => exact ⟨0, by omega, rfl, hr.row_nil⟩
            case round =>
              clear hr
              obtain ⟨k, hk, rfl, hq⟩ := hrel
              by_cases hlt2 : k < l.length
              · have hkd : (k : Int) < (l.length : Int) := by omega
                have wk := i64_wrap (x := (k : Int) + 1) (by omega) (by omega)
                have hn0 : 0 < l.length := by omega
                have hsl : sN < l.length := by rw [HSN.out]; exact Nat.mod_lt _ hn0
                obtain ⟨aN, haN⟩ : ∃ aN, aN = k + sN := ⟨_, rfl⟩
                obtain ⟨rN, hrN⟩ : ∃ rN, rN = (k + sN) % l.length := ⟨_, rfl⟩
                have hrl : rN < l.length := by rw [hrN]; exact Nat.mod_lt _ hn0
                have r1 : (tn : Int) % (l.length : Int) = (sN : Int) := by rw [HSN.out]; simp
                have r2 : (k : Int) + (sN : Int) = (aN : Int) := by omega
                have r3 := i64_wrap (x := (aN : Int)) (by omega) (by omega)
                have r4 : (aN : Int) % (l.length : Int) = (rN : Int) := by rw [haN, hrN]; simp
                have r5 : (rN : Int) < (l.length : Int) := by omega
                have r6 : ((l.length : Int) == 0) = false := beq_eq_false_iff_ne.2 (by omega)
                have r7 : ¬ (l.length : Int) = 0 := by omega
                obtain ⟨ad, hAd, q⟩ := ent_at hA hrl hq.right
                obtain ⟨x0, x1⟩ := q _ hq.right
                subst hAd
                have hnx : ents (rot l sN (k + 1)) = ents (rot l sN k) ++ [.string l[rN].1, .int .i64 l[rN].2] := by
                  rw [rot_succ l sN k (by rw [← hrN]; exact hrl), ents_append]
                  simp only [← hrN]
                  rfl
                have HN := hid hnx
                obtain ⟨O, co, ho, _, _, _⟩ := hq.reads
                subst ho
                clear q hnx haN hrN
                generalize l[rN] = X at *
                obtain ⟨X1, X2⟩ := X
                simp only at x0 x1
                have s1 := hq.alloc_drop (.cells #[.string X1, .int .i64 X2] 25)
                have hR : Reads (wr.alloc (.cells [.string X1, .int .i64 X2].toArray 25)) 2 (some ⟨wr.heap.size, 0, none⟩) 1 [.string X1, .int .i64 X2] := Reads.new 2 1 [.string X1, .int .i64 X2] 25 rfl (by omega)
                clear hq
                go_wp2_with (at_builtin; refine wpList_append_sat rfl _ _ 22 25 (.agg #[.string ByteArray.empty, .int .i64 0]) 2 24 rfl Try.underlying22 Try.info25 rfl (by decide) _ k (ents (rot l sN k)) _ 1 1 [.string X1, .int .i64 X2] rfl rfl s1 hR (by simp [Value.oneCell']) (by unfold maxLen; omega) (by omega) ?_; intro v1 w3 q1; rw [← HN.out] at q1)
                go_roundw
                case rel => exact ⟨k + 1, by omega, by go_num, q1⟩
                case measure => simp [intOf]; omega
              · obtain rfl : k = l.length := by omega
                have hkd : ¬ (l.length : Int) < (l.length : Int) := by omega
                clear hlt2
                obtain ⟨M, cm, hM, _, _, _⟩ := hq.reads
                subst hM
                have hml := rot_length l sN l.length
                by_cases hord : ord < 3 ∨ 64 < ord
                · have hn0 := fun w v => new_no (w := w) ord v hord
                  clear hord
                  go_wp2_with fail
                  refine (hn0 _ _).mono ?_
                  rintro e w4 ⟨rfl, rfl⟩
                  go_wp2_with fail
                  refine (hn0 _ _).mono ?_
                  rintro e w5 ⟨rfl, rfl⟩
                  go_wp2_with fail
                  refine (first7 hq).mono ?_
                  rintro e w6 ⟨rfl, g6⟩
                  go_wp2_with fail
                  go_ret
                  exact ⟨rfl, g6.right⟩
                · obtain ⟨m, rfl⟩ : ∃ m : Nat, ord = m := ⟨ord.toNat, by omega⟩
                  have hm3 : 3 ≤ m := by omega
                  have hm : m ≤ 64 := by omega
                  have hn1 := new_yes m A c l hm3 hm (by omega) hq (fun w h => hA w h.right)
                  have hil := insAll_len hdf
                  have hirot := insAll_rot hdf sN
                  have HSP := hid (leftR_spec hdf)
                  have HHS := hid (leftR_has hdf)
                  have h0 : leftR l 0 = insAll l := rfl
                  have hri := insAll_rises l
                  have hll := hil.1
                  clear hil
                  have hn2 := fun (T1 : Nat) (w : World) (s4 : Sat E (dir T1 m (insAll l) * (row 25 2 (.slice M l.length cm) l.length (ents (rot l sN l.length)) * F)) w) => new_yes m M cm (rot l sN l.length) hm3 hm (by omega) s4 (fun w h => by rw [hml]; exact h.right.reads_at)
                  rw [hml, hirot] at hn2
                  generalize insAll l = L at *
                  have HN2 := hid hn2
                  have H0 := hid h0
                  have HLL := hid hll
                  have HRI := hid hri
                  have hl2 : L.length ≤ 200 := by omega
                  clear hn2 h0 hll hri hq hml hirot hord
                  go_wp2_with fail
                  refine hn1.mono ?_
                  clear hn1
                  rintro e w4 ⟨T1, rfl, s4⟩
                  have hn2 := HN2.out T1 w4 s4
                  unfold ptrv
                  clear s4 HN2
                  go_wp2_with fail
                  refine hn2.mono ?_
                  clear hn2
                  rintro e w5 ⟨T2, rfl, s5⟩
                  have s6 : Sat E (dir T1 m L * (dir T2 m L * F)) w5 := (s5.eq (show _ = row 25 2 (.slice M l.length cm) l.length (ents (rot l sN l.length)) * (dir T1 m L * (dir T2 m L * F)) by ac_rfl)).right
                  have ha := all9 T1 m L (by omega) s6
                  rw [HLL.out] at ha
                  unfold ptrv at ha ⊢
                  clear s5 s6
                  go_wp2_with fail
                  refine ha.mono ?_
                  clear ha
                  rintro e w6 ⟨v6, rfl, s6⟩
                  obtain ⟨B, d, rfl, _, _, _⟩ := s6.reads
                  go_wp2_with fail
                  go_loopw [17] (fun iv wr => ∃ i : Nat, 1 ≤ i ∧ iv = .int .i64 i ∧ Sat E (row 25 2 (.slice B l.length d) l.length (ents L) * (dir T1 m L * (dir T2 m L * F))) wr) (fun iv _ => l.length - (intOf iv).toNat)
                  case atStart => exact ⟨1, by omega, rfl, s6⟩
                  case round =>
                    clear s6
                    obtain ⟨i, hi1, rfl, hq⟩ := hrel
                    by_cases hlt3' : i < l.length
                    · have hid1 : (i : Int) < (l.length : Int) := by omega
                      have hlt3 : i < L.length := by rw [HLL.out]; exact hlt3'
                      have wi := i64_wrap (x := (i : Int) + 1) (by omega) (by omega)
                      obtain ⟨i0, hi0⟩ : ∃ i0, i = i0 + 1 := ⟨i - 1, by omega⟩
                      have ei : (i : Int) - 1 = (i0 : Int) := by omega
                      have wi0 := i64_wrap (x := (i0 : Int)) (by omega) (by omega)
                      have hid0 : (i0 : Int) < (l.length : Int) := by omega
                      have hi0l : i0 < L.length := by omega
                      obtain ⟨ad, hAd, x0, x1⟩ := cells_at hq.reads_at hlt3
                      obtain ⟨_, hAd2, y0, y1⟩ := cells_at hq.reads_at hi0l
                      subst hAd
                      cases hAd2
                      have hlt : klt L[i0].1 L[i].1 := HRI.out.lt (by omega) hlt3
                      generalize L[i] = X at *
                      generalize L[i0] = Y at *
                      obtain ⟨X1, X2⟩ := X
                      obtain ⟨Y1, Y2⟩ := Y
                      simp only at x0 x1 y0 y1 hlt
                      have z1 : Op.bytesLess X1.toList Y1.toList = false := by rw [key_lss]; exact decide_eq_false (klt_asymm hlt)
                      have z2 := bytes_ne (a := X1) (b := Y1) (fun e => by rw [e] at hlt; exact klt_irrefl _ hlt)
                      have HI := hid (And.intro hi0 (And.intro hi1 hlt3))
                      clear hi0 hi1 hlt3 hlt3' hlt
                      go_wp2_with fail
                      go_quiet (fail)
                      go_wp2_with fail
                      go_roundw
                      case rel => exact ⟨i + 1, by omega, by go_num, hq.drewN _⟩
                      case measure => simp [intOf]; have := HI.out.2.2; have := HLL.out; omega
                    · have hid1 : ¬ (i : Int) < (l.length : Int) := by omega
                      clear hi1 hlt3'
                      have e1 := entries11 B d L (by omega) hq (fun w h => by rw [HLL.out]; exact h.reads_at)
                      rw [HLL.out] at e1
                      clear hq
                      go_wp2_with fail
                      refine e1.mono ?_
                      clear e1
                      rintro e w7 ⟨v7, rfl, s7⟩
                      obtain ⟨A7, d7, rfl, _, _, _⟩ := s7.reads
                      have e2 := all9 T2 m L (by omega) (s7.eq (show _ = dir T2 m L * (row 32 2 (.slice A7 l.length d7) l.length (ents L) * (row 25 2 (.slice B l.length d) l.length (ents L) * (dir T1 m L * F))) by ac_rfl))
                      rw [HLL.out] at e2
                      unfold ptrv at e2
                      clear s7
                      go_wp2_with fail
                      refine e2.mono ?_
                      clear e2
                      rintro e w8 ⟨v8, rfl, s8⟩
                      obtain ⟨A8, d8, rfl, _, _, _⟩ := s8.reads
                      have e3 := entries11 A8 d8 L (by omega) s8 (fun w h => by rw [HLL.out]; exact h.reads_at)
                      rw [HLL.out] at e3
                      clear s8
                      go_wp2_with fail
                      refine e3.mono ?_
                      clear e3
                      rintro e w9 ⟨v9, rfl, s9⟩
                      obtain ⟨A9, d9, rfl, _, _, _⟩ := s9.reads
                      have e4 := same10 A7 A9 d7 d9 L L (by omega) (by omega) s9 (fun w h => by rw [HLL.out]; exact h.right.right.right.reads_at) (fun w h => by rw [HLL.out]; exact h.reads_at)
                      rw [show decide (L = L) = true by simp, HLL.out] at e4
                      clear s9
                      go_wp2_with fail
                      refine e4.mono ?_
                      clear e4
                      rintro e w10 ⟨rfl, s10⟩
                      have s11 : Sat E (dir T1 m (leftR l 0) * (dir T2 m L * F)) w10 := by
                        rw [H0.out]
                        exact (s10.right.right.drop_mid.drop_mid).eq (star_left_comm _ _ _)
                      clear s10
                      go_wp2_with fail
                      go_loopw [18] (fun iv wr => ∃ k : Nat, k ≤ l.length ∧ iv = .int .i64 k ∧ Sat E (dir T1 m (leftR l k) * (dir T2 m L * F)) wr) (fun iv _ => l.length - (intOf iv).toNat)
                      case atStart => exact ⟨0, by omega, rfl, s11⟩
                      case round =>
                        clear s11
                        obtain ⟨k, hk, rfl, hq⟩ := hrel
                        by_cases hlt4 : k < l.length
                        · have hkd : (k : Int) < (l.length : Int) := by omega
                          have wk := i64_wrap (x := (k : Int) + 1) (by omega) (by omega)
                          have hhs := HHS.out k hlt4
                          have hsp := HSP.out k (by omega)
                          have hsp1 := HSP.out (k + 1) (by omega)
                          have hent := fun (G : Asn) (w : World) (h : Sat E (G * (dir T2 m L * F)) w) => ent_at hA hlt4 h.right.right
                          generalize hx : l[k] = X at *
                          obtain ⟨X1, X2⟩ := X
                          have hL1 : (leftR l k).length ≤ 200 := by omega
                          have hL2 : (leftR l (k + 1)).length ≤ 200 := by omega
                          obtain ⟨r, hr⟩ : ∃ r, r = (leftR l (k + 1)).length := ⟨_, rfl⟩
                          obtain ⟨n1, hn1⟩ : ∃ n1, l.length = n1 + 1 := ⟨l.length - 1, by omega⟩
                          have q1 : (l.length : Int) - 1 = (n1 : Int) := by omega
                          have q2 := i64_wrap (x := (n1 : Int)) (by omega) (by omega)
                          have q3 : (n1 : Int) - (k : Int) = (r : Int) := by have := hsp1.2.1; omega
                          have q4 := i64_wrap (x := (r : Int)) (by omega) (by omega)
                          have hdl := hhs.2.1
                          have hno := hhs.2.2
                          have hyes := hhs.1
                          (try simp only at hdl hno hyes)
                          have hg := get13 T1 m (leftR l k) X1 (by omega) hq
                          rw [hyes] at hg
                          have hd1 := fun (w : World) (h : Sat E (dir T1 m (leftR l k) * (dir T2 m L * F)) w) => delete14 T1 m (leftR l k) X1 hm3 hm (by omega) h
                          rw [hyes, ← hdl] at hd1
                          have hd2 := fun (w : World) (h : Sat E (dir T1 m (leftR l (k + 1)) * (dir T2 m L * F)) w) => delete14 T1 m (leftR l (k + 1)) X1 hm3 hm (by omega) h
                          rw [hno, delR_no hno] at hd2
                          have hln := fun (w : World) (h : Sat E (dir T1 m (leftR l (k + 1)) * (dir T2 m L * F)) w) => len15 T1 m (leftR l (k + 1)) h
                          rw [← hr] at hln
                          have hsh := fun (w : World) (h : Sat E (dir T1 m (leftR l (k + 1)) * (dir T2 m L * F)) w) => shaped16 T1 m (leftR l (k + 1)) hm3 hm (by omega) h
                          generalize leftR l k = LK at *
                          generalize hgr : getR X1 LK = V at *
                          generalize hlk1 : leftR l (k + 1) = LK1 at *
                          obtain ⟨ad, hAd, qe⟩ := hent _ _ hq
                          subst hAd
                          obtain ⟨x0, _⟩ := qe _ hq.right.right
                          have HE := hid qe
                          have HLK := hid hlk1
                          have D1 := hid hd1
                          have D2 := hid hd2
                          have HLN := hid hln
                          have HSH := hid hsh
                          unfold ptrv at hg D1 D2 HLN HSH
                          (try simp only at x0)
                          clear hx hhs hsp hsp1 hent hdl hno hyes hgr hlk1 hd1 hd2 hln hsh qe hq hr hn1
                          go_wp2_with fail
                          refine hg.mono ?_
                          clear hg x0
                          rintro e w11 ⟨rfl, s12⟩
                          obtain ⟨x0, _⟩ := HE.out _ s12.right.right
                          (try simp only at x0)
                          have c1 := D1.out _ s12
                          clear s12
                          go_wp2_with fail
                          refine c1.mono ?_
                          clear c1 x0
                          rintro e w12 ⟨rfl, s13⟩
                          obtain ⟨x0, _⟩ := HE.out _ s13.right.right
                          (try simp only at x0)
                          have c2 := D2.out _ s13
                          clear s13
                          go_wp2_with fail
                          refine c2.mono ?_
                          clear c2 x0
                          rintro e w13 ⟨rfl, s14⟩
                          have c3 := HLN.out _ s14
                          have c4 := HSH.out _ s14
                          clear s14
                          go_wp2_with fail
                          refine c3.mono ?_
                          clear c3
                          rintro e w14 ⟨rfl, rfl⟩
                          go_wp2_with fail
                          refine c4.mono ?_
                          clear c4
                          rintro e w15 ⟨rfl, s15⟩
                          go_wp2_with fail
                          go_roundw
                          case rel => exact ⟨k + 1, by omega, by go_num, by rw [HLK.out]; exact s15⟩
                          case measure => simp [intOf]; omega
                        · obtain rfl : k = l.length := by omega
                          have hkd : ¬ (l.length : Int) < (l.length : Int) := by omega
                          have hnil : leftR l l.length = [] := List.eq_nil_of_length_eq_zero (by have := (HSP.out l.length (Nat.le_refl _)).2.1; omega)
                          rw [hnil] at hq
                          clear hnil hlt4
                          go_wp2_with fail
                          refine (first7 hq).mono ?_
                          rintro e w11 ⟨rfl, s12⟩
                          have c1 := depth_none T1 m s12
                          unfold ptrv at c1
                          go_wp2_with fail
                          refine c1.mono ?_
                          clear c1
                          rintro e w12 ⟨rfl, rfl⟩
                          have c2 := all9 T1 m [] (by simp) s12
                          unfold ptrv at c2
                          clear s12 hq
                          go_wp2_with fail
                          refine c2.mono ?_
                          clear c2
                          rintro e w13 ⟨v13, rfl, s13⟩
                          obtain ⟨A13, d13, rfl, _, _, _⟩ := s13.reads
                          have c3 := len15 T2 m L (s13.right.eq (star_left_comm _ _ _))
                          rw [HLL.out] at c3
                          unfold ptrv at c3
                          have z13 : ((([] : List Ent).length : Int) == 0) = true := rfl
                          go_wp2_with fail
                          refine c3.mono ?_
                          clear c3
                          rintro e w14 ⟨rfl, rfl⟩
                          go_wp2_with fail
                          go_ret
                          exact ⟨rfl, s13.right.right.right⟩
end Go.Proofs.Ytobgfdongidaaaa
