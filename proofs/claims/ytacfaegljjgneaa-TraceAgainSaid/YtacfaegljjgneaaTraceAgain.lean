import Derived.Test.YtacfaegljjgneaaAgain0
import Derived.BigRegion
import Derived.Deep.RegionLaw
import Derived.Deep.DeepCutAuto
import Derived.Deep.CutBlock
namespace Go.Proofs.Ytacfaegljjgneaa
set_option linter.unusedVariables false
set_option linter.unusedSimpArgs false
open Go.RowKit Go.Proofs.Sep

theorem permAg (A B C D F : Asn) : A * (B * (C * (D * F))) = D * (A * (B * (C * F))) := by ac_rfl
theorem count_nil0 (l : List TOp) : count [] l = l.length := by
  unfold count
  rw [List.filter_eq_self.2 (fun x _ => (rfl : ofK [] x = true))]
set_option maxRecDepth 100000 in
set_option maxHeartbeats 8000000 in
theorem traceAgain_ok {E w : World} {F : Asn} (n : Nat) (A : Option Addr) (c : Nat) (l : List SOp) (hd : List Value) (n1 : 1 ≤ n) (n2 : n ≤ 30) (hS : Sat E F w)
    (hQ : ∀ w, Sat E F w → Reads w 4 A l.length hd) (hO : ∀ w, Sat E F w → SOpsIn w l hd) (hB : ∀ x ∈ l, ByteR x.2.2.1) :
    Calls Try.prog 12 #[.int .i64 n, .slice A l.length c] w fun e w' => e = .returned (.bool true) ∧ Sat E F w' := by
  have a1 : ¬ (n : Int) < 1 := by omega
  have a2 : ¬ (30 : Int) < (n : Int) := by omega
  go_enter Try.func12, Try.ntmps12
  go_wp2_with fail
  refine (first3 hS).mono ?_
  rintro e w1 ⟨rfl, g1⟩
  clear hS
  go_wp2_with fail
  refine (few24 A c l hd g1 hQ hO).mono ?_
  rintro e w2 ⟨⟨rfl, hl1, hf⟩ | rfl, g2⟩
  · have HF := hid hf
    clear hf g1
    go_wp2_with fail
    refine (made_calls n 4 n1 (by omega) (by omega) (by omega) g2).mono ?_
    rintro e w3 ⟨r, s, rfl, g3⟩
    go_wp2_with fail
    refine (made_calls n 4 n1 (by omega) (by omega) (by omega) g3).mono ?_
    rintro e w4 ⟨r2, s2, rfl, g4⟩
    replace g4 : Sat E (recd r s (St.new n 4) [] * (recd r2 s2 (St.new n 4) [] * F)) w4 := g4.eq (star_left_comm _ _ _)
    clear g2 g3 a1 a2
    have HN := hid (Ag.new n)
    go_upto_block 0 with fail
    go_cut [] (fun wc => ∃ (k : Nat) (σ : St) (tr : List TOp), k ≤ l.length ∧ Hid (Ag n k σ tr) ∧ Sat E (recd r s σ tr * (recd r2 s2 (St.new n 4) [] * F)) wc)
    case first =>
      as_aux_lemma =>
        go_wp2_with fail
        go_loopw [7] (fun i wr => ∃ (k : Nat) (σ : St) (tr : List TOp), k ≤ l.length ∧ i = .int .i64 k ∧ Hid (Ag n k σ tr) ∧ Sat E (recd r s σ tr * (recd r2 s2 (St.new n 4) [] * F)) wr) (fun i _ => l.length - (intOf i).toNat)
        case atStart => exact ⟨0, _, [], by omega, rfl, HN, g4⟩
        case round =>
          clear g4
          obtain ⟨k, σ, tr, hk, rfl, hi, hr⟩ := hrel
          by_cases hlt : k < l.length
          · skip
            have hkd : (k : Int) < (l.length : Int) := by omega
            have wk := i64_wrap (x := (k : Int) + 1) (by omega) (by omega)
            obtain ⟨pd, Ai, ci, Bi, di, hA, q1, q2, q3⟩ := sop_at hQ hO hlt hr.right.right
            obtain ⟨x0, x1, x2, x3, _, _⟩ := q3 _ hr.right.right
            obtain ⟨u0, u1, u2, u3, _, _⟩ := q3 _ hr.right.right.drew
            have RB : ∀ w, Sat E F w → Reads w 1 Ai l[k].2.2.1.length (nums .u8 l[k].2.2.1) := fun w h => (q3 w h).2.2.2.2.1
            have hBy := hB _ (List.getElem_mem hlt)
            obtain ⟨hb1, hb2⟩ := HF.out _ (List.getElem_mem hlt)
            have hag := hi.out
            have htl := hag.trl
            have ho := hag.si.wf.sok (by omega) (by omega)
            subst hA
            clear q3
            generalize l[k] = op at *
            obtain ⟨kind, ad, B, K⟩ := op
            simp only at x0 x1 x2 x3 u0 u1 u2 u3 RB hBy hb1 hb2 q1 q2
            by_cases z0 : kind = 0
            · have zz : (kind == 0) = true := beq_iff_eq.2 z0
              clear z0
              have hcall := rread_calls r s σ tr ad ho (by omega) (by have := (hag.si.wf.rd ad).2.1; omega) hr
              have w1 := hag.rd ad
              generalize rd σ ad = q at *
              obtain ⟨code, bs, τ⟩ := q
              simp only at hcall w1
              generalize noted code (1, ad, bs) tr = tr' at *
              have HW := hid w1
              have HC := hid hcall
              clear hcall w1 hag ho hi hr
              go_wp2_with fail
              refine HC.out.mono ?_
              rintro e w5 ⟨v5, rfl, g7⟩
              have g8 := g7.right
              clear g7
              go_wp2
              go_roundw
              case rel => exact ⟨k + 1, τ, tr', by omega, by go_num, HW, g8⟩
              case measure => simp [intOf]; omega
            have y0 : (kind == 0) = false := beq_eq_false_iff_ne.2 z0
            clear z0
            by_cases z1 : kind = 1
            · have zz : (kind == 1) = true := beq_iff_eq.2 z1
              clear z1
              have hcall := rwrite_calls r s σ tr ad Ai ci B ho (by omega) (by omega) hr.drew (fun w h => RB w h.right)
              have w1 := hag.write ad B hBy hb1
              generalize write σ ad B = q at *
              obtain ⟨code, τ⟩ := q
              simp only at hcall w1
              generalize noted code (2, ad, B) tr = tr' at *
              have HW := hid w1
              have HC := hid hcall
              clear hcall w1 hag ho hi hr
              go_wp2_with fail
              refine wp_region_tail 11 (by kernel_rfl) (by kernel_rfl) ?_
              simp only [List.take_succ_cons, List.take_zero, List.drop_succ_cons, List.drop_zero]
              repeat still_step
              refine wpStill_nil ?_
              go_wp2_with fail
              refine HC.out.mono ?_
              rintro e w5 ⟨rfl, g8⟩
              go_wp2
              go_roundw
              case rel => exact ⟨k + 1, τ, tr', by omega, by go_num, HW, g8⟩
              case measure => simp [intOf]; omega
            have y1 : (kind == 1) = false := beq_eq_false_iff_ne.2 z1
            clear z1
            have hcall := rsync_calls r s σ tr ho (by omega) hr
            have w1 := hag.sync
            generalize sync σ = q at *
            obtain ⟨code, τ⟩ := q
            simp only at hcall w1
            generalize noted code (3, 0, []) tr = tr' at *
            have HW := hid w1
            have HC := hid hcall
            clear hcall w1 hag ho hi hr
            go_wp2_with fail
            refine HC.out.mono ?_
            rintro e w5 ⟨rfl, g8⟩
            go_wp2
            go_roundw
            case rel => exact ⟨k + 1, τ, tr', by omega, by go_num, HW, g8⟩
            case measure => simp [intOf]; omega
          · have hkd : ¬ (k : Int) < (l.length : Int) := by omega
            go_wp2
            go_meet
            exact ⟨k, σ, tr, hk, hi, hr⟩
    case rest =>
      clear g4
      obtain ⟨k, σ, tr, hk, hi, hr⟩ := hcut
      have hag := hi.out
      have htr : tr.length ≤ 1000000 := by have := hag.trl; omega
      have htb := fun (x : TOp) hx => Nat.le_trans (hag.trb x hx).1 (show 20000 ≤ 1000000 by omega)
      have htk := hag.trl
      have HTB := hid hag.trb
      have HOK := hid hag.ok
      clear hi hag
      go_wp2_with fail
      refine (trace_calls r s σ tr htr htb hr).mono ?_
      rintro e w5 ⟨B0, d0, rfl, g5⟩
      clear hr htb
      obtain ⟨t, ht, g6⟩ := tlist_open g5
      clear g5
      have e0 := g6.reads
      obtain ⟨G, hG⟩ : ∃ G, (row 61 3 (.slice B0 tr.length d0) tr.length (tf t.L) * (bag t.P * (recd r s σ tr * F))) = G := ⟨_, rfl⟩
      have g7 : Sat E (recd r2 s2 (St.new n 4) (tr.take 0) * G) w5 := by
        rw [← hG]
        exact g6.eq (show _ = _ by rw [List.take_zero]; exact permAg _ _ _ _ _)
      have hT : ∀ w, Sat E G w → TIn w B0 t.L := fun w h => by
        rw [← hG] at h
        refine ⟨?_, fun x hx => ?_⟩
        · rw [ht.len]; exact h.reads_at
        · obtain ⟨B, d, e2, r2⟩ := bag_at h.right (x.2, x.1.2.2) (ht.mem x hx)
          exact ⟨B, d, e2, r2⟩
      have HT := hid hT
      have HTM := hid ht.map
      have HTL := hid ht.len
      have HG := hid hG
      clear hG hT ht g6 e0
      go_upto_block 3 with fail
      go_cut [] (fun wc => ∃ (σ2 : St), Hid (Ag n tr.length σ2 tr) ∧ Sat E (recd r2 s2 σ2 tr * G) wc)
      case first =>
        as_aux_lemma =>
          go_wp2_with fail
          go_loopw [9] (fun i wr => ∃ (j : Nat) (σ2 : St), j ≤ tr.length ∧ i = .int .i64 j ∧ Hid (Ag n j σ2 (tr.take j)) ∧ Sat E (recd r2 s2 σ2 (tr.take j) * G) wr) (fun i _ => tr.length - (intOf i).toNat)
          case atStart => exact ⟨0, _, by omega, rfl, HN, g7⟩
          case round =>
            clear g7
            obtain ⟨j, σ2, hj, rfl, hi, hr⟩ := hrel
            by_cases hlt : j < tr.length
            · skip
              have hag := hi.out
              have hjt : j < t.L.length := by rw [HTL.out]; exact hlt
              have hkd : (j : Int) < (tr.length : Int) := by omega
              have wk := i64_wrap (x := (j : Int) + 1) (by omega) (by omega)
              obtain ⟨pd, Ai, ci, hA, _, _, q⟩ := top_at HT.out hjt hr.right
              have hTj : t.L[j].1 = tr[j] := by
                have := List.getElem_of_eq HTM.out (i := j) (by simpa using hjt)
                simpa using this
              rw [hTj] at q
              obtain ⟨x0, x1, x2, xr⟩ := q _ hr.right
              obtain ⟨u0, u1, u2, _⟩ := q _ hr.right.drew
              have y0 := fun w (h : Sat E G w) => (q w h).1
              have y1 := fun w (h : Sat E G w) => (q w h).2.1
              have y2 := fun w (h : Sat E G w) => (q w h).2.2.1
              have RB : ∀ w, Sat E G w → Reads w 1 Ai tr[j].2.2.length (nums .u8 tr[j].2.2) := fun w h => (q w h).2.2.2
              have hnx := hag.next HOK.out hlt
              have htn := take_next hlt
              obtain ⟨hb1, hb2⟩ := HTB.out _ (List.getElem_mem hlt)
              have ho := hag.si.wf.sok (by omega) (by omega)
              have htl2 : (tr.take j).length ≤ 1000000 := by rw [List.length_take]; omega
              subst hA
              clear q hTj
              generalize tr[j] = X at *
              obtain ⟨K, ad, B⟩ := X
              simp only at x0 x1 x2 xr u0 u1 u2 y0 y1 y2 RB hb1 hb2
              rcases hnx with ⟨a, d, e, hrd⟩ | ⟨a, b, e, τ, hwr⟩ | ⟨e, τ, hsy⟩
              · skip
                obtain ⟨hK1, hK2⟩ := (show K = 1 ∧ ad = a ∧ B = d from ⟨congrArg Prod.fst e, congrArg (fun z => z.2.1) e, congrArg (fun z => z.2.2) e⟩)
                obtain ⟨hK2, hK3⟩ := hK2
                subst hK1
                subst hK2
                subst hK3
                have hcall := rread_calls r2 s2 σ2 (tr.take j) ad ho htl2 (by have := (hag.si.wf.rd ad).2.1; omega) hr
                have w1 := hag.rd ad
                rw [hrd] at hcall w1
                simp only [noted_on] at hcall w1
                rw [htn] at hcall w1
                generalize opsUp σ2 = τ at *
                have HW := hid w1
                have HC := hid hcall
                have HB2 := hid hb2
                clear hcall w1 hag ho hi hr htn hb2 e hrd
                go_wp2_with fail
                refine HC.out.mono ?_
                rintro e w5 ⟨v5, rfl, g7⟩
                obtain ⟨A5, c5, rfl, _, _, _⟩ := g7.reads
                have g8 := g7.right
                have z2 := y2 _ g8.right
                have zr := RB _ g8.right
                have g5r := g7.reads_at
                clear g7
                go_wp2_with fail
                refine (bytesEq A5 Ai _ _ c5 ci B B g5r zr HB2.out HB2.out).mono ?_
                rw [decide_eq_true (rfl : B = B)]
                rintro e w7 ⟨rfl, rfl⟩
                go_wp2
                go_roundw
                case rel => exact ⟨j + 1, τ, by omega, by go_num, HW, g8⟩
                case measure => simp [intOf]; omega
              · skip
                obtain ⟨hK1, hK2⟩ := (show K = 2 ∧ ad = a ∧ B = b from ⟨congrArg Prod.fst e, congrArg (fun z => z.2.1) e, congrArg (fun z => z.2.2) e⟩)
                obtain ⟨hK2, hK3⟩ := hK2
                subst hK1
                subst hK2
                subst hK3
                replace hwr := hwr hb2
                have hcall := rwrite_calls r2 s2 σ2 (tr.take j) ad Ai ci B ho htl2 (by omega) hr.drew RB
                have w1 := hag.write ad B hb2 hb1
                rw [hwr] at hcall w1
                simp only [noted_on] at hcall w1
                rw [htn] at hcall w1
                have HW := hid w1
                have HC := hid hcall
                clear hcall w1 hag ho hi hr htn hb2 e hwr
                go_wp2_with fail
                refine wp_region_tail 11 (by kernel_rfl) (by kernel_rfl) ?_
                simp only [List.take_succ_cons, List.take_zero, List.drop_succ_cons, List.drop_zero]
                repeat still_step
                refine wpStill_nil ?_
                go_wp2_with fail
                refine HC.out.mono ?_
                rintro e w5 ⟨rfl, g8⟩
                go_wp2
                go_roundw
                case rel => exact ⟨j + 1, τ, by omega, by go_num, HW, g8⟩
                case measure => simp [intOf]; omega
              · skip
                obtain ⟨hK1, hK2⟩ := (show K = 3 ∧ ad = 0 ∧ B = [] from ⟨congrArg Prod.fst e, congrArg (fun z => z.2.1) e, congrArg (fun z => z.2.2) e⟩)
                obtain ⟨hK2, hK3⟩ := hK2
                subst hK1
                subst hK2
                subst hK3
                have hcall := rsync_calls r2 s2 σ2 (tr.take j) ho htl2 hr
                have w1 := hag.sync
                rw [hsy] at hcall w1
                simp only [noted_on] at hcall w1
                rw [htn] at hcall w1
                have HW := hid w1
                have HC := hid hcall
                clear hcall w1 hag ho hi hr htn hb2 e hsy
                go_wp2_with fail
                refine HC.out.mono ?_
                rintro e w5 ⟨rfl, g8⟩
                have z1 := y1 _ g8.right
                have z2 := y2 _ g8.right
                go_wp2
                go_roundw
                case rel => exact ⟨j + 1, τ, by omega, by go_num, HW, g8⟩
                case measure => simp [intOf]; omega
            · have hkd : ¬ (j : Int) < (tr.length : Int) := by omega
              have hjl : j = tr.length := by omega
              subst hjl
              rw [List.take_length] at hi hr
              go_wp2
              go_meet
              exact ⟨σ2, hi, hr⟩
      case rest =>
        obtain ⟨σ2, hi, hr⟩ := hcut
        clear g7
        have htb := fun (x : TOp) hx => Nat.le_trans (HTB.out x hx).1 (show 20000 ≤ 1000000 by omega)
        have HTB2 := hid htb
        have HLQ := hid (show leq tr tr = true from decide_eq_true rfl)
        clear htb
        go_wp2_with fail
        refine (trace_calls r2 s2 σ2 tr htr HTB2.out hr).mono ?_
        rintro e w8 ⟨U, du, rfl, g8⟩
        clear hr
        obtain ⟨tu, htu, g9⟩ := tlist_open g8
        obtain ⟨U', du', he, _, hTU⟩ := tlist_in htu g9
        injection he with he1 he2 he3
        subst he1
        subst he3
        clear he2 g8
        have hum := htu.map
        have hul := htu.len
        have hubr : ∀ x ∈ tu.L, ByteR x.1.2.2 := fun x hx => (HTB.out x.1 (by rw [← hum]; exact List.mem_map_of_mem hx)).2
        have htbr : ∀ x ∈ t.L, ByteR x.1.2.2 := fun x hx => (HTB.out x.1 (by rw [← HTM.out]; exact List.mem_map_of_mem hx)).2
        have h44 := equal44 B0 U d0 du t.L tu.L htbr hubr g9 (fun w h => HT.out _ h.right.right.right) hTU
        rw [HTL.out, hul, HTM.out, hum, HLQ.out] at h44
        have H44 := hid h44
        have HTBR := hid htbr
        clear h44 hum hul hubr htbr htu hTU
        go_wp2_with fail
        refine H44.out.mono ?_
        rintro e w9 ⟨rfl, g10⟩
        clear g9 H44
        go_upto_block 6 with fail
        go_cut [] (fun wc => Sat E (recd r2 s2 σ2 tr * G) wc)
        case first =>
          go_wp2_with fail
          go_loopw [13] (fun i wr => ∃ (j : Nat) (xs : List Value), j ≤ tr.length ∧ i = .int .i64 j ∧ Sat E (row 61 3 (.slice U tr.length du) tr.length xs * (bag tu.P * (recd r2 s2 σ2 tr * G))) wr) (fun i _ => tr.length - (intOf i).toNat)
          case atStart => exact ⟨0, _, by omega, rfl, g10⟩
          case round =>
            clear g10
            obtain ⟨j, xs, hj, rfl, hr⟩ := hrel
            by_cases hlt : j < tr.length
            · have hkd : (j : Int) < (tr.length : Int) := by omega
              have wk := i64_wrap (x := (j : Int) + 1) (by omega) (by omega)
              obtain ⟨gu, cu, eu, _, _⟩ := hr.row_head (by omega)
              injection eu with eu1 eu2 eu3
              subst eu1
              clear eu2 eu3
              have hxl := hr.row_len
              have t2 := hr.row_lt
              have t3 := hr.row_free (j * 3)
              obtain ⟨uo, t4⟩ : ∃ uo, wr.cell? ⟨gu, j * 3, none⟩ = some uo := ⟨_, (hr.row_cell (j * 3) (by omega)).trans (List.getElem?_eq_getElem (by omega))⟩
              have Q := hid (hr.row_store (j * 3) (.int .i64 9))
              clear hr hxl
              go_wp2
              go_roundw
              case rel => exact ⟨j + 1, _, by omega, by go_num, Q.out⟩
              case measure => simp [intOf]; omega
            · have hkd : ¬ (j : Int) < (tr.length : Int) := by omega
              go_wp2
              go_meet
              exact hr.right.right
        case rest =>
          clear g10
          go_wp2_with fail
          refine (first3 hcut).mono ?_
          rintro e w11 ⟨rfl, g11⟩
          clear hcut
          go_wp2_with fail
          refine (trace_calls r2 s2 σ2 tr htr HTB2.out g11).mono ?_
          rintro e w12 ⟨V, dv, rfl, g12⟩
          clear g11
          obtain ⟨tv, htv, g13⟩ := tlist_open g12
          obtain ⟨V', dv', he, _, hTV⟩ := tlist_in htv g13
          injection he with he1 he2 he3
          subst he1
          subst he3
          clear he2 g12
          have hvm := htv.map
          have hvl := htv.len
          have hvbr : ∀ x ∈ tv.L, ByteR x.1.2.2 := fun x hx => (HTB.out x.1 (by rw [← hvm]; exact List.mem_map_of_mem hx)).2
          have h44 := equal44 V B0 dv d0 tv.L t.L hvbr HTBR.out g13 hTV (fun w h => HT.out _ h.right.right.right)
          rw [HTL.out, hvl, HTM.out, hvm, HLQ.out] at h44
          have H44 := hid h44
          clear h44 hvm hvl hvbr htv hTV
          go_wp2_with fail
          refine H44.out.mono ?_
          rintro e w13 ⟨rfl, g14⟩
          have g15 := g14.right.right.right
          clear g13 g14 H44
          have h48 := count48 B0 none d0 0 0 t.L [] g15 HT.out (fun w _ => nil_reads w _ 1 rfl)
          rw [HTL.out, HTM.out, count_nil0] at h48
          have H48 := hid h48
          clear h48
          go_wp2_with fail
          refine H48.out.mono ?_
          rintro e w14 ⟨rfl, g16⟩
          rw [← HG.out] at g16
          have g17 := g16.right.right
          go_wp2_with fail
          refine (mark_calls r s σ tr g17).mono ?_
          rintro e w15 ⟨rfl, rfl⟩
          have g18 := g17.right
          go_wp2
          go_ret
          exact ⟨rfl, g18⟩
  · go_wp2_with fail
    refine (first3 g2).mono ?_
    rintro e w5 ⟨rfl, g5⟩
    go_wp2
    go_ret
    exact ⟨rfl, g5⟩
set_option maxRecDepth 100000 in
set_option maxHeartbeats 2000000 in
theorem traceAgain {E w : World} {F : Asn} (x : Int) (A : Option Addr) (c : Nat) (l : List SOp) (hd : List Value) (hS : Sat E F w)
    (hQ : ∀ w, Sat E F w → Reads w 4 A l.length hd) (hO : ∀ w, Sat E F w → SOpsIn w l hd) (hB : ∀ x ∈ l, ByteR x.2.2.1) :
    Calls Try.prog 12 #[.int .i64 x, .slice A l.length c] w fun e w' => e = .returned (.bool true) ∧ Sat E F w' := by
  by_cases x1 : x < 1
  · skip
    go_enter Try.func12, Try.ntmps12
    go_wp2_with fail
    refine (first3 hS).mono ?_
    rintro e w1 ⟨rfl, g1⟩
    go_wp2_with fail
    refine (first3 g1).mono ?_
    rintro e w3 ⟨rfl, g3⟩
    go_wp2
    go_ret
    exact ⟨rfl, g3⟩
  by_cases x2 : (30 : Int) < x
  · skip
    go_enter Try.func12, Try.ntmps12
    go_wp2_with fail
    refine (first3 hS).mono ?_
    rintro e w1 ⟨rfl, g1⟩
    go_wp2_with fail
    refine (first3 g1).mono ?_
    rintro e w3 ⟨rfl, g3⟩
    go_wp2
    go_ret
    exact ⟨rfl, g3⟩
  obtain ⟨n, rfl⟩ := Int.eq_ofNat_of_zero_le (show 0 ≤ x by omega)
  exact traceAgain_ok n A c l hd (by omega) (by omega) hS hQ hO hB
theorem TraceAgain_walk (W : World) (a0 : Int) (w0 : (Lit.int .i64 a0).wf = true) (a1 : Option Addr) (len1 cap1 : Nat) (l1 : (List (Int × (Int × ((List Int) × (List Bool)))))) (h1 : (decSlice 64 (decPair (decInt .i64) (decPair (decInt .i64) (decPair (decSlice 1 (decInt .u8)) (decSlice 1 decBool))))).rel W l1 [.slice a1 len1 cap1]) :
    Calls Try.prog 12 #[.int .i64 a0, .slice a1 len1 cap1] W fun e w' => e = .returned (.bool true) ∧ Below W.heap.size W w' := by
  obtain ⟨A, c, hd, he, hlc, _, hQ, hO, hB⟩ := dec_sops h1
  simp at he
  obtain ⟨rfl, rfl, rfl⟩ := he
  exact (traceAgain a0 _ _ l1 hd (Sat.start W) (fun w hs => hQ.keep fun k hk => hs.old1 hk) (fun w hs => hO.keep fun k hk => hs.old1 hk) hB).mono fun e w' ⟨he, hs⟩ => ⟨he, hs.finish1⟩
end Go.Proofs.Ytacfaegljjgneaa
