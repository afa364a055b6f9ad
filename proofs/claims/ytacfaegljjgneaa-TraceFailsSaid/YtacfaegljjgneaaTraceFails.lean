import Derived.Test.YtacfaegljjgneaaTrc10
import Derived.Deep.RegionHeld3
import Derived.BigRegion
import Derived.Deep.RegionLaw
import Derived.Deep.DeepCutAuto
import Derived.Deep.CutBlock
namespace Go.Proofs.Ytacfaegljjgneaa
set_option linter.unusedVariables false
set_option linter.unusedSimpArgs false
open Go.RowKit Go.Proofs.Sep

def grew (code : Int) (a b : Nat) : Prop := ((code == 0) = true ∧ a = b + 1) ∨ ((code == 0) = false ∧ a = b)
theorem dec_sops_wf2 {b1 : Nat} {w : World} {l : List SOp} {cs : List Value} (h : (decSlice b1 (decPair (decInt .i64) (decPair (decInt .i64) (decPair (decSlice 1 (decInt .u8)) (decSlice 1 decBool))))).rel w l cs) : ∀ x ∈ l, x.2.1 ≤ 9223372036854775807 := by
  obtain ⟨A, c, css, h0, h1, h2, h3, h4, h5, h6⟩ := h
  intro x hx
  obtain ⟨i, hi, rfl⟩ := List.getElem_of_mem hx
  obtain ⟨c1, c2, e, r1, c3, c4, e2, r2, _⟩ := h5 i hi (by omega)
  have := r2.2
  simp [Lit.wf, IntKind.min, IntKind.max, IntKind.signed, IntKind.bits] at this
  omega
set_option maxRecDepth 100000 in
set_option maxHeartbeats 8000000 in
theorem traceFails {E w : World} {F : Asn} (A : Option Addr) (c : Nat) (l : List SOp) (hd : List Value) (hS : Sat E F w)
    (hQ : ∀ w, Sat E F w → Reads w 4 A l.length hd) (hO : ∀ w, Sat E F w → SOpsIn w l hd) (hB : ∀ x ∈ l, ByteR x.2.2.1) (hM : ∀ x ∈ l, x.2.1 ≤ 9223372036854775807) :
    Calls Try.prog 10 #[.slice A l.length c] w fun e w' => e = .returned (.bool true) ∧ Sat E F w' := by
  go_enter Try.func10, Try.ntmps10
  go_wp2_with fail
  refine (first3 hS).mono ?_
  rintro e w1 ⟨rfl, g1⟩
  clear hS
  go_wp2_with fail
  refine (made_calls 3 2 (by omega) (by omega) (by omega) (by omega) g1).mono ?_
  rintro e w2 ⟨r, s, rfl, g2⟩
  clear g1
  go_wp2_with fail
  refine (few24 A c l hd g2 (fun w h => hQ w h.right) (fun w h => hO w h.right)).mono ?_
  rintro e w3 ⟨⟨rfl, hl1, hf⟩ | rfl, g3⟩
  · have HF := hid hf
    clear hf g2
    by_cases hl2 : (100 : Int) < (l.length : Int)
    · go_wp2_with fail
      refine (first3 g3.right).mono ?_
      rintro e w5 ⟨rfl, g5⟩
      go_wp2
      go_ret
      exact ⟨rfl, g5⟩
    have HN := hid (⟨Wf.new 3 2, by simp, by simp, by simp [St.new]⟩ : Rf 3 2 0 (St.new 3 2) [])
    go_wp2_with fail
    go_loopw [4, 5] (fun v i wr => ∃ (k : Nat) (σ : St) (tr : List TOp), k ≤ l.length ∧ i = .int .i64 k ∧ v = .int .i64 tr.length ∧ Hid (Rf 3 2 k σ tr) ∧ Sat E (recd r s σ tr * F) wr) (fun _ i _ => l.length - (intOf i).toNat)
    case atStart => exact ⟨0, _, [], by omega, rfl, rfl, HN, g3⟩
    case round =>
      clear g3 HN
      obtain ⟨k, σ, tr, hk, rfl, rfl, hi, hr⟩ := hrel
      have htl := hi.out.trl
      by_cases hlt : k < l.length
      · have hrf := hi.out
        have ho := hrf.wf.sok (by omega) (by omega)
        have hkd : (k : Int) < (l.length : Int) := by omega
        have wk := i64_wrap (x := (k : Int) + 1) (by omega) (by omega)
        have wt := i64_wrap (x := (tr.length : Int) + 1) (by omega) (by omega)
        obtain ⟨pd, Ai, ci, Bi, di, hA, q1, q2, q3⟩ := sop_at hQ hO hlt hr.right
        obtain ⟨x0, x1, x2, x3, _, _⟩ := q3 _ hr.right
        obtain ⟨u0, u1, u2, u3, _, _⟩ := q3 _ hr.right.drew
        have RB : ∀ w, Sat E F w → Reads w 1 Ai l[k].2.2.1.length (nums .u8 l[k].2.2.1) := fun w h => (q3 w h).2.2.2.2.1
        have RK : ∀ w, Sat E F w → Reads w 1 Bi l[k].2.2.2.length (bools l[k].2.2.2) := fun w h => (q3 w h).2.2.2.2.2
        have hBy := hB _ (List.getElem_mem hlt)
        have had := hM _ (List.getElem_mem hlt)
        obtain ⟨hb1, hb2⟩ := HF.out _ (List.getElem_mem hlt)
        have pp := recd_ptr hr
        have pp2 := recd_ptr hr.drew
        subst hA
        clear q3
        generalize l[k] = op at *
        obtain ⟨kind, ad, B, K⟩ := op
        simp only at x0 x1 x2 x3 u0 u1 u2 u3 RB RK hBy had hb1 hb2 q1 q2
        clear hi
        go_upto_block 2 with fail
        go_cut [6] (fun v wc => ∃ (code : Int) (τ : St) (tr' : List TOp), v = .int .i64 code ∧ Hid (Rf 3 2 (k + 1) τ tr' ∧ grew code tr'.length tr.length) ∧ Sat E (recd r s τ tr' * F) wc)
        case first =>
          by_cases z0 : kind = 0
          · have zz : (kind == 0) = true := beq_iff_eq.2 z0
            clear z0
            have hcall := rread_calls r s σ tr ad ho (by omega) (by have := (hrf.wf.rd ad).2.1; omega) hr
            have w1 := hrf.noted (e := (rd σ ad).1) (x := (1, ad, (rd σ ad).2.1)) (hrf.wf.rd ad).1 (by have := (hrf.wf.rd ad).2.1; simp only; omega) (rd_ops σ ad)
            have w2 := noted_len (rd σ ad).1 (1, ad, (rd σ ad).2.1) tr
            generalize rd σ ad = q at *
            obtain ⟨code, bs, τ⟩ := q
            simp only at hcall w1 w2
            generalize noted code (1, ad, bs) tr = tr' at *
            have HW := hid (⟨w1, w2⟩ : Rf 3 2 (k + 1) τ tr' ∧ grew code tr'.length tr.length)
            have HC := hid hcall
            clear hcall hrf ho w1 w2
            go_wp2_with fail
            refine HC.out.mono ?_
            rintro e w5 ⟨v5, rfl, g7⟩
            have g8 := g7.right
            clear g7
            go_wp2
            go_meet
            exact ⟨code, τ, tr', rfl, HW, g8⟩
          have y0 : (kind == 0) = false := beq_eq_false_iff_ne.2 z0
          clear z0
          by_cases z1 : kind = 1
          · have zz : (kind == 1) = true := beq_iff_eq.2 z1
            clear z1
            have hcall := rwrite_calls r s σ tr ad Ai ci B ho (by omega) (by omega) hr.drew RB
            have w1 := hrf.noted (e := (write σ ad B).1) (x := (2, ad, B)) (hrf.wf.write ad B hBy) (by simp only; omega) (write_ops σ ad B)
            have w2 := noted_len (write σ ad B).1 (2, ad, B) tr
            generalize write σ ad B = q at *
            obtain ⟨code, τ⟩ := q
            simp only at hcall w1 w2
            generalize noted code (2, ad, B) tr = tr' at *
            have HW := hid (⟨w1, w2⟩ : Rf 3 2 (k + 1) τ tr' ∧ grew code tr'.length tr.length)
            have HC := hid hcall
            clear hcall hrf ho w1 w2
            go_wp2_with fail
            refine wp_region_tail 11 (by kernel_rfl) (by kernel_rfl) ?_
            simp only [List.take_succ_cons, List.take_zero, List.drop_succ_cons, List.drop_zero]
            repeat still_step
            refine wpStill_nil ?_
            go_wp2_with fail
            refine HC.out.mono ?_
            rintro e w5 ⟨rfl, g8⟩
            go_wp2
            go_meet
            exact ⟨code, τ, tr', rfl, HW, g8⟩
          have y1 : (kind == 1) = false := beq_eq_false_iff_ne.2 z1
          clear z1
          by_cases z2 : kind = 2
          · have zz : (kind == 2) = true := beq_iff_eq.2 z2
            clear z2
            have hcall := rsync_calls r s σ tr ho (by omega) hr
            have w1 := hrf.noted (e := (sync σ).1) (x := (3, 0, [])) hrf.wf.sync (by simp) (sync_ops σ)
            have w2 := noted_len (sync σ).1 (3, 0, []) tr
            generalize sync σ = q at *
            obtain ⟨code, τ⟩ := q
            simp only at hcall w1 w2
            generalize noted code (3, 0, []) tr = tr' at *
            have HW := hid (⟨w1, w2⟩ : Rf 3 2 (k + 1) τ tr' ∧ grew code tr'.length tr.length)
            have HC := hid hcall
            clear hcall hrf ho w1 w2
            go_wp2_with fail
            refine HC.out.mono ?_
            rintro e w5 ⟨rfl, g8⟩
            go_wp2
            go_meet
            exact ⟨code, τ, tr', rfl, HW, g8⟩
          have y2 : (kind == 2) = false := beq_eq_false_iff_ne.2 z2
          clear z2
          by_cases z3 : kind = 3
          · have zz : (kind == 3) = true := beq_iff_eq.2 z3
            clear z3
            have hcall := xarm ad Bi K.length di K (by omega) hr.drew RK
            have w1 := hrf.other (τ := (arm σ ad K).2) (hrf.wf.arm ad K had).step (arm_ops σ ad K)
            generalize arm σ ad K = q at *
            obtain ⟨okb, τ⟩ := q
            simp only at hcall w1
            have HW := hid (⟨w1, .inr ⟨rfl, rfl⟩⟩ : Rf 3 2 (k + 1) τ tr ∧ grew (5 : Int) tr.length tr.length)
            have HC := hid hcall
            clear hcall hrf ho w1
            go_wp2_with fail
            refine wp_region_tail 14 (by kernel_rfl) (by kernel_rfl) ?_
            simp only [List.take_succ_cons, List.take_zero, List.drop_succ_cons, List.drop_zero]
            repeat still_step
            refine wpStill_nil ?_
            go_wp2_with fail
            refine HC.out.mono ?_
            rintro e w5 ⟨rfl, g8⟩
            go_wp2
            go_meet
            exact ⟨(5 : Int), τ, tr, rfl, HW, g8⟩
          have y3 : (kind == 3) = false := beq_eq_false_iff_ne.2 z3
          clear z3
          by_cases z4 : kind = 4
          · have zz : (kind == 4) = true := beq_iff_eq.2 z4
            clear z4
            have hcall := xcrash Bi K.length di K hr.drew RK
            have w1 := hrf.other (τ := crash K σ) (hrf.wf.crash K).step (crash_ops K σ)
            generalize crash K σ = τ at *
            generalize (!σ.down) = code at *
            have HW := hid (⟨w1, .inr ⟨rfl, rfl⟩⟩ : Rf 3 2 (k + 1) τ tr ∧ grew (5 : Int) tr.length tr.length)
            have HC := hid hcall
            clear hcall hrf ho w1
            go_wp2_with fail
            refine wp_region_tail 9 (by kernel_rfl) (by kernel_rfl) ?_
            simp only [List.take_succ_cons, List.take_zero, List.drop_succ_cons, List.drop_zero]
            repeat still_step
            refine wpStill_nil ?_
            go_wp2_with fail
            refine HC.out.mono ?_
            rintro e w5 ⟨rfl, g8⟩
            go_wp2
            go_meet
            exact ⟨(5 : Int), τ, tr, rfl, HW, g8⟩
          have y4 : (kind == 4) = false := beq_eq_false_iff_ne.2 z4
          clear z4
          by_cases z5 : kind = 5
          · have zz : (kind == 5) = true := beq_iff_eq.2 z5
            clear z5
            have hcall := xreboot hr
            have w1 := hrf.other (τ := { σ with down := false }) hrf.wf.reboot.step rfl
            generalize ({ σ with down := false } : St) = τ at *
            generalize σ.down = code at *
            have HW := hid (⟨w1, .inr ⟨rfl, rfl⟩⟩ : Rf 3 2 (k + 1) τ tr ∧ grew (5 : Int) tr.length tr.length)
            have HC := hid hcall
            clear hcall hrf ho w1
            go_wp2_with fail
            refine HC.out.mono ?_
            rintro e w5 ⟨rfl, g8⟩
            go_wp2
            go_meet
            exact ⟨(5 : Int), τ, tr, rfl, HW, g8⟩
          have y5 : (kind == 5) = false := beq_eq_false_iff_ne.2 z5
          clear z5
          have HW := hid (⟨hrf.other hrf.wf.step rfl, .inr ⟨rfl, rfl⟩⟩ : Rf 3 2 (k + 1) σ tr ∧ grew 5 tr.length tr.length)
          clear hrf ho
          go_wp2
          go_meet
          exact ⟨5, σ, tr, rfl, HW, hr⟩
        case rest =>
          clear hr hrf ho pp pp2
          obtain ⟨code, τ, tr', rfl, hi, hr⟩ := hcut
          obtain ⟨hrf, hcase⟩ := hi.out
          have hop := hrf.ops
          have HR := hid hrf
          have pp := recd_ptr hr
          rcases hcase with ⟨hc, hl⟩ | ⟨hc, hl⟩
          · have z1 : ((tr'.length : Int) != (tr.length : Int) + 1) = false := by rw [hl]; simp
            have z2 : ¬ τ.ops < (tr.length : Int) + 1 := by omega
            have HL := hid hl
            clear hl hi hrf hop
            go_wp2_with fail
            refine (mark_calls r s τ tr' hr).mono ?_
            rintro e w6 ⟨rfl, rfl⟩
            go_wp2_with fail
            refine (xops hr).mono ?_
            rintro e w7 ⟨rfl, rfl⟩
            go_wp2
            go_roundw
            case rel => exact ⟨k + 1, τ, tr', by omega, by go_num, by rw [HL.out]; go_num, HR, hr⟩
            case measure => simp [intOf]; omega
          · have z1 : ((tr'.length : Int) != (tr.length : Int)) = false := by rw [hl]; simp
            have z2 : ¬ τ.ops < (tr.length : Int) := by omega
            have HL := hid hl
            clear hl hi hrf hop
            go_wp2_with fail
            refine (mark_calls r s τ tr' hr).mono ?_
            rintro e w6 ⟨rfl, rfl⟩
            go_wp2_with fail
            refine (xops hr).mono ?_
            rintro e w7 ⟨rfl, rfl⟩
            go_wp2
            go_roundw
            case rel => exact ⟨k + 1, τ, tr', by omega, by go_num, by rw [HL.out], HR, hr⟩
            case measure => simp [intOf]; omega
      · have hkd : ¬ (k : Int) < (l.length : Int) := by omega
        have htb := hi.out.trb
        have hpp := fun (x : TOp) hx => Nat.le_trans (htb x hx) (show 20000 ≤ 1000000 by omega)
        go_wp2_with fail
        refine (first3 (hr.eq (show _ = recd r s σ tr * F by rfl))).mono ?_
        rintro e w5 ⟨rfl, g5⟩
        go_wp2_with fail
        refine (trace_calls r s σ tr (by omega) hpp g5).mono ?_
        rintro e w6 ⟨B, d, rfl, g6⟩
        have g7 := g6.right.right
        go_wp2
        go_ret
        exact ⟨rfl, g7⟩
  · go_wp2_with fail
    refine (first3 g3.right).mono ?_
    rintro e w5 ⟨rfl, g5⟩
    go_wp2
    go_ret
    exact ⟨rfl, g5⟩
theorem TraceFails_walk (W : World) (a0 : Option Addr) (len0 cap0 : Nat) (l0 : (List (Int × (Int × ((List Int) × (List Bool)))))) (h0 : (decSlice 64 (decPair (decInt .i64) (decPair (decInt .i64) (decPair (decSlice 1 (decInt .u8)) (decSlice 1 decBool))))).rel W l0 [.slice a0 len0 cap0]) :
    Calls Try.prog 10 #[.slice a0 len0 cap0] W fun e w' => e = .returned (.bool true) ∧ Below W.heap.size W w' := by
  have hM := dec_sops_wf2 h0
  obtain ⟨A, c, hd, he, hlc, _, hQ, hO, hB⟩ := dec_sops h0
  simp at he
  obtain ⟨rfl, rfl, rfl⟩ := he
  exact (traceFails _ _ l0 hd (Sat.start W) (fun w hs => hQ.keep fun k hk => hs.old1 hk) (fun w hs => hO.keep fun k hk => hs.old1 hk) hB hM).mono fun e w' ⟨he, hs⟩ => ⟨he, hs.finish1⟩
end Go.Proofs.Ytacfaegljjgneaa
