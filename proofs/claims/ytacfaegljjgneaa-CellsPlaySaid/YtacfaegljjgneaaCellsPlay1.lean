import Derived.Test.YtacfaegljjgneaaPlay1
import Derived.BigRegion
import Derived.Deep.RegionLaw
import Derived.Deep.DeepCutAuto
import Derived.Deep.CutBlock
import Derived.Deep.RegionHeld3
namespace Go.Proofs.Ytacfaegljjgneaa
set_option linter.unusedVariables false
set_option linter.unusedSimpArgs false
open Go.RowKit Go.Proofs.Sep

theorem _root_.Go.Proofs.Sep.Sat.drop3 {E w : World} {P Q R F : Asn} (h : Sat E (P * (Q * (R * F))) w) : Sat E (P * (Q * F)) w := (h.eq (show _ = R * (P * (Q * F)) by ac_rfl)).right
theorem dec_sops_wf {b1 : Nat} {w : World} {l : List SOp} {cs : List Value} (h : (decSlice b1 (decPair (decInt .i64) (decPair (decInt .i64) (decPair (decSlice 1 (decInt .u8)) (decSlice 1 decBool))))).rel w l cs) : ∀ x ∈ l, x.2.1 ≤ 9223372036854775807 := by
  obtain ⟨A, c, css, h0, h1, h2, h3, h4, h5, h6⟩ := h
  intro x hx
  obtain ⟨i, hi, rfl⟩ := List.getElem_of_mem hx
  obtain ⟨c1, c2, e, r1, c3, c4, e2, r2, _⟩ := h5 i hi (by omega)
  have := r2.2
  simp [Lit.wf, IntKind.min, IntKind.max, IntKind.signed, IntKind.bits] at this
  omega

set_option maxRecDepth 100000 in
set_option maxHeartbeats 8000000 in
theorem cellsPlay_ok {E w : World} {F : Asn} (n size : Nat) (A : Option Addr) (c : Nat) (l : List SOp) (hd : List Value) (n1 : 1 ≤ n) (n2 : n ≤ 60) (s1 : 1 ≤ size) (s2 : size ≤ 60) (hS : Sat E F w)
    (hQ : ∀ w, Sat E F w → Reads w 4 A l.length hd) (hO : ∀ w, Sat E F w → SOpsIn w l hd) (hB : ∀ x ∈ l, ByteR x.2.2.1) (hM : ∀ x ∈ l, x.2.1 ≤ 9223372036854775807) :
    Calls Try.prog 7 #[.int .i64 n, .int .i64 size, .slice A l.length c] w fun e w' => e = .returned (.bool true) ∧ Sat E F w' := by
  have a1 : ¬ (60 : Int) < (n : Int) := by omega
  have a2 : ¬ (60 : Int) < (size : Int) := by omega
  go_enter Try.func7, Try.ntmps7
  go_wp2_with fail
  refine (first2 hS).mono ?_
  rintro e w1 ⟨rfl, g1⟩
  clear hS
  go_wp2_with fail
  refine (few24 A c l hd g1 hQ hO).mono ?_
  rintro e w2 ⟨⟨rfl, hl1, hf⟩ | rfl, g2⟩
  · have HF := hid hf
    clear hf g1
    go_wp2_with fail
    refine (cellsNew n size n1 (by omega) s1 (by omega) g2).mono ?_
    rintro e w3 ⟨s, rfl, g3⟩
    go_wp2_with fail
    refine (rnew n size n1 (by omega) s1 (by omega) g3).mono ?_
    rintro e w4 ⟨y, rfl, g4⟩
    have g5 : Sat E (store s (St.new n size) * (rstore y (St.new n size) [] * F)) w4 := g4.eq (star_left_comm _ _ _)
    have HN := hid (Wf.new n size)
    clear g2 g3 g4 a1 a2
    go_wp2_with fail
    go_loopw [11] (fun i wr => ∃ (k : Nat) (σ : St) (tr : List TOp), k ≤ l.length ∧ i = .int .i64 k ∧ Hid (Wf n size k σ ∧ tr.length ≤ k) ∧ Sat E (store s σ * (rstore y σ tr * F)) wr) (fun i _ => l.length - (intOf i).toNat)
    case atStart => exact ⟨0, _, [], by omega, rfl, ⟨HN.out, by simp⟩, g5⟩
    case round =>
      clear g5 HN
      obtain ⟨k, σ, tr, hk, rfl, hi, hr⟩ := hrel
      by_cases hlt : k < l.length
      · obtain ⟨hwf, htr⟩ := hi.out
        have ho := hwf.sok (by omega) (by omega)
        have hkd : (k : Int) < (l.length : Int) := by omega
        have wk := i64_wrap (x := (k : Int) + 1) (by omega) (by omega)
        obtain ⟨pd, Ai, ci, Bi, di, hA, q1, q2, q3⟩ := sop_at hQ hO hlt hr.right.right
        obtain ⟨x0, x1, x2, x3, _, _⟩ := q3 _ hr.right.right
        have RB : ∀ w, Sat E F w → Reads w 1 Ai l[k].2.2.1.length (nums .u8 l[k].2.2.1) := fun w h => (q3 w h).2.2.2.2.1
        have RK : ∀ w, Sat E F w → Reads w 1 Bi l[k].2.2.2.length (bools l[k].2.2.2) := fun w h => (q3 w h).2.2.2.2.2
        have hBy := hB _ (List.getElem_mem hlt)
        have had := hM _ (List.getElem_mem hlt)
        obtain ⟨hb1, hb2⟩ := HF.out _ (List.getElem_mem hlt)
        subst hA
        clear q3
        generalize l[k] = op at *
        obtain ⟨kind, ad, B, K⟩ := op
        simp only at x0 x1 x2 x3 RB RK hBy had hb1 hb2 q1 q2
        have g0 : Sat E (store s σ * (rstore y σ tr * (blk wr.heap.size (.cells #[.int .i64 kind, .int .i64 ad, .slice Ai B.length ci, .slice Bi K.length di] 44) * F))) (wr.alloc (.cells #[.int .i64 kind, .int .i64 ad, .slice Ai B.length ci, .slice Bi K.length di] 44)) := (hr.alloc _).eq (by ac_rfl)
        have hcells : ∀ {w' : World} {P Q : Asn}, Sat E (P * (Q * (blk wr.heap.size (.cells #[.int .i64 kind, .int .i64 ad, .slice Ai B.length ci, .slice Bi K.length di] 44) * F))) w' → w'.cell? ⟨wr.heap.size, 1, none⟩ = some (.int .i64 ad) ∧ w'.cell? ⟨wr.heap.size, 2, none⟩ = some (.slice Ai B.length ci) ∧ w'.cell? ⟨wr.heap.size, 3, none⟩ = some (.slice Bi K.length di) := fun h => ⟨h.right.right.cell_blk, h.right.right.cell_blk, h.right.right.cell_blk⟩
        have hpl : (peek (begins σ).2 ad).length ≤ 1000000 := by have := (hwf.begins.1.peek ad).1; omega
        clear hi hr
        go_upto_block 2 with fail
        go_cut [13] (fun v wc => ∃ (τ : St) (tr' : List TOp), v = .bool true ∧ Hid (Wf n size (k + 1) τ ∧ tr'.length ≤ k + 1) ∧ Sat E (store s τ * (rstore y τ tr' * F)) wc)
        case first =>
          by_cases z0 : kind = 0
          · have zz : (kind == 0) = true := beq_iff_eq.2 z0
            clear z0
            have h1 := read_calls s σ ad ho.o1 ho.o2 ho.l1 ho.l2 ho.sz g0
            have h2 := fun (F' : Asn) w' (h : Sat E (rstore y σ tr * F') w') => rfread_calls y σ tr ad ho (by omega) hpl h
            obtain ⟨w1, w2, w3⟩ := hwf.rd ad
            have hnt := noted_le (rd σ ad).1 (1, ad, (rd σ ad).2.1) tr
            generalize rd σ ad = q at *
            obtain ⟨code, bs, τ⟩ := q
            simp only at h1 h2 w1 w2 w3 hnt
            generalize noted code (1, ad, bs) tr = tr' at *
            have HW := hid (⟨w1, by omega⟩ : Wf n size (k + 1) τ ∧ tr'.length ≤ k + 1)
            have H1 := hid h1
            have H2 := hid h2
            have W3 := hid w3
            clear h1 h2 w1 w2 w3 hnt hwf ho
            go_wp2_with fail
            refine H1.out.mono ?_
            rintro e w5 ⟨v5, rfl, g5⟩
            obtain ⟨A5, c5, rfl, _, _, _⟩ := g5.reads
            have da1 := (g5.right.right.right).cell_blk (i := 1)
            have da2 := (g5.right.right.right).cell_blk (i := 2)
            have da3 := (g5.right.right.right).cell_blk (i := 3)
            simp only [List.getElem?_toArray, List.getElem?_cons_zero, List.getElem?_cons_succ] at da1 da2 da3
            have g6 : Sat E (rstore y σ tr * (row 5 1 (.slice A5 bs.length c5) bs.length (nums .u8 bs) * (store s τ * (blk wr.heap.size (.cells #[.int .i64 kind, .int .i64 ad, .slice Ai B.length ci, .slice Bi K.length di] 44) * F)))) w5 := g5.eq (by ac_rfl)
            clear H1 g5
            go_wp2_with fail
            refine (H2.out _ _ g6).mono ?_
            rintro e w6 ⟨v6, rfl, g7⟩
            obtain ⟨A6, c6, rfl, _, _, _⟩ := g7.reads
            clear g6 H2
            go_wp2_with fail
            refine (bytesEq A5 A6 _ _ c5 c6 bs bs g7.right.right.reads_at g7.reads_at W3.out W3.out).mono ?_
            rw [decide_eq_true (rfl : bs = bs)]
            rintro e w7 ⟨rfl, rfl⟩
            have g8 : Sat E (store s τ * (rstore y τ tr' * F)) w6 := (g7.right.drop_mid.eq (star_left_comm _ _ _)).drop3
            clear g7
            go_wp2
            go_meet
            exact ⟨τ, _, rfl, HW, g8⟩
          have y0 : (kind == 0) = false := beq_eq_false_iff_ne.2 z0
          clear z0
          by_cases z1 : kind = 1
          · have zz : (kind == 1) = true := beq_iff_eq.2 z1
            clear z1
            have g0d := g0.drew
            have h1 := write_calls s σ ad Ai B.length ci B ho.o1 ho.o2 ho.l1 ho.l2 ho.fl (by omega) g0d (fun w h => RB w h.right.right)
            have h2 := fun (F' : Asn) w' (h : Sat E (rstore y σ tr * F') w') (hF : ∀ w, Sat E F' w → Sat E F w) => rfwrite_calls y σ tr ad Ai ci B ho (by omega) (by omega) h (fun w h => RB w (hF w h))
            have w1 := hwf.write ad B hBy
            have hnt := noted_le (write σ ad B).1 (2, ad, B) tr
            generalize write σ ad B = q at *
            obtain ⟨code, τ⟩ := q
            simp only at h1 h2 w1 hnt
            generalize noted code (2, ad, B) tr = tr' at *
            have HW := hid (⟨w1, by omega⟩ : Wf n size (k + 1) τ ∧ tr'.length ≤ k + 1)
            have H1 := hid h1
            have H2 := hid h2
            clear h1 h2 hwf ho
            have s1 := hcells g0
            go_wp2_with fail
            go_region_held3 (fun w' => w'.cell? ⟨wr.heap.size, 1, none⟩ = some (.int .i64 ad) ∧ w'.cell? ⟨wr.heap.size, 2, none⟩ = some (.slice Ai B.length ci) ∧ w'.cell? ⟨wr.heap.size, 3, none⟩ = some (.slice Bi K.length di))
              (first | exact s1 | exact s2 | exact s3)
              (first
                | (go_at_call 15; refine H1.out.mono ?_; rintro e w5 ⟨rfl, g5⟩; have s2 := hcells g5)
                | (go_at_call 30; refine (H2.out _ _ (g5.eq (star_left_comm _ _ _)) (fun w h => h.right.right)).mono ?_; rintro e w6 ⟨rfl, g6⟩; have s3 := hcells g6))
            have g8 := (g6.eq (star_left_comm _ _ _)).drop3
            clear g5 g6
            go_wp2
            go_meet
            exact ⟨τ, _, rfl, HW, g8⟩
          have y1 : (kind == 1) = false := beq_eq_false_iff_ne.2 z1
          clear z1
          by_cases z2 : kind = 2
          · have zz : (kind == 2) = true := beq_iff_eq.2 z2
            clear z2
            have g0d := g0
            have h1 := sync_calls s σ ho.o1 ho.o2 ho.l1 ho.l2 g0d
            have h2 := fun (F' : Asn) w' (h : Sat E (rstore y σ tr * F') w') (hF : ∀ w, Sat E F' w → Sat E F w) => rfsync_calls y σ tr ho (by omega) h
            have w1 := hwf.sync
            have hnt := noted_le (sync σ).1 (3, 0, []) tr
            generalize sync σ = q at *
            obtain ⟨code, τ⟩ := q
            simp only at h1 h2 w1 hnt
            generalize noted code (3, 0, []) tr = tr' at *
            have HW := hid (⟨w1, by omega⟩ : Wf n size (k + 1) τ ∧ tr'.length ≤ k + 1)
            have H1 := hid h1
            have H2 := hid h2
            clear h1 h2 hwf ho
            have da1 := (g0d.right.right).cell_blk (i := 1)
            have da2 := (g0d.right.right).cell_blk (i := 2)
            have da3 := (g0d.right.right).cell_blk (i := 3)
            simp only [List.getElem?_toArray, List.getElem?_cons_zero, List.getElem?_cons_succ] at da1 da2 da3
            go_wp2_with fail
            refine H1.out.mono ?_
            rintro e w5 ⟨rfl, g5⟩
            have db1 := (g5.right.right).cell_blk (i := 1)
            have db2 := (g5.right.right).cell_blk (i := 2)
            have db3 := (g5.right.right).cell_blk (i := 3)
            simp only [List.getElem?_toArray, List.getElem?_cons_zero, List.getElem?_cons_succ] at db1 db2 db3
            go_wp2_with fail
            refine (H2.out _ _ (g5.eq (star_left_comm _ _ _)) (fun w h => h.right.right)).mono ?_
            rintro e w6 ⟨rfl, g6⟩
            have dc1 := (g6.right.right).cell_blk (i := 1)
            have dc2 := (g6.right.right).cell_blk (i := 2)
            have dc3 := (g6.right.right).cell_blk (i := 3)
            simp only [List.getElem?_toArray, List.getElem?_cons_zero, List.getElem?_cons_succ] at dc1 dc2 dc3
            have g8 := (g6.eq (star_left_comm _ _ _)).drop3
            clear g5 g6
            go_wp2
            go_meet
            exact ⟨τ, _, rfl, HW, g8⟩
          have y2 : (kind == 2) = false := beq_eq_false_iff_ne.2 z2
          clear z2
          by_cases z3 : kind = 3
          · have zz : (kind == 3) = true := beq_iff_eq.2 z3
            clear z3
            have g0d := g0.drew
            have h1 := arm_calls s σ ad Bi K.length di K (by omega) g0d (fun w h => RK w h.right.right)
            have h2 := fun (F' : Asn) w' (h : Sat E (rstore y σ tr * F') w') (hF : ∀ w, Sat E F' w → Sat E F w) => rfarm_calls y σ tr ad Bi di K (by omega) h (fun w h => RK w (hF w h))
            have w1 := (hwf.arm ad K had).step
            generalize arm σ ad K = q at *
            obtain ⟨code, τ⟩ := q
            simp only at h1 h2 w1
            have HW := hid (⟨w1, by omega⟩ : Wf n size (k + 1) τ ∧ tr.length ≤ k + 1)
            have H1 := hid h1
            have H2 := hid h2
            clear h1 h2 hwf ho
            have s1 := hcells g0
            go_wp2_with fail
            go_region_held3 (fun w' => w'.cell? ⟨wr.heap.size, 1, none⟩ = some (.int .i64 ad) ∧ w'.cell? ⟨wr.heap.size, 2, none⟩ = some (.slice Ai B.length ci) ∧ w'.cell? ⟨wr.heap.size, 3, none⟩ = some (.slice Bi K.length di))
              (first | exact s1 | exact s2 | exact s3)
              (first
                | (go_at_call 26; refine H1.out.mono ?_; rintro e w5 ⟨rfl, g5⟩; have s2 := hcells g5)
                | (go_at_call 32; refine (H2.out _ _ (g5.eq (star_left_comm _ _ _)) (fun w h => h.right.right)).mono ?_; rintro e w6 ⟨rfl, g6⟩; have s3 := hcells g6))
            have g8 := (g6.eq (star_left_comm _ _ _)).drop3
            clear g5 g6
            go_wp2
            go_meet
            exact ⟨τ, _, rfl, HW, g8⟩
          have y3 : (kind == 3) = false := beq_eq_false_iff_ne.2 z3
          clear z3
          by_cases z4 : kind = 4
          · have zz : (kind == 4) = true := beq_iff_eq.2 z4
            clear z4
            have g0d := g0.drew
            have h1 := crash_calls s σ Bi K.length di K g0d (fun w h => RK w h.right.right)
            have h2 := fun (F' : Asn) w' (h : Sat E (rstore y σ tr * F') w') (hF : ∀ w, Sat E F' w → Sat E F w) => rcrash_calls y σ tr Bi di K h (fun w h => RK w (hF w h))
            have w1 := (hwf.crash K).step
            generalize crash K σ = τ at *
            generalize (!σ.down) = code at *
            have HW := hid (⟨w1, by omega⟩ : Wf n size (k + 1) τ ∧ tr.length ≤ k + 1)
            have H1 := hid h1
            have H2 := hid h2
            clear h1 h2 hwf ho
            have s1 := hcells g0
            go_wp2_with fail
            go_region_held3 (fun w' => w'.cell? ⟨wr.heap.size, 1, none⟩ = some (.int .i64 ad) ∧ w'.cell? ⟨wr.heap.size, 2, none⟩ = some (.slice Ai B.length ci) ∧ w'.cell? ⟨wr.heap.size, 3, none⟩ = some (.slice Bi K.length di))
              (first | exact s1 | exact s2 | exact s3)
              (first
                | (go_at_call 18; refine H1.out.mono ?_; rintro e w5 ⟨rfl, g5⟩; have s2 := hcells g5)
                | (go_at_call 33; refine (H2.out _ _ (g5.eq (star_left_comm _ _ _)) (fun w h => h.right.right)).mono ?_; rintro e w6 ⟨rfl, g6⟩; have s3 := hcells g6))
            have g8 := (g6.eq (star_left_comm _ _ _)).drop3
            clear g5 g6
            go_wp2
            go_meet
            exact ⟨τ, _, rfl, HW, g8⟩
          have y4 : (kind == 4) = false := beq_eq_false_iff_ne.2 z4
          clear z4
          by_cases z5 : kind = 5
          · have zz : (kind == 5) = true := beq_iff_eq.2 z5
            clear z5
            have g0d := g0
            have h1 := reboot_calls s σ g0d
            have h2 := fun (F' : Asn) w' (h : Sat E (rstore y σ tr * F') w') (hF : ∀ w, Sat E F' w → Sat E F w) => rreboot_calls y σ tr h
            have w1 := hwf.reboot.step
            generalize ({ σ with down := false } : St) = τ at *
            generalize σ.down = code at *
            have HW := hid (⟨w1, by omega⟩ : Wf n size (k + 1) τ ∧ tr.length ≤ k + 1)
            have H1 := hid h1
            have H2 := hid h2
            clear h1 h2 hwf ho
            have da1 := (g0d.right.right).cell_blk (i := 1)
            have da2 := (g0d.right.right).cell_blk (i := 2)
            have da3 := (g0d.right.right).cell_blk (i := 3)
            simp only [List.getElem?_toArray, List.getElem?_cons_zero, List.getElem?_cons_succ] at da1 da2 da3
            go_wp2_with fail
            refine H1.out.mono ?_
            rintro e w5 ⟨rfl, g5⟩
            have db1 := (g5.right.right).cell_blk (i := 1)
            have db2 := (g5.right.right).cell_blk (i := 2)
            have db3 := (g5.right.right).cell_blk (i := 3)
            simp only [List.getElem?_toArray, List.getElem?_cons_zero, List.getElem?_cons_succ] at db1 db2 db3
            go_wp2_with fail
            refine (H2.out _ _ (g5.eq (star_left_comm _ _ _)) (fun w h => h.right.right)).mono ?_
            rintro e w6 ⟨rfl, g6⟩
            have dc1 := (g6.right.right).cell_blk (i := 1)
            have dc2 := (g6.right.right).cell_blk (i := 2)
            have dc3 := (g6.right.right).cell_blk (i := 3)
            simp only [List.getElem?_toArray, List.getElem?_cons_zero, List.getElem?_cons_succ] at dc1 dc2 dc3
            have g8 := (g6.eq (star_left_comm _ _ _)).drop3
            clear g5 g6
            go_wp2
            go_meet
            exact ⟨τ, _, rfl, HW, g8⟩
          have y5 : (kind == 5) = false := beq_eq_false_iff_ne.2 z5
          clear z5
          have HW := hid (⟨hwf.step, by omega⟩ : Wf n size (k + 1) σ ∧ tr.length ≤ k + 1)
          have g8 := g0.drop3
          clear hwf ho
          go_wp2
          go_meet
          exact ⟨σ, tr, rfl, HW, g8⟩
        case rest =>
          obtain ⟨τ, tr', rfl, hi, hr⟩ := hcut
          obtain ⟨hwf, _⟩ := hi.out
          have hn := hwf.n
          have hs := hwf.size
          have hpk := fun z => (hwf.peek z).2
          have HPK := hid hpk
          clear g0 hwf ho hpk x0 x1 x2 x3 RB RK hBy had hb1 hb2 q1 q2 hpl
          have c19 : ∀ s' : SW E (store s τ * (rstore y τ tr' * F)), Calls Try.prog 19 #[.pointer (some ⟨s, 0, none⟩)] s'.w fun e w' => e = .returned (.bool (!τ.down)) ∧ ∃ s'' : SW E (store s τ * (rstore y τ tr' * F)), w' = s''.w := fun s' => quietS ((up_calls s τ s'.h).mono fun _ _ ⟨h1, h2⟩ => ⟨h1, h2 ▸ s'.h⟩)
          have c35 : ∀ s' : SW E (store s τ * (rstore y τ tr' * F)), Calls Try.prog 35 #[.pointer (some ⟨y, 0, none⟩)] s'.w fun e w' => e = .returned (.bool (!τ.down)) ∧ ∃ s'' : SW E (store s τ * (rstore y τ tr' * F)), w' = s''.w := fun s' => quietS ((rup_calls y τ tr' (s'.h.eq (star_left_comm _ _ _))).mono fun _ _ ⟨h1, h2⟩ => ⟨h1, h2 ▸ s'.h⟩)
          have c17 : ∀ s' : SW E (store s τ * (rstore y τ tr' * F)), Calls Try.prog 17 #[.pointer (some ⟨s, 0, none⟩)] s'.w fun e w' => e = .returned (.int .i64 τ.fl.length) ∧ ∃ s'' : SW E (store s τ * (rstore y τ tr' * F)), w' = s''.w := fun s' => quietS ((flight_calls s τ s'.h).mono fun _ _ ⟨h1, h2⟩ => ⟨h1, h2 ▸ s'.h⟩)
          have c36 : ∀ s' : SW E (store s τ * (rstore y τ tr' * F)), Calls Try.prog 36 #[.pointer (some ⟨y, 0, none⟩)] s'.w fun e w' => e = .returned (.int .i64 τ.fl.length) ∧ ∃ s'' : SW E (store s τ * (rstore y τ tr' * F)), w' = s''.w := fun s' => quietS ((rflight_calls y τ tr' (s'.h.eq (star_left_comm _ _ _))).mono fun _ _ ⟨h1, h2⟩ => ⟨h1, h2 ▸ s'.h⟩)
          have c27 : ∀ s' : SW E (store s τ * (rstore y τ tr' * F)), Calls Try.prog 27 #[.pointer (some ⟨s, 0, none⟩)] s'.w fun e w' => e = .returned (.int .i64 τ.ops) ∧ ∃ s'' : SW E (store s τ * (rstore y τ tr' * F)), w' = s''.w := fun s' => quietS ((ops_calls s τ s'.h).mono fun _ _ ⟨h1, h2⟩ => ⟨h1, h2 ▸ s'.h⟩)
          have c37 : ∀ s' : SW E (store s τ * (rstore y τ tr' * F)), Calls Try.prog 37 #[.pointer (some ⟨s, 0, none⟩)] s'.w fun e w' => e = .returned (.int .i64 n) ∧ ∃ s'' : SW E (store s τ * (rstore y τ tr' * F)), w' = s''.w := fun s' => quietS ((cells_calls s τ s'.h).mono fun _ _ ⟨h1, h2⟩ => ⟨hn ▸ h1, h2 ▸ s'.h⟩)
          have c38 : ∀ s' : SW E (store s τ * (rstore y τ tr' * F)), Calls Try.prog 38 #[.pointer (some ⟨s, 0, none⟩)] s'.w fun e w' => e = .returned (.int .i64 size) ∧ ∃ s'' : SW E (store s τ * (rstore y τ tr' * F)), w' = s''.w := fun s' => quietS ((size_calls s τ s'.h).mono fun _ _ ⟨h1, h2⟩ => ⟨hs ▸ h1, h2 ▸ s'.h⟩)
          have cop : ∀ s' : SW E (store s τ * (rstore y τ tr' * F)), s'.w.cell? ⟨y, 2, none⟩ = some (.int .i64 τ.ops) := fun s' => rops_cell (s'.h.eq (star_left_comm _ _ _))
          have pk1 := fun w (h : Sat E (store s τ * (rstore y τ tr' * F)) w) z => peek_calls s τ z (by omega) h
          have pk2 := fun (F' : Asn) w (h : Sat E (rstore y τ tr' * F') w) z => rpeek_calls y τ tr' z (by omega) h
          have PK1 := hid pk1
          have PK2 := hid pk2
          clear pk1 pk2 hn hs
          go_upto_region 31 with fail
          go_cut [185] (fun v wc => v = .bool false ∧ Sat E (store s τ * (rstore y τ tr' * F)) wc)
          case first =>
            generalize (!τ.down) = b1 at *
            generalize τ.fl.length = b2 at *
            generalize τ.ops = b3 at *
            refine wp_region_quietS _ (by kernel_rfl) (by kernel_rfl) hr ?_
            intro hne
            repeat (go_big_quiet_step (first | (go_at_call 19; exact c19 _) | (go_at_call 35; exact c35 _) | (go_at_call 17; exact c17 _) | (go_at_call 36; exact c36 _) | (go_at_call 27; exact c27 _) | (go_at_call 37; exact c37 _) | (go_at_call 38; exact c38 _)))
            refine wpQuiet_nil ?_
            intro w12 hw'
            have h12 := SW.out hw'
            clear hw' hne
            go_wp2
            go_meet
            exact ⟨by first | rfl | simp, h12⟩
          case rest =>
            obtain ⟨rfl, hr⟩ := hcut
            clear c19 c35 c17 c36 c27 c37 c38 cop
            skip
            · skip
              go_wp2_with fail
              go_loopw [18] (fun i wr => ∃ z : Int, -1 ≤ z ∧ z ≤ n + 1 ∧ i = .int .i64 z ∧ Sat E (store s τ * (rstore y τ tr' * F)) wr) (fun i _ => (n + 1 - intOf i).toNat)
              case atStart => exact ⟨-1, by omega, by omega, rfl, hr⟩
              case round =>
                clear hr
                obtain ⟨z, hz1, hz2, rfl, hr⟩ := hrel
                by_cases hzn : z ≤ (n : Int)
                · have wz := i64_wrap (x := z + 1) (by omega) (by omega)
                  have hby := HPK.out z
                  go_wp2_with fail
                  refine (PK1.out _ hr z).mono ?_
                  rintro e w5 ⟨v5, rfl, g5⟩
                  obtain ⟨A5, c5, rfl, _, _, _⟩ := g5.reads
                  go_wp2_with fail
                  refine (PK2.out _ _ (g5.eq (show _ = rstore y τ tr' * (row 5 1 (.slice A5 (peek τ z).length c5) (peek τ z).length (nums .u8 (peek τ z)) * (store s τ * F)) by ac_rfl)) z).mono ?_
                  rintro e w6 ⟨v6, rfl, g6⟩
                  obtain ⟨A6, c6, rfl, _, _, _⟩ := g6.reads
                  go_wp2_with fail
                  refine (bytesEq A5 A6 _ _ c5 c6 (peek τ z) (peek τ z) g6.right.right.reads_at g6.reads_at hby hby).mono ?_
                  rw [decide_eq_true (rfl : peek τ z = peek τ z)]
                  rintro e w7 ⟨rfl, rfl⟩
                  have g8 : Sat E (store s τ * (rstore y τ tr' * F)) w6 := g6.right.drop_mid.eq (star_left_comm _ _ _)
                  clear g5 g6 hby
                  go_wp2
                  go_roundw
                  case rel => exact ⟨z + 1, by omega, by omega, rfl, g8⟩
                  case measure => simp [intOf]; omega
                · go_wp2
                  go_roundw
                  case rel => exact ⟨k + 1, τ, tr', by omega, by go_num, hi, hr⟩
                  case measure => simp [intOf]; omega
      · obtain rfl : k = l.length := by omega
        have hkd : ¬ (l.length : Int) < (l.length : Int) := by omega
        have hF := hr.right.right
        go_wp2_with fail
        refine (first2 hF).mono ?_
        rintro e w5 ⟨rfl, g5⟩
        go_wp2
        go_ret
        exact ⟨rfl, g5⟩
  · go_wp2_with fail
    refine (first2 g2).mono ?_
    rintro e w5 ⟨rfl, g5⟩
    go_wp2
    go_ret
    exact ⟨rfl, g5⟩

set_option maxRecDepth 100000 in
set_option maxHeartbeats 2000000 in
theorem cellsPlay {E w : World} {F : Asn} (x y : Int) (A : Option Addr) (c : Nat) (l : List SOp) (hd : List Value) (hS : Sat E F w)
    (hQ : ∀ w, Sat E F w → Reads w 4 A l.length hd) (hO : ∀ w, Sat E F w → SOpsIn w l hd) (hB : ∀ x ∈ l, ByteR x.2.2.1) (hM : ∀ x ∈ l, x.2.1 ≤ 9223372036854775807) :
    Calls Try.prog 7 #[.int .i64 x, .int .i64 y, .slice A l.length c] w fun e w' => e = .returned (.bool true) ∧ Sat E F w' := by
  by_cases x1 : (60 : Int) < x
  · skip
    go_enter Try.func7, Try.ntmps7
    go_wp2_with fail
    refine (first2 hS).mono ?_
    rintro e w1 ⟨rfl, g1⟩
    go_wp2_with fail
    refine (first2 g1).mono ?_
    rintro e w3 ⟨rfl, g3⟩
    go_wp2
    go_ret
    exact ⟨rfl, g3⟩
  by_cases y1 : (60 : Int) < y
  · skip
    go_enter Try.func7, Try.ntmps7
    go_wp2_with fail
    refine (first2 hS).mono ?_
    rintro e w1 ⟨rfl, g1⟩
    go_wp2_with fail
    refine (first2 g1).mono ?_
    rintro e w3 ⟨rfl, g3⟩
    go_wp2
    go_ret
    exact ⟨rfl, g3⟩
  by_cases hgood : 1 ≤ x ∧ 1 ≤ y
  · obtain ⟨n, rfl⟩ := Int.eq_ofNat_of_zero_le (show 0 ≤ x by omega)
    obtain ⟨size, rfl⟩ := Int.eq_ofNat_of_zero_le (show 0 ≤ y by omega)
    exact cellsPlay_ok n size A c l hd (by omega) (by omega) (by omega) (by omega) hS hQ hO hB hM
  · have hbad : x < 1 ∨ 65536 < x ∨ y < 1 ∨ 4096 < y := by omega
    clear hgood
    go_enter Try.func7, Try.ntmps7
    go_wp2_with fail
    refine (first2 hS).mono ?_
    rintro e w1 ⟨rfl, g1⟩
    go_wp2_with fail
    refine (few24 A c l hd g1 hQ hO).mono ?_
    rintro e w2 ⟨⟨rfl, hl1, hf⟩ | rfl, g2⟩
    · clear hf
      go_wp2_with fail
      refine (cellsNew_bad x y hbad).mono ?_
      rintro e w5 ⟨rfl, rfl⟩
      go_wp2_with fail
      refine (rnew_bad x y hbad).mono ?_
      rintro e w6 ⟨rfl, rfl⟩
      go_wp2_with fail
      refine (first2 g2).mono ?_
      rintro e w3 ⟨rfl, g3⟩
      go_wp2
      go_ret
      exact ⟨rfl, g3⟩
    · go_wp2_with fail
      refine (first2 g2).mono ?_
      rintro e w3 ⟨rfl, g3⟩
      go_wp2
      go_ret
      exact ⟨rfl, g3⟩

theorem CellsPlay_walk (W : World) (a0 : Int) (w0 : (Lit.int .i64 a0).wf = true) (a1 : Int) (w1 : (Lit.int .i64 a1).wf = true) (a2 : Option Addr) (len2 cap2 : Nat) (l2 : (List (Int × (Int × ((List Int) × (List Bool)))))) (h2 : (decSlice 64 (decPair (decInt .i64) (decPair (decInt .i64) (decPair (decSlice 1 (decInt .u8)) (decSlice 1 decBool))))).rel W l2 [.slice a2 len2 cap2]) :
    Calls Try.prog 7 #[.int .i64 a0, .int .i64 a1, .slice a2 len2 cap2] W fun e w' => e = .returned (.bool true) ∧ Below W.heap.size W w' := by
  have hM := dec_sops_wf h2
  obtain ⟨A, c, hd, he, hlc, _, hQ, hO, hB⟩ := dec_sops h2
  simp at he
  obtain ⟨rfl, rfl, rfl⟩ := he
  exact (cellsPlay a0 a1 _ _ l2 hd (Sat.start W) (fun w hs => hQ.keep fun k hk => hs.old1 hk) (fun w hs => hO.keep fun k hk => hs.old1 hk) hB hM).mono fun e w' ⟨he, hs⟩ => ⟨he, hs.finish1⟩
end Go.Proofs.Ytacfaegljjgneaa
