import Derived.Test.YtacfaegljjgneaaTrc10
import Derived.Test.YtacfaegljjgneaaRef2b
import Derived.BigRegion
import Derived.Deep.RegionLaw
import Derived.Deep.DeepCutAuto
import Derived.Deep.CutBlock
import Derived.Deep.RegionHeld3
namespace Go.Proofs.Ytacfaegljjgneaa
set_option linter.unusedVariables false
set_option linter.unusedSimpArgs false
open Go.RowKit Go.Proofs.Sep

theorem _root_.Go.Proofs.Sep.Sat.drop3 {E w : World} {P Q R F : Asn} (h : Sat E (P * (Q * (R * F))) w) : Sat E (P * (Q * F)) w := (h.eq (show _ = R * (P * (Q * F)) by ac_rfl)).right
theorem dec_sops_wf {b1 : Nat} {w : World} {l : List SOp} {cs : List Value} (h : (decSlice b1 (decPair (decInt .i64) (decPair (decInt .i64) (decPair (decSlice 1 (decInt .u8)) (decSlice 1 decBool))))).rel w l cs) : ∀ x ∈ l, x.2.1 ≤ 9223372036854775807 := by
  obtain ⟨A, c, css, h0, h1, h2, h3, h4, h5, h6⟩ := h
  intro x hx
  obtain ⟨i, hi, rfl⟩ := List.getElem_of_mem hx
  obtain ⟨c1, c2, e, r1, c3, c4, e2, r2, _⟩ := h5 i hi (by omega)
  have := r2.2
  simp [Lit.wf, IntKind.min, IntKind.max, IntKind.signed, IntKind.bits] at this
  omega
/-- Two stores with one list, behind k operations. -/
structure Rt (n size k : Nat) (σ : St) (tr : List TOp) : Prop where
  wf : Wf n size k σ
  trl : tr.length ≤ k
  trb : ∀ x ∈ tr, x.2.2.length ≤ 20000 ∧ ByteR x.2.2
theorem Rt.noted {n size k : Nat} {σ τ : St} {tr : List TOp} {e : Int} {x : TOp} (h : Rt n size k σ tr) (hw : Wf n size (k + 1) τ) (hx : x.2.2.length ≤ 20000) (hb : ByteR x.2.2) : Rt n size (k + 1) τ (noted e x tr) :=
  ⟨hw, Nat.le_trans (noted_le e x tr) (by have := h.trl; omega), noted_all h.trb ⟨hx, hb⟩⟩
theorem Rt.other {n size k : Nat} {σ τ : St} {tr : List TOp} (h : Rt n size k σ tr) (hw : Wf n size (k + 1) τ) : Rt n size (k + 1) τ tr :=
  ⟨hw, Nat.le_succ_of_le h.trl, h.trb⟩
theorem perm4r (A B C D F : Asn) : A * (B * (C * (D * F))) = (A * (B * (C * D))) * F := by ac_rfl
theorem rop_out (y : Nat) (τ : St) (tr : List TOp) (rr : Rep) (xx : RExt) (A F : Asn) : A * ROP y τ tr rr xx F = ROP y τ tr rr xx (A * F) := by
  unfold ROP; ac_rfl

set_option maxRecDepth 100000 in
set_option maxHeartbeats 8000000 in
theorem traceTells_ok {E w : World} {F : Asn} (n size : Nat) (A : Option Addr) (c : Nat) (l : List SOp) (hd : List Value) (n1 : 1 ≤ n) (n2 : n ≤ 40) (s1 : 1 ≤ size) (s2 : size ≤ 40) (hS : Sat E F w)
    (hQ : ∀ w, Sat E F w → Reads w 4 A l.length hd) (hO : ∀ w, Sat E F w → SOpsIn w l hd) (hB : ∀ x ∈ l, ByteR x.2.2.1) (hM : ∀ x ∈ l, x.2.1 ≤ 9223372036854775807) :
    Calls Try.prog 11 #[.int .i64 n, .int .i64 size, .slice A l.length c] w fun e w' => e = .returned (.bool true) ∧ Sat E F w' := by
  have a1 : ¬ (40 : Int) < (n : Int) := by omega
  have a2 : ¬ (40 : Int) < (size : Int) := by omega
  go_enter Try.func11, Try.ntmps11
  go_wp2_with fail
  refine (first3 hS).mono ?_
  rintro e w1 ⟨rfl, g1⟩
  clear hS
  go_wp2_with fail
  refine (few24 A c l hd g1 hQ hO).mono ?_
  rintro e w2 ⟨⟨rfl, hl1, hf⟩ | rfl, g2⟩
  · have HF := hid hf
    clear hf g1
    go_wp2_with fail
    refine (made_calls n size n1 (by omega) s1 (by omega) g2).mono ?_
    rintro e w3 ⟨r, s, rfl, g3⟩
    go_wp2_with fail
    refine (rnew n size n1 (by omega) s1 (by omega) g3).mono ?_
    rintro e w4 ⟨y, rfl, g4⟩
    have g5 : Sat E (recd r s (St.new n size) [] * (rstore y (St.new n size) [] * F)) w4 := g4.eq (star_left_comm _ _ _)
    have HN := hid (⟨Wf.new n size, by simp, by simp⟩ : Rt n size 0 (St.new n size) [])
    clear g2 g3 g4 a1 a2
    go_wp2_with fail
    go_loopw [10] (fun i wr => ∃ (k : Nat) (σ : St) (tr : List TOp), k ≤ l.length ∧ i = .int .i64 k ∧ Hid (Rt n size k σ tr) ∧ Sat E (recd r s σ tr * (rstore y σ tr * F)) wr) (fun i _ => l.length - (intOf i).toNat)
    case atStart => exact ⟨0, _, [], by omega, rfl, HN, g5⟩
    case round =>
      clear g5 HN
      obtain ⟨k, σ, tr, hk, rfl, hi, hr⟩ := hrel
      by_cases hlt : k < l.length
      · have hrt := hi.out
        have hwf := hrt.wf
        have htr := hrt.trl
        have ho := hwf.sok (by omega) (by omega)
        have hkd : (k : Int) < (l.length : Int) := by omega
        have wk := i64_wrap (x := (k : Int) + 1) (by omega) (by omega)
        obtain ⟨pd, Ai, ci, Bi, di, hA, q1, q2, q3⟩ := sop_at hQ hO hlt hr.right.right
        obtain ⟨x0, x1, x2, x3, _, _⟩ := q3 _ hr.right.right
        have RB : ∀ w, Sat E F w → Reads w 1 Ai l[k].2.2.1.length (nums .u8 l[k].2.2.1) := fun w h => (q3 w h).2.2.2.2.1
        have RK : ∀ w, Sat E F w → Reads w 1 Bi l[k].2.2.2.length (bools l[k].2.2.2) := fun w h => (q3 w h).2.2.2.2.2
        have hBy := hB _ (List.getElem_mem hlt)
        have had := hM _ (List.getElem_mem hlt)
        obtain ⟨hb1, hb2⟩ := HF.out _ (List.getElem_mem hlt)
        subst hA
        clear q3
        generalize l[k] = op at *
        obtain ⟨kind, ad, B, K⟩ := op
        simp only at x0 x1 x2 x3 RB RK hBy had hb1 hb2 q1 q2
        have g0 : Sat E (recd r s σ tr * (rstore y σ tr * (blk wr.heap.size (.cells #[.int .i64 kind, .int .i64 ad, .slice Ai B.length ci, .slice Bi K.length di] 44) * F))) (wr.alloc (.cells #[.int .i64 kind, .int .i64 ad, .slice Ai B.length ci, .slice Bi K.length di] 44)) := (hr.alloc _).eq (by ac_rfl)
        have hcells : ∀ {w' : World} {P Q : Asn}, Sat E (P * (Q * (blk wr.heap.size (.cells #[.int .i64 kind, .int .i64 ad, .slice Ai B.length ci, .slice Bi K.length di] 44) * F))) w' → w'.cell? ⟨wr.heap.size, 1, none⟩ = some (.int .i64 ad) ∧ w'.cell? ⟨wr.heap.size, 2, none⟩ = some (.slice Ai B.length ci) ∧ w'.cell? ⟨wr.heap.size, 3, none⟩ = some (.slice Bi K.length di) := fun h => ⟨h.right.right.cell_blk, h.right.right.cell_blk, h.right.right.cell_blk⟩
        have hpl : (peek (begins σ).2 ad).length ≤ 1000000 := by have := (hwf.begins.1.peek ad).1; omega
        clear hi hr
        go_upto_block 2 with fail
        go_cut [12] (fun v wc => ∃ (τ : St) (tr' : List TOp), v = .bool true ∧ Hid (Rt n size (k + 1) τ tr') ∧ Sat E (recd r s τ tr' * (rstore y τ tr' * F)) wc)
        case first =>
          as_aux_lemma =>
            by_cases z0 : kind = 0
            · have zz : (kind == 0) = true := beq_iff_eq.2 z0
              clear z0
              have h1 := rread_calls r s σ tr ad ho (by omega) (by have := (hwf.rd ad).2.1; omega) g0
              have h2 := fun (F' : Asn) w' (h : Sat E (rstore y σ tr * F') w') => rfread_calls y σ tr ad ho (by omega) hpl h
              obtain ⟨w1, w2, w3⟩ := hwf.rd ad
              have hnt := hrt.noted (e := (rd σ ad).1) (x := (1, ad, (rd σ ad).2.1)) w1 (by simp only; omega) w3
              generalize rd σ ad = q at *
              obtain ⟨code, bs, τ⟩ := q
              simp only at h1 h2 w1 w2 w3 hnt
              generalize noted code (1, ad, bs) tr = tr' at *
              have HW := hid hnt
              have H1 := hid h1
              have H2 := hid h2
              have W3 := hid w3
              clear h1 h2 w1 w2 w3 hnt hwf ho hrt
              go_wp2_with fail
              refine H1.out.mono ?_
              rintro e w5 ⟨v5, rfl, g5⟩
              obtain ⟨A5, c5, rfl, _, _, _⟩ := g5.reads
              have da1 := (g5.right.right.right).cell_blk (i := 1)
              have da2 := (g5.right.right.right).cell_blk (i := 2)
              have da3 := (g5.right.right.right).cell_blk (i := 3)
              simp only [List.getElem?_toArray, List.getElem?_cons_zero, List.getElem?_cons_succ] at da1 da2 da3
              have g6 : Sat E (rstore y σ tr * (row 5 1 (.slice A5 bs.length c5) bs.length (nums .u8 bs) * (recd r s τ tr' * (blk wr.heap.size (.cells #[.int .i64 kind, .int .i64 ad, .slice Ai B.length ci, .slice Bi K.length di] 44) * F)))) w5 := g5.eq (by ac_rfl)
              clear H1 g5
              go_wp2_with fail
              refine (H2.out _ _ g6).mono ?_
              rintro e w6 ⟨v6, rfl, g7⟩
              obtain ⟨A6, c6, rfl, _, _, _⟩ := g7.reads
              clear g6 H2
              go_wp2_with fail
              refine (bytesEq A5 A6 _ _ c5 c6 bs bs g7.right.right.reads_at g7.reads_at W3.out W3.out).mono ?_
              rw [decide_eq_true (rfl : bs = bs)]
              rintro e w7 ⟨rfl, rfl⟩
              have g8 : Sat E (recd r s τ tr' * (rstore y τ tr' * F)) w6 := (g7.right.drop_mid.eq (star_left_comm _ _ _)).drop3
              clear g7
              go_wp2
              go_meet
              exact ⟨τ, _, rfl, HW, g8⟩
            have y0 : (kind == 0) = false := beq_eq_false_iff_ne.2 z0
            clear z0
            by_cases z1 : kind = 1
            · have zz : (kind == 1) = true := beq_iff_eq.2 z1
              clear z1
              have g0d := g0.drew
              have h1 := rwrite_calls r s σ tr ad Ai ci B ho (by omega) (by omega) g0d (fun w h => RB w h.right.right)
              have h2 := fun (F' : Asn) w' (h : Sat E (rstore y σ tr * F') w') (hF : ∀ w, Sat E F' w → Sat E F w) => rfwrite_calls y σ tr ad Ai ci B ho (by omega) (by omega) h (fun w h => RB w (hF w h))
              have w1 := hwf.write ad B hBy
              have hnt := hrt.noted (e := (write σ ad B).1) (x := (2, ad, B)) w1 (by simp only; omega) hBy
              generalize write σ ad B = q at *
              obtain ⟨code, τ⟩ := q
              simp only at h1 h2 w1 hnt
              generalize noted code (2, ad, B) tr = tr' at *
              have HW := hid hnt
              have H1 := hid h1
              have H2 := hid h2
              clear h1 h2 hwf ho hrt
              have s1 := hcells g0
              go_wp2_with fail
              go_region_held3 (fun w' => w'.cell? ⟨wr.heap.size, 1, none⟩ = some (.int .i64 ad) ∧ w'.cell? ⟨wr.heap.size, 2, none⟩ = some (.slice Ai B.length ci) ∧ w'.cell? ⟨wr.heap.size, 3, none⟩ = some (.slice Bi K.length di))
                (first | exact s1 | exact s2 | exact s3)
                (first
                  | (go_at_call 52; refine H1.out.mono ?_; rintro e w5 ⟨rfl, g5⟩; have s2 := hcells g5)
                  | (go_at_call 30; refine (H2.out _ _ (g5.eq (star_left_comm _ _ _)) (fun w h => h.right.right)).mono ?_; rintro e w6 ⟨rfl, g6⟩; have s3 := hcells g6))
              have g8 := (g6.eq (star_left_comm _ _ _)).drop3
              clear g5 g6
              go_wp2
              go_meet
              exact ⟨τ, _, rfl, HW, g8⟩
            have y1 : (kind == 1) = false := beq_eq_false_iff_ne.2 z1
            clear z1
            by_cases z2 : kind = 2
            · have zz : (kind == 2) = true := beq_iff_eq.2 z2
              clear z2
              have g0d := g0
              have h1 := rsync_calls r s σ tr ho (by omega) g0d
              have h2 := fun (F' : Asn) w' (h : Sat E (rstore y σ tr * F') w') (hF : ∀ w, Sat E F' w → Sat E F w) => rfsync_calls y σ tr ho (by omega) h
              have w1 := hwf.sync
              have hnt := hrt.noted (e := (sync σ).1) (x := (3, 0, [])) w1 (by simp) (fun x hx => by simp at hx)
              generalize sync σ = q at *
              obtain ⟨code, τ⟩ := q
              simp only at h1 h2 w1 hnt
              generalize noted code (3, 0, []) tr = tr' at *
              have HW := hid hnt
              have H1 := hid h1
              have H2 := hid h2
              clear h1 h2 hwf ho hrt
              have da1 := (g0d.right.right).cell_blk (i := 1)
              have da2 := (g0d.right.right).cell_blk (i := 2)
              have da3 := (g0d.right.right).cell_blk (i := 3)
              simp only [List.getElem?_toArray, List.getElem?_cons_zero, List.getElem?_cons_succ] at da1 da2 da3
              go_wp2_with fail
              refine H1.out.mono ?_
              rintro e w5 ⟨rfl, g5⟩
              go_wp2_with fail
              refine (H2.out _ _ (g5.eq (star_left_comm _ _ _)) (fun w h => h.right.right)).mono ?_
              rintro e w6 ⟨rfl, g6⟩
              have g8 := (g6.eq (star_left_comm _ _ _)).drop3
              clear g5 g6
              go_wp2
              go_meet
              exact ⟨τ, _, rfl, HW, g8⟩
            have y2 : (kind == 2) = false := beq_eq_false_iff_ne.2 z2
            clear z2
            by_cases z3 : kind = 3
            · have zz : (kind == 3) = true := beq_iff_eq.2 z3
              clear z3
              have g0d := g0.drew
              have h1 := xarm ad Bi K.length di K (by omega) g0d (fun w h => RK w h.right.right)
              have h2 := fun (F' : Asn) w' (h : Sat E (rstore y σ tr * F') w') (hF : ∀ w, Sat E F' w → Sat E F w) => rfarm_calls y σ tr ad Bi di K (by omega) h (fun w h => RK w (hF w h))
              have w1 := hrt.other (hwf.arm ad K had).step
              generalize arm σ ad K = q at *
              obtain ⟨okb, τ⟩ := q
              simp only at h1 h2 w1
              have HW := hid w1
              have H1 := hid h1
              have H2 := hid h2
              clear h1 h2 hwf ho hrt
              have s1 := And.intro (hcells g0) (recd_ptr g0)
              go_wp2_with fail
              go_region_held3 (fun w' => (w'.cell? ⟨wr.heap.size, 1, none⟩ = some (.int .i64 ad) ∧ w'.cell? ⟨wr.heap.size, 2, none⟩ = some (.slice Ai B.length ci) ∧ w'.cell? ⟨wr.heap.size, 3, none⟩ = some (.slice Bi K.length di)) ∧ w'.cell? ⟨r, 0, none⟩ = some (.pointer (some ⟨s, 0, none⟩)))
                (first | exact s1 | exact s2 | exact s3)
                (first
                  | (go_at_call 26; refine H1.out.mono ?_; rintro e w5 ⟨rfl, g5⟩; have s2 := And.intro (hcells g5) (recd_ptr g5))
                  | (go_at_call 32; refine (H2.out _ _ (g5.eq (star_left_comm _ _ _)) (fun w h => h.right.right)).mono ?_; rintro e w6 ⟨rfl, g6⟩; have s3 := And.intro (hcells g6) (recd_ptr (g6.eq (star_left_comm _ _ _)))))
              have g8 := (g6.eq (star_left_comm _ _ _)).drop3
              clear g5 g6
              go_wp2
              go_meet
              exact ⟨τ, _, rfl, HW, g8⟩
            have y3 : (kind == 3) = false := beq_eq_false_iff_ne.2 z3
            clear z3
            by_cases z4 : kind = 4
            · have zz : (kind == 4) = true := beq_iff_eq.2 z4
              clear z4
              have g0d := g0.drew
              have h1 := xcrash Bi K.length di K g0d (fun w h => RK w h.right.right)
              have h2 := fun (F' : Asn) w' (h : Sat E (rstore y σ tr * F') w') (hF : ∀ w, Sat E F' w → Sat E F w) => rcrash_calls y σ tr Bi di K h (fun w h => RK w (hF w h))
              have w1 := hrt.other (hwf.crash K).step
              generalize crash K σ = τ at *
              generalize (!σ.down) = code at *
              have HW := hid w1
              have H1 := hid h1
              have H2 := hid h2
              clear h1 h2 hwf ho hrt
              have s1 := And.intro (hcells g0) (recd_ptr g0)
              go_wp2_with fail
              go_region_held3 (fun w' => (w'.cell? ⟨wr.heap.size, 1, none⟩ = some (.int .i64 ad) ∧ w'.cell? ⟨wr.heap.size, 2, none⟩ = some (.slice Ai B.length ci) ∧ w'.cell? ⟨wr.heap.size, 3, none⟩ = some (.slice Bi K.length di)) ∧ w'.cell? ⟨r, 0, none⟩ = some (.pointer (some ⟨s, 0, none⟩)))
                (first | exact s1 | exact s2 | exact s3)
                (first
                  | (go_at_call 18; refine H1.out.mono ?_; rintro e w5 ⟨rfl, g5⟩; have s2 := And.intro (hcells g5) (recd_ptr g5))
                  | (go_at_call 33; refine (H2.out _ _ (g5.eq (star_left_comm _ _ _)) (fun w h => h.right.right)).mono ?_; rintro e w6 ⟨rfl, g6⟩; have s3 := And.intro (hcells g6) (recd_ptr (g6.eq (star_left_comm _ _ _)))))
              have g8 := (g6.eq (star_left_comm _ _ _)).drop3
              clear g5 g6
              go_wp2
              go_meet
              exact ⟨τ, _, rfl, HW, g8⟩
            have y4 : (kind == 4) = false := beq_eq_false_iff_ne.2 z4
            clear z4
            by_cases z5 : kind = 5
            · have zz : (kind == 5) = true := beq_iff_eq.2 z5
              clear z5
              have g0d := g0
              have h1 := xreboot g0d
              have h2 := fun (F' : Asn) w' (h : Sat E (rstore y σ tr * F') w') (hF : ∀ w, Sat E F' w → Sat E F w) => rreboot_calls y σ tr h
              have w1 := hrt.other hwf.reboot.step
              generalize ({ σ with down := false } : St) = τ at *
              generalize σ.down = code at *
              have HW := hid w1
              have H1 := hid h1
              have H2 := hid h2
              clear h1 h2 hwf ho hrt
              have da1 := (g0d.right.right).cell_blk (i := 1)
              have da2 := (g0d.right.right).cell_blk (i := 2)
              have da3 := (g0d.right.right).cell_blk (i := 3)
              simp only [List.getElem?_toArray, List.getElem?_cons_zero, List.getElem?_cons_succ] at da1 da2 da3
              have pp := recd_ptr g0
              go_wp2_with fail
              refine H1.out.mono ?_
              rintro e w5 ⟨rfl, g5⟩
              go_wp2_with fail
              refine (H2.out _ _ (g5.eq (star_left_comm _ _ _)) (fun w h => h.right.right)).mono ?_
              rintro e w6 ⟨rfl, g6⟩
              have g8 := (g6.eq (star_left_comm _ _ _)).drop3
              clear g5 g6
              go_wp2
              go_meet
              exact ⟨τ, _, rfl, HW, g8⟩
            have y5 : (kind == 5) = false := beq_eq_false_iff_ne.2 z5
            clear z5
            have HW := hid (hrt.other hwf.step)
            have g8 := g0.drop3
            clear hwf ho hrt
            go_wp2
            go_meet
            exact ⟨σ, tr, rfl, HW, g8⟩
        case rest =>
          as_aux_lemma =>
            obtain ⟨τ, tr', rfl, hi, hr⟩ := hcut
            have hwf := hi.out.wf
            have hs := hwf.size
            have hpk := (hwf.peek 0).2
            obtain ⟨rr, xx, hrr, hxx, hK0⟩ := rstore_open (hr.eq (star_left_comm _ _ _))
            have hK : Sat E (recd r s τ tr' * ROP y τ tr' rr xx F) wc := hK0.eq (rop_out _ _ _ _ _ _ _).symm
            obtain ⟨A1, c1, A2, c2, A3, c3, A4, c4, e1, e2, e3, e4, _, _, _, _, h4⟩ := rstore_slices hK0
            have hS3 : ∀ {w' : World}, Sat E (recd r s τ tr' * ROP y τ tr' rr xx F) w' → w'.cell? ⟨r, 0, none⟩ = some (.pointer (some ⟨s, 0, none⟩)) ∧ w'.cell? ⟨y, 2, none⟩ = some (.int .i64 τ.ops) ∧ w'.cell? ⟨y, 8, none⟩ = some (.slice A4 tr'.length c4) := fun h => ⟨recd_ptr h, (rstore_cells h.right).2.2.1, by rw [← e4]; exact (rstore_cells h.right).2.2.2.2.2.2.2.2⟩
            have HE := hid e4
            have HRR := hid hrr
            have HXX := hid hxx
            have HPK := hid hpk
            have c35 := fun w (h : Sat E (recd r s τ tr' * ROP y τ tr' rr xx F) w) => rup_calls y τ tr' (rstore_shut hrr hxx h.right)
            have c39 := fun (F' : Asn) w (h : Sat E (ROP y τ tr' rr xx F') w) => rpeek_open y τ tr' 0 (by omega) rr xx hrr hxx h
            have c16 := xpeek (r := r) (s := s) (σ := τ) (tr := tr') (E := E) 0 (show τ.size ≤ 4096 by omega) (hK.drew)
            have C35 := hid c35
            have C39 := hid c39
            have C16 := hid c16
            clear g0 hwf ho hpk x0 x1 x2 x3 RB RK hBy had hb1 hb2 q1 q2 hpl hrt e1 e2 e3 e4 hrr hxx hK0 hr c35 c39 c16 hs
            have s1 := hS3 hK
            go_upto_region 31 with fail
            go_cut [192] (fun v wc => v = .bool false ∧ Sat E (recd r s τ tr' * (rstore y τ tr' * F)) wc)
            case first =>
              generalize hbb : peek τ 0 = pb at *
              clear hbb
              go_region_held3 (fun w' => w'.cell? ⟨r, 0, none⟩ = some (.pointer (some ⟨s, 0, none⟩)) ∧ w'.cell? ⟨y, 2, none⟩ = some (.int .i64 τ.ops) ∧ w'.cell? ⟨y, 8, none⟩ = some (.slice A4 tr'.length c4))
                (first | exact s1 | exact s2 | exact s3)
                (first
                  | (go_at_call 19; refine (xup hK.drew).mono ?_; rintro e w5 ⟨rfl, rfl⟩)
                  | (go_at_call 35; refine (C35.out _ hK.drew).mono ?_; rintro e w5 ⟨rfl, rfl⟩)
                  | (go_at_call 27; refine (xops hK.drew).mono ?_; rintro e w5 ⟨rfl, rfl⟩)
                  | (go_at_call 54; refine (mark_calls r s τ tr' hK.drew).mono ?_; rintro e w5 ⟨rfl, rfl⟩)
                  | (go_at_call 16; refine C16.out.mono ?_; rintro e w8 ⟨v8, rfl, g8⟩; obtain ⟨A8, c8, rfl, _, _, _⟩ := g8.reads; have s2 := hS3 g8.right)
                  | (go_at_call 39; refine (C39.out _ _ (g8.eq (show _ = ROP y τ tr' rr xx (row 5 1 (.slice A8 pb.length c8) pb.length (nums .u8 pb) * (recd r s τ tr' * F)) by unfold ROP; ac_rfl))).mono ?_; rintro e w9 ⟨v9, rfl, g9⟩; obtain ⟨A9, c9, rfl, _, _, _⟩ := g9.reads; have g10 : Sat E (row 5 1 (.slice A8 pb.length c8) pb.length (nums .u8 pb) * (recd r s τ tr' * ROP y τ tr' rr xx F)) w9 := g9.right.eq (by unfold ROP; ac_rfl); have s3 := hS3 g10.right)
                  | (go_at_call 22; refine (bytesEq A8 A9 _ _ c8 c9 pb pb g10.reads_at g9.reads_at HPK.out HPK.out).mono ?_; rw [decide_eq_true (rfl : pb = pb)]; rintro e w11 ⟨rfl, rfl⟩))
              have g11 : Sat E (recd r s τ tr' * (rstore y τ tr' * F)) _ := (rstore_shut HRR.out HXX.out (g10.right.eq (rop_out _ _ _ _ _ _ _))).eq (star_left_comm _ _ _)
              go_wp2
              go_meet
              exact ⟨by first | rfl | simp, g11⟩
            case rest =>
              obtain ⟨rfl, hr⟩ := hcut
              clear hK s1 hS3 HE HRR HXX HPK C35 C39 C16
              go_wp2
              go_roundw
              case rel => exact ⟨k + 1, τ, tr', by omega, by go_num, hi, hr⟩
              case measure => simp [intOf]; omega
      · as_aux_lemma =>
          obtain ⟨rr, xx, hrr, hxx, hK0⟩ := rstore_open (hr.eq (star_left_comm _ _ _))
          have hK : Sat E (recd r s σ tr * ROP y σ tr rr xx F) wr := hK0.eq (rop_out _ _ _ _ _ _ _).symm
          obtain ⟨A1, c1, A2, c2, A3, c3, A4, c4, e1, e2, e3, e4, _, _, _, _, h4⟩ := rstore_slices hK0
          have htrb := hi.out.trb
          have htl := hi.out.trl
          have hkd : ¬ (k : Int) < (l.length : Int) := by omega
          have hcell : ∀ {w' : World} {P : Asn}, Sat E (P * ROP y σ tr rr xx F) w' → w'.cell? ⟨y, 8, none⟩ = some (.slice A4 tr.length c4) := fun h => by rw [← e4]; exact (rstore_cells h.right).2.2.2.2.2.2.2.2
          have hYT : ∀ w, Sat E (ROP y σ tr rr xx F) w → TIn w A4 xx.t.L := fun w h => by
            refine ⟨?_, fun x hx => ?_⟩
            · rw [hxx.t.len]
              have := h.right.right.right.right
              rw [e4] at this
              exact this.reads_at
            · obtain ⟨B, d, e2, r2⟩ := bag_at h.right.right.right.right.right (x.2, x.1.2.2) (hxx.t.mem x hx)
              exact ⟨B, d, e2, r2⟩
          have hYm := hxx.t.map
          have hYl := hxx.t.len
          have hYB : ∀ x ∈ xx.t.L, ByteR x.1.2.2 := fun x hx => (htrb x.1 (by rw [← hYm]; exact List.mem_map_of_mem hx)).2
          have HY := hid hYT
          have HYM := hid hYm
          have HYL := hid hYl
          have HYB := hid hYB
          have HTB := hid htrb
          clear hYT hYm hYl hYB htrb hK0 hrr hxx e1 e2 e3 e4 hr hi
          have s1 := hcell hK
          go_wp2_with fail
          go_region_held3 (fun w' => w'.cell? ⟨y, 8, none⟩ = some (.slice A4 tr.length c4))
            (first | exact s1 | exact s2 | exact s3 | exact s4 | exact s5)
            (first
              | (go_at_call 40; refine (first3 hK.drew).mono ?_; rintro e w5 ⟨rfl, g5⟩; have s2 := hcell g5)
              | (go_at_call 55; refine (trace_calls r s σ tr (by omega) (fun x hx => Nat.le_trans (HTB.out x hx).1 (by omega)) g5).mono ?_; rintro e w6 ⟨B, d, rfl, g6⟩; have s3 := hcell (g6.eq (star_assoc _ _ _).symm); obtain ⟨t, ht, g7⟩ := tlist_open g6; obtain ⟨B', d', he, _, hT⟩ := tlist_in ht g7; injection he with he1 he2 he3; subst he1; subst he3; clear he2; have htm := hid ht.map; have htn := hid ht.len)
              | (go_at_call 41; have h41 := plain_calls B d t.L (by rw [htn.out]; omega) g7 hT; rw [htn.out] at h41; refine h41.mono ?_; rintro e w8 ⟨X, cx, rfl, g8⟩; have s4 := hcell (g8.eq (perm4r _ _ _ _ _)))
              | (go_at_call 45; have h45 := sameOps45 X A4 cx c4 t.L xx.t.L (fun x hx => (HTB.out x.1 (by rw [← htm.out]; exact List.mem_map_of_mem hx)).2) HYB.out g8 (fun w h => ⟨by rw [htn.out]; exact h.reads_at, (hT _ h.right).2⟩) (fun w h => HY.out _ h.right.right.right.right); rw [htn.out, HYL.out, htm.out, HYM.out, show leq tr tr = true from decide_eq_true rfl] at h45; refine h45.mono ?_; rintro e w9 ⟨rfl, g9⟩; have s5 := hcell (g9.eq (perm4r _ _ _ _ _))))
          have g10 := g9.right.right.right.right.right.right.right.right.right.right.right
          go_wp2
          go_ret
          exact ⟨rfl, g10⟩
  · go_wp2_with fail
    refine (first3 g2).mono ?_
    rintro e w5 ⟨rfl, g5⟩
    go_wp2
    go_ret
    exact ⟨rfl, g5⟩

set_option maxRecDepth 100000 in
set_option maxHeartbeats 2000000 in
theorem traceTells {E w : World} {F : Asn} (x y : Int) (A : Option Addr) (c : Nat) (l : List SOp) (hd : List Value) (hS : Sat E F w)
    (hQ : ∀ w, Sat E F w → Reads w 4 A l.length hd) (hO : ∀ w, Sat E F w → SOpsIn w l hd) (hB : ∀ x ∈ l, ByteR x.2.2.1) (hM : ∀ x ∈ l, x.2.1 ≤ 9223372036854775807) :
    Calls Try.prog 11 #[.int .i64 x, .int .i64 y, .slice A l.length c] w fun e w' => e = .returned (.bool true) ∧ Sat E F w' := by
  by_cases x1 : (40 : Int) < x
  · skip
    go_enter Try.func11, Try.ntmps11
    go_wp2_with fail
    refine (first3 hS).mono ?_
    rintro e w1 ⟨rfl, g1⟩
    go_wp2_with fail
    refine (first3 g1).mono ?_
    rintro e w3 ⟨rfl, g3⟩
    go_wp2
    go_ret
    exact ⟨rfl, g3⟩
  by_cases y1 : (40 : Int) < y
  · skip
    go_enter Try.func11, Try.ntmps11
    go_wp2_with fail
    refine (first3 hS).mono ?_
    rintro e w1 ⟨rfl, g1⟩
    go_wp2_with fail
    refine (first3 g1).mono ?_
    rintro e w3 ⟨rfl, g3⟩
    go_wp2
    go_ret
    exact ⟨rfl, g3⟩
  by_cases hgood : 1 ≤ x ∧ 1 ≤ y
  · obtain ⟨n, rfl⟩ := Int.eq_ofNat_of_zero_le (show 0 ≤ x by omega)
    obtain ⟨size, rfl⟩ := Int.eq_ofNat_of_zero_le (show 0 ≤ y by omega)
    exact traceTells_ok n size A c l hd (by omega) (by omega) (by omega) (by omega) hS hQ hO hB hM
  · have hbad : x < 1 ∨ 65536 < x ∨ y < 1 ∨ 4096 < y := by omega
    clear hgood
    go_enter Try.func11, Try.ntmps11
    go_wp2_with fail
    refine (first3 hS).mono ?_
    rintro e w1 ⟨rfl, g1⟩
    go_wp2_with fail
    refine (few24 A c l hd g1 hQ hO).mono ?_
    rintro e w2 ⟨⟨rfl, hl1, hf⟩ | rfl, g2⟩
    · clear hf
      go_wp2_with fail
      refine (made_bad x y hbad).mono ?_
      rintro e w5 ⟨rfl, rfl⟩
      go_wp2_with fail
      refine (rnew_bad x y hbad).mono ?_
      rintro e w6 ⟨rfl, rfl⟩
      go_wp2_with fail
      refine (first3 g2).mono ?_
      rintro e w3 ⟨rfl, g3⟩
      go_wp2
      go_ret
      exact ⟨rfl, g3⟩
    · go_wp2_with fail
      refine (first3 g2).mono ?_
      rintro e w3 ⟨rfl, g3⟩
      go_wp2
      go_ret
      exact ⟨rfl, g3⟩

theorem TraceTells_walk (W : World) (a0 : Int) (w0 : (Lit.int .i64 a0).wf = true) (a1 : Int) (w1 : (Lit.int .i64 a1).wf = true) (a2 : Option Addr) (len2 cap2 : Nat) (l2 : (List (Int × (Int × ((List Int) × (List Bool)))))) (h2 : (decSlice 64 (decPair (decInt .i64) (decPair (decInt .i64) (decPair (decSlice 1 (decInt .u8)) (decSlice 1 decBool))))).rel W l2 [.slice a2 len2 cap2]) :
    Calls Try.prog 11 #[.int .i64 a0, .int .i64 a1, .slice a2 len2 cap2] W fun e w' => e = .returned (.bool true) ∧ Below W.heap.size W w' := by
  have hM := dec_sops_wf h2
  obtain ⟨A, c, hd, he, hlc, _, hQ, hO, hB⟩ := dec_sops h2
  simp at he
  obtain ⟨rfl, rfl, rfl⟩ := he
  exact (traceTells a0 a1 _ _ l2 hd (Sat.start W) (fun w hs => hQ.keep fun k hk => hs.old1 hk) (fun w hs => hO.keep fun k hk => hs.old1 hk) hB hM).mono fun e w' ⟨he, hs⟩ => ⟨he, hs.finish1⟩
end Go.Proofs.Ytacfaegljjgneaa
