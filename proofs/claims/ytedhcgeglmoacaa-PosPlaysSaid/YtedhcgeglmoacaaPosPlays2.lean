import Derived.Test.YtedhcgeglmoacaaPosRef7
import Derived.Deep.DeepCutAuto
import Derived.Deep.CutBlock
import Derived.Test.YtedhcgeglmoacaaHand
namespace Go.Proofs.Ytedhcgeglmoacaa
set_option linter.unusedVariables false
set_option linter.unusedSimpArgs false
open Go.RowKit Go.Proofs.Sep

/-- The cells of the k-th operation. -/
theorem op_at {E : World} {F : Asn} {B : Option Addr} {ops : List POp} {hd : List Value} (hQ : ∀ w, Sat E F w → Reads w 5 B ops.length hd) (hO : ∀ w, Sat E F w → OpsIn (Reads w 3) ops hd) {k : Nat} (hk : k < ops.length) {w0 : World} (h0 : Sat E F w0) :
    ∃ ad D cd, B = some ad ∧ ops[k].2.2.2.length ≤ 9223372036854775807 ∧ ∀ w, Sat E F w → w.cell? (ad.add (k * 5)) = some (.int .i64 ops[k].1) ∧ w.cell? { block := (ad.add (k * 5)).block, off := (ad.add (k * 5)).off + 1 } = some (.int .i64 ops[k].2.1) ∧
      w.cell? { block := (ad.add (k * 5)).block, off := (ad.add (k * 5)).off + 2 } = some (.int .i64 ops[k].2.2.1.1) ∧ w.cell? { block := (ad.add (k * 5)).block, off := (ad.add (k * 5)).off + 3 } = some (.int .i64 ops[k].2.2.1.2) ∧
      w.cell? { block := (ad.add (k * 5)).block, off := (ad.add (k * 5)).off + 4 } = some (.slice D ops[k].2.2.2.length cd) ∧ Reads w 3 D ops[k].2.2.2.length (chs ops[k].2.2.2) := by
  obtain ⟨ad, hA, _⟩ := (hQ _ h0).at (by omega)
  obtain ⟨_, _, _, _, D, cd, e4, e5⟩ := hO _ h0 k hk
  refine ⟨ad, D, cd, hA, e5.2.1, fun w hw => ?_⟩
  obtain ⟨f0, f1, f2, f3, D2, cd2, f4, f5⟩ := hO _ hw k hk
  rw [e4] at f4
  injection f4 with f4
  injection f4 with f4 _ f6
  subst f4
  have hc := (hQ _ hw).2.2.2 ad hA
  exact ⟨hc _ _ f0, cell_off (hc _ _ f1) (by omega), cell_off (hc _ _ f2) (by omega), cell_off (hc _ _ f3) (by omega), cell_off (hc _ _ e4) (by omega), f5⟩

set_option maxRecDepth 100000 in
set_option maxHeartbeats 40000000 in
theorem posPlays_ok {E w : World} {F : Asn} (A B : Option Addr) (ca cb : Nat) (l : List (Int × Int)) (ops : List POp) (hd : List Value) (hl : l.length ≤ 100) (hS : Sat E F w) (hR : ∀ w, Sat E F w → Reads w 2 A l.length (pairs l))
    (hQ : ∀ w, Sat E F w → Reads w 5 B ops.length hd) (hO : ∀ w, Sat E F w → OpsIn (Reads w 3) ops hd) :
    Calls Try.prog 10 #[.slice A l.length ca, .slice B ops.length cb] w fun e w' => e = .returned (.bool true) ∧ Sat E F w' := by
  have hf1 : ¬ (100 : Int) < (l.length : Int) := by omega
  go_enter Try.func10, Try.ntmps10
  go_wp2_with fail
  refine (first8 hS).mono ?_
  rintro e w1 ⟨rfl, g1⟩
  go_wp2_with fail
  refine (few8s B cb ops hd g1 hQ hO).mono ?_
  rintro e w2 ⟨⟨rfl, hle, hcs⟩ | rfl, g2⟩
  · go_wp2_with fail
    refine (new_calls A ca l g2 hR (by omega)).mono ?_
    rintro e w3 ⟨m, rfl, g3⟩
    go_wp2_with fail
    refine (places_calls A ca l g3 (by omega) (fun w h => hR w h.right)).mono ?_
    rintro e w4 ⟨v4, rfl, g4⟩
    obtain ⟨A4, c4, rfl, _, _, _⟩ := g4.reads
    go_wp2_with fail
    refine (newMap_calls A4 c4 l g4 (by omega) (fun w h => h.reads_at)).mono ?_
    rintro e w5 ⟨x, rfl, g5⟩
    have g6 : Sat E (pmap m l (List.replicate l.length false) * (rmap x l (List.replicate l.length false) * F)) w5 := (g5.drop_mid).eq (star_left_comm _ _ _)
    clear g1 g2 g3 g4 g5 hS hR
    have HCS := hid hcs
    clear hcs
    go_wp2_with fail
    go_loopw [7] (fun i wr => ∃ (k : Nat) (L : List (Int × Int)) (C : List Bool), k ≤ ops.length ∧ i = .int .i64 k ∧ Hid (L.length = l.length) ∧ Sat E (pmap m L C * (rmap x L C * F)) wr) (fun i _ => ops.length - (intOf i).toNat)
    case atStart => exact ⟨0, l, _, by omega, rfl, rfl, g6⟩
    case round =>
      clear g6
      obtain ⟨k, L, C, hk, rfl, HL, hr⟩ := hrel
      have hLn : L.length ≤ 100 := by rw [HL.out]; exact hl
      by_cases hlt : k < ops.length
      · obtain ⟨ad, D, cd, rfl, hD, q3⟩ := op_at hQ hO hlt hr.right.right
        have hkd : (k : Int) < (ops.length : Int) := by omega
        obtain ⟨d0, d1, d2, d3, d4, _⟩ := q3 _ hr.right.right
        have hcl := HCS.out k hlt
        generalize hop : ops[k] = op at *
        obtain ⟨kind, id, ⟨p0, p1⟩, cs⟩ := op
        simp only at hD q3 d0 d1 d2 d3 d4 hcl
        clear hop
        have h0 := hr.alloc (.cells #[.int .i64 kind, .int .i64 id, .int .i64 p0, .int .i64 p1, .slice D cs.length cd] 78)
        have d5 := h0.cell_blk (i := 0)
        have d6 := h0.cell_blk (i := 1)
        simp only [List.getElem?_toArray, List.getElem?_cons_zero, List.getElem?_cons_succ] at d5 d6
        have hcells : ∀ {w' : World} {P : Asn}, Sat E (blk wr.heap.size (.cells #[.int .i64 kind, .int .i64 id, .int .i64 p0, .int .i64 p1, .slice D cs.length cd] 78) * P) w' → w'.cell? ⟨wr.heap.size, 1, none⟩ = some (.int .i64 id) ∧ w'.cell? ⟨wr.heap.size, 2, none⟩ = some (.int .i64 p0) ∧ w'.cell? ⟨wr.heap.size, 3, none⟩ = some (.int .i64 p1) ∧ w'.cell? ⟨wr.heap.size, 4, none⟩ = some (.slice D cs.length cd) := fun h => ⟨h.cell_blk, h.cell_blk, h.cell_blk, h.cell_blk⟩
        clear hr
        go_upto_block 2 with fail
        go_cut [9] (fun v wc => v = .bool true ∧ ∃ (L2 : List (Int × Int)) (C2 : List Bool), Hid (L2.length = l.length) ∧ Sat E (blk wr.heap.size (.cells #[.int .i64 kind, .int .i64 id, .int .i64 p0, .int .i64 p1, .slice D cs.length cd] 78) * (pmap m L2 C2 * (rmap x L2 C2 * F))) wc)
        case first =>
          by_cases hk0 : kind = 0
          · have z0 : (kind == 0) = true := by rw [hk0]; rfl
            obtain ⟨bm, hbm⟩ : ∃ bm, mayP L.length id (p0, p1) = bm := ⟨_, rfl⟩
            have HBM := hid hbm
            clear hk0 hbm
            have a1 : Sat E (pmap m L C * (blk wr.heap.size (.cells #[.int .i64 kind, .int .i64 id, .int .i64 p0, .int .i64 p1, .slice D cs.length cd] 78) * (rmap x L C * F))) (wr.alloc (.cells #[.int .i64 kind, .int .i64 id, .int .i64 p0, .int .i64 p1, .slice D cs.length cd] 78)).drew := (h0.eq (star_left_comm _ _ _)).drew
            have s1 := hcells h0
            go_wp2_with fail
            go_region_held3 (fun w' => w'.cell? ⟨wr.heap.size, 1, none⟩ = some (.int .i64 id) ∧ w'.cell? ⟨wr.heap.size, 2, none⟩ = some (.int .i64 p0) ∧ w'.cell? ⟨wr.heap.size, 3, none⟩ = some (.int .i64 p1) ∧ w'.cell? ⟨wr.heap.size, 4, none⟩ = some (.slice D cs.length cd))
              (first | exact s1 | exact s2 | exact s3 | exact s4)
              (first
                | (go_at_call 22; refine (set_calls m L C id p0 p1 a1).mono ?_; rw [HBM.out]; rintro e w6 ⟨rfl, h6⟩; have s2 := hcells (h6.eq (star_left_comm _ _ _)))
                | (go_at_call 40; refine (place_calls p0 p1 h6).mono ?_; rintro e w7 ⟨rfl, h7⟩; have s3 := hcells (h7.eq (star_left_comm _ _ _)); have h8 : Sat E (rmap x L C * (blk wr.heap.size (.cells #[.int .i64 kind, .int .i64 id, .int .i64 p0, .int .i64 p1, .slice D cs.length cd] 78) * (pmap m (setL L id (p0, p1)) (setC L.length C id (p0, p1)) * F))) w7 := h7.eq (by ac_rfl))
                | (go_at_call 39; refine (rset_calls x L C id p0 p1 h8).mono ?_; rw [HBM.out]; rintro e w9 ⟨rfl, h9⟩; have s4 := hcells (h9.eq (star_left_comm _ _ _))))
            go_wp2
            go_meet
            exact ⟨rfl, _, _, (setL_length _ _ _).trans HL.out, h9.eq (by ac_rfl)⟩
          · have z0 : (kind == 0) = false := by rw [beq_eq_false_iff_ne]; exact hk0
            clear hk0
            by_cases hk1 : kind = 1
            · have z1 : (kind == 1) = true := by rw [hk1]; rfl
              clear hk1
              go_wp2_with fail
              refine (settle_calls m L C (h0.eq (star_left_comm _ _ _))).mono ?_
              rintro e w6 ⟨rfl, h6⟩
              go_wp2_with fail
              refine (rsettle_calls x L C (h6.eq (show _ = rmap x L C * (blk wr.heap.size (.cells #[.int .i64 kind, .int .i64 id, .int .i64 p0, .int .i64 p1, .slice D cs.length cd] 78) * (pmap m L (List.replicate L.length false) * F)) by ac_rfl)) (by omega)).mono ?_
              rintro e w7 ⟨rfl, h7⟩
              go_wp2
              go_meet
              exact ⟨rfl, L, _, HL, h7.eq (by ac_rfl)⟩
            · have z1 : (kind == 1) = false := by rw [beq_eq_false_iff_ne]; exact hk1
              clear hk1
              by_cases hk2 : kind = 2
              · have z2 : (kind == 2) = true := by rw [hk2]; rfl
                clear hk2
                have a1 : Sat E (pmap m L C * (blk wr.heap.size (.cells #[.int .i64 kind, .int .i64 id, .int .i64 p0, .int .i64 p1, .slice D cs.length cd] 78) * (rmap x L C * F))) (wr.alloc (.cells #[.int .i64 kind, .int .i64 id, .int .i64 p0, .int .i64 p1, .slice D cs.length cd] 78)).drew := (h0.eq (star_left_comm _ _ _)).drew
                have s1 := hcells h0
                obtain ⟨bm, hbm⟩ : ∃ bm, fitsP L.length cs = bm := ⟨_, rfl⟩
                have HBM := hid hbm
                clear hbm
                go_wp2_with fail
                go_region_held3 (fun w' => w'.cell? ⟨wr.heap.size, 1, none⟩ = some (.int .i64 id) ∧ w'.cell? ⟨wr.heap.size, 2, none⟩ = some (.int .i64 p0) ∧ w'.cell? ⟨wr.heap.size, 3, none⟩ = some (.int .i64 p1) ∧ w'.cell? ⟨wr.heap.size, 4, none⟩ = some (.slice D cs.length cd))
                  (first | exact s1 | exact s2 | exact s3 | exact s4)
                  (first
                    | (go_at_call 33; refine (apply_calls m L C D cd cs a1 (fun w h => (q3 _ h.right.right).2.2.2.2.2)).mono ?_; rw [HBM.out]; rintro e w6 ⟨rfl, h6⟩; have s2 := hcells (h6.eq (star_left_comm _ _ _)))
                    | (go_at_call 43; refine (cchanges_calls D cd cs h6 (by omega) (fun w h => (q3 _ h.right.right.right).2.2.2.2.2)).mono ?_; rintro e w7 ⟨v7, rfl, h7⟩; obtain ⟨A7, c7, rfl, _, _, _⟩ := h7.reads; have s3 := hcells (h7.right.eq (star_left_comm _ _ _)); have h8 : Sat E (rmap x L C * (row 117 3 (.slice A7 cs.length c7) cs.length (chs cs) * (blk wr.heap.size (.cells #[.int .i64 kind, .int .i64 id, .int .i64 p0, .int .i64 p1, .slice D cs.length cd] 78) * (pmap m (applyL L cs) C * F)))) w7 := h7.eq (by ac_rfl))
                    | (go_at_call 42; refine (rapply_calls x L C A7 c7 cs h8 (fun w h => h.reads_at)).mono ?_; rw [HBM.out]; rintro e w9 ⟨rfl, h9⟩; have s4 := hcells (h9.eq (show _ = blk wr.heap.size (.cells #[.int .i64 kind, .int .i64 id, .int .i64 p0, .int .i64 p1, .slice D cs.length cd] 78) * (rmap x (applyL L cs) C * (row 117 3 (.slice A7 cs.length c7) cs.length (chs cs) * (pmap m (applyL L cs) C * F))) by ac_rfl))))
                go_wp2
                go_meet
                exact ⟨rfl, _, C, (applyL_length _ _).trans HL.out, (h9.drop_mid).eq (by ac_rfl)⟩
              · have z2 : (kind == 2) = false := by rw [beq_eq_false_iff_ne]; exact hk2
                clear hk2
                go_wp2
                go_meet
                exact ⟨rfl, L, C, HL, h0⟩
        case rest =>
          clear hLn HL d5 d6 h0
          clear L C
          obtain ⟨rfl, L, C, HL, h0⟩ := hcut
          have hLn : L.length ≤ 100 := by rw [HL.out]; exact hl
          have hin : inP L.length id = true ∨ inP L.length id = false := by cases inP L.length id <;> simp
          have s0 := hcells h0
          go_wp2_with fail
          refine (get_calls m L C id (h0.eq (star_left_comm _ _ _))).mono ?_
          rintro e w6 ⟨rfl, h6⟩
          have g1 := (h6.eq (star_left_comm _ _ _)).alloc (.cells #[.int .i64 (getP L id).1, .int .i64 (getP L id).2] 39)
          clear h6 h0 s0 q3
          rcases hin with hin | hin
          · obtain ⟨j, hid1, hj⟩ : ∃ j : Nat, id = j ∧ j < L.length := by
              unfold inP at hin
              simp only [decide_eq_true_eq] at hin
              exact ⟨id.toNat, by omega, by omega⟩
            have hg : getP L id = L[j] := by unfold getP; rw [if_pos hin, hid1, Int.toNat_natCast, List.getD_eq_getElem?_getD, List.getElem?_eq_getElem hj, Option.getD_some]
            rw [hin]
            rw [hg] at g1 ⊢
            subst hid1
            have hat0 := pairs_at0 hj
            have hat1 := pairs_at1 hj
            clear hin hg
            generalize L[j] = q at *
            obtain ⟨q0, q1⟩ := q
            simp only at g1 hat0 hat1
            obtain ⟨Ax, cx, Bx, dx, hcx, _, hdx, _, hCl, g2, hRx, _⟩ := rmap_open (g1.eq (show _ = rmap x L C * (blk w6.heap.size (.cells #[.int .i64 q0, .int .i64 q1] 39) * (blk wr.heap.size (.cells #[.int .i64 kind, .int .i64 (j : Int), .int .i64 p0, .int .i64 p1, .slice D cs.length cd] 78) * (pmap m L C * F))) by ac_rfl))
            obtain ⟨ax, hax, _⟩ := hRx.at (by omega)
            subst hax
            have hS : ∀ {w' : World} {P : Asn}, Sat E (P * (pmap m L C * (blk x (.cells #[.slice (some ax) L.length cx, .slice Bx L.length dx] 90) * (row 83 2 (.slice (some ax) L.length cx) L.length (pairs L) * (row 4 1 (.slice Bx L.length dx) L.length (bools C) * (blk w6.heap.size (.cells #[.int .i64 q0, .int .i64 q1] 39) * (blk wr.heap.size (.cells #[.int .i64 kind, .int .i64 (j : Int), .int .i64 p0, .int .i64 p1, .slice D cs.length cd] 78) * F))))))) w' → (w'.cell? ⟨x, 0, none⟩ = some (.slice (some ax) L.length cx) ∧ w'.cell? ⟨w6.heap.size, 0, none⟩ = some (.int .i64 q0) ∧ w'.cell? ⟨w6.heap.size, 1, none⟩ = some (.int .i64 q1) ∧ w'.cell? ⟨wr.heap.size, 1, none⟩ = some (.int .i64 j) ∧ w'.cell? (ax.add (j * 2)) = some (.int .i64 q0) ∧ w'.cell? { block := (ax.add (j * 2)).block, off := (ax.add (j * 2)).off + 1 } = some (.int .i64 q1)) ∧ Reads w' 2 (some ax) L.length (pairs L) := fun h =>
              ⟨⟨h.right.right.cell_blk, h.right.right.right.right.right.cell_blk, h.right.right.right.right.right.cell_blk, h.right.right.right.right.right.right.cell_blk, h.right.right.right.reads_at.2.2.2 ax rfl _ _ hat0, cell_two (h.right.right.right.reads_at.2.2.2 ax rfl _ _ hat1)⟩, h.right.right.right.reads_at⟩
            have hX : ∀ {w' : World} {P : Asn}, Sat E (P * (pmap m L C * (blk x (.cells #[.slice (some ax) L.length cx, .slice Bx L.length dx] 90) * (row 83 2 (.slice (some ax) L.length cx) L.length (pairs L) * (row 4 1 (.slice Bx L.length dx) L.length (bools C) * (blk w6.heap.size (.cells #[.int .i64 q0, .int .i64 q1] 39) * (blk wr.heap.size (.cells #[.int .i64 kind, .int .i64 (j : Int), .int .i64 p0, .int .i64 p1, .slice D cs.length cd] 78) * F))))))) w' → Sat E (blk x (.cells #[.slice (some ax) L.length cx, .slice Bx L.length dx] 90) * (row 83 2 (.slice (some ax) L.length cx) L.length (pairs L) * (row 4 1 (.slice Bx L.length dx) L.length (bools C) * (P * (pmap m L C * (blk w6.heap.size (.cells #[.int .i64 q0, .int .i64 q1] 39) * (blk wr.heap.size (.cells #[.int .i64 kind, .int .i64 (j : Int), .int .i64 p0, .int .i64 p1, .slice D cs.length cd] 78) * F))))))) w' := fun h => h.eq (by ac_rfl)
            have hXb : ∀ {w' : World} {Q P : Asn}, Sat E (Q * (blk x (.cells #[.slice (some ax) L.length cx, .slice Bx L.length dx] 90) * (row 83 2 (.slice (some ax) L.length cx) L.length (pairs L) * (row 4 1 (.slice Bx L.length dx) L.length (bools C) * (P * (pmap m L C * (blk w6.heap.size (.cells #[.int .i64 q0, .int .i64 q1] 39) * (blk wr.heap.size (.cells #[.int .i64 kind, .int .i64 (j : Int), .int .i64 p0, .int .i64 p1, .slice D cs.length cd] 78) * F)))))))) w' → Sat E (Q * (P * (pmap m L C * (blk x (.cells #[.slice (some ax) L.length cx, .slice Bx L.length dx] 90) * (row 83 2 (.slice (some ax) L.length cx) L.length (pairs L) * (row 4 1 (.slice Bx L.length dx) L.length (bools C) * (blk w6.heap.size (.cells #[.int .i64 q0, .int .i64 q1] 39) * (blk wr.heap.size (.cells #[.int .i64 kind, .int .i64 (j : Int), .int .i64 p0, .int .i64 p1, .slice D cs.length cd] 78) * F)))))))) w' := fun h => h.eq (by ac_rfl)
            have hF : ∀ {w' : World}, Sat E (pmap m L C * (blk x (.cells #[.slice (some ax) L.length cx, .slice Bx L.length dx] 90) * (row 83 2 (.slice (some ax) L.length cx) L.length (pairs L) * (row 4 1 (.slice Bx L.length dx) L.length (bools C) * (blk w6.heap.size (.cells #[.int .i64 q0, .int .i64 q1] 39) * (blk wr.heap.size (.cells #[.int .i64 kind, .int .i64 (j : Int), .int .i64 p0, .int .i64 p1, .slice D cs.length cd] 78) * F)))))) w' → Sat E (pmap m L C * (rmap x L C * F)) w' := fun h => by
              have h1 : Sat E (blk x (.cells #[.slice (some ax) L.length cx, .slice Bx L.length dx] 90) * (row 83 2 (.slice (some ax) L.length cx) L.length (pairs L) * (row 4 1 (.slice Bx L.length dx) L.length (bools C) * (blk w6.heap.size (.cells #[.int .i64 q0, .int .i64 q1] 39) * (blk wr.heap.size (.cells #[.int .i64 kind, .int .i64 (j : Int), .int .i64 p0, .int .i64 p1, .slice D cs.length cd] 78) * (pmap m L C * F)))))) _ := h.eq (by ac_rfl)
              exact ((rmap_shut h1).eq (show _ = blk w6.heap.size (.cells #[.int .i64 q0, .int .i64 q1] 39) * (blk wr.heap.size (.cells #[.int .i64 kind, .int .i64 (j : Int), .int .i64 p0, .int .i64 p1, .slice D cs.length cd] 78) * (pmap m L C * (rmap x L C * F))) by ac_rfl)).right.right
            have hM : Sat E (pmap m L C * (blk x (.cells #[.slice (some ax) L.length cx, .slice Bx L.length dx] 90) * (row 83 2 (.slice (some ax) L.length cx) L.length (pairs L) * (row 4 1 (.slice Bx L.length dx) L.length (bools C) * (blk w6.heap.size (.cells #[.int .i64 q0, .int .i64 q1] 39) * (blk wr.heap.size (.cells #[.int .i64 kind, .int .i64 (j : Int), .int .i64 p0, .int .i64 p1, .slice D cs.length cd] 78) * F)))))) _ := g2.eq (by ac_rfl)
            have hXo : ∀ {w' : World} {P : Asn}, Sat E (P * (pmap m L C * (blk x (.cells #[.slice (some ax) L.length cx, .slice Bx L.length dx] 90) * (row 83 2 (.slice (some ax) L.length cx) L.length (pairs L) * (row 4 1 (.slice Bx L.length dx) L.length (bools C) * (blk w6.heap.size (.cells #[.int .i64 q0, .int .i64 q1] 39) * (blk wr.heap.size (.cells #[.int .i64 kind, .int .i64 (j : Int), .int .i64 p0, .int .i64 p1, .slice D cs.length cd] 78) * F))))))) w' → Calls Try.prog 46 #[.pointer (some ⟨x, 0, none⟩)] w' fun e w'' => ∃ v, e = .returned v ∧ Sat E (row 117 3 v (chgs L C).length (chs (chgs L C)) * (P * (pmap m L C * (blk x (.cells #[.slice (some ax) L.length cx, .slice Bx L.length dx] 90) * (row 83 2 (.slice (some ax) L.length cx) L.length (pairs L) * (row 4 1 (.slice Bx L.length dx) L.length (bools C) * (blk w6.heap.size (.cells #[.int .i64 q0, .int .i64 q1] 39) * (blk wr.heap.size (.cells #[.int .i64 kind, .int .i64 (j : Int), .int .i64 p0, .int .i64 p1, .slice D cs.length cd] 78) * F)))))))) w'' := fun h =>
              (rchanges_open x L C (some ax) Bx cx dx hCl (hX h) (by omega)).mono fun e w'' ⟨v, he, h2⟩ => ⟨v, he, hXb h2⟩
            obtain ⟨M, hMM⟩ : ∃ M, blk x (.cells #[.slice (some ax) L.length cx, .slice Bx L.length dx] 90) * (row 83 2 (.slice (some ax) L.length cx) L.length (pairs L) * (row 4 1 (.slice Bx L.length dx) L.length (bools C) * (blk w6.heap.size (.cells #[.int .i64 q0, .int .i64 q1] 39) * (blk wr.heap.size (.cells #[.int .i64 kind, .int .i64 (j : Int), .int .i64 p0, .int .i64 p1, .slice D cs.length cd] 78) * F)))) = M := ⟨_, rfl⟩
            rw [hMM] at hS hF hM hXo
            clear hX hXb hMM g1 g2 hRx hat0 hat1 hcells
            have hjl : (j : Int) < (L.length : Int) := by omega
            have s1 := (hS (hM.eq (emp_star _).symm)).1
            have hcgl : (chgs L C).length ≤ L.length := chTo_length L C L.length
            go_wp2_with fail
            go_quiet (fail)
            have hM1 := (hM.drewN nq).drew
            clear hM
            go_wp2_with fail
            as_aux_lemma =>
              refine wp_region_held_drew (S := (fun w' => w'.cell? ⟨x, 0, none⟩ = some (.slice (some ax) L.length cx) ∧ w'.cell? ⟨w6.heap.size, 0, none⟩ = some (.int .i64 q0) ∧ w'.cell? ⟨w6.heap.size, 1, none⟩ = some (.int .i64 q1) ∧ w'.cell? ⟨wr.heap.size, 1, none⟩ = some (.int .i64 j) ∧ w'.cell? (ax.add (j * 2)) = some (.int .i64 q0) ∧ w'.cell? { block := (ax.add (j * 2)).block, off := (ax.add (j * 2)).off + 1 } = some (.int .i64 q1))) (by kernel_rfl) s1 (fun hH => ?_)
              refine wpAnyH_take (i := 0) (oi := ?o0ix1) (v := ?v0ix1) ?hi0ix1 ?hb0ix1 ?hc0ix1 ?hd0ix1 ?hq0ix1 (Or.inl ⟨?he0ix1, ?hy0ix1⟩) (by assumption) ?hr0ix1
              case hi0ix1 => (simp only [List.getElem?_toArray, List.getElem?_cons_succ, List.getElem?_cons_zero]; exact rfl)
              case hb0ix1 => kernel_rfl
              case hc0ix1 => kernel_rfl
              case hd0ix1 => kernel_rfl
              case he0ix1 => rfl
              case hy0ix1 => (intro w hSw; (try dsimp only at hSw); go_simp; try with_reducible rfl)
              case hq0ix1 => exact (fun _ _ _ h => h)
              simp only [Act.put, List.setIfInBounds_toArray, List.set_cons_zero, List.set_cons_succ]
              refine wpAnyH_take (i := 1) (oi := ?o1ix2) (v := ?v1ix2) ?hi1ix2 ?hb1ix2 ?hc1ix2 ?hd1ix2 ?hq1ix2 (Or.inl ⟨?he1ix2, ?hy1ix2⟩) (by assumption) ?hr1ix2
              case hi1ix2 => (simp only [List.getElem?_toArray, List.getElem?_cons_succ, List.getElem?_cons_zero]; exact rfl)
              case hb1ix2 => kernel_rfl
              case hc1ix2 => kernel_rfl
              case hd1ix2 => kernel_rfl
              case he1ix2 => rfl
              case hy1ix2 => (intro w hSw; (try dsimp only at hSw); go_simp; try with_reducible rfl)
              case hq1ix2 => exact (fun _ _ _ h => h)
              simp only [Act.put, List.setIfInBounds_toArray, List.set_cons_zero, List.set_cons_succ]
              refine wpAnyH_take (i := 2) (oi := ?o2ix3) (v := ?v2ix3) ?hi2ix3 ?hb2ix3 ?hc2ix3 ?hd2ix3 ?hq2ix3 (Or.inl ⟨?he2ix3, ?hy2ix3⟩) (by assumption) ?hr2ix3
              case hi2ix3 => (simp only [List.getElem?_toArray, List.getElem?_cons_succ, List.getElem?_cons_zero]; exact rfl)
              case hb2ix3 => kernel_rfl
              case hc2ix3 => kernel_rfl
              case hd2ix3 => kernel_rfl
              case he2ix3 => rfl
              case hy2ix3 => (intro w hSw; (try dsimp only at hSw); go_simp; try with_reducible rfl)
              case hq2ix3 => exact (fun _ _ _ h => h)
              simp only [Act.put, List.setIfInBounds_toArray, List.set_cons_zero, List.set_cons_succ]
              refine wpAnyH_take (i := 3) (oi := ?o3ix4) (v := ?v3ix4) ?hi3ix4 ?hb3ix4 ?hc3ix4 ?hd3ix4 ?hq3ix4 (Or.inl ⟨?he3ix4, ?hy3ix4⟩) (by assumption) ?hr3ix4
              case hi3ix4 => (simp only [List.getElem?_toArray, List.getElem?_cons_succ, List.getElem?_cons_zero]; exact rfl)
              case hb3ix4 => kernel_rfl
              case hc3ix4 => kernel_rfl
              case hd3ix4 => kernel_rfl
              case he3ix4 => rfl
              case hy3ix4 => (intro w hSw; (try dsimp only at hSw); go_simp; try with_reducible rfl)
              case hq3ix4 => exact (fun _ _ _ h => h)
              simp only [Act.put, List.setIfInBounds_toArray, List.set_cons_zero, List.set_cons_succ]
              refine wpAnyH_take (i := 4) (oi := ?o4ix5) (v := ?v4ix5) ?hi4ix5 ?hb4ix5 ?hc4ix5 ?hd4ix5 ?hq4ix5 (Or.inl ⟨?he4ix5, ?hy4ix5⟩) (by assumption) ?hr4ix5
              case hi4ix5 => (simp only [List.getElem?_toArray, List.getElem?_cons_succ, List.getElem?_cons_zero]; exact rfl)
              case hb4ix5 => kernel_rfl
              case hc4ix5 => kernel_rfl
              case hd4ix5 => kernel_rfl
              case he4ix5 => rfl
              case hy4ix5 => (intro w hSw; (try dsimp only at hSw); go_simp; try with_reducible rfl)
              case hq4ix5 => exact (fun _ _ _ h => h)
              simp only [Act.put, List.setIfInBounds_toArray, List.set_cons_zero, List.set_cons_succ]
              refine wpAnyH_take (i := 5) (oi := ?o5ix6) (v := ?v5ix6) ?hi5ix6 ?hb5ix6 ?hc5ix6 ?hd5ix6 ?hq5ix6 (Or.inl ⟨?he5ix6, ?hy5ix6⟩) (by assumption) ?hr5ix6
              case hi5ix6 => (simp only [List.getElem?_toArray, List.getElem?_cons_succ, List.getElem?_cons_zero]; exact rfl)
              case hb5ix6 => kernel_rfl
              case hc5ix6 => kernel_rfl
              case hd5ix6 => kernel_rfl
              case he5ix6 => rfl
              case hy5ix6 => (intro w hSw; (try dsimp only at hSw); go_simp; try with_reducible rfl)
              case hq5ix6 => exact (fun _ _ _ h => h)
              simp only [Act.put, List.setIfInBounds_toArray, List.set_cons_zero, List.set_cons_succ]
              refine wpAnyH_take (i := 6) (oi := ?o6ix7) (v := ?v6ix7) ?hi6ix7 ?hb6ix7 ?hc6ix7 ?hd6ix7 ?hq6ix7 (Or.inl ⟨?he6ix7, ?hy6ix7⟩) (by assumption) ?hr6ix7
              case hi6ix7 => (simp only [List.getElem?_toArray, List.getElem?_cons_succ, List.getElem?_cons_zero]; exact rfl)
              case hb6ix7 => kernel_rfl
              case hc6ix7 => kernel_rfl
              case hd6ix7 => kernel_rfl
              case he6ix7 => rfl
              case hy6ix7 => (intro w hSw; (try dsimp only at hSw); go_simp; try with_reducible rfl)
              case hq6ix7 => exact (fun _ _ _ h => h)
              simp only [Act.put, List.setIfInBounds_toArray, List.set_cons_zero, List.set_cons_succ]
              refine wpAnyH_take (i := 7) (oi := ?o7ix8) (v := ?v7ix8) ?hi7ix8 ?hb7ix8 ?hc7ix8 ?hd7ix8 ?hq7ix8 (Or.inl ⟨?he7ix8, ?hy7ix8⟩) (by assumption) ?hr7ix8
              case hi7ix8 => (simp only [List.getElem?_toArray, List.getElem?_cons_succ, List.getElem?_cons_zero]; exact rfl)
              case hb7ix8 => kernel_rfl
              case hc7ix8 => kernel_rfl
              case hd7ix8 => kernel_rfl
              case he7ix8 => rfl
              case hy7ix8 => (intro w hSw; (try dsimp only at hSw); go_simp; try with_reducible rfl)
              case hq7ix8 => exact (fun _ _ _ h => h)
              simp only [Act.put, List.setIfInBounds_toArray, List.set_cons_zero, List.set_cons_succ]
              refine wpAnyH_take (i := 8) (oi := ?o8ix9) (v := ?v8ix9) ?hi8ix9 ?hb8ix9 ?hc8ix9 ?hd8ix9 ?hq8ix9 (Or.inl ⟨?he8ix9, ?hy8ix9⟩) (by assumption) ?hr8ix9
              case hi8ix9 => (simp only [List.getElem?_toArray, List.getElem?_cons_succ, List.getElem?_cons_zero]; exact rfl)
              case hb8ix9 => kernel_rfl
              case hc8ix9 => kernel_rfl
              case hd8ix9 => kernel_rfl
              case he8ix9 => rfl
              case hy8ix9 => (intro w hSw; (try dsimp only at hSw); go_simp; try with_reducible rfl)
              case hq8ix9 => exact (fun _ _ _ h => h)
              simp only [Act.put, List.setIfInBounds_toArray, List.set_cons_zero, List.set_cons_succ]
              refine wpAnyH_take (i := 9) (oi := ?o9ix10) (v := ?v9ix10) ?hi9ix10 ?hb9ix10 ?hc9ix10 ?hd9ix10 ?hq9ix10 (Or.inl ⟨?he9ix10, ?hy9ix10⟩) (by assumption) ?hr9ix10
              case hi9ix10 => (simp only [List.getElem?_toArray, List.getElem?_cons_succ, List.getElem?_cons_zero]; exact rfl)
              case hb9ix10 => kernel_rfl
              case hc9ix10 => kernel_rfl
              case hd9ix10 => kernel_rfl
              case he9ix10 => rfl
              case hy9ix10 => (intro w hSw; (try dsimp only at hSw); go_simp; try with_reducible rfl)
              case hq9ix10 => exact (fun _ _ _ h => h)
              simp only [Act.put, List.setIfInBounds_toArray, List.set_cons_zero, List.set_cons_succ]
              refine wpAnyH_take (i := 10) (oi := ?o10ix11) (v := ?v10ix11) ?hi10ix11 ?hb10ix11 ?hc10ix11 ?hd10ix11 ?hq10ix11 (Or.inl ⟨?he10ix11, ?hy10ix11⟩) (by assumption) ?hr10ix11
              case hi10ix11 => (simp only [List.getElem?_toArray, List.getElem?_cons_succ, List.getElem?_cons_zero]; exact rfl)
              case hb10ix11 => kernel_rfl
              case hc10ix11 => kernel_rfl
              case hd10ix11 => kernel_rfl
              case he10ix11 => rfl
              case hy10ix11 => (intro w hSw; (try dsimp only at hSw); go_simp; try with_reducible rfl)
              case hq10ix11 => exact (fun _ _ _ h => h)
              simp only [Act.put, List.setIfInBounds_toArray, List.set_cons_zero, List.set_cons_succ]
              refine wpAnyH_take (i := 12) (oi := ?o12ix12) (v := ?v12ix12) ?hi12ix12 ?hb12ix12 ?hc12ix12 ?hd12ix12 ?hq12ix12 (Or.inl ⟨?he12ix12, ?hy12ix12⟩) (by assumption) ?hr12ix12
              case hi12ix12 => (simp only [List.getElem?_toArray, List.getElem?_cons_succ, List.getElem?_cons_zero]; exact rfl)
              case hb12ix12 => kernel_rfl
              case hc12ix12 => kernel_rfl
              case hd12ix12 => kernel_rfl
              case he12ix12 => rfl
              case hy12ix12 => (intro w hSw; (try dsimp only at hSw); go_simp; try with_reducible rfl)
              case hq12ix12 => exact (fun _ _ _ h => h)
              simp only [Act.put, List.setIfInBounds_toArray, List.set_cons_zero, List.set_cons_succ]
              refine wpAnyH_take (i := 13) (oi := ?o13ix13) (v := ?v13ix13) ?hi13ix13 ?hb13ix13 ?hc13ix13 ?hd13ix13 ?hq13ix13 (Or.inl ⟨?he13ix13, ?hy13ix13⟩) (by assumption) ?hr13ix13
              case hi13ix13 => (simp only [List.getElem?_toArray, List.getElem?_cons_succ, List.getElem?_cons_zero]; exact rfl)
              case hb13ix13 => kernel_rfl
              case hc13ix13 => kernel_rfl
              case hd13ix13 => kernel_rfl
              case he13ix13 => rfl
              case hy13ix13 => (intro w hSw; (try dsimp only at hSw); go_simp; try with_reducible rfl)
              case hq13ix13 => exact (fun _ _ _ h => h)
              simp only [Act.put, List.setIfInBounds_toArray, List.set_cons_zero, List.set_cons_succ]
              refine wpAnyH_take (i := 14) (oi := ?o14ix14) (v := ?v14ix14) ?hi14ix14 ?hb14ix14 ?hc14ix14 ?hd14ix14 ?hq14ix14 (Or.inl ⟨?he14ix14, ?hy14ix14⟩) (by assumption) ?hr14ix14
              case hi14ix14 => (simp only [List.getElem?_toArray, List.getElem?_cons_succ, List.getElem?_cons_zero]; exact rfl)
              case hb14ix14 => kernel_rfl
              case hc14ix14 => kernel_rfl
              case hd14ix14 => kernel_rfl
              case he14ix14 => rfl
              case hy14ix14 => (intro w hSw; (try dsimp only at hSw); go_simp; try with_reducible rfl)
              case hq14ix14 => exact (fun _ _ _ h => h)
              simp only [Act.put, List.setIfInBounds_toArray, List.set_cons_zero, List.set_cons_succ]
              refine wpAnyH_take (i := 15) (oi := ?o15ix15) (v := ?v15ix15) ?hi15ix15 ?hb15ix15 ?hc15ix15 ?hd15ix15 ?hq15ix15 (Or.inl ⟨?he15ix15, ?hy15ix15⟩) (by assumption) ?hr15ix15
              case hi15ix15 => (simp only [List.getElem?_toArray, List.getElem?_cons_succ, List.getElem?_cons_zero]; exact rfl)
              case hb15ix15 => kernel_rfl
              case hc15ix15 => kernel_rfl
              case hd15ix15 => kernel_rfl
              case he15ix15 => rfl
              case hy15ix15 => (intro w hSw; (try dsimp only at hSw); go_simp; try with_reducible rfl)
              case hq15ix15 => exact (fun _ _ _ h => h)
              simp only [Act.put, List.setIfInBounds_toArray, List.set_cons_zero, List.set_cons_succ]
              refine wpAnyH_take (i := 16) (oi := ?o16ix16) (v := ?v16ix16) ?hi16ix16 ?hb16ix16 ?hc16ix16 ?hd16ix16 ?hq16ix16 (Or.inl ⟨?he16ix16, ?hy16ix16⟩) (by assumption) ?hr16ix16
              case hi16ix16 => (simp only [List.getElem?_toArray, List.getElem?_cons_succ, List.getElem?_cons_zero]; exact rfl)
              case hb16ix16 => kernel_rfl
              case hc16ix16 => kernel_rfl
              case hd16ix16 => kernel_rfl
              case he16ix16 => rfl
              case hy16ix16 => (intro w hSw; (try dsimp only at hSw); go_simp; try with_reducible rfl)
              case hq16ix16 => exact (fun _ _ _ h => h)
              simp only [Act.put, List.setIfInBounds_toArray, List.set_cons_zero, List.set_cons_succ]
              refine wpAnyH_take (i := 17) (oi := ?o17ix17) (v := ?v17ix17) ?hi17ix17 ?hb17ix17 ?hc17ix17 ?hd17ix17 ?hq17ix17 (Or.inl ⟨?he17ix17, ?hy17ix17⟩) (by assumption) ?hr17ix17
              case hi17ix17 => (simp only [List.getElem?_toArray, List.getElem?_cons_succ, List.getElem?_cons_zero]; exact rfl)
              case hb17ix17 => kernel_rfl
              case hc17ix17 => kernel_rfl
              case hd17ix17 => kernel_rfl
              case he17ix17 => rfl
              case hy17ix17 => (intro w hSw; (try dsimp only at hSw); go_simp; try with_reducible rfl)
              case hq17ix17 => exact (fun _ _ _ h => h)
              simp only [Act.put, List.setIfInBounds_toArray, List.set_cons_zero, List.set_cons_succ]
              refine wpAnyH_take (i := 18) (oi := ?o18ix18) (v := ?v18ix18) ?hi18ix18 ?hb18ix18 ?hc18ix18 ?hd18ix18 ?hq18ix18 (Or.inl ⟨?he18ix18, ?hy18ix18⟩) (by assumption) ?hr18ix18
              case hi18ix18 => (simp only [List.getElem?_toArray, List.getElem?_cons_succ, List.getElem?_cons_zero]; exact rfl)
              case hb18ix18 => kernel_rfl
              case hc18ix18 => kernel_rfl
              case hd18ix18 => kernel_rfl
              case he18ix18 => rfl
              case hy18ix18 => (intro w hSw; (try dsimp only at hSw); go_simp; try with_reducible rfl)
              case hq18ix18 => exact (fun _ _ _ h => h)
              simp only [Act.put, List.setIfInBounds_toArray, List.set_cons_zero, List.set_cons_succ]
              refine wpAnyH_take (i := 19) (oi := ?o19ix19) (v := ?v19ix19) ?hi19ix19 ?hb19ix19 ?hc19ix19 ?hd19ix19 ?hq19ix19 (Or.inl ⟨?he19ix19, ?hy19ix19⟩) (by assumption) ?hr19ix19
              case hi19ix19 => (simp only [List.getElem?_toArray, List.getElem?_cons_succ, List.getElem?_cons_zero]; exact rfl)
              case hb19ix19 => kernel_rfl
              case hc19ix19 => kernel_rfl
              case hd19ix19 => kernel_rfl
              case he19ix19 => rfl
              case hy19ix19 => (intro w hSw; (try dsimp only at hSw); go_simp; try with_reducible rfl)
              case hq19ix19 => exact (fun _ _ _ h => h)
              simp only [Act.put, List.setIfInBounds_toArray, List.set_cons_zero, List.set_cons_succ]
              refine wpAnyH_ready (rs := [11]) (by kernel_rfl) (by simp) ?_
              refine AllReadyH.cons (o := ?oc11x20) ?hoc11x20 (fun K hK => ?_) AllReadyH.nil
              case hoc11x20 => (simp only [List.getElem?_toArray, List.getElem?_cons_succ, List.getElem?_cons_zero]; exact rfl)
              go_simp
              refine (place_calls q0 q1 hM1).mono ?_
              rintro e w7 ⟨rfl, h7⟩
              have s7 := (hS (h7.eq (emp_star _).symm)).1
              go_wp2_with fail
              refine hK.out _ _ s7 (fun hH => ?_)
              clear hK K
              try simp only [Act.put, List.setIfInBounds_toArray, List.set_cons_zero, List.set_cons_succ]
              refine wpAnyH_take (i := 20) (oi := ?o20ix21) (v := ?v20ix21) ?hi20ix21 ?hb20ix21 ?hc20ix21 ?hd20ix21 ?hq20ix21 (Or.inl ⟨?he20ix21, ?hy20ix21⟩) (by assumption) ?hr20ix21
              case hi20ix21 => (simp only [List.getElem?_toArray, List.getElem?_cons_succ, List.getElem?_cons_zero]; exact rfl)
              case hb20ix21 => kernel_rfl
              case hc20ix21 => kernel_rfl
              case hd20ix21 => kernel_rfl
              case he20ix21 => rfl
              case hy20ix21 => (intro w hSw; (try dsimp only at hSw); go_simp; try with_reducible rfl)
              case hq20ix21 => exact (fun _ _ _ h => h)
              simp only [Act.put, List.setIfInBounds_toArray, List.set_cons_zero, List.set_cons_succ]
              refine wpAnyH_take (i := 21) (oi := ?o21ix22) (v := ?v21ix22) ?hi21ix22 ?hb21ix22 ?hc21ix22 ?hd21ix22 ?hq21ix22 (Or.inl ⟨?he21ix22, ?hy21ix22⟩) (by assumption) ?hr21ix22
              case hi21ix22 => (simp only [List.getElem?_toArray, List.getElem?_cons_succ, List.getElem?_cons_zero]; exact rfl)
              case hb21ix22 => kernel_rfl
              case hc21ix22 => kernel_rfl
              case hd21ix22 => kernel_rfl
              case he21ix22 => rfl
              case hy21ix22 => (intro w hSw; (try dsimp only at hSw); go_simp; try with_reducible rfl)
              case hq21ix22 => exact (fun _ _ _ h => h)
              simp only [Act.put, List.setIfInBounds_toArray, List.set_cons_zero, List.set_cons_succ]
              refine wpAnyH_take (i := 22) (oi := ?o22ix23) (v := ?v22ix23) ?hi22ix23 ?hb22ix23 ?hc22ix23 ?hd22ix23 ?hq22ix23 (Or.inl ⟨?he22ix23, ?hy22ix23⟩) (by assumption) ?hr22ix23
              case hi22ix23 => (simp only [List.getElem?_toArray, List.getElem?_cons_succ, List.getElem?_cons_zero]; exact rfl)
              case hb22ix23 => kernel_rfl
              case hc22ix23 => kernel_rfl
              case hd22ix23 => kernel_rfl
              case he22ix23 => rfl
              case hy22ix23 => (intro w hSw; (try dsimp only at hSw); go_simp; try with_reducible rfl)
              case hq22ix23 => exact (fun _ _ _ h => h)
              simp only [Act.put, List.setIfInBounds_toArray, List.set_cons_zero, List.set_cons_succ]
              refine wpAnyH_take (i := 23) (oi := ?o23ix24) (v := ?v23ix24) ?hi23ix24 ?hb23ix24 ?hc23ix24 ?hd23ix24 ?hq23ix24 (Or.inl ⟨?he23ix24, ?hy23ix24⟩) (by assumption) ?hr23ix24
              case hi23ix24 => (simp only [List.getElem?_toArray, List.getElem?_cons_succ, List.getElem?_cons_zero]; exact rfl)
              case hb23ix24 => kernel_rfl
              case hc23ix24 => kernel_rfl
              case hd23ix24 => kernel_rfl
              case he23ix24 => rfl
              case hy23ix24 => (intro w hSw; (try dsimp only at hSw); go_simp; try with_reducible rfl)
              case hq23ix24 => exact (fun _ _ _ h => h)
              simp only [Act.put, List.setIfInBounds_toArray, List.set_cons_zero, List.set_cons_succ]
              refine wpAnyH_take (i := 24) (oi := ?o24ix25) (v := ?v24ix25) ?hi24ix25 ?hb24ix25 ?hc24ix25 ?hd24ix25 ?hq24ix25 (Or.inl ⟨?he24ix25, ?hy24ix25⟩) (by assumption) ?hr24ix25
              case hi24ix25 => (simp only [List.getElem?_toArray, List.getElem?_cons_succ, List.getElem?_cons_zero]; exact rfl)
              case hb24ix25 => kernel_rfl
              case hc24ix25 => kernel_rfl
              case hd24ix25 => kernel_rfl
              case he24ix25 => rfl
              case hy24ix25 => (intro w hSw; (try dsimp only at hSw); go_simp; try with_reducible rfl)
              case hq24ix25 => exact (fun _ _ _ h => h)
              simp only [Act.put, List.setIfInBounds_toArray, List.set_cons_zero, List.set_cons_succ]
              refine wpAnyH_take (i := 25) (oi := ?o25ix26) (v := ?v25ix26) ?hi25ix26 ?hb25ix26 ?hc25ix26 ?hd25ix26 ?hq25ix26 (Or.inl ⟨?he25ix26, ?hy25ix26⟩) (by assumption) ?hr25ix26
              case hi25ix26 => (simp only [List.getElem?_toArray, List.getElem?_cons_succ, List.getElem?_cons_zero]; exact rfl)
              case hb25ix26 => kernel_rfl
              case hc25ix26 => kernel_rfl
              case hd25ix26 => kernel_rfl
              case he25ix26 => rfl
              case hy25ix26 => (intro w hSw; (try dsimp only at hSw); go_simp; try with_reducible rfl)
              case hq25ix26 => exact (fun _ _ _ h => h)
              simp only [Act.put, List.setIfInBounds_toArray, List.set_cons_zero, List.set_cons_succ]
              refine wpAnyH_take (i := 26) (oi := ?o26ix27) (v := ?v26ix27) ?hi26ix27 ?hb26ix27 ?hc26ix27 ?hd26ix27 ?hq26ix27 (Or.inl ⟨?he26ix27, ?hy26ix27⟩) (by assumption) ?hr26ix27
              case hi26ix27 => (simp only [List.getElem?_toArray, List.getElem?_cons_succ, List.getElem?_cons_zero]; exact rfl)
              case hb26ix27 => kernel_rfl
              case hc26ix27 => kernel_rfl
              case hd26ix27 => kernel_rfl
              case he26ix27 => rfl
              case hy26ix27 => (intro w hSw; (try dsimp only at hSw); go_simp; try with_reducible rfl)
              case hq26ix27 => exact (fun _ _ _ h => h)
              simp only [Act.put, List.setIfInBounds_toArray, List.set_cons_zero, List.set_cons_succ]
              refine wpAnyH_take (i := 27) (oi := ?oux28) (v := undef) ?hiux28 ?hbux28 ?hcux28 ?hdux28 ?hqux28 (Or.inr ⟨?heux28, rfl⟩) (by assumption) ?hrux28
              case hiux28 => (simp only [List.getElem?_toArray, List.getElem?_cons_succ, List.getElem?_cons_zero]; exact rfl)
              case hbux28 => kernel_rfl
              case hcux28 => kernel_rfl
              case hdux28 => kernel_rfl
              case heux28 => rfl
              case hqux28 => exact (fun _ _ _ h => h)
              simp only [Act.put, List.setIfInBounds_toArray, List.set_cons_zero, List.set_cons_succ]
              refine wpAnyH_take (i := 28) (oi := ?oux29) (v := undef) ?hiux29 ?hbux29 ?hcux29 ?hdux29 ?hqux29 (Or.inr ⟨?heux29, rfl⟩) (by assumption) ?hrux29
              case hiux29 => (simp only [List.getElem?_toArray, List.getElem?_cons_succ, List.getElem?_cons_zero]; exact rfl)
              case hbux29 => kernel_rfl
              case hcux29 => kernel_rfl
              case hdux29 => kernel_rfl
              case heux29 => rfl
              case hqux29 => exact (fun _ _ _ h => h)
              simp only [Act.put, List.setIfInBounds_toArray, List.set_cons_zero, List.set_cons_succ]
              refine wpAnyH_take (i := 29) (oi := ?oux30) (v := undef) ?hiux30 ?hbux30 ?hcux30 ?hdux30 ?hqux30 (Or.inr ⟨?heux30, rfl⟩) (by assumption) ?hrux30
              case hiux30 => (simp only [List.getElem?_toArray, List.getElem?_cons_succ, List.getElem?_cons_zero]; exact rfl)
              case hbux30 => kernel_rfl
              case hcux30 => kernel_rfl
              case hdux30 => kernel_rfl
              case heux30 => rfl
              case hqux30 => exact (fun _ _ _ h => h)
              simp only [Act.put, List.setIfInBounds_toArray, List.set_cons_zero, List.set_cons_succ]
              refine wpAnyH_take (i := 30) (oi := ?o30ix31) (v := ?v30ix31) ?hi30ix31 ?hb30ix31 ?hc30ix31 ?hd30ix31 ?hq30ix31 (Or.inl ⟨?he30ix31, ?hy30ix31⟩) (by assumption) ?hr30ix31
              case hi30ix31 => (simp only [List.getElem?_toArray, List.getElem?_cons_succ, List.getElem?_cons_zero]; exact rfl)
              case hb30ix31 => kernel_rfl
              case hc30ix31 => kernel_rfl
              case hd30ix31 => kernel_rfl
              case he30ix31 => rfl
              case hy30ix31 => (intro w hSw; (try dsimp only at hSw); go_simp; try with_reducible rfl)
              case hq30ix31 => exact (fun _ _ _ h => h)
              simp only [Act.put, List.setIfInBounds_toArray, List.set_cons_zero, List.set_cons_succ]
              refine wpAnyH_take (i := 31) (oi := ?o31ix32) (v := ?v31ix32) ?hi31ix32 ?hb31ix32 ?hc31ix32 ?hd31ix32 ?hq31ix32 (Or.inl ⟨?he31ix32, ?hy31ix32⟩) (by assumption) ?hr31ix32
              case hi31ix32 => (simp only [List.getElem?_toArray, List.getElem?_cons_succ, List.getElem?_cons_zero]; exact rfl)
              case hb31ix32 => kernel_rfl
              case hc31ix32 => kernel_rfl
              case hd31ix32 => kernel_rfl
              case he31ix32 => rfl
              case hy31ix32 => (intro w hSw; (try dsimp only at hSw); go_simp; try with_reducible rfl)
              case hq31ix32 => exact (fun _ _ _ h => h)
              simp only [Act.put, List.setIfInBounds_toArray, List.set_cons_zero, List.set_cons_succ]
              refine wpAnyH_take (i := 32) (oi := ?o32ix33) (v := ?v32ix33) ?hi32ix33 ?hb32ix33 ?hc32ix33 ?hd32ix33 ?hq32ix33 (Or.inl ⟨?he32ix33, ?hy32ix33⟩) (by assumption) ?hr32ix33
              case hi32ix33 => (simp only [List.getElem?_toArray, List.getElem?_cons_succ, List.getElem?_cons_zero]; exact rfl)
              case hb32ix33 => kernel_rfl
              case hc32ix33 => kernel_rfl
              case hd32ix33 => kernel_rfl
              case he32ix33 => rfl
              case hy32ix33 => (intro w hSw; (try dsimp only at hSw); go_simp; try with_reducible rfl)
              case hq32ix33 => exact (fun _ _ _ h => h)
              simp only [Act.put, List.setIfInBounds_toArray, List.set_cons_zero, List.set_cons_succ]
              refine wpAnyH_take (i := 33) (oi := ?o33ix34) (v := ?v33ix34) ?hi33ix34 ?hb33ix34 ?hc33ix34 ?hd33ix34 ?hq33ix34 (Or.inl ⟨?he33ix34, ?hy33ix34⟩) (by assumption) ?hr33ix34
              case hi33ix34 => (simp only [List.getElem?_toArray, List.getElem?_cons_succ, List.getElem?_cons_zero]; exact rfl)
              case hb33ix34 => kernel_rfl
              case hc33ix34 => kernel_rfl
              case hd33ix34 => kernel_rfl
              case he33ix34 => rfl
              case hy33ix34 => (intro w hSw; (try dsimp only at hSw); go_simp; try with_reducible rfl)
              case hq33ix34 => exact (fun _ _ _ h => h)
              simp only [Act.put, List.setIfInBounds_toArray, List.set_cons_zero, List.set_cons_succ]
              refine wpAnyH_take (i := 35) (oi := ?o35ix35) (v := ?v35ix35) ?hi35ix35 ?hb35ix35 ?hc35ix35 ?hd35ix35 ?hq35ix35 (Or.inl ⟨?he35ix35, ?hy35ix35⟩) (by assumption) ?hr35ix35
              case hi35ix35 => (simp only [List.getElem?_toArray, List.getElem?_cons_succ, List.getElem?_cons_zero]; exact rfl)
              case hb35ix35 => kernel_rfl
              case hc35ix35 => kernel_rfl
              case hd35ix35 => kernel_rfl
              case he35ix35 => rfl
              case hy35ix35 => (intro w hSw; (try dsimp only at hSw); go_simp; try with_reducible rfl)
              case hq35ix35 => exact (fun _ _ _ h => h)
              simp only [Act.put, List.setIfInBounds_toArray, List.set_cons_zero, List.set_cons_succ]
              refine wpAnyH_take (i := 36) (oi := ?o36ix36) (v := ?v36ix36) ?hi36ix36 ?hb36ix36 ?hc36ix36 ?hd36ix36 ?hq36ix36 (Or.inl ⟨?he36ix36, ?hy36ix36⟩) (by assumption) ?hr36ix36
              case hi36ix36 => (simp only [List.getElem?_toArray, List.getElem?_cons_succ, List.getElem?_cons_zero]; exact rfl)
              case hb36ix36 => kernel_rfl
              case hc36ix36 => kernel_rfl
              case hd36ix36 => kernel_rfl
              case he36ix36 => rfl
              case hy36ix36 => (intro w hSw; (try dsimp only at hSw); go_simp; try with_reducible rfl)
              case hq36ix36 => exact (fun _ _ _ h => h)
              simp only [Act.put, List.setIfInBounds_toArray, List.set_cons_zero, List.set_cons_succ]
              refine wpAnyH_take (i := 37) (oi := ?o37ix37) (v := ?v37ix37) ?hi37ix37 ?hb37ix37 ?hc37ix37 ?hd37ix37 ?hq37ix37 (Or.inl ⟨?he37ix37, ?hy37ix37⟩) (by assumption) ?hr37ix37
              case hi37ix37 => (simp only [List.getElem?_toArray, List.getElem?_cons_succ, List.getElem?_cons_zero]; exact rfl)
              case hb37ix37 => kernel_rfl
              case hc37ix37 => kernel_rfl
              case hd37ix37 => kernel_rfl
              case he37ix37 => rfl
              case hy37ix37 => (intro w hSw; (try dsimp only at hSw); go_simp; try with_reducible rfl)
              case hq37ix37 => exact (fun _ _ _ h => h)
              simp only [Act.put, List.setIfInBounds_toArray, List.set_cons_zero, List.set_cons_succ]
              refine wpAnyH_take (i := 38) (oi := ?o38ix38) (v := ?v38ix38) ?hi38ix38 ?hb38ix38 ?hc38ix38 ?hd38ix38 ?hq38ix38 (Or.inl ⟨?he38ix38, ?hy38ix38⟩) (by assumption) ?hr38ix38
              case hi38ix38 => (simp only [List.getElem?_toArray, List.getElem?_cons_succ, List.getElem?_cons_zero]; exact rfl)
              case hb38ix38 => kernel_rfl
              case hc38ix38 => kernel_rfl
              case hd38ix38 => kernel_rfl
              case he38ix38 => rfl
              case hy38ix38 => (intro w hSw; (try dsimp only at hSw); go_simp; try with_reducible rfl)
              case hq38ix38 => exact (fun _ _ _ h => h)
              simp only [Act.put, List.setIfInBounds_toArray, List.set_cons_zero, List.set_cons_succ]
              refine wpAnyH_take (i := 39) (oi := ?o39ix39) (v := ?v39ix39) ?hi39ix39 ?hb39ix39 ?hc39ix39 ?hd39ix39 ?hq39ix39 (Or.inl ⟨?he39ix39, ?hy39ix39⟩) (by assumption) ?hr39ix39
              case hi39ix39 => (simp only [List.getElem?_toArray, List.getElem?_cons_succ, List.getElem?_cons_zero]; exact rfl)
              case hb39ix39 => kernel_rfl
              case hc39ix39 => kernel_rfl
              case hd39ix39 => kernel_rfl
              case he39ix39 => rfl
              case hy39ix39 => (intro w hSw; (try dsimp only at hSw); go_simp; try with_reducible rfl)
              case hq39ix39 => exact (fun _ _ _ h => h)
              simp only [Act.put, List.setIfInBounds_toArray, List.set_cons_zero, List.set_cons_succ]
              as_aux_lemma =>
                refine wpAnyH_ready (rs := [34]) (by kernel_rfl) (by simp) ?_
                refine AllReadyH.cons (o := ?oc34x40) ?hoc34x40 (fun K hK => ?_) AllReadyH.nil
                case hoc34x40 => (simp only [List.getElem?_toArray, List.getElem?_cons_succ, List.getElem?_cons_zero]; exact rfl)
                go_simp
                refine (plen_calls m L C h7).mono ?_
                rintro e w8 ⟨rfl, rfl⟩
                go_wp2_with fail
                refine hK.out _ _ s7 (fun hH => ?_)
                clear hK K
                try simp only [Act.put, List.setIfInBounds_toArray, List.set_cons_zero, List.set_cons_succ]
                refine wpAnyH_take (i := 40) (oi := ?o40ix41) (v := ?v40ix41) ?hi40ix41 ?hb40ix41 ?hc40ix41 ?hd40ix41 ?hq40ix41 (Or.inl ⟨?he40ix41, ?hy40ix41⟩) (by assumption) ?hr40ix41
                case hi40ix41 => (simp only [List.getElem?_toArray, List.getElem?_cons_succ, List.getElem?_cons_zero]; exact rfl)
                case hb40ix41 => kernel_rfl
                case hc40ix41 => kernel_rfl
                case hd40ix41 => kernel_rfl
                case he40ix41 => rfl
                case hy40ix41 => (intro w hSw; (try dsimp only at hSw); go_simp; try with_reducible rfl)
                case hq40ix41 => exact (fun _ _ _ h => h)
                simp only [Act.put, List.setIfInBounds_toArray, List.set_cons_zero, List.set_cons_succ]
                refine wpAnyH_take (i := 41) (oi := ?o41ix42) (v := ?v41ix42) ?hi41ix42 ?hb41ix42 ?hc41ix42 ?hd41ix42 ?hq41ix42 (Or.inl ⟨?he41ix42, ?hy41ix42⟩) (by assumption) ?hr41ix42
                case hi41ix42 => (simp only [List.getElem?_toArray, List.getElem?_cons_succ, List.getElem?_cons_zero]; exact rfl)
                case hb41ix42 => kernel_rfl
                case hc41ix42 => kernel_rfl
                case hd41ix42 => kernel_rfl
                case he41ix42 => rfl
                case hy41ix42 => (intro w hSw; (try dsimp only at hSw); go_simp; try with_reducible rfl)
                case hq41ix42 => exact (fun _ _ _ h => h)
                simp only [Act.put, List.setIfInBounds_toArray, List.set_cons_zero, List.set_cons_succ]
                refine wpAnyH_take (i := 42) (oi := ?o42ix43) (v := ?v42ix43) ?hi42ix43 ?hb42ix43 ?hc42ix43 ?hd42ix43 ?hq42ix43 (Or.inl ⟨?he42ix43, ?hy42ix43⟩) (by assumption) ?hr42ix43
                case hi42ix43 => (simp only [List.getElem?_toArray, List.getElem?_cons_succ, List.getElem?_cons_zero]; exact rfl)
                case hb42ix43 => kernel_rfl
                case hc42ix43 => kernel_rfl
                case hd42ix43 => kernel_rfl
                case he42ix43 => rfl
                case hy42ix43 => (intro w hSw; (try dsimp only at hSw); go_simp; try with_reducible rfl)
                case hq42ix43 => exact (fun _ _ _ h => h)
                simp only [Act.put, List.setIfInBounds_toArray, List.set_cons_zero, List.set_cons_succ]
                refine wpAnyH_take (i := 43) (oi := ?o43ix44) (v := ?v43ix44) ?hi43ix44 ?hb43ix44 ?hc43ix44 ?hd43ix44 ?hq43ix44 (Or.inl ⟨?he43ix44, ?hy43ix44⟩) (by assumption) ?hr43ix44
                case hi43ix44 => (simp only [List.getElem?_toArray, List.getElem?_cons_succ, List.getElem?_cons_zero]; exact rfl)
                case hb43ix44 => kernel_rfl
                case hc43ix44 => kernel_rfl
                case hd43ix44 => kernel_rfl
                case he43ix44 => rfl
                case hy43ix44 => (intro w hSw; (try dsimp only at hSw); go_simp; try with_reducible rfl)
                case hq43ix44 => exact (fun _ _ _ h => h)
                simp only [Act.put, List.setIfInBounds_toArray, List.set_cons_zero, List.set_cons_succ]
                refine wpAnyH_take (i := 46) (oi := ?o46ix45) (v := ?v46ix45) ?hi46ix45 ?hb46ix45 ?hc46ix45 ?hd46ix45 ?hq46ix45 (Or.inl ⟨?he46ix45, ?hy46ix45⟩) (by assumption) ?hr46ix45
                case hi46ix45 => (simp only [List.getElem?_toArray, List.getElem?_cons_succ, List.getElem?_cons_zero]; exact rfl)
                case hb46ix45 => kernel_rfl
                case hc46ix45 => kernel_rfl
                case hd46ix45 => kernel_rfl
                case he46ix45 => rfl
                case hy46ix45 => (intro w hSw; (try dsimp only at hSw); go_simp; try with_reducible rfl)
                case hq46ix45 => exact (fun _ _ _ h => h)
                simp only [Act.put, List.setIfInBounds_toArray, List.set_cons_zero, List.set_cons_succ]
                refine wpAnyH_take (i := 47) (oi := ?o47ix46) (v := ?v47ix46) ?hi47ix46 ?hb47ix46 ?hc47ix46 ?hd47ix46 ?hq47ix46 (Or.inl ⟨?he47ix46, ?hy47ix46⟩) (by assumption) ?hr47ix46
                case hi47ix46 => (simp only [List.getElem?_toArray, List.getElem?_cons_succ, List.getElem?_cons_zero]; exact rfl)
                case hb47ix46 => kernel_rfl
                case hc47ix46 => kernel_rfl
                case hd47ix46 => kernel_rfl
                case he47ix46 => rfl
                case hy47ix46 => (intro w hSw; (try dsimp only at hSw); go_simp; try with_reducible rfl)
                case hq47ix46 => exact (fun _ _ _ h => h)
                simp only [Act.put, List.setIfInBounds_toArray, List.set_cons_zero, List.set_cons_succ]
                refine wpAnyH_take (i := 48) (oi := ?o48ix47) (v := ?v48ix47) ?hi48ix47 ?hb48ix47 ?hc48ix47 ?hd48ix47 ?hq48ix47 (Or.inl ⟨?he48ix47, ?hy48ix47⟩) (by assumption) ?hr48ix47
                case hi48ix47 => (simp only [List.getElem?_toArray, List.getElem?_cons_succ, List.getElem?_cons_zero]; exact rfl)
                case hb48ix47 => kernel_rfl
                case hc48ix47 => kernel_rfl
                case hd48ix47 => kernel_rfl
                case he48ix47 => rfl
                case hy48ix47 => (intro w hSw; (try dsimp only at hSw); go_simp; try with_reducible rfl)
                case hq48ix47 => exact (fun _ _ _ h => h)
                simp only [Act.put, List.setIfInBounds_toArray, List.set_cons_zero, List.set_cons_succ]
                refine wpAnyH_take (i := 49) (oi := ?o49ix48) (v := ?v49ix48) ?hi49ix48 ?hb49ix48 ?hc49ix48 ?hd49ix48 ?hq49ix48 (Or.inl ⟨?he49ix48, ?hy49ix48⟩) (by assumption) ?hr49ix48
                case hi49ix48 => (simp only [List.getElem?_toArray, List.getElem?_cons_succ, List.getElem?_cons_zero]; exact rfl)
                case hb49ix48 => kernel_rfl
                case hc49ix48 => kernel_rfl
                case hd49ix48 => kernel_rfl
                case he49ix48 => rfl
                case hy49ix48 => (intro w hSw; (try dsimp only at hSw); go_simp; try with_reducible rfl)
                case hq49ix48 => exact (fun _ _ _ h => h)
                simp only [Act.put, List.setIfInBounds_toArray, List.set_cons_zero, List.set_cons_succ]
                refine wpAnyH_ready (rs := [44]) (by kernel_rfl) (by simp) ?_
                refine AllReadyH.cons (o := ?oc44x49) ?hoc44x49 (fun K hK => ?_) AllReadyH.nil
                case hoc44x49 => (simp only [List.getElem?_toArray, List.getElem?_cons_succ, List.getElem?_cons_zero]; exact rfl)
                go_simp
                refine (all_calls m L C h7 (by omega)).mono ?_
                rintro e w9 ⟨v9, rfl, h9⟩
                obtain ⟨A9, c9, rfl, _, _, _⟩ := h9.reads
                have s9 := (hS h9).1
                go_wp2_with fail
                refine hK.out _ _ s9 (fun hH => ?_)
                clear hK K
                try simp only [Act.put, List.setIfInBounds_toArray, List.set_cons_zero, List.set_cons_succ]
                refine wpAnyH_ready (rs := [45]) (by kernel_rfl) (by simp) ?_
                refine AllReadyH.cons (o := ?oc45x50) ?hoc45x50 (fun K hK => ?_) AllReadyH.nil
                case hoc45x50 => (simp only [List.getElem?_toArray, List.getElem?_cons_succ, List.getElem?_cons_zero]; exact rfl)
                go_simp
                refine (places_calls A9 c9 L h9 (by omega) (fun w h => h.reads_at)).mono ?_
                rintro e w10 ⟨v10, rfl, h10⟩
                obtain ⟨A10, c10, rfl, _, _, _⟩ := h10.reads
                have s10 := (hS h10.right).1
                go_wp2_with fail
                refine hK.out _ _ s10 (fun hH => ?_)
                clear hK K
                try simp only [Act.put, List.setIfInBounds_toArray, List.set_cons_zero, List.set_cons_succ]
                refine wpAnyH_ready (rs := [50]) (by kernel_rfl) (by simp) ?_
                refine AllReadyH.cons (o := ?oc50x51) ?hoc50x51 (fun K hK => ?_) AllReadyH.nil
                case hoc50x51 => (simp only [List.getElem?_toArray, List.getElem?_cons_succ, List.getElem?_cons_zero]; exact rfl)
                go_simp
                refine (samePlaces A10 (some ax) L.length L.length c10 cx L L h10.reads_at (hS h10.right).2).mono ?_
                rw [decide_eq_true (rfl : L = L)]
                rintro e w11 ⟨rfl, nq2, rfl⟩
                have h11 := h10.right.right.drewN nq2
                have s11 := (hS (h11.eq (emp_star _).symm)).1
                go_wp2_with fail
                refine hK.out _ _ s11 (fun hH => ?_)
                clear hK K
                try simp only [Act.put, List.setIfInBounds_toArray, List.set_cons_zero, List.set_cons_succ]
                refine wpAnyH_take (i := 51) (oi := ?o51ix52) (v := ?v51ix52) ?hi51ix52 ?hb51ix52 ?hc51ix52 ?hd51ix52 ?hq51ix52 (Or.inl ⟨?he51ix52, ?hy51ix52⟩) (by assumption) ?hr51ix52
                case hi51ix52 => (simp only [List.getElem?_toArray, List.getElem?_cons_succ, List.getElem?_cons_zero]; exact rfl)
                case hb51ix52 => kernel_rfl
                case hc51ix52 => kernel_rfl
                case hd51ix52 => kernel_rfl
                case he51ix52 => rfl
                case hy51ix52 => (intro w hSw; (try dsimp only at hSw); go_simp; try with_reducible rfl)
                case hq51ix52 => exact (fun _ _ _ h => h)
                simp only [Act.put, List.setIfInBounds_toArray, List.set_cons_zero, List.set_cons_succ]
                refine wpAnyH_take (i := 52) (oi := ?o52ix53) (v := ?v52ix53) ?hi52ix53 ?hb52ix53 ?hc52ix53 ?hd52ix53 ?hq52ix53 (Or.inl ⟨?he52ix53, ?hy52ix53⟩) (by assumption) ?hr52ix53
                case hi52ix53 => (simp only [List.getElem?_toArray, List.getElem?_cons_succ, List.getElem?_cons_zero]; exact rfl)
                case hb52ix53 => kernel_rfl
                case hc52ix53 => kernel_rfl
                case hd52ix53 => kernel_rfl
                case he52ix53 => rfl
                case hy52ix53 => (intro w hSw; (try dsimp only at hSw); go_simp; try with_reducible rfl)
                case hq52ix53 => exact (fun _ _ _ h => h)
                simp only [Act.put, List.setIfInBounds_toArray, List.set_cons_zero, List.set_cons_succ]
                refine wpAnyH_take (i := 53) (oi := ?o53ix54) (v := ?v53ix54) ?hi53ix54 ?hb53ix54 ?hc53ix54 ?hd53ix54 ?hq53ix54 (Or.inl ⟨?he53ix54, ?hy53ix54⟩) (by assumption) ?hr53ix54
                case hi53ix54 => (simp only [List.getElem?_toArray, List.getElem?_cons_succ, List.getElem?_cons_zero]; exact rfl)
                case hb53ix54 => kernel_rfl
                case hc53ix54 => kernel_rfl
                case hd53ix54 => kernel_rfl
                case he53ix54 => rfl
                case hy53ix54 => (intro w hSw; (try dsimp only at hSw); go_simp; try with_reducible rfl)
                case hq53ix54 => exact (fun _ _ _ h => h)
                simp only [Act.put, List.setIfInBounds_toArray, List.set_cons_zero, List.set_cons_succ]
                refine wpAnyH_take (i := 54) (oi := ?o54ix55) (v := ?v54ix55) ?hi54ix55 ?hb54ix55 ?hc54ix55 ?hd54ix55 ?hq54ix55 (Or.inl ⟨?he54ix55, ?hy54ix55⟩) (by assumption) ?hr54ix55
                case hi54ix55 => (simp only [List.getElem?_toArray, List.getElem?_cons_succ, List.getElem?_cons_zero]; exact rfl)
                case hb54ix55 => kernel_rfl
                case hc54ix55 => kernel_rfl
                case hd54ix55 => kernel_rfl
                case he54ix55 => rfl
                case hy54ix55 => (intro w hSw; (try dsimp only at hSw); go_simp; try with_reducible rfl)
                case hq54ix55 => exact (fun _ _ _ h => h)
                simp only [Act.put, List.setIfInBounds_toArray, List.set_cons_zero, List.set_cons_succ]
                refine wpAnyH_take (i := 57) (oi := ?o57ix56) (v := ?v57ix56) ?hi57ix56 ?hb57ix56 ?hc57ix56 ?hd57ix56 ?hq57ix56 (Or.inl ⟨?he57ix56, ?hy57ix56⟩) (by assumption) ?hr57ix56
                case hi57ix56 => (simp only [List.getElem?_toArray, List.getElem?_cons_succ, List.getElem?_cons_zero]; exact rfl)
                case hb57ix56 => kernel_rfl
                case hc57ix56 => kernel_rfl
                case hd57ix56 => kernel_rfl
                case he57ix56 => rfl
                case hy57ix56 => (intro w hSw; (try dsimp only at hSw); go_simp; try with_reducible rfl)
                case hq57ix56 => exact (fun _ _ _ h => h)
                simp only [Act.put, List.setIfInBounds_toArray, List.set_cons_zero, List.set_cons_succ]
                refine wpAnyH_ready (rs := [55]) (by kernel_rfl) (by simp) ?_
                refine AllReadyH.cons (o := ?oc55x57) ?hoc55x57 (fun K hK => ?_) AllReadyH.nil
                case hoc55x57 => (simp only [List.getElem?_toArray, List.getElem?_cons_succ, List.getElem?_cons_zero]; exact rfl)
                go_simp
                refine (changes_calls m L C h11 (by omega)).mono ?_
                rintro e w24 ⟨v24, rfl, h24⟩
                obtain ⟨A24, c24, rfl, _, _, _⟩ := h24.reads
                have s24 := (hS h24).1
                go_wp2_with fail
                refine hK.out _ _ s24 (fun hH => ?_)
                clear hK K
                try simp only [Act.put, List.setIfInBounds_toArray, List.set_cons_zero, List.set_cons_succ]
                refine wpAnyH_ready (rs := [56]) (by kernel_rfl) (by simp) ?_
                refine AllReadyH.cons (o := ?oc56x58) ?hoc56x58 (fun K hK => ?_) AllReadyH.nil
                case hoc56x58 => (simp only [List.getElem?_toArray, List.getElem?_cons_succ, List.getElem?_cons_zero]; exact rfl)
                go_simp
                refine (cchanges_calls A24 c24 (chgs L C) h24 (by omega) (fun w h => h.reads_at)).mono ?_
                rintro e w43 ⟨v43, rfl, h43⟩
                obtain ⟨A43, c43, rfl, _, _, _⟩ := h43.reads
                have s43 := (hS h43.right).1
                go_wp2_with fail
                refine hK.out _ _ s43 (fun hH => ?_)
                clear hK K
                try simp only [Act.put, List.setIfInBounds_toArray, List.set_cons_zero, List.set_cons_succ]
                refine wpAnyH_ready (rs := [58]) (by kernel_rfl) (by simp) ?_
                refine AllReadyH.cons (o := ?oc58x59) ?hoc58x59 (fun K hK => ?_) AllReadyH.nil
                case hoc58x59 => (simp only [List.getElem?_toArray, List.getElem?_cons_succ, List.getElem?_cons_zero]; exact rfl)
                go_simp
                refine (hXo (h43.eq (star_assoc _ _ _).symm)).mono ?_
                rintro e w46 ⟨v46, rfl, h460⟩
                have h46 := h460.eq (congrArg _ (star_assoc _ _ _))
                obtain ⟨A46, c46, rfl, _, _, _⟩ := h46.reads
                have s46 := (hS h46.right.right).1
                go_wp2_with fail
                refine hK.out _ _ s46 (fun hH => ?_)
                clear hK K
                try simp only [Act.put, List.setIfInBounds_toArray, List.set_cons_zero, List.set_cons_succ]
                refine wpAnyH_ready (rs := [59]) (by kernel_rfl) (by simp) ?_
                refine AllReadyH.cons (o := ?oc59x60) ?hoc59x60 (fun K hK => ?_) AllReadyH.nil
                case hoc59x60 => (simp only [List.getElem?_toArray, List.getElem?_cons_succ, List.getElem?_cons_zero]; exact rfl)
                go_simp
                refine (sameChanges A43 A46 (chgs L C).length (chgs L C).length c43 c46 (chgs L C) (chgs L C) h46.right.reads_at h46.reads_at).mono ?_
                rw [decide_eq_true (rfl : chgs L C = chgs L C)]
                rintro e w45 ⟨rfl, nq3, rfl⟩
                have hfin := h46.right.right.right.drewN nq3
                have s45 := (hS (hfin.eq (emp_star _).symm)).1
                go_wp2_with fail
                refine hK.out _ _ s45 (fun hH => ?_)
                clear hK K
                try simp only [Act.put, List.setIfInBounds_toArray, List.set_cons_zero, List.set_cons_succ]
                refine wpAnyH_take (i := 60) (oi := ?o60ixx61) (v := ?v60ixx61) ?hi60ixx61 ?hb60ixx61 ?hc60ixx61 ?hd60ixx61 ?hq60ixx61 (Or.inl ⟨?he60ixx61, ?hy60ixx61⟩) (by assumption) ?hr60ixx61
                case hi60ixx61 => (simp only [List.getElem?_toArray, List.getElem?_cons_succ, List.getElem?_cons_zero]; exact rfl)
                case hb60ixx61 => kernel_rfl
                case hc60ixx61 => kernel_rfl
                case hd60ixx61 => kernel_rfl
                case he60ixx61 => rfl
                case hy60ixx61 => (intro w hSw; (try dsimp only at hSw); go_simp; try with_reducible rfl)
                case hq60ixx61 => exact (fun _ _ _ h => h)
                simp only [Act.put, List.setIfInBounds_toArray, List.set_cons_zero, List.set_cons_succ]
                refine wpAnyH_take (i := 61) (oi := ?o61ixx62) (v := ?v61ixx62) ?hi61ixx62 ?hb61ixx62 ?hc61ixx62 ?hd61ixx62 ?hq61ixx62 (Or.inl ⟨?he61ixx62, ?hy61ixx62⟩) (by assumption) ?hr61ixx62
                case hi61ixx62 => (simp only [List.getElem?_toArray, List.getElem?_cons_succ, List.getElem?_cons_zero]; exact rfl)
                case hb61ixx62 => kernel_rfl
                case hc61ixx62 => kernel_rfl
                case hd61ixx62 => kernel_rfl
                case he61ixx62 => rfl
                case hy61ixx62 => (intro w hSw; (try dsimp only at hSw); go_simp; try with_reducible rfl)
                case hq61ixx62 => exact (fun _ _ _ h => h)
                simp only [Act.put, List.setIfInBounds_toArray, List.set_cons_zero, List.set_cons_succ]
                refine wpAnyH_done (by kernel_rfl) ?_ _
                have hend := hF hfin
                go_wp2
                go_roundw
                case rel => exact ⟨k + 1, L, C, by omega, by go_num, HL, hend⟩
                case measure => simp [intOf]; omega
          · have hcase : id < 0 ∨ (0 ≤ id ∧ ¬ id < (L.length : Int)) := by
              unfold inP at hin
              rw [decide_eq_false_iff_not] at hin
              omega
            have hg : getP L id = (0, 0) := by unfold getP; rw [hin]; rfl
            rw [hin]
            rw [hg] at g1 ⊢
            clear hin hg
            simp only at g1
            obtain ⟨Ax, cx, Bx, dx, hcx, _, hdx, _, hCl, g2, hRx, _⟩ := rmap_open (g1.eq (show _ = rmap x L C * (blk w6.heap.size (.cells #[.int .i64 0, .int .i64 0] 39) * (blk wr.heap.size (.cells #[.int .i64 kind, .int .i64 id, .int .i64 p0, .int .i64 p1, .slice D cs.length cd] 78) * (pmap m L C * F))) by ac_rfl))
            have hS : ∀ {w' : World} {P : Asn}, Sat E (P * (pmap m L C * (blk x (.cells #[.slice Ax L.length cx, .slice Bx L.length dx] 90) * (row 83 2 (.slice Ax L.length cx) L.length (pairs L) * (row 4 1 (.slice Bx L.length dx) L.length (bools C) * (blk w6.heap.size (.cells #[.int .i64 0, .int .i64 0] 39) * (blk wr.heap.size (.cells #[.int .i64 kind, .int .i64 id, .int .i64 p0, .int .i64 p1, .slice D cs.length cd] 78) * F))))))) w' → (w'.cell? ⟨x, 0, none⟩ = some (.slice Ax L.length cx) ∧ w'.cell? ⟨w6.heap.size, 0, none⟩ = some (.int .i64 0) ∧ w'.cell? ⟨w6.heap.size, 1, none⟩ = some (.int .i64 0)) ∧ Reads w' 2 Ax L.length (pairs L) := fun h =>
              ⟨⟨h.right.right.cell_blk, h.right.right.right.right.right.cell_blk, h.right.right.right.right.right.cell_blk⟩, h.right.right.right.reads_at⟩
            have hI : ∀ {w' : World}, Sat E (pmap m L C * (blk x (.cells #[.slice Ax L.length cx, .slice Bx L.length dx] 90) * (row 83 2 (.slice Ax L.length cx) L.length (pairs L) * (row 4 1 (.slice Bx L.length dx) L.length (bools C) * (blk w6.heap.size (.cells #[.int .i64 0, .int .i64 0] 39) * (blk wr.heap.size (.cells #[.int .i64 kind, .int .i64 id, .int .i64 p0, .int .i64 p1, .slice D cs.length cd] 78) * F)))))) w' → w'.cell? ⟨wr.heap.size, 1, none⟩ = some (.int .i64 id) := fun h => h.right.right.right.right.right.cell_blk
            have hX : ∀ {w' : World} {P : Asn}, Sat E (P * (pmap m L C * (blk x (.cells #[.slice Ax L.length cx, .slice Bx L.length dx] 90) * (row 83 2 (.slice Ax L.length cx) L.length (pairs L) * (row 4 1 (.slice Bx L.length dx) L.length (bools C) * (blk w6.heap.size (.cells #[.int .i64 0, .int .i64 0] 39) * (blk wr.heap.size (.cells #[.int .i64 kind, .int .i64 id, .int .i64 p0, .int .i64 p1, .slice D cs.length cd] 78) * F))))))) w' → Sat E (blk x (.cells #[.slice Ax L.length cx, .slice Bx L.length dx] 90) * (row 83 2 (.slice Ax L.length cx) L.length (pairs L) * (row 4 1 (.slice Bx L.length dx) L.length (bools C) * (P * (pmap m L C * (blk w6.heap.size (.cells #[.int .i64 0, .int .i64 0] 39) * (blk wr.heap.size (.cells #[.int .i64 kind, .int .i64 id, .int .i64 p0, .int .i64 p1, .slice D cs.length cd] 78) * F))))))) w' := fun h => h.eq (by ac_rfl)
            have hXb : ∀ {w' : World} {Q P : Asn}, Sat E (Q * (blk x (.cells #[.slice Ax L.length cx, .slice Bx L.length dx] 90) * (row 83 2 (.slice Ax L.length cx) L.length (pairs L) * (row 4 1 (.slice Bx L.length dx) L.length (bools C) * (P * (pmap m L C * (blk w6.heap.size (.cells #[.int .i64 0, .int .i64 0] 39) * (blk wr.heap.size (.cells #[.int .i64 kind, .int .i64 id, .int .i64 p0, .int .i64 p1, .slice D cs.length cd] 78) * F)))))))) w' → Sat E (Q * (P * (pmap m L C * (blk x (.cells #[.slice Ax L.length cx, .slice Bx L.length dx] 90) * (row 83 2 (.slice Ax L.length cx) L.length (pairs L) * (row 4 1 (.slice Bx L.length dx) L.length (bools C) * (blk w6.heap.size (.cells #[.int .i64 0, .int .i64 0] 39) * (blk wr.heap.size (.cells #[.int .i64 kind, .int .i64 id, .int .i64 p0, .int .i64 p1, .slice D cs.length cd] 78) * F)))))))) w' := fun h => h.eq (by ac_rfl)
            have hF : ∀ {w' : World}, Sat E (pmap m L C * (blk x (.cells #[.slice Ax L.length cx, .slice Bx L.length dx] 90) * (row 83 2 (.slice Ax L.length cx) L.length (pairs L) * (row 4 1 (.slice Bx L.length dx) L.length (bools C) * (blk w6.heap.size (.cells #[.int .i64 0, .int .i64 0] 39) * (blk wr.heap.size (.cells #[.int .i64 kind, .int .i64 id, .int .i64 p0, .int .i64 p1, .slice D cs.length cd] 78) * F)))))) w' → Sat E (pmap m L C * (rmap x L C * F)) w' := fun h => by
              have h1 : Sat E (blk x (.cells #[.slice Ax L.length cx, .slice Bx L.length dx] 90) * (row 83 2 (.slice Ax L.length cx) L.length (pairs L) * (row 4 1 (.slice Bx L.length dx) L.length (bools C) * (blk w6.heap.size (.cells #[.int .i64 0, .int .i64 0] 39) * (blk wr.heap.size (.cells #[.int .i64 kind, .int .i64 id, .int .i64 p0, .int .i64 p1, .slice D cs.length cd] 78) * (pmap m L C * F)))))) _ := h.eq (by ac_rfl)
              exact ((rmap_shut h1).eq (show _ = blk w6.heap.size (.cells #[.int .i64 0, .int .i64 0] 39) * (blk wr.heap.size (.cells #[.int .i64 kind, .int .i64 id, .int .i64 p0, .int .i64 p1, .slice D cs.length cd] 78) * (pmap m L C * (rmap x L C * F))) by ac_rfl)).right.right
            have hM : Sat E (pmap m L C * (blk x (.cells #[.slice Ax L.length cx, .slice Bx L.length dx] 90) * (row 83 2 (.slice Ax L.length cx) L.length (pairs L) * (row 4 1 (.slice Bx L.length dx) L.length (bools C) * (blk w6.heap.size (.cells #[.int .i64 0, .int .i64 0] 39) * (blk wr.heap.size (.cells #[.int .i64 kind, .int .i64 id, .int .i64 p0, .int .i64 p1, .slice D cs.length cd] 78) * F)))))) _ := g2.eq (by ac_rfl)
            have hXo : ∀ {w' : World} {P : Asn}, Sat E (P * (pmap m L C * (blk x (.cells #[.slice Ax L.length cx, .slice Bx L.length dx] 90) * (row 83 2 (.slice Ax L.length cx) L.length (pairs L) * (row 4 1 (.slice Bx L.length dx) L.length (bools C) * (blk w6.heap.size (.cells #[.int .i64 0, .int .i64 0] 39) * (blk wr.heap.size (.cells #[.int .i64 kind, .int .i64 id, .int .i64 p0, .int .i64 p1, .slice D cs.length cd] 78) * F))))))) w' → Calls Try.prog 46 #[.pointer (some ⟨x, 0, none⟩)] w' fun e w'' => ∃ v, e = .returned v ∧ Sat E (row 117 3 v (chgs L C).length (chs (chgs L C)) * (P * (pmap m L C * (blk x (.cells #[.slice Ax L.length cx, .slice Bx L.length dx] 90) * (row 83 2 (.slice Ax L.length cx) L.length (pairs L) * (row 4 1 (.slice Bx L.length dx) L.length (bools C) * (blk w6.heap.size (.cells #[.int .i64 0, .int .i64 0] 39) * (blk wr.heap.size (.cells #[.int .i64 kind, .int .i64 id, .int .i64 p0, .int .i64 p1, .slice D cs.length cd] 78) * F)))))))) w'' := fun h =>
              (rchanges_open x L C Ax Bx cx dx hCl (hX h) (by omega)).mono fun e w'' ⟨v, he, h2⟩ => ⟨v, he, hXb h2⟩
            obtain ⟨M, hMM⟩ : ∃ M, blk x (.cells #[.slice Ax L.length cx, .slice Bx L.length dx] 90) * (row 83 2 (.slice Ax L.length cx) L.length (pairs L) * (row 4 1 (.slice Bx L.length dx) L.length (bools C) * (blk w6.heap.size (.cells #[.int .i64 0, .int .i64 0] 39) * (blk wr.heap.size (.cells #[.int .i64 kind, .int .i64 id, .int .i64 p0, .int .i64 p1, .slice D cs.length cd] 78) * F)))) = M := ⟨_, rfl⟩
            rw [hMM] at hS hF hM hXo hI
            clear hX hXb hMM g1 g2 hRx hcells
            have hcgl : (chgs L C).length ≤ L.length := chTo_length L C L.length
            have i1 := hI hM
            have i2 := (hS (hM.eq (emp_star _).symm)).1.1
            go_upto_region 23 with fail
            go_cut [12] (fun v wc => v = .bool false ∧ Sat E (pmap m L C * M) wc)
            case first =>
              rcases hcase with hc1 | ⟨hc1, hc2⟩
              · have hc3 : ¬ 0 ≤ id := by omega
                have hd1 : decide (0 ≤ id) = false := decide_eq_false hc3
                go_quiet (fail)
                go_wp2
                go_meet
                exact ⟨by first | rfl | exact congrArg Value.bool hd1, hM.drewN nq⟩
              · have hd1 : decide (0 ≤ id) = true := decide_eq_true hc1
                have hd2 : decide (id < (L.length : Int)) = false := decide_eq_false (by omega)
                go_quiet (fail)
                go_wp2
                go_meet
                exact ⟨by first | rfl | exact congrArg Value.bool hd2, hM.drewN nq⟩
            case rest =>
              clear hM i1 i2 hcase hI
              obtain ⟨rfl, hM⟩ := hcut
              have hM1 := hM.drew
              have s1 := (hS (hM.eq (emp_star _).symm)).1
              clear hM
              go_wp2_with fail
              as_aux_lemma =>
                refine wp_region_held_drew (S := (fun w' => w'.cell? ⟨x, 0, none⟩ = some (.slice Ax L.length cx) ∧ w'.cell? ⟨w6.heap.size, 0, none⟩ = some (.int .i64 0) ∧ w'.cell? ⟨w6.heap.size, 1, none⟩ = some (.int .i64 0))) (by kernel_rfl) s1 (fun hH => ?_)
                refine wpAnyH_take (i := 0) (oi := ?o0ox63) (v := ?v0ox63) ?hi0ox63 ?hb0ox63 ?hc0ox63 ?hd0ox63 ?hq0ox63 (Or.inl ⟨?he0ox63, ?hy0ox63⟩) (by assumption) ?hr0ox63
                case hi0ox63 => (simp only [List.getElem?_toArray, List.getElem?_cons_succ, List.getElem?_cons_zero]; exact rfl)
                case hb0ox63 => kernel_rfl
                case hc0ox63 => kernel_rfl
                case hd0ox63 => kernel_rfl
                case he0ox63 => rfl
                case hy0ox63 => (intro w hSw; (try dsimp only at hSw); go_simp; try with_reducible rfl)
                case hq0ox63 => exact (fun _ _ _ h => h)
                simp only [Act.put, List.setIfInBounds_toArray, List.set_cons_zero, List.set_cons_succ]
                refine wpAnyH_take (i := 1) (oi := ?o1ox64) (v := ?v1ox64) ?hi1ox64 ?hb1ox64 ?hc1ox64 ?hd1ox64 ?hq1ox64 (Or.inl ⟨?he1ox64, ?hy1ox64⟩) (by assumption) ?hr1ox64
                case hi1ox64 => (simp only [List.getElem?_toArray, List.getElem?_cons_succ, List.getElem?_cons_zero]; exact rfl)
                case hb1ox64 => kernel_rfl
                case hc1ox64 => kernel_rfl
                case hd1ox64 => kernel_rfl
                case he1ox64 => rfl
                case hy1ox64 => (intro w hSw; (try dsimp only at hSw); go_simp; try with_reducible rfl)
                case hq1ox64 => exact (fun _ _ _ h => h)
                simp only [Act.put, List.setIfInBounds_toArray, List.set_cons_zero, List.set_cons_succ]
                refine wpAnyH_take (i := 2) (oi := ?o2ox65) (v := ?v2ox65) ?hi2ox65 ?hb2ox65 ?hc2ox65 ?hd2ox65 ?hq2ox65 (Or.inl ⟨?he2ox65, ?hy2ox65⟩) (by assumption) ?hr2ox65
                case hi2ox65 => (simp only [List.getElem?_toArray, List.getElem?_cons_succ, List.getElem?_cons_zero]; exact rfl)
                case hb2ox65 => kernel_rfl
                case hc2ox65 => kernel_rfl
                case hd2ox65 => kernel_rfl
                case he2ox65 => rfl
                case hy2ox65 => (intro w hSw; (try dsimp only at hSw); go_simp; try with_reducible rfl)
                case hq2ox65 => exact (fun _ _ _ h => h)
                simp only [Act.put, List.setIfInBounds_toArray, List.set_cons_zero, List.set_cons_succ]
                refine wpAnyH_take (i := 3) (oi := ?o3ox66) (v := ?v3ox66) ?hi3ox66 ?hb3ox66 ?hc3ox66 ?hd3ox66 ?hq3ox66 (Or.inl ⟨?he3ox66, ?hy3ox66⟩) (by assumption) ?hr3ox66
                case hi3ox66 => (simp only [List.getElem?_toArray, List.getElem?_cons_succ, List.getElem?_cons_zero]; exact rfl)
                case hb3ox66 => kernel_rfl
                case hc3ox66 => kernel_rfl
                case hd3ox66 => kernel_rfl
                case he3ox66 => rfl
                case hy3ox66 => (intro w hSw; (try dsimp only at hSw); go_simp; try with_reducible rfl)
                case hq3ox66 => exact (fun _ _ _ h => h)
                simp only [Act.put, List.setIfInBounds_toArray, List.set_cons_zero, List.set_cons_succ]
                refine wpAnyH_take (i := 4) (oi := ?o4ox67) (v := ?v4ox67) ?hi4ox67 ?hb4ox67 ?hc4ox67 ?hd4ox67 ?hq4ox67 (Or.inl ⟨?he4ox67, ?hy4ox67⟩) (by assumption) ?hr4ox67
                case hi4ox67 => (simp only [List.getElem?_toArray, List.getElem?_cons_succ, List.getElem?_cons_zero]; exact rfl)
                case hb4ox67 => kernel_rfl
                case hc4ox67 => kernel_rfl
                case hd4ox67 => kernel_rfl
                case he4ox67 => rfl
                case hy4ox67 => (intro w hSw; (try dsimp only at hSw); go_simp; try with_reducible rfl)
                case hq4ox67 => exact (fun _ _ _ h => h)
                simp only [Act.put, List.setIfInBounds_toArray, List.set_cons_zero, List.set_cons_succ]
                refine wpAnyH_take (i := 5) (oi := ?o5ox68) (v := ?v5ox68) ?hi5ox68 ?hb5ox68 ?hc5ox68 ?hd5ox68 ?hq5ox68 (Or.inl ⟨?he5ox68, ?hy5ox68⟩) (by assumption) ?hr5ox68
                case hi5ox68 => (simp only [List.getElem?_toArray, List.getElem?_cons_succ, List.getElem?_cons_zero]; exact rfl)
                case hb5ox68 => kernel_rfl
                case hc5ox68 => kernel_rfl
                case hd5ox68 => kernel_rfl
                case he5ox68 => rfl
                case hy5ox68 => (intro w hSw; (try dsimp only at hSw); go_simp; try with_reducible rfl)
                case hq5ox68 => exact (fun _ _ _ h => h)
                simp only [Act.put, List.setIfInBounds_toArray, List.set_cons_zero, List.set_cons_succ]
                refine wpAnyH_take (i := 6) (oi := ?o6ox69) (v := ?v6ox69) ?hi6ox69 ?hb6ox69 ?hc6ox69 ?hd6ox69 ?hq6ox69 (Or.inl ⟨?he6ox69, ?hy6ox69⟩) (by assumption) ?hr6ox69
                case hi6ox69 => (simp only [List.getElem?_toArray, List.getElem?_cons_succ, List.getElem?_cons_zero]; exact rfl)
                case hb6ox69 => kernel_rfl
                case hc6ox69 => kernel_rfl
                case hd6ox69 => kernel_rfl
                case he6ox69 => rfl
                case hy6ox69 => (intro w hSw; (try dsimp only at hSw); go_simp; try with_reducible rfl)
                case hq6ox69 => exact (fun _ _ _ h => h)
                simp only [Act.put, List.setIfInBounds_toArray, List.set_cons_zero, List.set_cons_succ]
                refine wpAnyH_take (i := 7) (oi := ?o7ox70) (v := ?v7ox70) ?hi7ox70 ?hb7ox70 ?hc7ox70 ?hd7ox70 ?hq7ox70 (Or.inl ⟨?he7ox70, ?hy7ox70⟩) (by assumption) ?hr7ox70
                case hi7ox70 => (simp only [List.getElem?_toArray, List.getElem?_cons_succ, List.getElem?_cons_zero]; exact rfl)
                case hb7ox70 => kernel_rfl
                case hc7ox70 => kernel_rfl
                case hd7ox70 => kernel_rfl
                case he7ox70 => rfl
                case hy7ox70 => (intro w hSw; (try dsimp only at hSw); go_simp; try with_reducible rfl)
                case hq7ox70 => exact (fun _ _ _ h => h)
                simp only [Act.put, List.setIfInBounds_toArray, List.set_cons_zero, List.set_cons_succ]
                refine wpAnyH_take (i := 8) (oi := ?o8ox71) (v := ?v8ox71) ?hi8ox71 ?hb8ox71 ?hc8ox71 ?hd8ox71 ?hq8ox71 (Or.inl ⟨?he8ox71, ?hy8ox71⟩) (by assumption) ?hr8ox71
                case hi8ox71 => (simp only [List.getElem?_toArray, List.getElem?_cons_succ, List.getElem?_cons_zero]; exact rfl)
                case hb8ox71 => kernel_rfl
                case hc8ox71 => kernel_rfl
                case hd8ox71 => kernel_rfl
                case he8ox71 => rfl
                case hy8ox71 => (intro w hSw; (try dsimp only at hSw); go_simp; try with_reducible rfl)
                case hq8ox71 => exact (fun _ _ _ h => h)
                simp only [Act.put, List.setIfInBounds_toArray, List.set_cons_zero, List.set_cons_succ]
                refine wpAnyH_take (i := 9) (oi := ?o9ox72) (v := ?v9ox72) ?hi9ox72 ?hb9ox72 ?hc9ox72 ?hd9ox72 ?hq9ox72 (Or.inl ⟨?he9ox72, ?hy9ox72⟩) (by assumption) ?hr9ox72
                case hi9ox72 => (simp only [List.getElem?_toArray, List.getElem?_cons_succ, List.getElem?_cons_zero]; exact rfl)
                case hb9ox72 => kernel_rfl
                case hc9ox72 => kernel_rfl
                case hd9ox72 => kernel_rfl
                case he9ox72 => rfl
                case hy9ox72 => (intro w hSw; (try dsimp only at hSw); go_simp; try with_reducible rfl)
                case hq9ox72 => exact (fun _ _ _ h => h)
                simp only [Act.put, List.setIfInBounds_toArray, List.set_cons_zero, List.set_cons_succ]
                refine wpAnyH_take (i := 10) (oi := ?oux73) (v := undef) ?hiux73 ?hbux73 ?hcux73 ?hdux73 ?hqux73 (Or.inr ⟨?heux73, rfl⟩) (by assumption) ?hrux73
                case hiux73 => (simp only [List.getElem?_toArray, List.getElem?_cons_succ, List.getElem?_cons_zero]; exact rfl)
                case hbux73 => kernel_rfl
                case hcux73 => kernel_rfl
                case hdux73 => kernel_rfl
                case heux73 => rfl
                case hqux73 => exact (fun _ _ _ h => h)
                simp only [Act.put, List.setIfInBounds_toArray, List.set_cons_zero, List.set_cons_succ]
                refine wpAnyH_take (i := 11) (oi := ?oux74) (v := undef) ?hiux74 ?hbux74 ?hcux74 ?hdux74 ?hqux74 (Or.inr ⟨?heux74, rfl⟩) (by assumption) ?hrux74
                case hiux74 => (simp only [List.getElem?_toArray, List.getElem?_cons_succ, List.getElem?_cons_zero]; exact rfl)
                case hbux74 => kernel_rfl
                case hcux74 => kernel_rfl
                case hdux74 => kernel_rfl
                case heux74 => rfl
                case hqux74 => exact (fun _ _ _ h => h)
                simp only [Act.put, List.setIfInBounds_toArray, List.set_cons_zero, List.set_cons_succ]
                refine wpAnyH_take (i := 12) (oi := ?oux75) (v := undef) ?hiux75 ?hbux75 ?hcux75 ?hdux75 ?hqux75 (Or.inr ⟨?heux75, rfl⟩) (by assumption) ?hrux75
                case hiux75 => (simp only [List.getElem?_toArray, List.getElem?_cons_succ, List.getElem?_cons_zero]; exact rfl)
                case hbux75 => kernel_rfl
                case hcux75 => kernel_rfl
                case hdux75 => kernel_rfl
                case heux75 => rfl
                case hqux75 => exact (fun _ _ _ h => h)
                simp only [Act.put, List.setIfInBounds_toArray, List.set_cons_zero, List.set_cons_succ]
                refine wpAnyH_take (i := 13) (oi := ?oux76) (v := undef) ?hiux76 ?hbux76 ?hcux76 ?hdux76 ?hqux76 (Or.inr ⟨?heux76, rfl⟩) (by assumption) ?hrux76
                case hiux76 => (simp only [List.getElem?_toArray, List.getElem?_cons_succ, List.getElem?_cons_zero]; exact rfl)
                case hbux76 => kernel_rfl
                case hcux76 => kernel_rfl
                case hdux76 => kernel_rfl
                case heux76 => rfl
                case hqux76 => exact (fun _ _ _ h => h)
                simp only [Act.put, List.setIfInBounds_toArray, List.set_cons_zero, List.set_cons_succ]
                refine wpAnyH_take (i := 14) (oi := ?oux77) (v := undef) ?hiux77 ?hbux77 ?hcux77 ?hdux77 ?hqux77 (Or.inr ⟨?heux77, rfl⟩) (by assumption) ?hrux77
                case hiux77 => (simp only [List.getElem?_toArray, List.getElem?_cons_succ, List.getElem?_cons_zero]; exact rfl)
                case hbux77 => kernel_rfl
                case hcux77 => kernel_rfl
                case hdux77 => kernel_rfl
                case heux77 => rfl
                case hqux77 => exact (fun _ _ _ h => h)
                simp only [Act.put, List.setIfInBounds_toArray, List.set_cons_zero, List.set_cons_succ]
                refine wpAnyH_take (i := 15) (oi := ?oux78) (v := undef) ?hiux78 ?hbux78 ?hcux78 ?hdux78 ?hqux78 (Or.inr ⟨?heux78, rfl⟩) (by assumption) ?hrux78
                case hiux78 => (simp only [List.getElem?_toArray, List.getElem?_cons_succ, List.getElem?_cons_zero]; exact rfl)
                case hbux78 => kernel_rfl
                case hcux78 => kernel_rfl
                case hdux78 => kernel_rfl
                case heux78 => rfl
                case hqux78 => exact (fun _ _ _ h => h)
                simp only [Act.put, List.setIfInBounds_toArray, List.set_cons_zero, List.set_cons_succ]
                refine wpAnyH_take (i := 16) (oi := ?oux79) (v := undef) ?hiux79 ?hbux79 ?hcux79 ?hdux79 ?hqux79 (Or.inr ⟨?heux79, rfl⟩) (by assumption) ?hrux79
                case hiux79 => (simp only [List.getElem?_toArray, List.getElem?_cons_succ, List.getElem?_cons_zero]; exact rfl)
                case hbux79 => kernel_rfl
                case hcux79 => kernel_rfl
                case hdux79 => kernel_rfl
                case heux79 => rfl
                case hqux79 => exact (fun _ _ _ h => h)
                simp only [Act.put, List.setIfInBounds_toArray, List.set_cons_zero, List.set_cons_succ]
                refine wpAnyH_take (i := 17) (oi := ?oux80) (v := undef) ?hiux80 ?hbux80 ?hcux80 ?hdux80 ?hqux80 (Or.inr ⟨?heux80, rfl⟩) (by assumption) ?hrux80
                case hiux80 => (simp only [List.getElem?_toArray, List.getElem?_cons_succ, List.getElem?_cons_zero]; exact rfl)
                case hbux80 => kernel_rfl
                case hcux80 => kernel_rfl
                case hdux80 => kernel_rfl
                case heux80 => rfl
                case hqux80 => exact (fun _ _ _ h => h)
                simp only [Act.put, List.setIfInBounds_toArray, List.set_cons_zero, List.set_cons_succ]
                refine wpAnyH_take (i := 18) (oi := ?oux81) (v := undef) ?hiux81 ?hbux81 ?hcux81 ?hdux81 ?hqux81 (Or.inr ⟨?heux81, rfl⟩) (by assumption) ?hrux81
                case hiux81 => (simp only [List.getElem?_toArray, List.getElem?_cons_succ, List.getElem?_cons_zero]; exact rfl)
                case hbux81 => kernel_rfl
                case hcux81 => kernel_rfl
                case hdux81 => kernel_rfl
                case heux81 => rfl
                case hqux81 => exact (fun _ _ _ h => h)
                simp only [Act.put, List.setIfInBounds_toArray, List.set_cons_zero, List.set_cons_succ]
                refine wpAnyH_take (i := 19) (oi := ?oux82) (v := undef) ?hiux82 ?hbux82 ?hcux82 ?hdux82 ?hqux82 (Or.inr ⟨?heux82, rfl⟩) (by assumption) ?hrux82
                case hiux82 => (simp only [List.getElem?_toArray, List.getElem?_cons_succ, List.getElem?_cons_zero]; exact rfl)
                case hbux82 => kernel_rfl
                case hcux82 => kernel_rfl
                case hdux82 => kernel_rfl
                case heux82 => rfl
                case hqux82 => exact (fun _ _ _ h => h)
                simp only [Act.put, List.setIfInBounds_toArray, List.set_cons_zero, List.set_cons_succ]
                refine wpAnyH_take (i := 20) (oi := ?oux83) (v := undef) ?hiux83 ?hbux83 ?hcux83 ?hdux83 ?hqux83 (Or.inr ⟨?heux83, rfl⟩) (by assumption) ?hrux83
                case hiux83 => (simp only [List.getElem?_toArray, List.getElem?_cons_succ, List.getElem?_cons_zero]; exact rfl)
                case hbux83 => kernel_rfl
                case hcux83 => kernel_rfl
                case hdux83 => kernel_rfl
                case heux83 => rfl
                case hqux83 => exact (fun _ _ _ h => h)
                simp only [Act.put, List.setIfInBounds_toArray, List.set_cons_zero, List.set_cons_succ]
                have h7 := hM1
                have s7 := s1
                refine wpAnyH_take (i := 21) (oi := ?o21ox84) (v := ?v21ox84) ?hi21ox84 ?hb21ox84 ?hc21ox84 ?hd21ox84 ?hq21ox84 (Or.inl ⟨?he21ox84, ?hy21ox84⟩) (by assumption) ?hr21ox84
                case hi21ox84 => (simp only [List.getElem?_toArray, List.getElem?_cons_succ, List.getElem?_cons_zero]; exact rfl)
                case hb21ox84 => kernel_rfl
                case hc21ox84 => kernel_rfl
                case hd21ox84 => kernel_rfl
                case he21ox84 => rfl
                case hy21ox84 => (intro w hSw; (try dsimp only at hSw); go_simp; try with_reducible rfl)
                case hq21ox84 => exact (fun _ _ _ h => h)
                simp only [Act.put, List.setIfInBounds_toArray, List.set_cons_zero, List.set_cons_succ]
                refine wpAnyH_take (i := 22) (oi := ?o22ox85) (v := ?v22ox85) ?hi22ox85 ?hb22ox85 ?hc22ox85 ?hd22ox85 ?hq22ox85 (Or.inl ⟨?he22ox85, ?hy22ox85⟩) (by assumption) ?hr22ox85
                case hi22ox85 => (simp only [List.getElem?_toArray, List.getElem?_cons_succ, List.getElem?_cons_zero]; exact rfl)
                case hb22ox85 => kernel_rfl
                case hc22ox85 => kernel_rfl
                case hd22ox85 => kernel_rfl
                case he22ox85 => rfl
                case hy22ox85 => (intro w hSw; (try dsimp only at hSw); go_simp; try with_reducible rfl)
                case hq22ox85 => exact (fun _ _ _ h => h)
                simp only [Act.put, List.setIfInBounds_toArray, List.set_cons_zero, List.set_cons_succ]
                refine wpAnyH_take (i := 23) (oi := ?o23ox86) (v := ?v23ox86) ?hi23ox86 ?hb23ox86 ?hc23ox86 ?hd23ox86 ?hq23ox86 (Or.inl ⟨?he23ox86, ?hy23ox86⟩) (by assumption) ?hr23ox86
                case hi23ox86 => (simp only [List.getElem?_toArray, List.getElem?_cons_succ, List.getElem?_cons_zero]; exact rfl)
                case hb23ox86 => kernel_rfl
                case hc23ox86 => kernel_rfl
                case hd23ox86 => kernel_rfl
                case he23ox86 => rfl
                case hy23ox86 => (intro w hSw; (try dsimp only at hSw); go_simp; try with_reducible rfl)
                case hq23ox86 => exact (fun _ _ _ h => h)
                simp only [Act.put, List.setIfInBounds_toArray, List.set_cons_zero, List.set_cons_succ]
                refine wpAnyH_take (i := 24) (oi := ?o24ox87) (v := ?v24ox87) ?hi24ox87 ?hb24ox87 ?hc24ox87 ?hd24ox87 ?hq24ox87 (Or.inl ⟨?he24ox87, ?hy24ox87⟩) (by assumption) ?hr24ox87
                case hi24ox87 => (simp only [List.getElem?_toArray, List.getElem?_cons_succ, List.getElem?_cons_zero]; exact rfl)
                case hb24ox87 => kernel_rfl
                case hc24ox87 => kernel_rfl
                case hd24ox87 => kernel_rfl
                case he24ox87 => rfl
                case hy24ox87 => (intro w hSw; (try dsimp only at hSw); go_simp; try with_reducible rfl)
                case hq24ox87 => exact (fun _ _ _ h => h)
                simp only [Act.put, List.setIfInBounds_toArray, List.set_cons_zero, List.set_cons_succ]
                refine wpAnyH_take (i := 25) (oi := ?o25ox88) (v := ?v25ox88) ?hi25ox88 ?hb25ox88 ?hc25ox88 ?hd25ox88 ?hq25ox88 (Or.inl ⟨?he25ox88, ?hy25ox88⟩) (by assumption) ?hr25ox88
                case hi25ox88 => (simp only [List.getElem?_toArray, List.getElem?_cons_succ, List.getElem?_cons_zero]; exact rfl)
                case hb25ox88 => kernel_rfl
                case hc25ox88 => kernel_rfl
                case hd25ox88 => kernel_rfl
                case he25ox88 => rfl
                case hy25ox88 => (intro w hSw; (try dsimp only at hSw); go_simp; try with_reducible rfl)
                case hq25ox88 => exact (fun _ _ _ h => h)
                simp only [Act.put, List.setIfInBounds_toArray, List.set_cons_zero, List.set_cons_succ]
                refine wpAnyH_take (i := 26) (oi := ?o26ox89) (v := ?v26ox89) ?hi26ox89 ?hb26ox89 ?hc26ox89 ?hd26ox89 ?hq26ox89 (Or.inl ⟨?he26ox89, ?hy26ox89⟩) (by assumption) ?hr26ox89
                case hi26ox89 => (simp only [List.getElem?_toArray, List.getElem?_cons_succ, List.getElem?_cons_zero]; exact rfl)
                case hb26ox89 => kernel_rfl
                case hc26ox89 => kernel_rfl
                case hd26ox89 => kernel_rfl
                case he26ox89 => rfl
                case hy26ox89 => (intro w hSw; (try dsimp only at hSw); go_simp; try with_reducible rfl)
                case hq26ox89 => exact (fun _ _ _ h => h)
                simp only [Act.put, List.setIfInBounds_toArray, List.set_cons_zero, List.set_cons_succ]
                refine wpAnyH_take (i := 27) (oi := ?o27ox90) (v := ?v27ox90) ?hi27ox90 ?hb27ox90 ?hc27ox90 ?hd27ox90 ?hq27ox90 (Or.inl ⟨?he27ox90, ?hy27ox90⟩) (by assumption) ?hr27ox90
                case hi27ox90 => (simp only [List.getElem?_toArray, List.getElem?_cons_succ, List.getElem?_cons_zero]; exact rfl)
                case hb27ox90 => kernel_rfl
                case hc27ox90 => kernel_rfl
                case hd27ox90 => kernel_rfl
                case he27ox90 => rfl
                case hy27ox90 => (intro w hSw; (try dsimp only at hSw); go_simp; try with_reducible rfl)
                case hq27ox90 => exact (fun _ _ _ h => h)
                simp only [Act.put, List.setIfInBounds_toArray, List.set_cons_zero, List.set_cons_succ]
                refine wpAnyH_take (i := 28) (oi := ?o28ox91) (v := ?v28ox91) ?hi28ox91 ?hb28ox91 ?hc28ox91 ?hd28ox91 ?hq28ox91 (Or.inl ⟨?he28ox91, ?hy28ox91⟩) (by assumption) ?hr28ox91
                case hi28ox91 => (simp only [List.getElem?_toArray, List.getElem?_cons_succ, List.getElem?_cons_zero]; exact rfl)
                case hb28ox91 => kernel_rfl
                case hc28ox91 => kernel_rfl
                case hd28ox91 => kernel_rfl
                case he28ox91 => rfl
                case hy28ox91 => (intro w hSw; (try dsimp only at hSw); go_simp; try with_reducible rfl)
                case hq28ox91 => exact (fun _ _ _ h => h)
                simp only [Act.put, List.setIfInBounds_toArray, List.set_cons_zero, List.set_cons_succ]
                refine wpAnyH_take (i := 29) (oi := ?o29ox92) (v := ?v29ox92) ?hi29ox92 ?hb29ox92 ?hc29ox92 ?hd29ox92 ?hq29ox92 (Or.inl ⟨?he29ox92, ?hy29ox92⟩) (by assumption) ?hr29ox92
                case hi29ox92 => (simp only [List.getElem?_toArray, List.getElem?_cons_succ, List.getElem?_cons_zero]; exact rfl)
                case hb29ox92 => kernel_rfl
                case hc29ox92 => kernel_rfl
                case hd29ox92 => kernel_rfl
                case he29ox92 => rfl
                case hy29ox92 => (intro w hSw; (try dsimp only at hSw); go_simp; try with_reducible rfl)
                case hq29ox92 => exact (fun _ _ _ h => h)
                simp only [Act.put, List.setIfInBounds_toArray, List.set_cons_zero, List.set_cons_succ]
                refine wpAnyH_take (i := 30) (oi := ?o30ox93) (v := ?v30ox93) ?hi30ox93 ?hb30ox93 ?hc30ox93 ?hd30ox93 ?hq30ox93 (Or.inl ⟨?he30ox93, ?hy30ox93⟩) (by assumption) ?hr30ox93
                case hi30ox93 => (simp only [List.getElem?_toArray, List.getElem?_cons_succ, List.getElem?_cons_zero]; exact rfl)
                case hb30ox93 => kernel_rfl
                case hc30ox93 => kernel_rfl
                case hd30ox93 => kernel_rfl
                case he30ox93 => rfl
                case hy30ox93 => (intro w hSw; (try dsimp only at hSw); go_simp; try with_reducible rfl)
                case hq30ox93 => exact (fun _ _ _ h => h)
                simp only [Act.put, List.setIfInBounds_toArray, List.set_cons_zero, List.set_cons_succ]
                refine wpAnyH_take (i := 31) (oi := ?o31ox94) (v := ?v31ox94) ?hi31ox94 ?hb31ox94 ?hc31ox94 ?hd31ox94 ?hq31ox94 (Or.inl ⟨?he31ox94, ?hy31ox94⟩) (by assumption) ?hr31ox94
                case hi31ox94 => (simp only [List.getElem?_toArray, List.getElem?_cons_succ, List.getElem?_cons_zero]; exact rfl)
                case hb31ox94 => kernel_rfl
                case hc31ox94 => kernel_rfl
                case hd31ox94 => kernel_rfl
                case he31ox94 => rfl
                case hy31ox94 => (intro w hSw; (try dsimp only at hSw); go_simp; try with_reducible rfl)
                case hq31ox94 => exact (fun _ _ _ h => h)
                simp only [Act.put, List.setIfInBounds_toArray, List.set_cons_zero, List.set_cons_succ]
                refine wpAnyH_take (i := 32) (oi := ?o32ox95) (v := ?v32ox95) ?hi32ox95 ?hb32ox95 ?hc32ox95 ?hd32ox95 ?hq32ox95 (Or.inl ⟨?he32ox95, ?hy32ox95⟩) (by assumption) ?hr32ox95
                case hi32ox95 => (simp only [List.getElem?_toArray, List.getElem?_cons_succ, List.getElem?_cons_zero]; exact rfl)
                case hb32ox95 => kernel_rfl
                case hc32ox95 => kernel_rfl
                case hd32ox95 => kernel_rfl
                case he32ox95 => rfl
                case hy32ox95 => (intro w hSw; (try dsimp only at hSw); go_simp; try with_reducible rfl)
                case hq32ox95 => exact (fun _ _ _ h => h)
                simp only [Act.put, List.setIfInBounds_toArray, List.set_cons_zero, List.set_cons_succ]
                refine wpAnyH_take (i := 33) (oi := ?o33ox96) (v := ?v33ox96) ?hi33ox96 ?hb33ox96 ?hc33ox96 ?hd33ox96 ?hq33ox96 (Or.inl ⟨?he33ox96, ?hy33ox96⟩) (by assumption) ?hr33ox96
                case hi33ox96 => (simp only [List.getElem?_toArray, List.getElem?_cons_succ, List.getElem?_cons_zero]; exact rfl)
                case hb33ox96 => kernel_rfl
                case hc33ox96 => kernel_rfl
                case hd33ox96 => kernel_rfl
                case he33ox96 => rfl
                case hy33ox96 => (intro w hSw; (try dsimp only at hSw); go_simp; try with_reducible rfl)
                case hq33ox96 => exact (fun _ _ _ h => h)
                simp only [Act.put, List.setIfInBounds_toArray, List.set_cons_zero, List.set_cons_succ]
                refine wpAnyH_take (i := 35) (oi := ?o35ox97) (v := ?v35ox97) ?hi35ox97 ?hb35ox97 ?hc35ox97 ?hd35ox97 ?hq35ox97 (Or.inl ⟨?he35ox97, ?hy35ox97⟩) (by assumption) ?hr35ox97
                case hi35ox97 => (simp only [List.getElem?_toArray, List.getElem?_cons_succ, List.getElem?_cons_zero]; exact rfl)
                case hb35ox97 => kernel_rfl
                case hc35ox97 => kernel_rfl
                case hd35ox97 => kernel_rfl
                case he35ox97 => rfl
                case hy35ox97 => (intro w hSw; (try dsimp only at hSw); go_simp; try with_reducible rfl)
                case hq35ox97 => exact (fun _ _ _ h => h)
                simp only [Act.put, List.setIfInBounds_toArray, List.set_cons_zero, List.set_cons_succ]
                refine wpAnyH_take (i := 36) (oi := ?o36ox98) (v := ?v36ox98) ?hi36ox98 ?hb36ox98 ?hc36ox98 ?hd36ox98 ?hq36ox98 (Or.inl ⟨?he36ox98, ?hy36ox98⟩) (by assumption) ?hr36ox98
                case hi36ox98 => (simp only [List.getElem?_toArray, List.getElem?_cons_succ, List.getElem?_cons_zero]; exact rfl)
                case hb36ox98 => kernel_rfl
                case hc36ox98 => kernel_rfl
                case hd36ox98 => kernel_rfl
                case he36ox98 => rfl
                case hy36ox98 => (intro w hSw; (try dsimp only at hSw); go_simp; try with_reducible rfl)
                case hq36ox98 => exact (fun _ _ _ h => h)
                simp only [Act.put, List.setIfInBounds_toArray, List.set_cons_zero, List.set_cons_succ]
                refine wpAnyH_take (i := 37) (oi := ?o37ox99) (v := ?v37ox99) ?hi37ox99 ?hb37ox99 ?hc37ox99 ?hd37ox99 ?hq37ox99 (Or.inl ⟨?he37ox99, ?hy37ox99⟩) (by assumption) ?hr37ox99
                case hi37ox99 => (simp only [List.getElem?_toArray, List.getElem?_cons_succ, List.getElem?_cons_zero]; exact rfl)
                case hb37ox99 => kernel_rfl
                case hc37ox99 => kernel_rfl
                case hd37ox99 => kernel_rfl
                case he37ox99 => rfl
                case hy37ox99 => (intro w hSw; (try dsimp only at hSw); go_simp; try with_reducible rfl)
                case hq37ox99 => exact (fun _ _ _ h => h)
                simp only [Act.put, List.setIfInBounds_toArray, List.set_cons_zero, List.set_cons_succ]
                refine wpAnyH_take (i := 38) (oi := ?o38ox100) (v := ?v38ox100) ?hi38ox100 ?hb38ox100 ?hc38ox100 ?hd38ox100 ?hq38ox100 (Or.inl ⟨?he38ox100, ?hy38ox100⟩) (by assumption) ?hr38ox100
                case hi38ox100 => (simp only [List.getElem?_toArray, List.getElem?_cons_succ, List.getElem?_cons_zero]; exact rfl)
                case hb38ox100 => kernel_rfl
                case hc38ox100 => kernel_rfl
                case hd38ox100 => kernel_rfl
                case he38ox100 => rfl
                case hy38ox100 => (intro w hSw; (try dsimp only at hSw); go_simp; try with_reducible rfl)
                case hq38ox100 => exact (fun _ _ _ h => h)
                simp only [Act.put, List.setIfInBounds_toArray, List.set_cons_zero, List.set_cons_succ]
                refine wpAnyH_take (i := 39) (oi := ?o39ox101) (v := ?v39ox101) ?hi39ox101 ?hb39ox101 ?hc39ox101 ?hd39ox101 ?hq39ox101 (Or.inl ⟨?he39ox101, ?hy39ox101⟩) (by assumption) ?hr39ox101
                case hi39ox101 => (simp only [List.getElem?_toArray, List.getElem?_cons_succ, List.getElem?_cons_zero]; exact rfl)
                case hb39ox101 => kernel_rfl
                case hc39ox101 => kernel_rfl
                case hd39ox101 => kernel_rfl
                case he39ox101 => rfl
                case hy39ox101 => (intro w hSw; (try dsimp only at hSw); go_simp; try with_reducible rfl)
                case hq39ox101 => exact (fun _ _ _ h => h)
                simp only [Act.put, List.setIfInBounds_toArray, List.set_cons_zero, List.set_cons_succ]
                as_aux_lemma =>
                  refine wpAnyH_ready (rs := [34]) (by kernel_rfl) (by simp) ?_
                  refine AllReadyH.cons (o := ?oc34x102) ?hoc34x102 (fun K hK => ?_) AllReadyH.nil
                  case hoc34x102 => (simp only [List.getElem?_toArray, List.getElem?_cons_succ, List.getElem?_cons_zero]; exact rfl)
                  go_simp
                  refine (plen_calls m L C h7).mono ?_
                  rintro e w8 ⟨rfl, rfl⟩
                  go_wp2_with fail
                  refine hK.out _ _ s7 (fun hH => ?_)
                  clear hK K
                  try simp only [Act.put, List.setIfInBounds_toArray, List.set_cons_zero, List.set_cons_succ]
                  refine wpAnyH_take (i := 40) (oi := ?o40ox103) (v := ?v40ox103) ?hi40ox103 ?hb40ox103 ?hc40ox103 ?hd40ox103 ?hq40ox103 (Or.inl ⟨?he40ox103, ?hy40ox103⟩) (by assumption) ?hr40ox103
                  case hi40ox103 => (simp only [List.getElem?_toArray, List.getElem?_cons_succ, List.getElem?_cons_zero]; exact rfl)
                  case hb40ox103 => kernel_rfl
                  case hc40ox103 => kernel_rfl
                  case hd40ox103 => kernel_rfl
                  case he40ox103 => rfl
                  case hy40ox103 => (intro w hSw; (try dsimp only at hSw); go_simp; try with_reducible rfl)
                  case hq40ox103 => exact (fun _ _ _ h => h)
                  simp only [Act.put, List.setIfInBounds_toArray, List.set_cons_zero, List.set_cons_succ]
                  refine wpAnyH_take (i := 41) (oi := ?o41ox104) (v := ?v41ox104) ?hi41ox104 ?hb41ox104 ?hc41ox104 ?hd41ox104 ?hq41ox104 (Or.inl ⟨?he41ox104, ?hy41ox104⟩) (by assumption) ?hr41ox104
                  case hi41ox104 => (simp only [List.getElem?_toArray, List.getElem?_cons_succ, List.getElem?_cons_zero]; exact rfl)
                  case hb41ox104 => kernel_rfl
                  case hc41ox104 => kernel_rfl
                  case hd41ox104 => kernel_rfl
                  case he41ox104 => rfl
                  case hy41ox104 => (intro w hSw; (try dsimp only at hSw); go_simp; try with_reducible rfl)
                  case hq41ox104 => exact (fun _ _ _ h => h)
                  simp only [Act.put, List.setIfInBounds_toArray, List.set_cons_zero, List.set_cons_succ]
                  refine wpAnyH_take (i := 42) (oi := ?o42ox105) (v := ?v42ox105) ?hi42ox105 ?hb42ox105 ?hc42ox105 ?hd42ox105 ?hq42ox105 (Or.inl ⟨?he42ox105, ?hy42ox105⟩) (by assumption) ?hr42ox105
                  case hi42ox105 => (simp only [List.getElem?_toArray, List.getElem?_cons_succ, List.getElem?_cons_zero]; exact rfl)
                  case hb42ox105 => kernel_rfl
                  case hc42ox105 => kernel_rfl
                  case hd42ox105 => kernel_rfl
                  case he42ox105 => rfl
                  case hy42ox105 => (intro w hSw; (try dsimp only at hSw); go_simp; try with_reducible rfl)
                  case hq42ox105 => exact (fun _ _ _ h => h)
                  simp only [Act.put, List.setIfInBounds_toArray, List.set_cons_zero, List.set_cons_succ]
                  refine wpAnyH_take (i := 43) (oi := ?o43ox106) (v := ?v43ox106) ?hi43ox106 ?hb43ox106 ?hc43ox106 ?hd43ox106 ?hq43ox106 (Or.inl ⟨?he43ox106, ?hy43ox106⟩) (by assumption) ?hr43ox106
                  case hi43ox106 => (simp only [List.getElem?_toArray, List.getElem?_cons_succ, List.getElem?_cons_zero]; exact rfl)
                  case hb43ox106 => kernel_rfl
                  case hc43ox106 => kernel_rfl
                  case hd43ox106 => kernel_rfl
                  case he43ox106 => rfl
                  case hy43ox106 => (intro w hSw; (try dsimp only at hSw); go_simp; try with_reducible rfl)
                  case hq43ox106 => exact (fun _ _ _ h => h)
                  simp only [Act.put, List.setIfInBounds_toArray, List.set_cons_zero, List.set_cons_succ]
                  refine wpAnyH_take (i := 46) (oi := ?o46ox107) (v := ?v46ox107) ?hi46ox107 ?hb46ox107 ?hc46ox107 ?hd46ox107 ?hq46ox107 (Or.inl ⟨?he46ox107, ?hy46ox107⟩) (by assumption) ?hr46ox107
                  case hi46ox107 => (simp only [List.getElem?_toArray, List.getElem?_cons_succ, List.getElem?_cons_zero]; exact rfl)
                  case hb46ox107 => kernel_rfl
                  case hc46ox107 => kernel_rfl
                  case hd46ox107 => kernel_rfl
                  case he46ox107 => rfl
                  case hy46ox107 => (intro w hSw; (try dsimp only at hSw); go_simp; try with_reducible rfl)
                  case hq46ox107 => exact (fun _ _ _ h => h)
                  simp only [Act.put, List.setIfInBounds_toArray, List.set_cons_zero, List.set_cons_succ]
                  refine wpAnyH_take (i := 47) (oi := ?o47ox108) (v := ?v47ox108) ?hi47ox108 ?hb47ox108 ?hc47ox108 ?hd47ox108 ?hq47ox108 (Or.inl ⟨?he47ox108, ?hy47ox108⟩) (by assumption) ?hr47ox108
                  case hi47ox108 => (simp only [List.getElem?_toArray, List.getElem?_cons_succ, List.getElem?_cons_zero]; exact rfl)
                  case hb47ox108 => kernel_rfl
                  case hc47ox108 => kernel_rfl
                  case hd47ox108 => kernel_rfl
                  case he47ox108 => rfl
                  case hy47ox108 => (intro w hSw; (try dsimp only at hSw); go_simp; try with_reducible rfl)
                  case hq47ox108 => exact (fun _ _ _ h => h)
                  simp only [Act.put, List.setIfInBounds_toArray, List.set_cons_zero, List.set_cons_succ]
                  refine wpAnyH_take (i := 48) (oi := ?o48ox109) (v := ?v48ox109) ?hi48ox109 ?hb48ox109 ?hc48ox109 ?hd48ox109 ?hq48ox109 (Or.inl ⟨?he48ox109, ?hy48ox109⟩) (by assumption) ?hr48ox109
                  case hi48ox109 => (simp only [List.getElem?_toArray, List.getElem?_cons_succ, List.getElem?_cons_zero]; exact rfl)
                  case hb48ox109 => kernel_rfl
                  case hc48ox109 => kernel_rfl
                  case hd48ox109 => kernel_rfl
                  case he48ox109 => rfl
                  case hy48ox109 => (intro w hSw; (try dsimp only at hSw); go_simp; try with_reducible rfl)
                  case hq48ox109 => exact (fun _ _ _ h => h)
                  simp only [Act.put, List.setIfInBounds_toArray, List.set_cons_zero, List.set_cons_succ]
                  refine wpAnyH_take (i := 49) (oi := ?o49ox110) (v := ?v49ox110) ?hi49ox110 ?hb49ox110 ?hc49ox110 ?hd49ox110 ?hq49ox110 (Or.inl ⟨?he49ox110, ?hy49ox110⟩) (by assumption) ?hr49ox110
                  case hi49ox110 => (simp only [List.getElem?_toArray, List.getElem?_cons_succ, List.getElem?_cons_zero]; exact rfl)
                  case hb49ox110 => kernel_rfl
                  case hc49ox110 => kernel_rfl
                  case hd49ox110 => kernel_rfl
                  case he49ox110 => rfl
                  case hy49ox110 => (intro w hSw; (try dsimp only at hSw); go_simp; try with_reducible rfl)
                  case hq49ox110 => exact (fun _ _ _ h => h)
                  simp only [Act.put, List.setIfInBounds_toArray, List.set_cons_zero, List.set_cons_succ]
                  refine wpAnyH_ready (rs := [44]) (by kernel_rfl) (by simp) ?_
                  refine AllReadyH.cons (o := ?oc44x111) ?hoc44x111 (fun K hK => ?_) AllReadyH.nil
                  case hoc44x111 => (simp only [List.getElem?_toArray, List.getElem?_cons_succ, List.getElem?_cons_zero]; exact rfl)
                  go_simp
                  refine (all_calls m L C h7 (by omega)).mono ?_
                  rintro e w9 ⟨v9, rfl, h9⟩
                  obtain ⟨A9, c9, rfl, _, _, _⟩ := h9.reads
                  have s9 := (hS h9).1
                  go_wp2_with fail
                  refine hK.out _ _ s9 (fun hH => ?_)
                  clear hK K
                  try simp only [Act.put, List.setIfInBounds_toArray, List.set_cons_zero, List.set_cons_succ]
                  refine wpAnyH_ready (rs := [45]) (by kernel_rfl) (by simp) ?_
                  refine AllReadyH.cons (o := ?oc45x112) ?hoc45x112 (fun K hK => ?_) AllReadyH.nil
                  case hoc45x112 => (simp only [List.getElem?_toArray, List.getElem?_cons_succ, List.getElem?_cons_zero]; exact rfl)
                  go_simp
                  refine (places_calls A9 c9 L h9 (by omega) (fun w h => h.reads_at)).mono ?_
                  rintro e w10 ⟨v10, rfl, h10⟩
                  obtain ⟨A10, c10, rfl, _, _, _⟩ := h10.reads
                  have s10 := (hS h10.right).1
                  go_wp2_with fail
                  refine hK.out _ _ s10 (fun hH => ?_)
                  clear hK K
                  try simp only [Act.put, List.setIfInBounds_toArray, List.set_cons_zero, List.set_cons_succ]
                  refine wpAnyH_ready (rs := [50]) (by kernel_rfl) (by simp) ?_
                  refine AllReadyH.cons (o := ?oc50x113) ?hoc50x113 (fun K hK => ?_) AllReadyH.nil
                  case hoc50x113 => (simp only [List.getElem?_toArray, List.getElem?_cons_succ, List.getElem?_cons_zero]; exact rfl)
                  go_simp
                  refine (samePlaces A10 Ax L.length L.length c10 cx L L h10.reads_at (hS h10.right).2).mono ?_
                  rw [decide_eq_true (rfl : L = L)]
                  rintro e w11 ⟨rfl, nq2, rfl⟩
                  have h11 := h10.right.right.drewN nq2
                  have s11 := (hS (h11.eq (emp_star _).symm)).1
                  go_wp2_with fail
                  refine hK.out _ _ s11 (fun hH => ?_)
                  clear hK K
                  try simp only [Act.put, List.setIfInBounds_toArray, List.set_cons_zero, List.set_cons_succ]
                  refine wpAnyH_take (i := 51) (oi := ?o51ox114) (v := ?v51ox114) ?hi51ox114 ?hb51ox114 ?hc51ox114 ?hd51ox114 ?hq51ox114 (Or.inl ⟨?he51ox114, ?hy51ox114⟩) (by assumption) ?hr51ox114
                  case hi51ox114 => (simp only [List.getElem?_toArray, List.getElem?_cons_succ, List.getElem?_cons_zero]; exact rfl)
                  case hb51ox114 => kernel_rfl
                  case hc51ox114 => kernel_rfl
                  case hd51ox114 => kernel_rfl
                  case he51ox114 => rfl
                  case hy51ox114 => (intro w hSw; (try dsimp only at hSw); go_simp; try with_reducible rfl)
                  case hq51ox114 => exact (fun _ _ _ h => h)
                  simp only [Act.put, List.setIfInBounds_toArray, List.set_cons_zero, List.set_cons_succ]
                  refine wpAnyH_take (i := 52) (oi := ?o52ox115) (v := ?v52ox115) ?hi52ox115 ?hb52ox115 ?hc52ox115 ?hd52ox115 ?hq52ox115 (Or.inl ⟨?he52ox115, ?hy52ox115⟩) (by assumption) ?hr52ox115
                  case hi52ox115 => (simp only [List.getElem?_toArray, List.getElem?_cons_succ, List.getElem?_cons_zero]; exact rfl)
                  case hb52ox115 => kernel_rfl
                  case hc52ox115 => kernel_rfl
                  case hd52ox115 => kernel_rfl
                  case he52ox115 => rfl
                  case hy52ox115 => (intro w hSw; (try dsimp only at hSw); go_simp; try with_reducible rfl)
                  case hq52ox115 => exact (fun _ _ _ h => h)
                  simp only [Act.put, List.setIfInBounds_toArray, List.set_cons_zero, List.set_cons_succ]
                  refine wpAnyH_take (i := 53) (oi := ?o53ox116) (v := ?v53ox116) ?hi53ox116 ?hb53ox116 ?hc53ox116 ?hd53ox116 ?hq53ox116 (Or.inl ⟨?he53ox116, ?hy53ox116⟩) (by assumption) ?hr53ox116
                  case hi53ox116 => (simp only [List.getElem?_toArray, List.getElem?_cons_succ, List.getElem?_cons_zero]; exact rfl)
                  case hb53ox116 => kernel_rfl
                  case hc53ox116 => kernel_rfl
                  case hd53ox116 => kernel_rfl
                  case he53ox116 => rfl
                  case hy53ox116 => (intro w hSw; (try dsimp only at hSw); go_simp; try with_reducible rfl)
                  case hq53ox116 => exact (fun _ _ _ h => h)
                  simp only [Act.put, List.setIfInBounds_toArray, List.set_cons_zero, List.set_cons_succ]
                  refine wpAnyH_take (i := 54) (oi := ?o54ox117) (v := ?v54ox117) ?hi54ox117 ?hb54ox117 ?hc54ox117 ?hd54ox117 ?hq54ox117 (Or.inl ⟨?he54ox117, ?hy54ox117⟩) (by assumption) ?hr54ox117
                  case hi54ox117 => (simp only [List.getElem?_toArray, List.getElem?_cons_succ, List.getElem?_cons_zero]; exact rfl)
                  case hb54ox117 => kernel_rfl
                  case hc54ox117 => kernel_rfl
                  case hd54ox117 => kernel_rfl
                  case he54ox117 => rfl
                  case hy54ox117 => (intro w hSw; (try dsimp only at hSw); go_simp; try with_reducible rfl)
                  case hq54ox117 => exact (fun _ _ _ h => h)
                  simp only [Act.put, List.setIfInBounds_toArray, List.set_cons_zero, List.set_cons_succ]
                  refine wpAnyH_take (i := 57) (oi := ?o57ox118) (v := ?v57ox118) ?hi57ox118 ?hb57ox118 ?hc57ox118 ?hd57ox118 ?hq57ox118 (Or.inl ⟨?he57ox118, ?hy57ox118⟩) (by assumption) ?hr57ox118
                  case hi57ox118 => (simp only [List.getElem?_toArray, List.getElem?_cons_succ, List.getElem?_cons_zero]; exact rfl)
                  case hb57ox118 => kernel_rfl
                  case hc57ox118 => kernel_rfl
                  case hd57ox118 => kernel_rfl
                  case he57ox118 => rfl
                  case hy57ox118 => (intro w hSw; (try dsimp only at hSw); go_simp; try with_reducible rfl)
                  case hq57ox118 => exact (fun _ _ _ h => h)
                  simp only [Act.put, List.setIfInBounds_toArray, List.set_cons_zero, List.set_cons_succ]
                  refine wpAnyH_ready (rs := [55]) (by kernel_rfl) (by simp) ?_
                  refine AllReadyH.cons (o := ?oc55x119) ?hoc55x119 (fun K hK => ?_) AllReadyH.nil
                  case hoc55x119 => (simp only [List.getElem?_toArray, List.getElem?_cons_succ, List.getElem?_cons_zero]; exact rfl)
                  go_simp
                  refine (changes_calls m L C h11 (by omega)).mono ?_
                  rintro e w24 ⟨v24, rfl, h24⟩
                  obtain ⟨A24, c24, rfl, _, _, _⟩ := h24.reads
                  have s24 := (hS h24).1
                  go_wp2_with fail
                  refine hK.out _ _ s24 (fun hH => ?_)
                  clear hK K
                  try simp only [Act.put, List.setIfInBounds_toArray, List.set_cons_zero, List.set_cons_succ]
                  refine wpAnyH_ready (rs := [56]) (by kernel_rfl) (by simp) ?_
                  refine AllReadyH.cons (o := ?oc56x120) ?hoc56x120 (fun K hK => ?_) AllReadyH.nil
                  case hoc56x120 => (simp only [List.getElem?_toArray, List.getElem?_cons_succ, List.getElem?_cons_zero]; exact rfl)
                  go_simp
                  refine (cchanges_calls A24 c24 (chgs L C) h24 (by omega) (fun w h => h.reads_at)).mono ?_
                  rintro e w43 ⟨v43, rfl, h43⟩
                  obtain ⟨A43, c43, rfl, _, _, _⟩ := h43.reads
                  have s43 := (hS h43.right).1
                  go_wp2_with fail
                  refine hK.out _ _ s43 (fun hH => ?_)
                  clear hK K
                  try simp only [Act.put, List.setIfInBounds_toArray, List.set_cons_zero, List.set_cons_succ]
                  refine wpAnyH_ready (rs := [58]) (by kernel_rfl) (by simp) ?_
                  refine AllReadyH.cons (o := ?oc58x121) ?hoc58x121 (fun K hK => ?_) AllReadyH.nil
                  case hoc58x121 => (simp only [List.getElem?_toArray, List.getElem?_cons_succ, List.getElem?_cons_zero]; exact rfl)
                  go_simp
                  refine (hXo (h43.eq (star_assoc _ _ _).symm)).mono ?_
                  rintro e w46 ⟨v46, rfl, h460⟩
                  have h46 := h460.eq (congrArg _ (star_assoc _ _ _))
                  obtain ⟨A46, c46, rfl, _, _, _⟩ := h46.reads
                  have s46 := (hS h46.right.right).1
                  go_wp2_with fail
                  refine hK.out _ _ s46 (fun hH => ?_)
                  clear hK K
                  try simp only [Act.put, List.setIfInBounds_toArray, List.set_cons_zero, List.set_cons_succ]
                  refine wpAnyH_ready (rs := [59]) (by kernel_rfl) (by simp) ?_
                  refine AllReadyH.cons (o := ?oc59x122) ?hoc59x122 (fun K hK => ?_) AllReadyH.nil
                  case hoc59x122 => (simp only [List.getElem?_toArray, List.getElem?_cons_succ, List.getElem?_cons_zero]; exact rfl)
                  go_simp
                  refine (sameChanges A43 A46 (chgs L C).length (chgs L C).length c43 c46 (chgs L C) (chgs L C) h46.right.reads_at h46.reads_at).mono ?_
                  rw [decide_eq_true (rfl : chgs L C = chgs L C)]
                  rintro e w45 ⟨rfl, nq3, rfl⟩
                  have hfin := h46.right.right.right.drewN nq3
                  have s45 := (hS (hfin.eq (emp_star _).symm)).1
                  go_wp2_with fail
                  refine hK.out _ _ s45 (fun hH => ?_)
                  clear hK K
                  try simp only [Act.put, List.setIfInBounds_toArray, List.set_cons_zero, List.set_cons_succ]
                  refine wpAnyH_take (i := 60) (oi := ?o60oxx123) (v := ?v60oxx123) ?hi60oxx123 ?hb60oxx123 ?hc60oxx123 ?hd60oxx123 ?hq60oxx123 (Or.inl ⟨?he60oxx123, ?hy60oxx123⟩) (by assumption) ?hr60oxx123
                  case hi60oxx123 => (simp only [List.getElem?_toArray, List.getElem?_cons_succ, List.getElem?_cons_zero]; exact rfl)
                  case hb60oxx123 => kernel_rfl
                  case hc60oxx123 => kernel_rfl
                  case hd60oxx123 => kernel_rfl
                  case he60oxx123 => rfl
                  case hy60oxx123 => (intro w hSw; (try dsimp only at hSw); go_simp; try with_reducible rfl)
                  case hq60oxx123 => exact (fun _ _ _ h => h)
                  simp only [Act.put, List.setIfInBounds_toArray, List.set_cons_zero, List.set_cons_succ]
                  refine wpAnyH_take (i := 61) (oi := ?o61oxx124) (v := ?v61oxx124) ?hi61oxx124 ?hb61oxx124 ?hc61oxx124 ?hd61oxx124 ?hq61oxx124 (Or.inl ⟨?he61oxx124, ?hy61oxx124⟩) (by assumption) ?hr61oxx124
                  case hi61oxx124 => (simp only [List.getElem?_toArray, List.getElem?_cons_succ, List.getElem?_cons_zero]; exact rfl)
                  case hb61oxx124 => kernel_rfl
                  case hc61oxx124 => kernel_rfl
                  case hd61oxx124 => kernel_rfl
                  case he61oxx124 => rfl
                  case hy61oxx124 => (intro w hSw; (try dsimp only at hSw); go_simp; try with_reducible rfl)
                  case hq61oxx124 => exact (fun _ _ _ h => h)
                  simp only [Act.put, List.setIfInBounds_toArray, List.set_cons_zero, List.set_cons_succ]
                  refine wpAnyH_done (by kernel_rfl) ?_ _
                  have hend := hF hfin
                  go_wp2
                  go_roundw
                  case rel => exact ⟨k + 1, L, C, by omega, by go_num, HL, hend⟩
                  case measure => simp [intOf]; omega
      · have hkd : ¬ (k : Int) < (ops.length : Int) := by omega
        go_wp2_with fail
        refine (first8 hr.right.right).mono ?_
        rintro e w3 ⟨rfl, g3⟩
        go_wp2
        go_ret
        exact ⟨rfl, g3⟩
  · go_wp2_with fail
    refine (first8 g2).mono ?_
    rintro e w3 ⟨rfl, g3⟩
    go_wp2
    go_ret
    exact ⟨rfl, g3⟩
end Go.Proofs.Ytedhcgeglmoacaa
