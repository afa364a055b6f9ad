import Derived.Test.YtedhcgeglmoacaaRound9
namespace Go.Proofs.Ytedhcgeglmoacaa
set_option linter.unusedVariables false
set_option linter.unusedSimpArgs false
open Go.RowKit Go.Proofs.Sep

/-- Rows of copies. -/
def cps : List (Value × List Int) → Asn
  | [] => emp
  | x :: P => row 3 1 x.1 x.2.length (nums .i64 x.2) * cps P
theorem cps_snoc (P : List (Value × List Int)) (x : Value × List Int) : cps (P ++ [x]) = row 3 1 x.1 x.2.length (nums .i64 x.2) * cps P := by
  induction P with
  | nil => rfl
  | cons a P ih =>
    show row 3 1 a.1 a.2.length (nums .i64 a.2) * cps (P ++ [x]) = _ * (row 3 1 a.1 a.2.length (nums .i64 a.2) * cps P)
    rw [ih, star_left_comm]
theorem cps_at {E w : World} {P : List (Value × List Int)} : ∀ {G : Asn}, Sat E (cps P * G) w → ∀ i (hi : i < P.length), ∃ Ai ci, P[i].1 = .slice Ai P[i].2.length ci ∧ P[i].2.length ≤ ci ∧ Reads w 1 Ai P[i].2.length (nums .i64 P[i].2) := by
  induction P with
  | nil => intro G h i hi; simp at hi
  | cons a P ih =>
    intro G h i hi
    have h' : Sat E (row 3 1 a.1 a.2.length (nums .i64 a.2) * (cps P * G)) w := h.eq (star_assoc _ _ _)
    cases i with
    | zero =>
      obtain ⟨Ai, ci, e1, e2, _, e4⟩ := h'.reads
      exact ⟨Ai, ci, e1, e2, e4⟩
    | succ i => exact ih h'.right i (by simpa using hi)
theorem cps_needs {E w : World} {P : List (Value × List Int)} {G : Asn} {l : List (List Int)} (h : Sat E (cps P * G) w) (hl : P.map (·.2) = l) : NeedsIn w l (P.map (·.1)) := by
  subst hl
  intro i hi
  have hi' : i < P.length := by simpa using hi
  obtain ⟨Ai, ci, e1, e2, e3⟩ := cps_at h i hi'
  simp only [List.getElem_map]
  exact ⟨Ai, ci, by rw [List.getElem?_map, List.getElem?_eq_getElem hi', Option.map_some, e1], e2, e3⟩

set_option maxRecDepth 100000 in
set_option maxHeartbeats 6000000 in
theorem roundCollects_ok {E w : World} {F : Asn} (x : Int) (m : Nat) (A B C : Option Addr) (n ca cb cc : Nat) (hv : List Int) (l : List (List Int)) (hd : List Value) (ids : List Int) (hb : bnd x = m) (hx : x ≤ 10000) (hn : n ≤ 200) (hil : ids.length ≤ 200) (hic : ids.length ≤ cc) (hS : Sat E F w)
    (hR : ∀ w, Sat E F w → Reads w 1 A n (nums .i64 hv)) (hQ : ∀ w, Sat E F w → Reads w 1 B l.length hd) (hO : ∀ w, Sat E F w → NeedsIn w l hd) (hI : ∀ w, Sat E F w → Reads w 1 C ids.length (nums .i64 ids)) :
    Calls Try.prog 11 #[.int .i64 x, .slice A n ca, .slice B l.length cb, .slice C ids.length cc] w fun e w' => e = .returned (.bool true) ∧ Sat E F w' := by
  have hf1 : ¬ (200 : Int) < (n : Int) := by omega
  have hf2 : ¬ (200 : Int) < (ids.length : Int) := by omega
  have hf3 : ¬ (10000 : Int) < x := by omega
  go_enter Try.func11, Try.ntmps11
  go_wp2_with fail
  refine (first21 hS).mono ?_
  rintro e w1 ⟨rfl, g1⟩
  go_wp2_with fail
  refine (few21 B cb l hd g1 hQ hO).mono ?_
  rintro e w2 ⟨⟨rfl, hl1, hl2⟩ | rfl, g2⟩
  · have hNl : ∀ i (hi : i < l.length), l[i].length ≤ 2000 := fun i hi => by have := le_sumLen l i hi; omega
    clear g1 hS
    go_wp2_with fail
    go_loopw [9, 10] (fun v i wr => ∃ (k : Nat) (P : List (Value × List Int)), k ≤ l.length ∧ i = .int .i64 k ∧ Hid (P.map (·.2) = l.take k) ∧ Sat E (row 22 1 v k (P.map (·.1)) * (cps P * F)) wr) (fun _ i _ => l.length - (intOf i).toNat)
    case atStart => exact ⟨0, [], by omega, rfl, rfl, (g2.eq (emp_star F).symm).row_nil⟩
    case round =>
      clear g2
      obtain ⟨k, P, hk, rfl, hP, hr⟩ := hrel
      obtain ⟨Av, cv, rfl, _, _, _⟩ := hr.reads
      by_cases hlt : k < l.length
      · obtain ⟨ad, Ai, ci, rfl, q1, q2, q3⟩ := need_at hQ hO rfl hlt hr.right.right
        have hNk := hNl k hlt
        have hkd : (k : Int) < (l.length : Int) := by omega
        have hca := (q3 _ hr.right.right).1
        have hci := (q3 _ hr.right.right).2
        go_wp2_with fail
        refine (copyInts Ai l[k].length ci _ hr hci (nums_one _ _) (by omega)).mono ?_
        rintro e w3 ⟨v, rfl, g3⟩
        obtain ⟨Ac, cc2, rfl, _, _, _⟩ := g3.reads
        have hP2 : (P ++ [(Value.slice Ac l[k].length cc2, l[k])]).map (·.2) = l.take (k + 1) := by
          rw [List.map_append, hP.out, List.take_add_one, List.getElem?_eq_getElem hlt]
          rfl
        have HP2 := hid hP2
        have g4 : Sat E (row 22 1 (.slice Av k cv) k (P.map (·.1)) * (cps (P ++ [(Value.slice Ac l[k].length cc2, l[k])]) * F)) w3 := by
          rw [cps_snoc]
          exact g3.eq (by ac_rfl)
        have hny : P.map (·.1) ++ [Value.slice Ac l[k].length cc2] = (P ++ [(Value.slice Ac l[k].length cc2, l[k])]).map (·.1) := by simp
        have HN := hid hny
        clear hP2 hny g3 hr hca hci q3
        go_wp2_with (at_builtin; refine wpList_append_sat rfl _ _ 93 22 (.slice none 0 0) 1 24 rfl Try.underlying93 Try.info22 rfl (by decide) _ k _ _ 1 1 [Value.slice Ac l[k].length cc2] rfl rfl (g4.alloc_drop _) (Reads.new 1 1 [Value.slice Ac l[k].length cc2] 22 rfl (by omega)) (by simp [Value.oneCell']) (by unfold maxLen; omega) (by omega) ?_; intro v1 w6 h6)
        rw [HN.out] at h6
        go_wp2
        go_roundw
        case rel => exact ⟨k + 1, _, by omega, by go_num, HP2, h6⟩
        case measure => simp [intOf]; omega
      · obtain rfl : k = l.length := by omega
        have hPl := hP.out
        rw [List.take_length] at hPl
        have hcc := collect_calls (F := row 22 1 (.slice Av l.length cv) l.length (P.map (·.1)) * (cps P * F)) x m A Av n ca cv hv l _ hb hr (by omega) (fun i hi => by have := hNl i hi; omega) (fun w h => hR w h.right.right) (fun w h => h.reads_at) (fun w h => cps_needs h.right hPl)
        have hrc : ∀ (w : World) (G : Asn) (hG : ∀ w, Sat E G w → Sat E F w), Sat E G w → Calls Try.prog 50 #[.int .i64 x, .slice A n ca, .slice B l.length cb] w fun e w' => ∃ v1 v2, e = .returned (.tuple #[v1, v2]) ∧ Sat E (row 3 1 v1 (coll m hv l).1.length (nums .i64 (coll m hv l).1) * (row 4 1 v2 l.length (bools (coll m hv l).2) * G)) w' := fun w G hG hS =>
          rcollect_calls x m A B n ca cb hv l hd hb hx hS (by omega) (fun i hi => by have := hNl i hi; omega) (fun w h => hR w (hG w h)) (fun w h => hQ w (hG w h)) (fun w h => hO w (hG w h))
        generalize coll m hv l = s at *
        obtain ⟨out, late⟩ := s
        simp only at hcc hrc
        have HP := hid hPl
        clear hPl hP hNl
        go_wp2_with fail
        refine hcc.mono ?_
        clear hcc hr
        rintro e w3 ⟨v1, v2, rfl, g3⟩
        obtain ⟨A1, c1, rfl, _, _, _⟩ := g3.reads
        obtain ⟨A2, c2, rfl, _, _, _⟩ := g3.right.reads
        have g4 := g3.alloc (.cells #[.slice A1 out.length c1, .slice A2 l.length c2] 96)
        clear g3
        go_wp2_with fail
        refine (hrc _ _ (fun w h => h.right.right.right.right.right) g4).mono ?_
        clear hrc
        rintro e w4 ⟨v3, v4, rfl, g5⟩
        obtain ⟨A3, c3, rfl, _, _, _⟩ := g5.reads
        obtain ⟨A4, c4, rfl, _, _, _⟩ := g5.right.reads
        clear g4
        have eb1 : ∀ {w}, Sat E (row 3 1 (.slice A3 out.length c3) out.length (nums .i64 out) * (row 4 1 (.slice A4 l.length c4) l.length (bools late) * (blk w3.heap.size (.cells #[.slice A1 out.length c1, .slice A2 l.length c2] 96) * (row 3 1 (.slice A1 out.length c1) out.length (nums .i64 out) * (row 4 1 (.slice A2 l.length c2) l.length (bools late) * (row 22 1 (.slice Av l.length cv) l.length (P.map (·.1)) * (cps P * F))))))) w → w.cell? ⟨w3.heap.size, 0, none⟩ = some (.slice A1 out.length c1) := fun h => h.right.right.cell_blk
        have eb2 : ∀ {w}, Sat E (row 3 1 (.slice A3 out.length c3) out.length (nums .i64 out) * (row 4 1 (.slice A4 l.length c4) l.length (bools late) * (blk w3.heap.size (.cells #[.slice A1 out.length c1, .slice A2 l.length c2] 96) * (row 3 1 (.slice A1 out.length c1) out.length (nums .i64 out) * (row 4 1 (.slice A2 l.length c2) l.length (bools late) * (row 22 1 (.slice Av l.length cv) l.length (P.map (·.1)) * (cps P * F))))))) w → w.cell? ⟨w3.heap.size, 1, none⟩ = some (.slice A2 l.length c2) := fun h => h.right.right.cell_blk
        have eX : ∀ {w}, Sat E (row 3 1 (.slice A3 out.length c3) out.length (nums .i64 out) * (row 4 1 (.slice A4 l.length c4) l.length (bools late) * (blk w3.heap.size (.cells #[.slice A1 out.length c1, .slice A2 l.length c2] 96) * (row 3 1 (.slice A1 out.length c1) out.length (nums .i64 out) * (row 4 1 (.slice A2 l.length c2) l.length (bools late) * (row 22 1 (.slice Av l.length cv) l.length (P.map (·.1)) * (cps P * F))))))) w → Reads w 1 A3 out.length (nums .i64 out) := fun h => h.reads_at
        have eY : ∀ {w}, Sat E (row 3 1 (.slice A3 out.length c3) out.length (nums .i64 out) * (row 4 1 (.slice A4 l.length c4) l.length (bools late) * (blk w3.heap.size (.cells #[.slice A1 out.length c1, .slice A2 l.length c2] 96) * (row 3 1 (.slice A1 out.length c1) out.length (nums .i64 out) * (row 4 1 (.slice A2 l.length c2) l.length (bools late) * (row 22 1 (.slice Av l.length cv) l.length (P.map (·.1)) * (cps P * F))))))) w → Reads w 1 A4 l.length (bools late) := fun h => h.right.reads_at
        have eI : ∀ {w}, Sat E (row 3 1 (.slice A3 out.length c3) out.length (nums .i64 out) * (row 4 1 (.slice A4 l.length c4) l.length (bools late) * (blk w3.heap.size (.cells #[.slice A1 out.length c1, .slice A2 l.length c2] 96) * (row 3 1 (.slice A1 out.length c1) out.length (nums .i64 out) * (row 4 1 (.slice A2 l.length c2) l.length (bools late) * (row 22 1 (.slice Av l.length cv) l.length (P.map (·.1)) * (cps P * F))))))) w → Reads w 1 A1 out.length (nums .i64 out) := fun h => h.right.right.right.reads_at
        have eL : ∀ {w}, Sat E (row 3 1 (.slice A3 out.length c3) out.length (nums .i64 out) * (row 4 1 (.slice A4 l.length c4) l.length (bools late) * (blk w3.heap.size (.cells #[.slice A1 out.length c1, .slice A2 l.length c2] 96) * (row 3 1 (.slice A1 out.length c1) out.length (nums .i64 out) * (row 4 1 (.slice A2 l.length c2) l.length (bools late) * (row 22 1 (.slice Av l.length cv) l.length (P.map (·.1)) * (cps P * F))))))) w → Reads w 1 A2 l.length (bools late) := fun h => h.right.right.right.right.reads_at
        have eH : ∀ {w}, Sat E (row 3 1 (.slice A3 out.length c3) out.length (nums .i64 out) * (row 4 1 (.slice A4 l.length c4) l.length (bools late) * (blk w3.heap.size (.cells #[.slice A1 out.length c1, .slice A2 l.length c2] 96) * (row 3 1 (.slice A1 out.length c1) out.length (nums .i64 out) * (row 4 1 (.slice A2 l.length c2) l.length (bools late) * (row 22 1 (.slice Av l.length cv) l.length (P.map (·.1)) * (cps P * F))))))) w → Reads w 1 Av l.length (P.map (·.1)) := fun h => h.right.right.right.right.right.reads_at
        have eC : ∀ {w}, Sat E (row 3 1 (.slice A3 out.length c3) out.length (nums .i64 out) * (row 4 1 (.slice A4 l.length c4) l.length (bools late) * (blk w3.heap.size (.cells #[.slice A1 out.length c1, .slice A2 l.length c2] 96) * (row 3 1 (.slice A1 out.length c1) out.length (nums .i64 out) * (row 4 1 (.slice A2 l.length c2) l.length (bools late) * (row 22 1 (.slice Av l.length cv) l.length (P.map (·.1)) * (cps P * F))))))) w → NeedsIn w l (P.map (·.1)) := fun h => cps_needs h.right.right.right.right.right.right HP.out
        have eF : ∀ {w}, Sat E (row 3 1 (.slice A3 out.length c3) out.length (nums .i64 out) * (row 4 1 (.slice A4 l.length c4) l.length (bools late) * (blk w3.heap.size (.cells #[.slice A1 out.length c1, .slice A2 l.length c2] 96) * (row 3 1 (.slice A1 out.length c1) out.length (nums .i64 out) * (row 4 1 (.slice A2 l.length c2) l.length (bools late) * (row 22 1 (.slice Av l.length cv) l.length (P.map (·.1)) * (cps P * F))))))) w → Sat E F w := fun h => h.right.right.right.right.right.right.right
        generalize hX : row 3 1 (.slice A3 out.length c3) out.length (nums .i64 out) * (row 4 1 (.slice A4 l.length c4) l.length (bools late) * (blk w3.heap.size (.cells #[.slice A1 out.length c1, .slice A2 l.length c2] 96) * (row 3 1 (.slice A1 out.length c1) out.length (nums .i64 out) * (row 4 1 (.slice A2 l.length c2) l.length (bools late) * (row 22 1 (.slice Av l.length cv) l.length (P.map (·.1)) * (cps P * F)))))) = X at *
        clear hX
        go_wp2_with fail
        go_loopw [14] (fun i wr => ∃ k : Nat, k ≤ l.length ∧ i = .int .i64 k ∧ Sat E X wr) (fun i _ => l.length - (intOf i).toNat)
        case atStart => exact ⟨0, by omega, rfl, g5⟩
        case round =>
          clear g5 hk hlt
          obtain ⟨k, hk, rfl, hr⟩ := hrel
          by_cases hlt : k < l.length
          · have hkd : (k : Int) < (l.length : Int) := by omega
            obtain ⟨ad, Ai, ci, rfl, q1, q2, q3⟩ := need_at hQ hO rfl hlt (eF hr)
            obtain ⟨bd, Bi, di, hbd, p1, p2, p3⟩ := need_at (E := E) (F := X) (fun w h => eH h) (fun w h => eC h) rfl hlt hr
            subst hbd
            have s0 : ∀ s : SW E X, s.w.cell? (ad.add k) = some (.slice Ai l[k].length ci) := fun s => (q3 _ (eF s.h)).1
            have s1 : ∀ s : SW E X, s.w.cell? (bd.add k) = some (.slice Bi l[k].length di) := fun s => (p3 _ s.h).1
            have cl : ∀ s : SW E X, Calls Try.prog 51 #[.slice Bi l[k].length di, .slice Ai l[k].length ci] s.w fun e w'' => e = .returned (.bool true) ∧ ∃ s' : SW E X, w'' = s'.w := fun s => by
              have := ints_sat Bi Ai l[k].length l[k].length di ci l[k] l[k] s.h (p3 _ s.h).2 (q3 _ (eF s.h)).2
              rw [decide_eq_true rfl] at this
              exact quietS this
            clear q3 p3
            go_wp2_with fail
            refine wp_region_quietS _ (by kernel_rfl) (by kernel_rfl) hr ?_
            intro hne
            repeat (go_big_quiet_step (first | (go_at_call 51; exact cl _)))
            refine wpQuiet_nil ?_
            intro w12 hw'
            have h12 := SW.out hw'
            clear hw' hne
            go_wp2
            go_roundw
            case rel => exact ⟨k + 1, by omega, by go_num, h12⟩
            case measure => simp [intOf]; omega
          · have HRL := fun k : Nat => real_le (ids.take k)
            go_wp2_with fail
            go_loopw [15, 16] (fun s i wr => ∃ k t : Nat, k ≤ ids.length ∧ i = .int .i64 k ∧ s = .int .i64 t ∧ t ≤ k ∧ Hid (t = real (ids.take k)) ∧ Sat E X wr) (fun _ i _ => ids.length - (intOf i).toNat)
            case atStart => exact ⟨0, 0, by omega, rfl, rfl, by omega, rfl, hr⟩
            case round =>
              clear hr hk hlt
              obtain ⟨k, t, hk, rfl, rfl, htk, ht, hr⟩ := hrel
              by_cases hlt : k < ids.length
              · obtain ⟨ad, rfl, hc⟩ := (hI _ (eF hr)).at (by omega)
                have hca := hc k _ (nums_at hlt)
                clear hc
                have hrt := hid (real_take hlt)
                have wt := i64_wrap (x := (t : Int) + 1) (by omega) (by omega)
                have hkd : (k : Int) < (ids.length : Int) := by omega
                by_cases hx : 0 ≤ ids[k]
                · have HX := hid hx
                  go_wp2
                  go_roundw
                  case rel => exact ⟨k + 1, t + 1, by omega, by go_num, by go_num, by omega, by rw [hrt.out, if_pos HX.out, ← ht.out]; rfl, hr⟩
                  case measure => simp [intOf]; omega
                · have HX := hid hx
                  go_wp2
                  go_roundw
                  case rel => exact ⟨k + 1, t, by omega, by go_num, by go_num, by omega, by rw [hrt.out, if_neg HX.out, ← ht.out]; rfl, hr⟩
                  case measure => simp [intOf]; omega
              · have hfin : real ids = t := by have := ht.out; rw [List.take_of_length_le (by omega)] at this; exact this.symm
                have HF := hid hfin
                clear hfin ht
                go_wp2_with fail
                refine (first21 hr).mono ?_
                rintro e w6 ⟨rfl, h6⟩
                have y1 := eb1 h6
                go_wp2_with fail
                refine (ints_sat A1 A3 out.length out.length c1 c3 out out h6 (eI h6) (eX h6)).mono ?_
                rw [decide_eq_true (rfl : out = out)]
                rintro e w7 ⟨rfl, h7⟩
                have y2 := eb2 h7
                go_wp2_with fail
                refine (yes_sat A2 A4 l.length l.length c2 c4 late late h7 (eL h7) (eY h7)).mono ?_
                rw [decide_eq_true (rfl : late = late)]
                rintro e w8 ⟨rfl, h8⟩
                go_wp2_with fail
                refine (padded_calls x m C cc ids hb h8 (fun w h => hI w (eF h)) (by omega) hic).mono ?_
                rintro e w9 ⟨v5, rfl, h9⟩
                obtain ⟨A5, c5, rfl, _, _, _⟩ := h9.reads
                go_wp2_with fail
                refine (rpadded_calls x m C cc ids hb hx h9 (fun w h => hI w (eF h.right)) (by omega)).mono ?_
                rintro e w10 ⟨v6, rfl, h10⟩
                obtain ⟨A6, c6, rfl, _, _, _⟩ := h10.reads
                go_wp2_with fail
                refine (ints_sat A5 A6 m m c5 c6 (padL m ids) (padL m ids) h10 h10.right.reads_at h10.reads_at).mono ?_
                rw [decide_eq_true (rfl : padL m ids = padL m ids)]
                rintro e w11 ⟨rfl, h11⟩
                have h12 := h11.right.right
                clear h11 h10 h9 h8 h7 h6
                go_wp2_with fail
                refine (real_sat C ids.length cc ids h12 (hI _ (eF h12))).mono ?_
                rw [HF.out]
                rintro e w12 ⟨rfl, h13⟩
                have h14 := eF h13
                go_wp2
                go_ret
                exact ⟨rfl, h14⟩
  · go_wp2_with fail
    refine (first21 g2).mono ?_
    rintro e w3 ⟨rfl, g3⟩
    go_wp2
    go_ret
    exact ⟨rfl, g3⟩
end Go.Proofs.Ytedhcgeglmoacaa
