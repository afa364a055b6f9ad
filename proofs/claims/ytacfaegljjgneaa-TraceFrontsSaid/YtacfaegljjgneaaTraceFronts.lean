import Derived.Test.YtacfaegljjgneaaTrc9
import Derived.BigRegion
import Derived.Deep.RegionLaw
import Derived.Deep.DeepCutAuto
import Derived.Deep.CutBlock
namespace Go.Proofs.Ytacfaegljjgneaa
set_option linter.unusedVariables false
set_option linter.unusedSimpArgs false
open Go.RowKit Go.Proofs.Sep

/-- 'x[:m]'. -/
theorem cut_to {P : Program} (t e : TypeId) (ht : P.underlying t = some (.slice e)) (s : Nat) (hsz : (P.info? e).map (·.size) = some s) (A : Option Addr) (n c m : Nat) (hm : m ≤ c) (W : World) :
    (Instr.slice t (.slice A n c) none (some (.int .i64 (m : Int))) none).run P W = .ok (.slice A m c) W := by
  obtain ⟨i, hi, hsi⟩ := Option.map_eq_some_iff.1 hsz
  have hel : P.elem t = e := by simp [Program.elem, ht]
  have hu : P.underlying t = some (.slice (P.elem t)) := by rw [hel]; exact ht
  rw [run_slice_h W t A n c hu .i64 (m : Int) (Int.natCast_nonneg _) (by omega), hel]
  have ha : A.map (fun x => x.add 0) = A := by cases A with | none => rfl | some a => simp [Addr.add]
  simp [sizeOf, typeInfo, hi, hsi, sliced, Result.andThen, ha]
theorem common_le (l m : List TOp) : common l m ≤ l.length ∧ common l m ≤ m.length := by
  induction l generalizing m with
  | nil => simp [common]
  | cons x l ih => cases m with
    | nil => simp [common]
    | cons y m =>
      have := ih m
      simp only [common]
      split
      · simp only [List.length_cons]; omega
      · exact ⟨Nat.zero_le _, Nat.zero_le _⟩
theorem common_comm (l m : List TOp) : common l m = common m l := by
  induction l generalizing m with
  | nil => rw [common_nil]; rfl
  | cons x l ih => cases m with
    | nil => rfl
    | cons y m => simp only [common, ih m, eq_comm (a := x) (b := y)]
theorem common_take (l m : List TOp) : l.take (common l m) = m.take (common l m) := by
  induction l generalizing m with
  | nil => simp [common]
  | cons x l ih => cases m with
    | nil => simp [common]
    | cons y m =>
      simp only [common]
      split
      · rename_i h; subst h; simp [ih m]
      · rfl
theorem common_stop (l m : List TOp) : ∀ (h1 : common l m < l.length) (h2 : common l m < m.length), l[common l m] ≠ m[common l m] := by
  induction l generalizing m with
  | nil => intro h1; simp at h1
  | cons x l ih => cases m with
    | nil => intro _ h2; simp at h2
    | cons y m =>
      by_cases e : x = y
      · subst e
        have hc : common (x :: l) (x :: m) = common l m + 1 := by simp [common]
        intro h1 h2
        have := ih m (by rw [hc] at h1; simpa using h1) (by rw [hc] at h2; simpa using h2)
        simpa only [hc, List.getElem_cons_succ] using this
      · have hc : common (x :: l) (y :: m) = 0 := by simp [common, e]
        intro h1 h2
        simpa only [hc, List.getElem_cons_zero] using e
theorem common_cut (l : List TOp) (k : Nat) (h : k ≤ l.length) : common l (l.take k) = k := by
  induction l generalizing k with
  | nil =>
    have : k = 0 := by simpa using h
    subst this; rfl
  | cons x l ih => cases k with
    | zero => rfl
    | succ k =>
      simp only [List.take_succ_cons, common, if_true]
      rw [ih k (by simpa using h)]
theorem count_two (l : List TOp) : count [1] l + count [2] l = count [1, 2] l := by
  induction l with
  | nil => rfl
  | cons x l ih =>
    unfold count at ih ⊢
    simp only [List.filter_cons, ofK]
    by_cases h1 : x.1 = 1
    · simp [h1] at ih ⊢; omega
    · by_cases h2 : x.1 = 2
      · simp [h2] at ih ⊢; omega
      · simp [h1, h2] at ih ⊢; omega
theorem count_nil (l : List TOp) : count [] l = l.length := by
  unfold count
  rw [List.filter_eq_self.2 (fun x _ => (rfl : ofK [] x = true))]
theorem leq_common (l m : List TOp) : (leq l m = true ∧ common l m = l.length ∧ common l m = m.length) ∨ (leq l m = false ∧ (common l m ≠ l.length ∨ (common l m = l.length ∧ common l m ≠ m.length))) := by
  unfold leq
  by_cases h : l = m
  · subst h
    exact .inl ⟨decide_eq_true rfl, (common_full rfl).2 rfl, (common_full rfl).2 rfl⟩
  · refine .inr ⟨decide_eq_false h, ?_⟩
    by_cases h1 : common l m = l.length
    · refine .inr ⟨h1, fun h2 => h ((common_full (by omega)).1 h1)⟩
    · exact .inl h1

set_option maxRecDepth 100000 in
set_option maxHeartbeats 4000000 in
theorem traceFronts {E w : World} {F : Asn} (A B : Option Addr) (c d : Nat) (L M : List (TOp × Value)) (z : Int) (hL : ∀ x ∈ L, ByteR x.1.2.2) (hM : ∀ x ∈ M, ByteR x.1.2.2) (hc : L.length ≤ c) (hd : M.length ≤ d) (hS : Sat E F w) (hA : ∀ w, Sat E F w → TIn w A L) (hB : ∀ w, Sat E F w → TIn w B M) :
    Calls Try.prog 9 #[.slice A L.length c, .slice B M.length d, .int .i64 z] w fun e w' => e = .returned (.bool true) ∧ Sat E F w' := by
  go_enter Try.func9, Try.ntmps9
  go_wp2_with fail
  refine (first3 hS).mono ?_
  rintro e w1 ⟨rfl, g1⟩
  clear hS
  go_upto_block 0 with fail
  go_cut [7] (fun v wc => ∃ t : Nat, t ≤ 4000200 ∧ v = .int .i64 t ∧ Sat E F wc)
  case first =>
    go_wp2_with fail
    go_loopw [7, 8] (fun v i wr => ∃ (k t : Nat), k ≤ L.length ∧ k ≤ 200 ∧ t ≤ 20001 * k + 0 ∧ i = .int .i64 k ∧ v = .int .i64 t ∧ Sat E F wr) (fun _ i _ => L.length - (intOf i).toNat)
    case atStart => exact ⟨0, 0, by omega, by omega, by omega, rfl, rfl, g1⟩
    case round =>
      clear g1
      obtain ⟨k, t, hk, hk2, ht, rfl, rfl, hr⟩ := hrel
      by_cases hgo : k < L.length ∧ k < 200
      · obtain ⟨hlt, hlt2⟩ := hgo
        obtain ⟨ad, Ai, ci, hAd, _, _, q⟩ := top_at hA hlt hr
        subst hAd
        obtain ⟨x0, x1, x2, rr⟩ := q _ hr
        have hxl := rr.2.1
        clear q rr
        generalize L[k].1.2.2.length = x at *
        have hkd : (k : Int) < (L.length : Int) := by omega
        have hk3 : (k : Int) < 200 := by omega
        have wk := i64_wrap (x := (k : Int) + 1) (by omega) (by omega)
        by_cases hx : (20001 : Int) < (x : Int)
        · have wt := i64_wrap (x := (t : Int) + 20001) (by omega) (by omega)
          go_wp2
          go_roundw
          case rel => exact ⟨k + 1, t + 20001, by omega, by omega, by omega, by go_num, by go_num, hr⟩
          case measure => simp [intOf]; omega
        · have wt := i64_wrap (x := (t : Int) + (x : Int)) (by omega) (by omega)
          go_wp2
          go_roundw
          case rel => exact ⟨k + 1, t + x, by omega, by omega, by omega, by go_num, by go_num, hr⟩
          case measure => simp [intOf]; omega
      · have hout : ((k : Int) < (L.length : Int) ∧ ¬ (k : Int) < 200) ∨ ¬ (k : Int) < (L.length : Int) := by omega
        have ht2 : t ≤ 4000200 := by omega
        clear hgo hk ht
        rcases hout with ⟨ho1, ho2⟩ | ho1
        · go_wp2
          go_meet
          exact ⟨t, ht2, rfl, hr⟩
        · go_wp2
          go_meet
          exact ⟨t, ht2, rfl, hr⟩
  case rest =>
    obtain ⟨t1, ht1, rfl, g2⟩ := hcut
    go_upto_block 2 with fail
    go_cut [7] (fun v wc => ∃ t : Nat, t ≤ 8000400 ∧ v = .int .i64 t ∧ Sat E F wc)
    case first =>
      go_wp2_with fail
      go_loopw [7, 9] (fun v i wr => ∃ (k t : Nat), k ≤ M.length ∧ k ≤ 200 ∧ t ≤ 20001 * k + 4000200 ∧ i = .int .i64 k ∧ v = .int .i64 t ∧ Sat E F wr) (fun _ i _ => M.length - (intOf i).toNat)
      case atStart => exact ⟨0, t1, by omega, by omega, by omega, rfl, rfl, g2⟩
      case round =>
        clear g2
        obtain ⟨k, t, hk, hk2, ht, rfl, rfl, hr⟩ := hrel
        by_cases hgo : k < M.length ∧ k < 200
        · obtain ⟨hlt, hlt2⟩ := hgo
          obtain ⟨ad, Ai, ci, hAd, _, _, q⟩ := top_at hB hlt hr
          subst hAd
          obtain ⟨x0, x1, x2, rr⟩ := q _ hr
          have hxl := rr.2.1
          clear q rr
          generalize M[k].1.2.2.length = x at *
          have hkd : (k : Int) < (M.length : Int) := by omega
          have hk3 : (k : Int) < 200 := by omega
          have wk := i64_wrap (x := (k : Int) + 1) (by omega) (by omega)
          by_cases hx : (20001 : Int) < (x : Int)
          · have wt := i64_wrap (x := (t : Int) + 20001) (by omega) (by omega)
            go_wp2
            go_roundw
            case rel => exact ⟨k + 1, t + 20001, by omega, by omega, by omega, by go_num, by go_num, hr⟩
            case measure => simp [intOf]; omega
          · have wt := i64_wrap (x := (t : Int) + (x : Int)) (by omega) (by omega)
            go_wp2
            go_roundw
            case rel => exact ⟨k + 1, t + x, by omega, by omega, by omega, by go_num, by go_num, hr⟩
            case measure => simp [intOf]; omega
        · have hout : ((k : Int) < (M.length : Int) ∧ ¬ (k : Int) < 200) ∨ ¬ (k : Int) < (M.length : Int) := by omega
          have ht2 : t ≤ 8000400 := by omega
          clear hgo hk ht
          rcases hout with ⟨ho1, ho2⟩ | ho1
          · go_wp2
            go_meet
            exact ⟨t, ht2, rfl, hr⟩
          · go_wp2
            go_meet
            exact ⟨t, ht2, rfl, hr⟩
    case rest =>
      obtain ⟨t2, ht2, rfl, g3⟩ := hcut
      by_cases h1 : (200 : Int) < (L.length : Int)
      · skip
        go_wp2_with fail
        refine (first3 g3).mono ?_
        rintro e w5 ⟨rfl, g5⟩
        go_wp2
        go_ret
        exact ⟨rfl, g5⟩
      by_cases h2 : (200 : Int) < (M.length : Int)
      · skip
        go_wp2_with fail
        refine (first3 g3).mono ?_
        rintro e w5 ⟨rfl, g5⟩
        go_wp2
        go_ret
        exact ⟨rfl, g5⟩
      by_cases h3 : (20000 : Int) < (t2 : Int)
      · skip
        go_wp2_with fail
        refine (first3 g3).mono ?_
        rintro e w5 ⟨rfl, g5⟩
        go_wp2
        go_ret
        exact ⟨rfl, g5⟩
      by_cases h4 : z < 0
      · skip
        go_wp2_with fail
        refine (first3 g3).mono ?_
        rintro e w5 ⟨rfl, g5⟩
        go_wp2
        go_ret
        exact ⟨rfl, g5⟩
      by_cases h5 : (L.length : Int) < z
      · skip
        go_wp2_with fail
        refine (first3 g3).mono ?_
        rintro e w5 ⟨rfl, g5⟩
        go_wp2
        go_ret
        exact ⟨rfl, g5⟩
      obtain ⟨Z, rfl⟩ := Int.eq_ofNat_of_zero_le (show 0 ≤ z by omega)
      have hk := common_le (L.map (·.1)) (M.map (·.1))
      simp only [List.length_map] at hk
      have F1 := hid (common_comm (M.map (·.1)) (L.map (·.1)))
      have F2 := hid (common_take (L.map (·.1)) (M.map (·.1)))
      have F3 := hid (common_stop (L.map (·.1)) (M.map (·.1)))
      have F4 := hid (common_cut (L.map (·.1)) Z (by simp; omega))
      have F5 := hid (count_two (L.map (·.1)))
      have F6 := hid (count_nil (L.map (·.1)))
      have F7 := hid (leq_common (L.map (·.1)) (M.map (·.1)))
      have f46 : ∀ w, Sat E F w → Calls Try.prog 46 #[.slice A L.length c, .slice B M.length d] w fun e w' => e = .returned (.int .i64 (common (L.map (·.1)) (M.map (·.1)))) ∧ Sat E F w' := fun w h => common46 A B c d L M hL hM h hA hB
      have c46 : ∀ w, Sat E F w → Calls Try.prog 46 #[.slice B M.length d, .slice A L.length c] w fun e w' => e = .returned (.int .i64 (common (L.map (·.1)) (M.map (·.1)))) ∧ Sat E F w' := fun w h => by
        have := common46 B A d c M L hM hL h hB hA
        rw [F1.out] at this
        exact this
      have c44a : ∀ w, Sat E F w → Calls Try.prog 44 #[.slice A (common (L.map (·.1)) (M.map (·.1))) c, .slice B (common (L.map (·.1)) (M.map (·.1))) d] w fun e w' => e = .returned (.bool true) ∧ Sat E F w' := fun w h => by
        have := equal44 A B c d (L.take (common (L.map (·.1)) (M.map (·.1)))) (M.take (common (L.map (·.1)) (M.map (·.1)))) (fun x hx => hL x (List.mem_of_mem_take hx)) (fun x hx => hM x (List.mem_of_mem_take hx)) h (fun w h => (hA w h).take _ hk.1) (fun w h => (hB w h).take _ hk.2)
        rw [List.map_take, List.map_take, F2.out, List.length_take, List.length_take, Nat.min_eq_left hk.1, Nat.min_eq_left hk.2, show ∀ l : List TOp, leq l l = true from fun l => decide_eq_true rfl] at this
        exact this
      have c44b : ∀ w, Sat E F w → Calls Try.prog 44 #[.slice A L.length c, .slice B M.length d] w fun e w' => e = .returned (.bool (leq (L.map (·.1)) (M.map (·.1)))) ∧ Sat E F w' := fun w h => equal44 A B c d L M hL hM h hA hB
      have t46 : ∀ w, Sat E F w → Calls Try.prog 46 #[.slice A L.length c, .slice A Z c] w fun e w' => e = .returned (.int .i64 Z) ∧ Sat E F w' := fun w h => by
        have hz : Z ≤ L.length := by omega
        have := common46 A A c c L (L.take Z) hL (fun x hx => hL x (List.mem_of_mem_take hx)) h hA (fun w h => (hA w h).take _ hz)
        rw [List.map_take, F4.out, List.length_take, Nat.min_eq_left hz] at this
        exact this
      have t42 : ∀ w, (h1 : common (L.map (·.1)) (M.map (·.1)) < L.length) → (h2 : common (L.map (·.1)) (M.map (·.1)) < M.length) → Sat E F w → ∃ (ad bd : Addr) (X1 X2 Y1 Y2 : Int) (X3 Y3 : List Int) (Ai Bi : Option Addr) (ci di : Nat), A = some ad ∧ B = some bd ∧ ∀ w, Sat E F w → w.cell? (ad.add (common (L.map (·.1)) (M.map (·.1)) * 3)) = some (.int .i64 X1) ∧ w.cell? { block := (ad.add (common (L.map (·.1)) (M.map (·.1)) * 3)).block, off := (ad.add (common (L.map (·.1)) (M.map (·.1)) * 3)).off + 1 } = some (.int .i64 X2) ∧ w.cell? { block := (ad.add (common (L.map (·.1)) (M.map (·.1)) * 3)).block, off := (ad.add (common (L.map (·.1)) (M.map (·.1)) * 3)).off + 2 } = some (.slice Ai X3.length ci) ∧
          w.cell? (bd.add (common (L.map (·.1)) (M.map (·.1)) * 3)) = some (.int .i64 Y1) ∧ w.cell? { block := (bd.add (common (L.map (·.1)) (M.map (·.1)) * 3)).block, off := (bd.add (common (L.map (·.1)) (M.map (·.1)) * 3)).off + 1 } = some (.int .i64 Y2) ∧ w.cell? { block := (bd.add (common (L.map (·.1)) (M.map (·.1)) * 3)).block, off := (bd.add (common (L.map (·.1)) (M.map (·.1)) * 3)).off + 2 } = some (.slice Bi Y3.length di) ∧
          Calls Try.prog 42 #[.agg #[.int .i64 X1, .int .i64 X2, .slice Ai X3.length ci], .agg #[.int .i64 Y1, .int .i64 Y2, .slice Bi Y3.length di]] w fun e w' => e = .returned (.bool false) ∧ Sat E F w' := by
        intro w h1 h2 h
        obtain ⟨ad, Ai, ci, hAd, _, _, q⟩ := top_at hA h1 h
        obtain ⟨bd, Bi, di, hBd, _, _, p⟩ := top_at hB h2 h
        have hs := F3.out (by simpa using h1) (by simpa using h2)
        simp only [List.getElem_map] at hs
        have bA := hL _ (List.getElem_mem h1)
        have bB := hM _ (List.getElem_mem h2)
        generalize (L[common (L.map (·.1)) (M.map (·.1))]'h1).1 = X at *
        generalize (M[common (L.map (·.1)) (M.map (·.1))]'h2).1 = Y at *
        obtain ⟨X1, X2, X3⟩ := X
        obtain ⟨Y1, Y2, Y3⟩ := Y
        simp only at q p bA bB
        refine ⟨ad, bd, X1, X2, Y1, Y2, X3, Y3, Ai, Bi, ci, di, hAd, hBd, fun w h => ⟨(q w h).1, (q w h).2.1, (q w h).2.2.1, (p w h).1, (p w h).2.1, (p w h).2.2.1, ?_⟩⟩
        have := same42 X1 Y1 X2 Y2 X3 Y3 Ai Bi _ _ ci di bA bB h (fun w h => (q w h).2.2.2) (fun w h => (p w h).2.2.2)
        rw [teq_false hs] at this
        exact this
      have TT := hid t42
      clear t42 F1 F2 F3 F4
      generalize common (L.map (·.1)) (M.map (·.1)) = K at *
      obtain ⟨hk1, hk2⟩ := hk
      have y1 : ¬ (K : Int) < 0 := by omega
      have y2 : ¬ (L.length : Int) < (K : Int) := by omega
      have y3 : ¬ (M.length : Int) < (K : Int) := by omega
      have y4 := decide_eq_false y1
      have y5 := decide_eq_false y2
      have y6 := decide_eq_false y3
      have y7 : decide (L.length < K) = false := decide_eq_false (by omega)
      have y8 : decide (M.length < K) = false := decide_eq_false (by omega)
      have e1 := fun W => cut_to (P := Try.prog) 58 61 Try.underlying58 3 (by kernel_rfl) A L.length c K (by omega) W
      have e2 := fun W => cut_to (P := Try.prog) 58 61 Try.underlying58 3 (by kernel_rfl) B M.length d K (by omega) W
      have e3 := fun W => cut_to (P := Try.prog) 58 61 Try.underlying58 3 (by kernel_rfl) A L.length c Z (by omega) W
      go_wp2_with fail
      refine (f46 _ g3).mono ?_
      rintro e w5 ⟨rfl, g5⟩
      clear g3 f46
      go_upto_region 15 with fail
      go_cut [123] (fun v wc => v = .bool false ∧ Sat E F wc)
      case first =>
        have hz : (leq (L.map (·.1)) (M.map (·.1)) = true ∧ ((K : Int) == (L.length : Int)) = true ∧ ((K : Int) == (M.length : Int)) = true) ∨ (leq (L.map (·.1)) (M.map (·.1)) = false ∧ (((K : Int) == (L.length : Int)) = false ∨ (((K : Int) == (L.length : Int)) = true ∧ ((K : Int) == (M.length : Int)) = false))) := by
          have := F7.out
          simp only [List.length_map] at this
          rcases this with ⟨a, b, c⟩ | ⟨a, b | ⟨b, c⟩⟩
          · exact .inl ⟨a, beq_iff_eq.2 (by omega), beq_iff_eq.2 (by omega)⟩
          · exact .inr ⟨a, .inl (beq_eq_false_iff_ne.2 (by omega))⟩
          · exact .inr ⟨a, .inr ⟨beq_iff_eq.2 (by omega), beq_eq_false_iff_ne.2 (by omega)⟩⟩
        clear TT F5 F6 F7 t46 e3
        rcases hz with ⟨z1, z2, z3⟩ | ⟨z1, z2 | ⟨z2, z3⟩⟩
        all_goals
          rw [z1] at c44b
          clear z1
          refine wp_region_quietS _ (by kernel_rfl) (by kernel_rfl) g5 ?_
          intro hne
          repeat (go_big_quiet_step (first | (go_at_call 46; exact quietS (c46 _ (SW.h _))) | (go_at_call 44; first | exact quietS (c44a _ (SW.h _)) | exact quietS (c44b _ (SW.h _)))))
          refine wpQuiet_nil ?_
          intro w12 hw'
          have h12 := SW.out hw'
          clear hw' hne
          go_wp2
          go_meet
          exact ⟨rfl, h12⟩
      case rest =>
        obtain ⟨rfl, g6⟩ := hcut
        clear g5 c46 c44a c44b e1 e2 F7
        go_upto_region 17 with fail
        go_cut [144] (fun v wc => v = .bool false ∧ Sat E F wc)
        case first =>
          have hz : ((K : Int) < (L.length : Int) ∧ (K : Int) < (M.length : Int)) ∨ ((K : Int) < (L.length : Int) ∧ ¬ (K : Int) < (M.length : Int)) ∨ ¬ (K : Int) < (L.length : Int) := by omega
          clear F5 F6 t46 e3
          rcases hz with ⟨z1, z2⟩ | ⟨z1, z2⟩ | z1
          · obtain ⟨ad, bd, X1, X2, Y1, Y2, X3, Y3, Ai, Bi, ci, di, hAd, hBd, q⟩ := TT.out _ (by omega) (by omega) g6
            subst hAd
            subst hBd
            have x0 : ∀ s : SW E F, _ := fun s => (q _ s.h).1
            have x1 : ∀ s : SW E F, _ := fun s => (q _ s.h).2.1
            have x2 : ∀ s : SW E F, _ := fun s => (q _ s.h).2.2.1
            have u0 : ∀ s : SW E F, _ := fun s => (q _ s.h).2.2.2.1
            have u1 : ∀ s : SW E F, _ := fun s => (q _ s.h).2.2.2.2.1
            have u2 : ∀ s : SW E F, _ := fun s => (q _ s.h).2.2.2.2.2.1
            have cal := fun w h => (q w h).2.2.2.2.2.2
            clear q TT hA hB
            refine wp_region_quietS _ (by kernel_rfl) (by kernel_rfl) g6 ?_
            intro hne
            repeat (go_big_quiet_step (first | (go_at_call 42; exact quietS (cal _ (SW.h _)))))
            refine wpQuiet_nil ?_
            intro w12 hw'
            have h12 := SW.out hw'
            clear hw' hne
            go_wp2
            go_meet
            exact ⟨rfl, h12⟩
          all_goals
            refine wp_region_quietS _ (by kernel_rfl) (by kernel_rfl) g6 ?_
            intro hne
            repeat (go_big_quiet_step (fail))
            refine wpQuiet_nil ?_
            intro w12 hw'
            have h12 := SW.out hw'
            clear hw' hne
            go_wp2
            go_meet
            exact ⟨rfl, h12⟩
        case rest =>
          obtain ⟨rfl, g7⟩ := hcut
          clear g6 TT
          go_wp2_with fail
          refine (first3 g7).mono ?_
          rintro e w7 ⟨rfl, g8⟩
          clear g7
          go_wp2_with fail
          refine (t46 _ g8).mono ?_
          rintro e w8 ⟨rfl, g9⟩
          clear g8
          have g10 := g9.alloc (.cells #[.int .i64 1] 3)
          go_wp2_with fail
          refine (count48 A (some ⟨w8.heap.size, 0, none⟩) c 1 1 L [1] g10 (fun w h => hA w h.right) (fun w h => h.blk_reads (cs := [_]) rfl (by omega))).mono ?_
          rintro e w9 ⟨rfl, g11⟩
          have g12 := g11.right.alloc (.cells #[.int .i64 2] 3)
          clear g10 g9 g11
          go_wp2_with fail
          refine (count48 A (some ⟨w9.heap.size, 0, none⟩) c 1 1 L [2] g12 (fun w h => hA w h.right) (fun w h => h.blk_reads (cs := [_]) rfl (by omega))).mono ?_
          rintro e w10 ⟨rfl, g13⟩
          have g14 := g13.right.alloc (.cells #[.int .i64 1, .int .i64 2] 3)
          clear g12 g13
          go_wp2_with fail
          refine (count48 A (some ⟨w10.heap.size, 0, none⟩) c 2 2 L [1, 2] g14 (fun w h => hA w h.right) (fun w h => h.blk_reads (cs := [_, _]) rfl (by omega))).mono ?_
          rintro e w11 ⟨rfl, g15⟩
          have g16 := g15.right
          clear g14 g15
          have hc1 := count_le [1] (L.map (·.1)) L.length
          have hc2 := count_le [2] (L.map (·.1)) L.length
          rw [List.take_of_length_le (by simp)] at hc1 hc2
          have f5 := F5.out
          generalize count [1] (L.map (·.1)) = q1 at *
          generalize count [2] (L.map (·.1)) = q2 at *
          generalize count [1, 2] (L.map (·.1)) = q3 at *
          have wq := i64_wrap (x := (q1 : Int) + (q2 : Int)) (by omega) (by omega)
          have wq2 := wrap64_id (x := (q1 : Int) + (q2 : Int)) (by omega) (by omega)
          subst f5
          clear F5
          go_wp2_with fail
          refine (count48 A none c 0 0 L [] g16 hA (fun w _ => nil_reads w _ 1 rfl)).mono ?_
          rw [F6.out, List.length_map]
          rintro e w12 ⟨rfl, g17⟩
          go_wp2
          go_ret
          exact ⟨rfl, g17⟩
theorem TraceFronts_walk (W : World) (a0 : Option Addr) (len0 cap0 : Nat) (l0 : (List (Int × (Int × (List Int))))) (h0 : (decSlice 40 (decPair (decInt .i64) (decPair (decInt .i64) (decSlice 1 (decInt .u8))))).rel W l0 [.slice a0 len0 cap0]) (a1 : Option Addr) (len1 cap1 : Nat) (l1 : (List (Int × (Int × (List Int))))) (h1 : (decSlice 40 (decPair (decInt .i64) (decPair (decInt .i64) (decSlice 1 (decInt .u8))))).rel W l1 [.slice a1 len1 cap1]) (a2 : Int) (w2 : (Lit.int .i64 a2).wf = true) :
    Calls Try.prog 9 #[.slice a0 len0 cap0, .slice a1 len1 cap1, .int .i64 a2] W fun e w' => e = .returned (.bool true) ∧ Below W.heap.size W w' := by
  obtain ⟨A, c, L, he, hlc, _, rfl, hT, hb⟩ := dec_tops h0
  obtain ⟨B, d, M, he', hlc', _, rfl, hT', hb'⟩ := dec_tops h1
  simp at he he'
  obtain ⟨rfl, rfl, rfl⟩ := he
  obtain ⟨rfl, rfl, rfl⟩ := he'
  exact (traceFronts _ _ _ _ L M a2 (fun x hx => hb _ (List.mem_map_of_mem hx)) (fun x hx => hb' _ (List.mem_map_of_mem hx)) (by simpa using hlc) (by simpa using hlc') (Sat.start W) (fun w hs => hT.keep fun k hk => hs.old1 hk) (fun w hs => hT'.keep fun k hk => hs.old1 hk)).mono fun e w' ⟨he, hs⟩ => ⟨he, hs.finish1⟩
end Go.Proofs.Ytacfaegljjgneaa
