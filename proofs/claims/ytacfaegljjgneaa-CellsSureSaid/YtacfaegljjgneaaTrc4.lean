import Derived.Test.YtacfaegljjgneaaTrc3
namespace Go.Proofs.Ytacfaegljjgneaa
set_option linter.unusedVariables false
set_option linter.unusedSimpArgs false
open Go.RowKit Go.Proofs.Sep

/-- Are all alike? -/
def leq (l m : List TOp) : Bool := decide (l = m)
theorem common_full {l m : List TOp} (h : l.length = m.length) : (common l m = l.length) ↔ l = m := by
  induction l generalizing m with
  | nil => cases m with
    | nil => simp [common]
    | cons y m => simp at h
  | cons x l ih => cases m with
    | nil => simp at h
    | cons y m =>
      by_cases e : x = y
      · simp only [common, if_pos e, List.length_cons, Nat.add_right_cancel_iff, List.cons.injEq]
        rw [ih (by simpa using h)]
        simp [e]
      · simp only [common, if_neg e, List.length_cons, List.cons.injEq]
        constructor
        · intro h; omega
        · intro h; exact absurd h.1 e
set_option maxRecDepth 100000 in
set_option maxHeartbeats 2000000 in
theorem sameOps45 {E w : World} {F : Asn} (A B : Option Addr) (c d : Nat) (L M : List (TOp × Value)) (hL : ∀ x ∈ L, ByteR x.1.2.2) (hM : ∀ x ∈ M, ByteR x.1.2.2) (hS : Sat E F w) (hA : ∀ w, Sat E F w → TIn w A L) (hB : ∀ w, Sat E F w → TIn w B M) :
    Calls Try.prog 45 #[.slice A L.length c, .slice B M.length d] w fun e w' => e = .returned (.bool (leq (L.map (·.1)) (M.map (·.1)))) ∧ Sat E F w' := by
  by_cases hl : L.length = M.length
  · have hv : leq (L.map (·.1)) (M.map (·.1)) = ((common (L.map (·.1)) (M.map (·.1)) : Int) == (L.length : Int)) := by
      unfold leq
      rw [Bool.eq_iff_iff, decide_eq_true_eq, beq_iff_eq, ← common_full (by simpa using hl), List.length_map]
      omega
    have HV := hid hv
    have z0 : ((L.length : Int) == (M.length : Int)) = true := by rw [hl]; simp
    clear hv hl
    go_enter Try.func45, Try.ntmps45
    go_wp2_with fail
    refine (common47 A B c d L M hL hM hS hA hB).mono ?_
    rintro e w1 ⟨rfl, g1⟩
    generalize common (L.map (·.1)) (M.map (·.1)) = C at *
    go_wp2
    go_ret
    exact ⟨ret_bool HV.out.symm, g1⟩
  · have hv : leq (L.map (·.1)) (M.map (·.1)) = false := by
      unfold leq
      exact decide_eq_false (fun h => hl (by simpa using congrArg List.length h))
    rw [hv]
    have z0 : ((L.length : Int) == (M.length : Int)) = false := beq_eq_false_iff_ne.2 (by omega)
    clear hv hl
    go_enter Try.func45, Try.ntmps45
    go_wp2
    go_ret
    exact ⟨rfl, hS⟩
set_option maxRecDepth 100000 in
set_option maxHeartbeats 2000000 in
theorem equalFunc65 {E w : World} {F : Asn} (A B : Option Addr) (c d : Nat) (L M : List (TOp × Value)) (hL : ∀ x ∈ L, ByteR x.1.2.2) (hM : ∀ x ∈ M, ByteR x.1.2.2) (hS : Sat E F w) (hA : ∀ w, Sat E F w → TIn w A L) (hB : ∀ w, Sat E F w → TIn w B M) :
    Calls Try.prog 65 #[.slice A L.length c, .slice B M.length d, .func (.func 42) #[] #[]] w fun e w' => e = .returned (.bool (leq (L.map (·.1)) (M.map (·.1)))) ∧ Sat E F w' := by
  by_cases hl : L.length = M.length
  · have z0 : ((L.length : Int) != (M.length : Int)) = false := by rw [hl]; simp
    have HL := hid hl
    clear hl
    have hml := (hA _ hS).1.2.1
    go_enter Try.func65, Try.ntmps65
    go_wp2_with fail
    go_loopw [17] (fun i wr => ∃ k : Nat, k ≤ L.length ∧ i = .int .i64 k ∧ Hid (∀ i (h1 : i < L.length) (h2 : i < M.length), i < k → L[i].1 = M[i].1) ∧ Sat E F wr) (fun i _ => L.length - (intOf i).toNat)
    case atStart => exact ⟨0, by omega, rfl, fun i _ _ h => by omega, hS⟩
    case round =>
      obtain ⟨k, hk, rfl, hsame, hr⟩ := hrel
      by_cases hlt : k < L.length
      · have hlt2 : k < M.length := HL.out ▸ hlt
        have hkd : (k : Int) < (L.length : Int) := by omega
        have hkd2 : (k : Int) < (M.length : Int) := by omega
        have wk := i64_wrap (x := (k : Int) + 1) (by omega) (by omega)
        obtain ⟨ad, Ai, ci, hA1, hA2, _, q⟩ := top_at hA hlt hr
        obtain ⟨bd, Bi, di, hB1, hB2, _, p⟩ := top_at hB hlt2 hr
        subst hA1
        subst hB1
        obtain ⟨x0, x1, x2, _⟩ := q _ hr
        have hr2 := hr.alloc_drop (.cells #[.int .i64 L[k].1.1, .int .i64 L[k].1.2.1, .slice Ai L[k].1.2.2.length ci] 61)
        obtain ⟨y0, y1, y2, _⟩ := p _ hr2
        have hr3 := hr2.alloc_drop (.cells #[.int .i64 M[k].1.1, .int .i64 M[k].1.2.1, .slice Bi M[k].1.2.2.length di] 61)
        have rA : ∀ w, Sat E F w → Reads w 1 Ai L[k].1.2.2.length (nums .u8 L[k].1.2.2) := fun w h => (q w h).2.2.2
        have rB : ∀ w, Sat E F w → Reads w 1 Bi M[k].1.2.2.length (nums .u8 M[k].1.2.2) := fun w h => (p w h).2.2.2
        have bA := hL _ (List.getElem_mem hlt)
        have bB := hM _ (List.getElem_mem hlt2)
        have hne : L[k].1 ≠ M[k].1 → leq (L.map (·.1)) (M.map (·.1)) = false := fun h => by
          unfold leq
          refine decide_eq_false (fun e => h ?_)
          have := List.getElem_of_eq e (i := k) (by simpa using hlt)
          simpa using this
        have hnx : L[k].1 = M[k].1 → ∀ i (h1 : i < L.length) (h2 : i < M.length), i < k + 1 → L[i].1 = M[i].1 := fun h i h1 h2 h3 => by
          by_cases e : i = k
          · subst e; exact h
          · exact hsame.out i h1 h2 (by omega)
        have HNE := hid hne
        have HNX := hid hnx
        clear q p hA2 hB2 hne hnx hsame
        generalize L[k].1 = X at *
        generalize M[k].1 = Y at *
        obtain ⟨X1, X2, X3⟩ := X
        obtain ⟨Y1, Y2, Y3⟩ := Y
        simp only at x0 x1 x2 y0 y1 y2 rA rB bA bB hr2 hr3
        by_cases he : ((X1, X2, X3) : TOp) = (Y1, Y2, Y3)
        · have HD := hid (teq_true he)
          have HX := hid (HNX.out he)
          clear HNE HNX he
          go_wp2_with fail
          refine (same42 _ _ _ _ _ _ _ _ _ _ _ _ bA bB hr3 rA rB).mono ?_
          rw [HD.out]
          rintro e w5 ⟨rfl, g5⟩
          go_wp2
          go_roundw
          case rel => exact ⟨k + 1, by omega, by go_num, HX, g5⟩
          case measure => simp [intOf]; omega
        · have HD := hid (teq_false he)
          have HX := hid (HNE.out he)
          clear HNE HNX he
          go_wp2_with fail
          refine (same42 _ _ _ _ _ _ _ _ _ _ _ _ bA bB hr3 rA rB).mono ?_
          rw [HD.out]
          rintro e w5 ⟨rfl, g5⟩
          go_wp2
          go_ret
          exact ⟨by rw [HX.out]; rfl, g5⟩
      · have hkd : ¬ (k : Int) < (L.length : Int) := by omega
        have hv : leq (L.map (·.1)) (M.map (·.1)) = true := by
          unfold leq
          refine decide_eq_true (List.ext_getElem (by simpa using HL.out) (fun i h1 h2 => ?_))
          simpa using hsame.out i (by simpa using h1) (by simpa using h2) (by have := h1; simp at this; omega)
        have HX := hid hv
        clear hv
        go_wp2
        go_ret
        exact ⟨by rw [HX.out]; rfl, hr⟩
  · have hv : leq (L.map (·.1)) (M.map (·.1)) = false := by
      unfold leq
      exact decide_eq_false (fun h => hl (by simpa using congrArg List.length h))
    rw [hv]
    have z0 : ((L.length : Int) != (M.length : Int)) = true := by simp; omega
    clear hv hl
    go_enter Try.func65, Try.ntmps65
    go_wp2
    go_ret
    exact ⟨rfl, hS⟩
set_option maxRecDepth 100000 in
set_option maxHeartbeats 2000000 in
theorem equal44 {E w : World} {F : Asn} (A B : Option Addr) (c d : Nat) (L M : List (TOp × Value)) (hL : ∀ x ∈ L, ByteR x.1.2.2) (hM : ∀ x ∈ M, ByteR x.1.2.2) (hS : Sat E F w) (hA : ∀ w, Sat E F w → TIn w A L) (hB : ∀ w, Sat E F w → TIn w B M) :
    Calls Try.prog 44 #[.slice A L.length c, .slice B M.length d] w fun e w' => e = .returned (.bool (leq (L.map (·.1)) (M.map (·.1)))) ∧ Sat E F w' := by
  go_enter Try.func44, Try.ntmps44
  go_wp2_with fail
  refine (equalFunc65 A B c d L M hL hM hS hA hB).mono ?_
  rintro e w1 ⟨rfl, g1⟩
  go_wp2
  go_ret
  exact ⟨rfl, g1⟩
end Go.Proofs.Ytacfaegljjgneaa
