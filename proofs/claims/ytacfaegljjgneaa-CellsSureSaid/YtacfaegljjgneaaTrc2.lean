import Derived.Test.YtacfaegljjgneaaTrc1
namespace Go.Proofs.Ytacfaegljjgneaa
set_option linter.unusedVariables false
set_option linter.unusedSimpArgs false
open Go.RowKit Go.Proofs.Sep

/-- How far two are alike. -/
def common : List TOp → List TOp → Nat
  | x :: l, y :: m => if x = y then common l m + 1 else 0
  | _, _ => 0
theorem common_nil (l : List TOp) : common l [] = 0 := by cases l <;> rfl
theorem common_of : ∀ (k : Nat) (l m : List TOp), k ≤ l.length → k ≤ m.length → (∀ i (h1 : i < l.length) (h2 : i < m.length), i < k → l[i] = m[i]) → (∀ (h1 : k < l.length) (h2 : k < m.length), l[k] ≠ m[k]) → common l m = k
  | 0, [], m, _, _, _, _ => by simp [common]
  | 0, x :: l, [], _, _, _, _ => rfl
  | 0, x :: l, y :: m, _, _, _, h => by
    have := h (by simp) (by simp)
    simp only [List.getElem_cons_zero] at this
    simp [common, this]
  | k + 1, [], m, h, _, _, _ => by simp at h
  | k + 1, x :: l, [], _, h, _, _ => by simp at h
  | k + 1, x :: l, y :: m, h1, h2, h3, h4 => by
    have e := h3 0 (by simp) (by simp) (by omega)
    simp only [List.getElem_cons_zero] at e
    have := common_of k l m (by simpa using h1) (by simpa using h2) (fun i a b c => h3 (i + 1) (Nat.succ_lt_succ a) (Nat.succ_lt_succ b) (by omega)) (fun a b => h4 (Nat.succ_lt_succ a) (Nat.succ_lt_succ b))
    simp [common, e, this]
set_option maxRecDepth 100000 in
set_option maxHeartbeats 2000000 in
theorem common46 {E w : World} {F : Asn} (A B : Option Addr) (c d : Nat) (L M : List (TOp × Value)) (hL : ∀ x ∈ L, ByteR x.1.2.2) (hM : ∀ x ∈ M, ByteR x.1.2.2) (hS : Sat E F w) (hA : ∀ w, Sat E F w → TIn w A L) (hB : ∀ w, Sat E F w → TIn w B M) :
    Calls Try.prog 46 #[.slice A L.length c, .slice B M.length d] w fun e w' => e = .returned (.int .i64 (common (L.map (·.1)) (M.map (·.1)))) ∧ Sat E F w' := by
  have hml := (hA _ hS).1.2.1
  go_enter Try.func46, Try.ntmps46
  go_wp2_with fail
  go_loopw [5] (fun i wr => ∃ k : Nat, k ≤ L.length ∧ k ≤ M.length ∧ i = .int .i64 k ∧ Hid (∀ i (h1 : i < L.length) (h2 : i < M.length), i < k → L[i].1 = M[i].1) ∧ Sat E F wr) (fun i _ => L.length - (intOf i).toNat)
  case atStart => exact ⟨0, by omega, by omega, rfl, fun i _ _ h => by omega, hS⟩
  case round =>
    obtain ⟨k, hk, hk2, rfl, hsame, hr⟩ := hrel
    have HCO := hid (common_of k (L.map (·.1)) (M.map (·.1)) (by simpa using hk) (by simpa using hk2) (fun i h1 h2 h3 => by simpa using hsame.out i (by simpa using h1) (by simpa using h2) h3))
    by_cases hlt : k < L.length
    · by_cases hlt2 : k < M.length
      · have hkd : (k : Int) < (L.length : Int) := by omega
        have hkd2 : (k : Int) < (M.length : Int) := by omega
        obtain ⟨ad, Ai, ci, hA1, hA2, _, q⟩ := top_at hA hlt hr
        obtain ⟨bd, Bi, di, hB1, hB2, _, p⟩ := top_at hB hlt2 hr
        subst hA1
        subst hB1
        have x0 : ∀ s : SW E F, s.w.cell? (ad.add (k * 3)) = some (.int .i64 L[k].1.1) := fun s => (q _ s.h).1
        have x1 : ∀ s : SW E F, s.w.cell? { block := (ad.add (k * 3)).block, off := (ad.add (k * 3)).off + 1 } = some (.int .i64 L[k].1.2.1) := fun s => (q _ s.h).2.1
        have x2 : ∀ s : SW E F, s.w.cell? { block := (ad.add (k * 3)).block, off := (ad.add (k * 3)).off + 2 } = some (.slice Ai L[k].1.2.2.length ci) := fun s => (q _ s.h).2.2.1
        have y0 : ∀ s : SW E F, s.w.cell? (bd.add (k * 3)) = some (.int .i64 M[k].1.1) := fun s => (p _ s.h).1
        have y1 : ∀ s : SW E F, s.w.cell? { block := (bd.add (k * 3)).block, off := (bd.add (k * 3)).off + 1 } = some (.int .i64 M[k].1.2.1) := fun s => (p _ s.h).2.1
        have y2 : ∀ s : SW E F, s.w.cell? { block := (bd.add (k * 3)).block, off := (bd.add (k * 3)).off + 2 } = some (.slice Bi M[k].1.2.2.length di) := fun s => (p _ s.h).2.2.1
        have rA : ∀ w, Sat E F w → Reads w 1 Ai L[k].1.2.2.length (nums .u8 L[k].1.2.2) := fun w h => (q w h).2.2.2
        have rB : ∀ w, Sat E F w → Reads w 1 Bi M[k].1.2.2.length (nums .u8 M[k].1.2.2) := fun w h => (p w h).2.2.2
        have bA := hL _ (List.getElem_mem hlt)
        have bB := hM _ (List.getElem_mem hlt2)
        have hne : L[k].1 ≠ M[k].1 → common (L.map (·.1)) (M.map (·.1)) = k := fun h => HCO.out (fun _ _ => by simpa using h)
        have hnx : L[k].1 = M[k].1 → ∀ i (h1 : i < L.length) (h2 : i < M.length), i < k + 1 → L[i].1 = M[i].1 := fun h i h1 h2 h3 => by
          by_cases e : i = k
          · subst e; exact h
          · exact hsame.out i h1 h2 (by omega)
        have HNE := hid hne
        have HNX := hid hnx
        clear q p hA2 hB2 HCO hne hnx hsame
        generalize L[k].1 = X at *
        generalize M[k].1 = Y at *
        obtain ⟨X1, X2, X3⟩ := X
        obtain ⟨Y1, Y2, Y3⟩ := Y
        simp only at x0 x1 x2 y0 y1 y2 rA rB bA bB
        by_cases he : ((X1, X2, X3) : TOp) = (Y1, Y2, Y3)
        · have HD := hid (teq_true he)
          have HX := hid (HNX.out he)
          clear HNE HNX he
          go_wp2_with fail
          refine wp_region_quietS _ (by kernel_rfl) (by kernel_rfl) hr ?_
          intro hne
          repeat (go_big_quiet_step (first | (go_at_call 42; exact quietS (same42 _ _ _ _ _ _ _ _ _ _ _ _ bA bB (SW.h _) rA rB))))
          refine wpQuiet_nil ?_
          intro w12 hw'
          have h12 := SW.out hw'
          clear hw' hne
          rw [HD.out]
          go_wp2
          go_roundw
          case rel => exact ⟨k + 1, by omega, by omega, by go_num, HX, h12⟩
          case measure => simp [intOf]; omega
        · have HD := hid (teq_false he)
          have HX := hid (HNE.out he)
          clear HNE HNX he
          go_wp2_with fail
          refine wp_region_quietS _ (by kernel_rfl) (by kernel_rfl) hr ?_
          intro hne
          repeat (go_big_quiet_step (first | (go_at_call 42; exact quietS (same42 _ _ _ _ _ _ _ _ _ _ _ _ bA bB (SW.h _) rA rB))))
          refine wpQuiet_nil ?_
          intro w12 hw'
          have h12 := SW.out hw'
          clear hw' hne
          rw [HD.out]
          go_wp2
          go_ret
          exact ⟨by rw [HX.out]; rfl, h12⟩
      · have HX := hid (HCO.out (fun _ h => by simp at h; omega))
        have hkd : (k : Int) < (L.length : Int) := by omega
        have hkd2 : ¬ (k : Int) < (M.length : Int) := by omega
        clear HCO
        go_wp2_with fail
        refine wp_region_quietS _ (by kernel_rfl) (by kernel_rfl) hr ?_
        intro hne
        repeat (go_big_quiet_step (fail))
        refine wpQuiet_nil ?_
        intro w12 hw'
        have h12 := SW.out hw'
        clear hw' hne
        go_wp2
        go_ret
        exact ⟨by rw [HX.out]; rfl, h12⟩
    · have HX := hid (HCO.out (fun h _ => by simp at h; omega))
      have hkd : ¬ (k : Int) < (L.length : Int) := by omega
      clear HCO
      go_wp2_with fail
      refine wp_region_quietS _ (by kernel_rfl) (by kernel_rfl) hr ?_
      intro hne
      repeat (go_big_quiet_step (fail))
      refine wpQuiet_nil ?_
      intro w12 hw'
      have h12 := SW.out hw'
      clear hw' hne
      go_wp2
      go_ret
      exact ⟨by rw [HX.out]; rfl, h12⟩
set_option maxRecDepth 100000 in
set_option maxHeartbeats 2000000 in
theorem common47 {E w : World} {F : Asn} (A B : Option Addr) (c d : Nat) (L M : List (TOp × Value)) (hL : ∀ x ∈ L, ByteR x.1.2.2) (hM : ∀ x ∈ M, ByteR x.1.2.2) (hS : Sat E F w) (hA : ∀ w, Sat E F w → TIn w A L) (hB : ∀ w, Sat E F w → TIn w B M) :
    Calls Try.prog 47 #[.slice A L.length c, .slice B M.length d] w fun e w' => e = .returned (.int .i64 (common (L.map (·.1)) (M.map (·.1)))) ∧ Sat E F w' := by
  have hml := (hA _ hS).1.2.1
  go_enter Try.func47, Try.ntmps47
  go_wp2_with fail
  go_loopw [5] (fun i wr => ∃ k : Nat, k ≤ L.length ∧ k ≤ M.length ∧ i = .int .i64 k ∧ Hid (∀ i (h1 : i < L.length) (h2 : i < M.length), i < k → L[i].1 = M[i].1) ∧ Sat E F wr) (fun i _ => L.length - (intOf i).toNat)
  case atStart => exact ⟨0, by omega, by omega, rfl, fun i _ _ h => by omega, hS⟩
  case round =>
    obtain ⟨k, hk, hk2, rfl, hsame, hr⟩ := hrel
    have HCO := hid (common_of k (L.map (·.1)) (M.map (·.1)) (by simpa using hk) (by simpa using hk2) (fun i h1 h2 h3 => by simpa using hsame.out i (by simpa using h1) (by simpa using h2) h3))
    by_cases hlt : k < L.length
    · by_cases hlt2 : k < M.length
      · have hkd : (k : Int) < (L.length : Int) := by omega
        have hkd2 : (k : Int) < (M.length : Int) := by omega
        obtain ⟨ad, Ai, ci, hA1, hA2, _, q⟩ := top_at hA hlt hr
        obtain ⟨bd, Bi, di, hB1, hB2, _, p⟩ := top_at hB hlt2 hr
        subst hA1
        subst hB1
        have x0 : ∀ s : SW E F, s.w.cell? (ad.add (k * 3)) = some (.int .i64 L[k].1.1) := fun s => (q _ s.h).1
        have x1 : ∀ s : SW E F, s.w.cell? { block := (ad.add (k * 3)).block, off := (ad.add (k * 3)).off + 1 } = some (.int .i64 L[k].1.2.1) := fun s => (q _ s.h).2.1
        have x2 : ∀ s : SW E F, s.w.cell? { block := (ad.add (k * 3)).block, off := (ad.add (k * 3)).off + 2 } = some (.slice Ai L[k].1.2.2.length ci) := fun s => (q _ s.h).2.2.1
        have y0 : ∀ s : SW E F, s.w.cell? (bd.add (k * 3)) = some (.int .i64 M[k].1.1) := fun s => (p _ s.h).1
        have y1 : ∀ s : SW E F, s.w.cell? { block := (bd.add (k * 3)).block, off := (bd.add (k * 3)).off + 1 } = some (.int .i64 M[k].1.2.1) := fun s => (p _ s.h).2.1
        have y2 : ∀ s : SW E F, s.w.cell? { block := (bd.add (k * 3)).block, off := (bd.add (k * 3)).off + 2 } = some (.slice Bi M[k].1.2.2.length di) := fun s => (p _ s.h).2.2.1
        have rA : ∀ w, Sat E F w → Reads w 1 Ai L[k].1.2.2.length (nums .u8 L[k].1.2.2) := fun w h => (q w h).2.2.2
        have rB : ∀ w, Sat E F w → Reads w 1 Bi M[k].1.2.2.length (nums .u8 M[k].1.2.2) := fun w h => (p w h).2.2.2
        have bA := hL _ (List.getElem_mem hlt)
        have bB := hM _ (List.getElem_mem hlt2)
        have hne : L[k].1 ≠ M[k].1 → common (L.map (·.1)) (M.map (·.1)) = k := fun h => HCO.out (fun _ _ => by simpa using h)
        have hnx : L[k].1 = M[k].1 → ∀ i (h1 : i < L.length) (h2 : i < M.length), i < k + 1 → L[i].1 = M[i].1 := fun h i h1 h2 h3 => by
          by_cases e : i = k
          · subst e; exact h
          · exact hsame.out i h1 h2 (by omega)
        have HNE := hid hne
        have HNX := hid hnx
        clear q p hA2 hB2 HCO hne hnx hsame
        generalize L[k].1 = X at *
        generalize M[k].1 = Y at *
        obtain ⟨X1, X2, X3⟩ := X
        obtain ⟨Y1, Y2, Y3⟩ := Y
        simp only at x0 x1 x2 y0 y1 y2 rA rB bA bB
        by_cases he : ((X1, X2, X3) : TOp) = (Y1, Y2, Y3)
        · have HD := hid (teq_true he)
          have HX := hid (HNX.out he)
          clear HNE HNX he
          go_wp2_with fail
          refine wp_region_quietS _ (by kernel_rfl) (by kernel_rfl) hr ?_
          intro hne
          repeat (go_big_quiet_step (first | (go_at_call 43; exact quietS (same43 _ _ _ _ _ _ _ _ _ _ _ _ bA bB (SW.h _) rA rB))))
          refine wpQuiet_nil ?_
          intro w12 hw'
          have h12 := SW.out hw'
          clear hw' hne
          rw [HD.out]
          go_wp2
          go_roundw
          case rel => exact ⟨k + 1, by omega, by omega, by go_num, HX, h12⟩
          case measure => simp [intOf]; omega
        · have HD := hid (teq_false he)
          have HX := hid (HNE.out he)
          clear HNE HNX he
          go_wp2_with fail
          refine wp_region_quietS _ (by kernel_rfl) (by kernel_rfl) hr ?_
          intro hne
          repeat (go_big_quiet_step (first | (go_at_call 43; exact quietS (same43 _ _ _ _ _ _ _ _ _ _ _ _ bA bB (SW.h _) rA rB))))
          refine wpQuiet_nil ?_
          intro w12 hw'
          have h12 := SW.out hw'
          clear hw' hne
          rw [HD.out]
          go_wp2
          go_ret
          exact ⟨by rw [HX.out]; rfl, h12⟩
      · have HX := hid (HCO.out (fun _ h => by simp at h; omega))
        have hkd : (k : Int) < (L.length : Int) := by omega
        have hkd2 : ¬ (k : Int) < (M.length : Int) := by omega
        clear HCO
        go_wp2_with fail
        refine wp_region_quietS _ (by kernel_rfl) (by kernel_rfl) hr ?_
        intro hne
        repeat (go_big_quiet_step (fail))
        refine wpQuiet_nil ?_
        intro w12 hw'
        have h12 := SW.out hw'
        clear hw' hne
        go_wp2
        go_ret
        exact ⟨by rw [HX.out]; rfl, h12⟩
    · have HX := hid (HCO.out (fun h _ => by simp at h; omega))
      have hkd : ¬ (k : Int) < (L.length : Int) := by omega
      clear HCO
      go_wp2_with fail
      refine wp_region_quietS _ (by kernel_rfl) (by kernel_rfl) hr ?_
      intro hne
      repeat (go_big_quiet_step (fail))
      refine wpQuiet_nil ?_
      intro w12 hw'
      have h12 := SW.out hw'
      clear hw' hne
      go_wp2
      go_ret
      exact ⟨by rw [HX.out]; rfl, h12⟩
end Go.Proofs.Ytacfaegljjgneaa
