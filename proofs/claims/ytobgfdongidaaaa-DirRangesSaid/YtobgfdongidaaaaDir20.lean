import Derived.Test.YtobgfdongidaaaaDir19
namespace Go.Proofs.Ytobgfdongidaaaa
set_option linter.unusedVariables false
set_option linter.unusedSimpArgs false
open Go.RowKit Go.Proofs.Sep Go.Lib

set_option maxRecDepth 100000 in
set_option maxHeartbeats 4000000 in
theorem same10 {E w : World} {F : Asn} (A B : Option Addr) (c d : Nat) (L M : List Ent) (hl : L.length ≤ 900000) (hm : M.length ≤ 900000) (hS : Sat E F w) (hA : ∀ w, Sat E F w → Reads w 2 A L.length (ents L)) (hB : ∀ w, Sat E F w → Reads w 2 B M.length (ents M)) :
    Calls Try.prog 10 #[.slice A L.length c, .slice B M.length d] w fun r w' => r = .returned (.bool (decide (L = M))) ∧ Sat E F w' := by
  by_cases hlen : L.length = M.length
  · have zl : ((L.length : Int) == (M.length : Int)) = true := by rw [hlen]; simp
    have HL := hid hlen
    go_enter Try.func10, Try.ntmps10
    go_wp2_with fail
    go_loopw [5] (fun iv wr => ∃ k : Nat, k ≤ L.length ∧ iv = .int .i64 k ∧ L.take k = M.take k ∧ Sat E F wr) (fun iv _ => L.length - (intOf iv).toNat)
    case atStart => exact ⟨0, by omega, rfl, rfl, hS⟩
    case round =>
      obtain ⟨k, hk, rfl, heq, hq⟩ := hrel
      have HE := hid heq
      clear heq
      by_cases hlt : k < L.length
      · have hlt2 : k < M.length := by have := HL.out; omega
        have hkd : (k : Int) < (L.length : Int) := by omega
        have hkd2 : (k : Int) < (M.length : Int) := by omega
        have wk := i64_wrap (x := (k : Int) + 1) (by omega) (by omega)
        obtain ⟨ad, hAd, q⟩ := ent_at hA hlt hq
        obtain ⟨x0, x1⟩ := q _ hq
        obtain ⟨bd, hBd, q'⟩ := ent_at hB hlt2 hq
        obtain ⟨y0, y1⟩ := q' _ hq
        subst hAd hBd
        have hnx : L[k] = M[k] → L.take (k + 1) = M.take (k + 1) := fun h => by
          rw [List.take_succ_eq_append_getElem hlt, List.take_succ_eq_append_getElem hlt2, HE.out, h]
        have hno : ¬ L[k] = M[k] → ¬ L = M := fun h e => h (by subst e; rfl)
        have HN := hid hnx
        have HO := hid hno
        clear q q' hnx hno hlen
        generalize L[k] = X at *
        generalize M[k] = Y at *
        obtain ⟨X1, X2⟩ := X
        obtain ⟨Y1, Y2⟩ := Y
        simp only at x0 x1 y0 y1
        by_cases hxy : X1 = Y1 ∧ X2 = Y2
        · obtain ⟨rfl, rfl⟩ := hxy
          go_wp2_with fail
          go_quiet (fail)
          go_wp2_with fail
          go_roundw
          case rel => exact ⟨k + 1, by omega, by go_num, (by first | exact HN.out rfl | exact HN.out trivial), hq.drewN _⟩
          case measure => simp [intOf]; omega
        · have hne : decide (L = M) = false := decide_eq_false (HO.out fun h => hxy (by injection h with h1 h2; exact ⟨h1, h2⟩))
          have HD := hid hne
          clear hne
          by_cases h1 : X1 = Y1
          · have h2 : ¬ X2 = Y2 := fun h => hxy ⟨h1, h⟩
            subst h1
            have z2 : (X2 == Y2) = false := beq_eq_false_iff_ne.2 h2
            clear hxy
            go_wp2_with fail
            go_quiet (fail)
            go_wp2_with fail
            go_ret
            rw [HD.out]
            exact ⟨rfl, hq.drewN _⟩
          · have z3 : (X1.toList == Y1.toList) = false := beq_eq_false_iff_ne.2 fun h => h1 (by
              rw [Lib.toList_data, Lib.toList_data] at h
              exact kcmp_eq (by unfold kcmp; rw [h]; exact cb_refl _))
            clear hxy
            go_wp2_with fail
            go_quiet (fail)
            go_wp2_with fail
            go_ret
            rw [HD.out]
            exact ⟨rfl, hq.drewN _⟩
      · obtain rfl : k = L.length := by omega
        have hkd : ¬ (L.length : Int) < (L.length : Int) := by omega
        have hfin : decide (L = M) = true := by
          have h := HE.out
          rw [List.take_length, HL.out, List.take_length] at h
          exact decide_eq_true h
        have HF := hid hfin
        clear hfin hlt
        go_wp2_with fail
        go_ret
        rw [HF.out]
        exact ⟨rfl, hq⟩
  · have zl : ((L.length : Int) == (M.length : Int)) = false := beq_eq_false_iff_ne.2 (by omega)
    have hne : decide (L = M) = false := by simp; intro h; rw [h] at hlen; exact hlen rfl
    rw [hne]
    clear hne hlen
    go_enter Try.func10, Try.ntmps10
    go_wp2_with fail
    go_ret
    exact ⟨rfl, hS⟩
end Go.Proofs.Ytobgfdongidaaaa
