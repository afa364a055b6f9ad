import Derived.Test.YtedhcgeglmoacaaPosRef3
namespace Go.Proofs.Ytedhcgeglmoacaa
set_option linter.unusedVariables false
set_option linter.unusedSimpArgs false
open Go.RowKit Go.Proofs.Sep

set_option maxRecDepth 100000 in
set_option maxHeartbeats 1000000 in
theorem sameChanges {w : World} (A B : Option Addr) (n m c d : Nat) (xs ys : List (Int × Int × Int)) (hA : Reads w 3 A n (chs xs)) (hB : Reads w 3 B m (chs ys)) :
    Calls Try.prog 45 #[.slice A n c, .slice B m d] w fun e w' => e = .returned (.bool (decide (xs = ys))) ∧ ∃ q, w' = w.drewN q := by
  have hxl : xs.length = n := by have := hA.1; rw [chs_length] at this; omega
  have hyl : ys.length = m := by have := hB.1; rw [chs_length] at this; omega
  have hn := hA.2.1
  by_cases hnm : n = m
  · subst hnm
    have hfin : ∀ b, b = decide (xs = ys) → Ending.returned (.bool b) = .returned (.bool (decide (xs = ys))) := fun b h => by rw [h]
    have HF := hid hfin
    clear hfin
    go_enter Try.func45, Try.ntmps45
    go_wp2_with fail
    go_loopw [5] (fun i wr => ∃ k : Nat, k ≤ n ∧ i = .int .i64 k ∧ Hid (xs.take k = ys.take k) ∧ ∃ q, wr = w.drewN q) (fun i _ => n - (intOf i).toNat)
    case atStart => exact ⟨0, by omega, rfl, rfl, 0, rfl⟩
    case round =>
      obtain ⟨k, hk, rfl, he, q, rfl⟩ := hrel
      by_cases hlt : k < n
      · obtain ⟨ad, rfl, hc⟩ := hA.at (by omega)
        obtain ⟨bd, rfl, hd⟩ := hB.at (by omega)
        obtain ⟨x0, x1, x2⟩ := chs_at (l := xs) (k := k) (by omega)
        obtain ⟨y0, y1, y2⟩ := chs_at (l := ys) (k := k) (by omega)
        have a0 := hc _ _ x0
        have a1 := cell_two (hc _ _ x1)
        have a2 := cell_three (hc _ _ x2)
        have b0 := hd _ _ y0
        have b1 := cell_two (hd _ _ y1)
        have b2 := cell_three (hd _ _ y2)
        clear hc hd x0 x1 x2 y0 y1 y2
        have hkn : (k : Int) < (n : Int) := by omega
        by_cases hx : xs[k].1 = ys[k].1
        · by_cases hy : xs[k].2.1 = ys[k].2.1
          · by_cases hz : xs[k].2.2 = ys[k].2.2
            · have hn1 : xs.take (k + 1) = ys.take (k + 1) := by
                rw [List.take_add_one, List.take_add_one, he.out, List.getElem?_eq_getElem (by omega), List.getElem?_eq_getElem (by omega), Prod.ext hx (Prod.ext hy hz)]
              have HN := hid hn1
              rw [hx] at a0
              rw [hy] at a1
              rw [hz] at a2
              clear hx hy hz hn1
              go_wp2_with fail
              go_quiet (fail)
              go_wp2_with fail
              go_roundw
              case rel => exact ⟨k + 1, by omega, by go_num, HN, _, rfl⟩
              case measure => simp [intOf]; omega
            · have h0 : (xs[k].2.2 == ys[k].2.2) = false := by simpa using hz
              have hne : xs ≠ ys := fun h => hz (by subst h; rfl)
              have HNE := hid hne
              rw [hx] at a0
              rw [hy] at a1
              clear hx hy hz hne
              go_wp2_with fail
              go_quiet (fail)
              go_wp2
              go_ret
              exact ⟨HF.out _ (decide_eq_false HNE.out).symm, _, World.drewN_drewN ..⟩
          · have h0 : (xs[k].2.1 == ys[k].2.1) = false := by simpa using hy
            have hne : xs ≠ ys := fun h => hy (by subst h; rfl)
            have HNE := hid hne
            rw [hx] at a0
            clear hx hy hne
            go_wp2_with fail
            go_quiet (fail)
            go_wp2
            go_ret
            exact ⟨HF.out _ (decide_eq_false HNE.out).symm, _, World.drewN_drewN ..⟩
        · have h0 : (xs[k].1 == ys[k].1) = false := by simpa using hx
          have hne : xs ≠ ys := fun h => hx (by subst h; rfl)
          have HNE := hid hne
          clear hx hne
          go_wp2_with fail
          go_quiet (fail)
          go_wp2
          go_ret
          exact ⟨HF.out _ (decide_eq_false HNE.out).symm, _, World.drewN_drewN ..⟩
      · have hfe : xs = ys := by
          have := he.out
          rwa [List.take_of_length_le (by omega), List.take_of_length_le (by omega)] at this
        have HE := hid hfe
        clear hfe
        go_wp2
        go_ret
        exact ⟨HF.out _ (decide_eq_true HE.out).symm, q, rfl⟩
  · have h0 : ((n : Int) == (m : Int)) = false := by simp; omega
    have hne : xs ≠ ys := fun h => hnm (by subst h; omega)
    have HF := hid (decide_eq_false hne)
    clear hne
    go_enter Try.func45, Try.ntmps45
    go_wp2
    go_ret
    exact ⟨ret_bool HF.out.symm, 0, rfl⟩
end Go.Proofs.Ytedhcgeglmoacaa
