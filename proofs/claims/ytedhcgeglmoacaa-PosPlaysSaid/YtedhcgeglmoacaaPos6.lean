import Derived.Test.YtedhcgeglmoacaaPosLast
namespace Go.Proofs.Ytedhcgeglmoacaa
set_option linter.unusedVariables false
set_option linter.unusedSimpArgs false
open Go.RowKit Go.Proofs.Sep
theorem Try.info83 : (Try.prog.info? 83).map (fun i => (i.zero, i.size, i.bytes)) = some (some (.agg #[.int .i64 0, .int .i64 0]), 2, 16) := by kernel_rfl

set_option maxRecDepth 100000 in
set_option maxHeartbeats 1000000 in
theorem place_calls {E w : World} {F : Asn} (a b : Int) (hS : Sat E F w) :
    Calls Try.prog 40 #[.agg #[.int .i64 a, .int .i64 b]] w fun e w' => e = .returned (.agg #[.int .i64 a, .int .i64 b]) ∧ Sat E F w' := by
  have h1 := (hS.alloc_drop (.cells #[.int .i64 a, .int .i64 b] 39)).alloc (.cells #[.int .i64 a, .int .i64 b] 83)
  go_enter Try.func40, Try.ntmps40
  go_wp2
  refine bodyPost_ret (results_cell_row rfl _ _ (w.heap.size + 1) 83 #[.int .i64 a, .int .i64 b] (0, 0) _ (by simp) ?_ Try.underlying83 rfl (by kernel_rfl)) rfl ?_
  · have := h1.at_blk; simpa using this
  · exact ⟨rfl, h1.right⟩

set_option maxRecDepth 100000 in
set_option maxHeartbeats 1000000 in
theorem places_calls {E w : World} {F : Asn} (A : Option Addr) (c : Nat) (l : List (Int × Int)) (hS : Sat E F w) (hn : l.length ≤ 1000000) (hR : ∀ w, Sat E F w → Reads w 2 A l.length (pairs l)) :
    Calls Try.prog 36 #[.slice A l.length c] w fun e w' => ∃ v, e = .returned v ∧ Sat E (row 83 2 v l.length (pairs l) * F) w' := by
  go_enter Try.func36, Try.ntmps36
  go_wp2_with fail
  go_loopw [3, 4] (fun v i wr => ∃ k : Nat, k ≤ l.length ∧ i = .int .i64 k ∧ Sat E (row 83 2 v k (pairs (l.take k)) * F) wr) (fun _ i _ => l.length - (intOf i).toNat)
  case atStart => exact ⟨0, by omega, rfl, hS.row_nil⟩
  case round =>
    obtain ⟨k, hk, rfl, hr⟩ := hrel
    obtain ⟨Av, cv, rfl, hcv1, hcv2, hRv⟩ := hr.reads
    by_cases hlt : k < l.length
    · obtain ⟨ad, rfl, hc⟩ := (hR _ hr.right).at (by omega)
      have d0 := hc _ _ (pairs_at0 hlt)
      have d1 := cell_two (hc _ _ (pairs_at1 hlt))
      clear hc
      have hnx : pairs (l.take k) ++ [.int .i64 l[k].1, .int .i64 l[k].2] = pairs (l.take (k + 1)) := by
        rw [List.take_add_one, List.getElem?_eq_getElem hlt, Option.toList_some, pairs_append]
        rfl
      have HN := hid hnx
      clear hnx
      go_wp2_with fail
      refine (place_calls l[k].1 l[k].2 hr).mono ?_
      rintro e w1 ⟨rfl, h1⟩
      go_wp2_with (at_builtin; refine wpList_append_sat rfl _ _ 72 83 (.agg #[.int .i64 0, .int .i64 0]) 2 16 rfl Try.underlying72 Try.info83 rfl (by decide) _ k _ _ 1 1 [.int .i64 l[k].1, .int .i64 l[k].2] rfl rfl (h1.alloc_drop _) (Reads.newAt 2 1 [.int .i64 l[k].1, .int .i64 l[k].2] 83 rfl (by omega) (by simp)) (by simp [Value.oneCell']) (by unfold maxLen; omega) (by omega) ?_; intro v1 w6 h6)
      rw [HN.out] at h6
      go_wp2
      go_roundw
      case rel => exact ⟨k + 1, by omega, by go_num, h6⟩
      case measure => simp [intOf]; omega
    · obtain rfl : k = l.length := by omega
      rw [List.take_length] at hr
      go_wp2
      go_ret
      exact ⟨_, rfl, hr⟩

set_option maxRecDepth 100000 in
set_option maxHeartbeats 1000000 in
theorem samePlaces {w : World} (A B : Option Addr) (n m c d : Nat) (xs ys : List (Int × Int)) (hA : Reads w 2 A n (pairs xs)) (hB : Reads w 2 B m (pairs ys)) :
    Calls Try.prog 35 #[.slice A n c, .slice B m d] w fun e w' => e = .returned (.bool (decide (xs = ys))) ∧ ∃ q, w' = w.drewN q := by
  have hxl : xs.length = n := by have := hA.1; rw [pairs_length] at this; omega
  have hyl : ys.length = m := by have := hB.1; rw [pairs_length] at this; omega
  have hn := hA.2.1
  by_cases hnm : n = m
  · subst hnm
    have hfin : ∀ b, b = decide (xs = ys) → Ending.returned (.bool b) = .returned (.bool (decide (xs = ys))) := fun b h => by rw [h]
    have HF := hid hfin
    clear hfin
    go_enter Try.func35, Try.ntmps35
    go_wp2_with fail
    go_loopw [5] (fun i wr => ∃ k : Nat, k ≤ n ∧ i = .int .i64 k ∧ Hid (xs.take k = ys.take k) ∧ ∃ q, wr = w.drewN q) (fun i _ => n - (intOf i).toNat)
    case atStart => exact ⟨0, by omega, rfl, rfl, 0, rfl⟩
    case round =>
      obtain ⟨k, hk, rfl, he, q, rfl⟩ := hrel
      by_cases hlt : k < n
      · obtain ⟨ad, rfl, hc⟩ := hA.at (by omega)
        obtain ⟨bd, rfl, hd⟩ := hB.at (by omega)
        have a0 := hc _ _ (pairs_at0 (k := k) (by omega))
        have a1 := cell_two (hc _ _ (pairs_at1 (k := k) (by omega)))
        have b0 := hd _ _ (pairs_at0 (k := k) (by omega))
        have b1 := cell_two (hd _ _ (pairs_at1 (k := k) (by omega)))
        clear hc hd
        have hkn : (k : Int) < (n : Int) := by omega
        by_cases hx : xs[k].1 = ys[k].1
        · by_cases hy : xs[k].2 = ys[k].2
          · have hn1 : xs.take (k + 1) = ys.take (k + 1) := by
              rw [List.take_add_one, List.take_add_one, he.out, List.getElem?_eq_getElem (by omega), List.getElem?_eq_getElem (by omega), Prod.ext hx hy]
            have HN := hid hn1
            rw [hx] at a0
            rw [hy] at a1
            clear hx hy hn1
            go_wp2_with fail
            go_quiet (fail)
            go_wp2_with fail
            go_roundw
            case rel => exact ⟨k + 1, by omega, by go_num, HN, _, rfl⟩
            case measure => simp [intOf]; omega
          · have h0 : (xs[k].2 == ys[k].2) = false := by simpa using hy
            have hne : xs ≠ ys := fun h => hy (by subst h; rfl)
            have HNE := hid hne
            rw [hx] at a0
            clear hx hy hne
            go_wp2_with fail
            go_quiet (fail)
            go_wp2
            go_ret
            exact ⟨HF.out _ (decide_eq_false HNE.out).symm, _, World.drewN_drewN ..⟩
        · have h0 : (xs[k].1 == ys[k].1) = false := by simpa using hx
          have hne : xs ≠ ys := fun h => hx (by subst h; rfl)
          have HNE := hid hne
          clear hx hne
          go_wp2_with fail
          go_quiet (fail)
          go_wp2
          go_ret
          exact ⟨HF.out _ (decide_eq_false HNE.out).symm, _, World.drewN_drewN ..⟩
      · have hfe : xs = ys := by
          have := he.out
          rwa [List.take_of_length_le (by omega), List.take_of_length_le (by omega)] at this
        have HE := hid hfe
        clear hfe
        go_wp2
        go_ret
        exact ⟨HF.out _ (decide_eq_true HE.out).symm, q, rfl⟩
  · have h0 : ((n : Int) == (m : Int)) = false := by simp; omega
    have hne : xs ≠ ys := fun h => hnm (by subst h; omega)
    have HF := hid (decide_eq_false hne)
    clear hne
    go_enter Try.func35, Try.ntmps35
    go_wp2
    go_ret
    exact ⟨ret_bool HF.out.symm, 0, rfl⟩
end Go.Proofs.Ytedhcgeglmoacaa
