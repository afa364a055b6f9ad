import Derived.Test.YtfphpnccmkggfaaIds1
import Derived.Test.YtfphpnccmkggfaaSepQuiet
namespace Go.Proofs.Ytfphpnccmkggfaa
set_option linter.unusedVariables false
set_option linter.unusedSimpArgs false
open Go.RowKit Go.Proofs.Sep

set_option maxRecDepth 100000 in
set_option maxHeartbeats 1000000 in
theorem all_calls {E w : World} {F : Asn} (p n : Nat) (T : List Int) (hS : Sat E (bp p n (poolOf n T) * F) w) (hn : n ≤ 1000000) :
    Calls Try.prog 37 #[.pointer (some ⟨p, 0, none⟩)] w fun e w' => ∃ v, e = .returned v ∧ Sat E (row 3 1 v (freeOf n T).length (nums .i64 (freeOf n T)) * (bp p n (poolOf n T) * F)) w' := by
  obtain ⟨A, c, _, _, h2, hR⟩ := bp_open hS
  have c0 := h2.cell_blk (i := 0)
  simp only [List.getElem?_toArray, List.getElem?_cons_zero, List.getElem?_cons_succ] at c0
  obtain ⟨G, hG⟩ : ∃ G, blk p (.cells #[.slice A n c] 71) * (row 4 1 (.slice A n c) n (bools (poolOf n T)) * F) = G := ⟨_, rfl⟩
  have hGR : ∀ w, Sat E G w → Reads w 1 A n (bools (poolOf n T)) := fun w h => by rw [← hG] at h; exact h.right.reads_at
  have hGF : ∀ w, Sat E (row 3 1 (.slice none 0 0) 0 [] * G) w → True := fun _ _ => trivial
  rw [hG] at h2
  have HG := hid hG
  clear hG hS hGF
  go_enter Try.func37, Try.ntmps37
  go_wp2_with fail
  go_loopw [3, 11] (fun v i wr => ∃ k : Nat, k ≤ n ∧ i = .int .i64 k ∧ Sat E (row 3 1 v (freeOf k T).length (nums .i64 (freeOf k T)) * G) wr) (fun _ i _ => n - (intOf i).toNat)
  case atStart => exact ⟨0, by omega, rfl, h2.row_nil⟩
  case round =>
    clear h2 c0 hR
    obtain ⟨k, hk, rfl, hr⟩ := hrel
    obtain ⟨Av, cv, rfl, _, _, _⟩ := hr.reads
    have hfl := freeOf_length_le k T
    by_cases hlt : k < n
    · obtain ⟨ad, rfl, hca⟩ := pool_cell (hGR _ hr.right) hlt
      have hkd : (k : Int) < (n : Int) := by omega
      by_cases hx : (k : Int) ∈ T
      · have HN := hid (freeOf_in hx)
        rw [decide_eq_false (by simpa using hx)] at hca
        clear hx
        go_wp2
        go_roundw
        case rel => exact ⟨k + 1, by omega, by go_num, by rw [HN.out]; exact hr⟩
        case measure => simp [intOf]; omega
      · have hny : nums .i64 (freeOf k T) ++ [.int .i64 k] = nums .i64 (freeOf (k + 1) T) := by rw [freeOf_out hx, nums_append]; rfl
        have hnl : (freeOf k T).length + 1 = (freeOf (k + 1) T).length := by rw [freeOf_out hx]; simp
        have HN := hid hny
        have HL := hid hnl
        rw [decide_eq_true hx] at hca
        clear hx hny hnl
        go_wp2_with (at_builtin; refine wpList_append_sat rfl _ _ 22 3 (.int .i64 0) 1 8 rfl Try.underlying22 Try.info3 rfl (by decide) _ (freeOf k T).length _ _ 1 1 [.int .i64 k] rfl rfl (hr.alloc_drop _) (Reads.new 1 1 [.int .i64 k] 3 rfl (by omega)) (by simp [Value.oneCell']) (by unfold maxLen; omega) (by omega) ?_; intro v1 w6 h6)
        rw [HN.out, HL.out] at h6
        go_wp2
        go_roundw
        case rel => exact ⟨k + 1, by omega, by go_num, h6⟩
        case measure => simp [intOf]; omega
    · obtain rfl : k = n := by omega
      rw [← HG.out] at hr
      go_wp2
      go_ret
      refine ⟨_, rfl, ?_⟩
      exact (bp_shut ((hr.eq (star_left_comm _ _ _)).eq (show _ = blk p (.cells #[.slice A k c] 71) * (row 4 1 (.slice A k c) k (bools (poolOf k T)) * (row 3 1 (.slice Av (freeOf k T).length cv) (freeOf k T).length (nums .i64 (freeOf k T)) * F)) by ac_rfl))).eq (star_left_comm _ _ _)

set_option maxRecDepth 100000 in
set_option maxHeartbeats 400000 in
theorem len_calls {E w : World} {F : Asn} (p n : Nat) (T : List Int) (hS : Sat E (bp p n (poolOf n T) * F) w) (hn : n ≤ 1000000) :
    Calls Try.prog 38 #[.pointer (some ⟨p, 0, none⟩)] w fun e w' => e = .returned (.int .i64 (freeOf n T).length) ∧ Sat E (bp p n (poolOf n T) * F) w' := by
  go_enter Try.func38, Try.ntmps38
  go_wp2_with fail
  refine (all_calls p n T hS hn).mono ?_
  rintro e w1 ⟨v, rfl, h1⟩
  obtain ⟨Av, cv, rfl, _, _, _⟩ := h1.reads
  have h2 := h1.right
  go_wp2
  go_ret
  exact ⟨rfl, h2⟩

set_option maxRecDepth 100000 in
set_option maxHeartbeats 400000 in
theorem free_calls {E w : World} {F : Asn} (p n : Nat) (T : List Int) (x : Int) (hS : Sat E (bp p n (poolOf n T) * F) w) :
    Calls Try.prog 39 #[.pointer (some ⟨p, 0, none⟩), .int .i64 x] w fun e w' => e = .returned (.bool (decide (x ∈ freeOf n T))) ∧ Sat E (bp p n (poolOf n T) * F) w' := by
  obtain ⟨A, c, _, _, h2, hR⟩ := bp_open hS
  have c0 := h2.cell_blk (i := 0)
  simp only [List.getElem?_toArray, List.getElem?_cons_zero, List.getElem?_cons_succ] at c0
  have hmm := hR.2.1
  by_cases h0 : 0 ≤ x
  · by_cases h1 : x < (n : Int)
    · obtain ⟨k, rfl⟩ := Int.eq_ofNat_of_zero_le h0
      obtain ⟨ad, rfl, hca⟩ := pool_cell hR (show k < n by omega)
      have hv : decide ((k : Int) ∈ freeOf n T) = decide ((k : Int) ∉ T) := by
        rw [decide_eq_decide, mem_freeOf]
        exact ⟨fun h => h.2, fun h => ⟨⟨h0, h1⟩, h⟩⟩
      rw [hv]
      generalize decide ((k : Int) ∉ T) = b at *
      clear hv
      go_enter Try.func39, Try.ntmps39
      go_wp2
      go_ret
      exact ⟨rfl, hS⟩
    · have hv := hid (show decide (x ∈ freeOf n T) = false from decide_eq_false (fun h => h1 (mem_freeOf.1 h).1.2))
      go_enter Try.func39, Try.ntmps39
      go_wp2
      go_ret
      rw [hv.out]
      exact ⟨ret_bool (by first | rfl | (simp; omega)), hS⟩
  · have hv := hid (show decide (x ∈ freeOf n T) = false from decide_eq_false (fun h => h0 (mem_freeOf.1 h).1.1))
    go_enter Try.func39, Try.ntmps39
    go_wp2
    go_ret
    rw [hv.out]
    exact ⟨ret_bool (by first | rfl | (simp; omega)), hS⟩

set_option maxRecDepth 100000 in
set_option maxHeartbeats 1000000 in
theorem rfree_calls {E w : World} {F : Asn} (n : Nat) (A : Option Addr) (m c : Nat) (T : List Int) (hS : Sat E F w) (hn : n ≤ 1000000) (hR : ∀ w, Sat E F w → Reads w 1 A m (nums .i64 T)) :
    Calls Try.prog 33 #[.int .i64 n, .slice A m c] w fun e w' => ∃ v, e = .returned v ∧ Sat E (row 3 1 v (freeOf n T).length (nums .i64 (freeOf n T)) * F) w' := by
  go_enter Try.func33, Try.ntmps33
  go_wp2_with fail
  go_loopw [5, 6] (fun v i wr => ∃ k : Nat, k ≤ n ∧ i = .int .i64 k ∧ Sat E (row 3 1 v (freeOf k T).length (nums .i64 (freeOf k T)) * F) wr) (fun _ i _ => n - (intOf i).toNat)
  case atStart => exact ⟨0, by omega, rfl, hS.row_nil⟩
  case round =>
    obtain ⟨k, hk, rfl, hr⟩ := hrel
    obtain ⟨Av, cv, rfl, _, _, _⟩ := hr.reads
    have hfl := freeOf_length_le k T
    by_cases hlt : k < n
    · have hkd : (k : Int) < (n : Int) := by omega
      by_cases hx : (k : Int) ∈ T
      · have HN := hid (freeOf_in hx)
        have HD := hid (decide_eq_true hx)
        clear hx
        go_wp2_with fail
        refine (hasInt A m c T k (hR _ hr.right)).mono ?_
        rw [HD.out]
        rintro e w3 ⟨rfl, rfl⟩
        go_wp2
        go_roundw
        case rel => exact ⟨k + 1, by omega, by go_num, by rw [HN.out]; exact hr⟩
        case measure => simp [intOf]; omega
      · have hny : nums .i64 (freeOf k T) ++ [.int .i64 k] = nums .i64 (freeOf (k + 1) T) := by rw [freeOf_out hx, nums_append]; rfl
        have hnl : (freeOf k T).length + 1 = (freeOf (k + 1) T).length := by rw [freeOf_out hx]; simp
        have HN := hid hny
        have HL := hid hnl
        have HD := hid (decide_eq_false hx)
        clear hx hny hnl
        go_wp2_with fail
        refine (hasInt A m c T k (hR _ hr.right)).mono ?_
        rw [HD.out]
        rintro e w3 ⟨rfl, rfl⟩
        go_wp2_with (at_builtin; refine wpList_append_sat rfl _ _ 22 3 (.int .i64 0) 1 8 rfl Try.underlying22 Try.info3 rfl (by decide) _ (freeOf k T).length _ _ 1 1 [.int .i64 k] rfl rfl (hr.alloc_drop _) (Reads.new 1 1 [.int .i64 k] 3 rfl (by omega)) (by simp [Value.oneCell']) (by unfold maxLen; omega) (by omega) ?_; intro v1 w6 h6)
        rw [HN.out, HL.out] at h6
        go_wp2
        go_roundw
        case rel => exact ⟨k + 1, by omega, by go_num, h6⟩
        case measure => simp [intOf]; omega
    · obtain rfl : k = n := by omega
      go_wp2
      go_ret
      exact ⟨_, rfl, hr⟩
end Go.Proofs.Ytfphpnccmkggfaa
