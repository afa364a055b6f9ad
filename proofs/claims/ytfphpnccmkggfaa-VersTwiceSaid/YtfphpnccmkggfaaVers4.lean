import Derived.Test.YtfphpnccmkggfaaVers3
namespace Go.Proofs.Ytfphpnccmkggfaa
set_option linter.unusedVariables false
set_option linter.unusedSimpArgs false
open Go.RowKit Go.Proofs.Sep

theorem liveAt_nat {ls : List Int} {k : Nat} (h : k < ls.length) : liveAt ls k = ls[k] := by
  unfold liveAt isB
  rw [if_pos (decide_eq_true ⟨by omega, by omega⟩), Int.toNat_natCast, List.getD_eq_getElem?_getD, List.getElem?_eq_getElem h]; rfl

set_option maxRecDepth 100000 in
set_option maxHeartbeats 1000000 in
theorem bits_calls {E w : World} {F : Asn} (b : Nat) (ls : List Int) (hS : Sat E (vbits b ls * F) w) (hn : ls.length ≤ 1000000) :
    Calls Try.prog 17 #[.pointer (some ⟨b, 0, none⟩)] w fun e w' => ∃ v, e = .returned v ∧ Sat E (row 3 1 v ls.length (nums .i64 ls) * (vbits b ls * F)) w' := by
  go_enter Try.func17, Try.ntmps17
  go_wp2_with fail
  go_loopw [3, 4] (fun v i wr => ∃ k : Nat, k ≤ ls.length ∧ i = .int .i64 k ∧ Sat E (row 3 1 v k (nums .i64 (ls.take k)) * (vbits b ls * F)) wr) (fun _ i _ => ls.length - (intOf i).toNat)
  case atStart => exact ⟨0, by omega, rfl, hS.row_nil⟩
  case round =>
    obtain ⟨k, hk, rfl, hr⟩ := hrel
    obtain ⟨Av, cv, rfl, hcv1, hcv2, hRv⟩ := hr.reads
    have hr2 := hr.eq (star_left_comm _ _ _)
    by_cases hlt : k < ls.length
    · have hv := liveAt_nat hlt
      have hnx := nums_take_succ (k := .i64) hlt
      have HV := hid hv
      have HN := hid hnx
      clear hv hnx
      go_wp2_with fail
      refine (len_calls b ls hr2).mono ?_
      rintro e w1 ⟨rfl, rfl⟩
      go_wp2_with fail
      refine (live_calls b ls k hr2).mono ?_
      rw [HV.out]
      rintro e w1 ⟨rfl, rfl⟩
      go_wp2_with (at_builtin; refine wpList_append_sat rfl _ _ 22 3 (.int .i64 0) 1 8 rfl Try.underlying22 Try.info3 rfl (by decide) _ k _ _ 1 1 [.int .i64 ls[k]] rfl rfl (hr.alloc_drop _) (Reads.new 1 1 [.int .i64 ls[k]] 3 rfl (by omega)) (by simp [Value.oneCell']) (by unfold maxLen; omega) (by omega) ?_; intro v1 w6 h6)
      rw [HN.out] at h6
      go_wp2
      go_roundw
      case rel => exact ⟨k + 1, by omega, by go_num, h6⟩
      case measure => simp [intOf]; omega
    · obtain rfl : k = ls.length := by omega
      rw [List.take_length] at hr
      go_wp2_with fail
      refine (len_calls b ls hr2).mono ?_
      rintro e w1 ⟨rfl, rfl⟩
      go_wp2
      go_ret
      exact ⟨_, rfl, hr⟩

theorem pack_first : pack [0, 0, 1] = [4] := by decide
set_option maxRecDepth 100000 in
set_option maxHeartbeats 1000000 in
theorem first12 {E w : World} {F : Asn} (hS : Sat E F w) : Calls Try.prog 12 #[] w fun e w' => e = .returned (.bool true) ∧ Sat E F w' := by
  have b01 : Bits01 (List.replicate 3 0) := by intro x hx; rw [List.eq_of_mem_replicate hx]; unfold Bit; omega
  have ha : allB (List.replicate 3 (0 : Int)).length [2] = true := by decide
  have hf : flipR (List.replicate 3 0) [2] = [0, 0, 1] := by decide
  have b02 : Bits01 [0, 0, 1] := by rw [← hf]; exact flipR_bits b01 _
  have l1 : liveAt [0, 0, 1] 2 = 1 := by decide
  have l2 : liveAt [0, 0, 1] 3 = -1 := by decide
  have L1 := hid l1
  have L2 := hid l2
  have HA := hid ha
  have HF := hid hf
  clear l1 l2 ha hf
  go_enter Try.func12, Try.ntmps12
  go_wp2_with fail
  refine (new_ok 3 (by omega) (by omega) hS).mono ?_
  rintro e w1 ⟨b, rfl, h1⟩
  have h1' : Sat E (vbits b (List.replicate 3 0) * F) w1 := h1
  clear h1
  have h2 : Sat E (vbits b (List.replicate 3 0) * (blk w1.heap.size (.cells [Value.int .i64 2].toArray 3) * F)) (w1.alloc (.cells #[.int .i64 2] 3)) := (h1'.alloc (.cells #[.int .i64 2] 3)).eq (star_left_comm _ _ _)
  go_wp2_with fail
  refine (flip_calls b _ _ 1 1 [2] h2 (by simp) b01 (fun w hw => hw.blk_reads rfl (by omega))).mono ?_
  rw [HA.out, HF.out]
  rintro e w2 ⟨rfl, h3⟩
  go_wp2_with fail
  refine (bytes_calls b _ h3 (by simp) b02).mono ?_
  rintro e w3 ⟨v3, rfl, h4⟩
  obtain ⟨A3, c3, rfl, _, _, hR3⟩ := h4.reads
  have h5 : Sat E (blk w3.heap.size (.cells [Value.int .u8 4].toArray 5) * _) (w3.alloc (.cells #[.int .u8 4] 5)) := h4.alloc (.cells #[.int .u8 4] 5)
  have hR4 := h5.blk_reads (size := 1) (n := 1) rfl (by omega)
  rw [pack_first] at hR3
  go_wp2_with fail
  refine (bytesEq _ _ _ _ _ _ [4] [4] (hR3.alloc _) hR4 (by intro x hx; simp at hx; omega) (by intro x hx; simp at hx; omega)).mono ?_
  rw [decide_eq_true (rfl : ([4] : List Int) = [4])]
  rintro e w4 ⟨rfl, rfl⟩
  have h6 := (h5.right.right)
  clear hR4 hR3
  go_wp2_with fail
  refine (live_calls b _ 2 h6).mono ?_
  rw [L1.out]
  rintro e w4 ⟨rfl, rfl⟩
  go_wp2_with fail
  refine (live_calls b _ 3 h6).mono ?_
  rw [L2.out]
  rintro e w4 ⟨rfl, rfl⟩
  go_wp2_with fail
  refine (new_bad 0 (by omega)).mono ?_
  rintro e w4 ⟨rfl, rfl⟩
  go_wp2
  go_ret
  exact ⟨rfl, h6.right.right⟩
end Go.Proofs.Ytfphpnccmkggfaa
