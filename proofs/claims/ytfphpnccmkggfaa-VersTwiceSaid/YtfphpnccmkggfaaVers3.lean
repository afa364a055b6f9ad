import Derived.Test.YtfphpnccmkggfaaVers2
namespace Go.Proofs.Ytfphpnccmkggfaa
open Go.RowKit Go.Proofs.Sep

theorem nums_getD {k : IntKind} {xs : List Int} {j : Nat} (h : j < xs.length) : (nums k xs)[j]? = some (.int k (xs.getD j 0)) := by
  rw [nums_at h, List.getD_eq_getElem?_getD, List.getElem?_eq_getElem h]; rfl
/-- The bytes, a bit at a time. -/
def packTo (ls : List Int) : Nat → List Int
  | 0 => List.replicate ((ls.length + 7) / 8) 0
  | k + 1 => (packTo ls k).set (k / 8) (bits .or .u8 ((packTo ls k).getD (k / 8) 0) (ls.getD k 0 * 2 ^ (k % 8)))
def pack (ls : List Int) : List Int := packTo ls ls.length
theorem packTo_length (ls : List Int) (k : Nat) : (packTo ls k).length = (ls.length + 7) / 8 := by
  induction k with
  | zero => simp [packTo]
  | succ k ih => simp [packTo, ih]

set_option maxRecDepth 100000 in
set_option maxHeartbeats 1000000 in
theorem bytes_calls {E w : World} {F : Asn} (b : Nat) (ls : List Int) (hS : Sat E (vbits b ls * F) w) (hn : ls.length ≤ 1000000) (hb : Bits01 ls) :
    Calls Try.prog 19 #[.pointer (some ⟨b, 0, none⟩)] w fun e w' => ∃ v, e = .returned v ∧ Sat E (row 5 1 v ((ls.length + 7) / 8) (nums .u8 (pack ls)) * (vbits b ls * F)) w' := by
  obtain ⟨Av, cv, hlc, hc, h1, hRv⟩ := vbits_open hS
  have hln := hRv.2.1
  have c0 := h1.cell_blk (i := 0)
  simp only [List.getElem?_toArray, List.getElem?_cons_zero] at c0
  obtain ⟨m, hm⟩ : ∃ m, m = (ls.length + 7) / 8 := ⟨_, rfl⟩
  have hm2 : ((ls.length : Int) + 7) / 8 = (m : Int) := by omega
  have hmk := fun w => run_make_row' (P := Try.prog) 31 5 (.int .u8 0) 1 Try.underlying31 Try.info5 rfl .i64 .i64 m (by omega) (by omega) w
  have hS1 := h1.row_made (.int .u8 0) 5 m (by omega)
  have cx := (hS1.eq (star_left_comm _ _ _)).cell_blk (i := 0)
  simp only [List.getElem?_toArray, List.getElem?_cons_zero] at cx
  rw [← hm]
  have HM := hid hm
  clear hm
  go_enter Try.func19, Try.ntmps19
  go_wp2_with fail
  clear hm2 hmk c0 cx
  go_loopw [19] (fun i wr => ∃ k : Nat, k ≤ ls.length ∧ i = .int .i64 k ∧ Sat E (row 5 1 (.slice (some ⟨w.heap.size, 0, none⟩) m m) m (nums .u8 (packTo ls k)) * (blk b (.cells #[.slice Av ls.length cv] 67) * (row 3 1 (.slice Av ls.length cv) ls.length (nums .i64 ls) * F))) wr) (fun i _ => ls.length - (intOf i).toNat)
  case atStart => exact ⟨0, by omega, rfl, by simpa [packTo, nums, ← HM.out] using hS1⟩
  case round =>
    obtain ⟨k, hk, rfl, hr⟩ := hrel
    by_cases hlt : k < ls.length
    · obtain ⟨ad, rfl, hcell⟩ := (hr.right.right.reads_at).at (by omega)
      have hck := hcell k _ (nums_at hlt)
      clear hcell
      obtain ⟨y0, y1⟩ := hb _ (List.getElem_mem hlt)
      have hpl := packTo_length ls k
      obtain ⟨q, hq1⟩ : ∃ q, q = k / 8 := ⟨_, rfl⟩
      obtain ⟨r, hr1⟩ : ∃ r, r = k % 8 := ⟨_, rfl⟩
      have hq : q < m := by have := HM.out; omega
      have hco := (hr.row_cell q (by omega)).trans (nums_getD (by rw [hpl]; have := HM.out; omega))
      have hfo := hr.row_free q
      obtain ⟨ov, hov⟩ : ∃ ov, ov = (packTo ls k).getD q 0 := ⟨_, rfl⟩
      rw [← hov] at hco
      have HO := hid hov
      clear hov
      have r8 : r < 8 := by omega
      have w1 := (i64_wrap (x := (k : Int) / 8) (by omega) (by omega)).trans (show (k : Int) / 8 = (q : Int) by omega)
      have w2 : (k : Int).tmod 8 = (r : Int) := by rw [Int.tmod_eq_emod_of_nonneg (by omega)]; omega
      have w3 := i64_wrap (x := (r : Int)) (by omega) (by omega)
      have HQ := hid hq1
      have HRr := hid hr1
      clear hq1 hr1
      obtain ⟨y, hy, hy0, hy1⟩ : ∃ y : Int, ls[k] * 2 ^ r = y ∧ 0 ≤ y ∧ y ≤ 128 := by
        refine ⟨_, rfl, ?_, ?_⟩
        · exact Int.mul_nonneg y0 (by have := Int.pow_pos (n := 2) (m := r) (by omega); omega)
        · have h2 : (2 : Int) ^ r ≤ 128 := by
            have : 2 ^ r ≤ 2 ^ 7 := Nat.pow_le_pow_right (by decide) (by omega)
            have e : ((2 : Int) ^ r) = ((2 ^ r : Nat) : Int) := by simp
            rw [e]; omega
          have h3 : (0 : Int) ≤ 2 ^ r := by have := Int.pow_pos (n := 2) (m := r) (by omega); omega
          rcases (show ls[k] = 0 ∨ ls[k] = 1 by omega) with h | h
          · rw [h]; omega
          · rw [h]; omega
      have w4 := i64_wrap (x := y) (by omega) (by omega)
      have w5 : IntKind.u8.wrap y = y := by rw [IntKind.wrap_u8]; omega
      have hst := (hr.drew.row_store q (.int .u8 (bits .or .u8 ov y)))
      have hnx : (nums .u8 (packTo ls k)).set q (.int .u8 (bits .or .u8 ov y)) = nums .u8 (packTo ls (k + 1)) := by
        rw [HO.out, ← hy, HQ.out, HRr.out]
        simp only [packTo]
        rw [show ls.getD k 0 = ls[k] by rw [List.getD_eq_getElem?_getD, List.getElem?_eq_getElem hlt]; rfl]
        simp [nums, List.map_set]
      rw [hnx] at hst
      clear hnx
      go_wp2_with fail
      refine wp_region_tail 12 (by kernel_rfl) (by kernel_rfl) ?_
      simp only [List.take_succ_cons, List.take_zero, List.drop_succ_cons, List.drop_zero]
      repeat still_step
      refine wpStill_nil ?_
      go_wp2
      go_roundw
      case rel => exact ⟨k + 1, by omega, by go_num, hst⟩
      case measure => simp [intOf]; omega
    · obtain rfl : k = ls.length := by omega
      go_wp2
      go_ret
      refine ⟨_, rfl, ?_⟩
      have h5 : Sat E (blk b (.cells #[.slice Av ls.length cv] 67) * (row 3 1 (.slice Av ls.length cv) ls.length (nums .i64 ls) * (row 5 1 (.slice (some ⟨w.heap.size, 0, none⟩) m m) m (nums .u8 (pack ls)) * F))) wr := hr.eq (by unfold pack; ac_rfl)
      exact (vbits_shut (v := .slice Av ls.length cv) h5).eq (star_left_comm _ _ _)
end Go.Proofs.Ytfphpnccmkggfaa
