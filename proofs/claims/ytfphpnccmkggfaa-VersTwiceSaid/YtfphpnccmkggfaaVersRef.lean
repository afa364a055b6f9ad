import Derived.Test.YtfphpnccmkggfaaVersOrder
namespace Go.Proofs.Ytfphpnccmkggfaa
set_option linter.unusedVariables false
set_option linter.unusedSimpArgs false
open Go.RowKit Go.Proofs.Sep

set_option maxRecDepth 100000 in
set_option maxHeartbeats 400000 in
theorem mayBits {w : World} (n : Int) : Calls Try.prog 22 #[.int .i64 n] w fun e w' => e = .returned (.bool (decide (1 ≤ n ∧ n ≤ 127))) ∧ w = w' := by
  by_cases h0 : 1 ≤ n
  · by_cases h1 : n ≤ 127
    · have hv : decide (1 ≤ n ∧ n ≤ 127) = true := decide_eq_true ⟨h0, h1⟩
      rw [hv]; clear hv
      go_enter Try.func22, Try.ntmps22
      go_wp2
      go_ret
      exact ⟨ret_bool (by first | (simp; done) | (simp; omega)), rfl⟩
    · have hv : decide (1 ≤ n ∧ n ≤ 127) = false := decide_eq_false (fun h => h1 h.2)
      rw [hv]; clear hv
      go_enter Try.func22, Try.ntmps22
      go_wp2
      go_ret
      exact ⟨ret_bool (by first | (simp; done) | (simp; omega)), rfl⟩
  · have hv : decide (1 ≤ n ∧ n ≤ 127) = false := decide_eq_false (fun h => h0 h.1)
    rw [hv]; clear hv
    go_enter Try.func22, Try.ntmps22
    go_wp2
    go_ret
    exact ⟨ret_bool (by first | (simp; done) | (simp; omega)), rfl⟩

set_option maxRecDepth 100000 in
set_option maxHeartbeats 1000000 in
theorem bitBytes {E w : World} {F : Asn} (A : Option Addr) (c : Nat) (ls : List Int) (hS : Sat E F w) (hn : ls.length ≤ 1000000) (hb : Bits01 ls) (hR : ∀ w, Sat E F w → Reads w 1 A ls.length (nums .i64 ls)) :
    Calls Try.prog 25 #[.slice A ls.length c] w fun e w' => ∃ v, e = .returned v ∧ Sat E (row 5 1 v ((ls.length + 7) / 8) (nums .u8 (pack ls)) * F) w' := by
  obtain ⟨m, hm⟩ : ∃ m, m = (ls.length + 7) / 8 := ⟨_, rfl⟩
  have hm2 : ((ls.length : Int) + 7) / 8 = (m : Int) := by omega
  have hmk := fun w => run_make_row' (P := Try.prog) 31 5 (.int .u8 0) 1 Try.underlying31 Try.info5 rfl .i64 .i64 m (by omega) (by omega) w
  have hS1 := hS.row_made (.int .u8 0) 5 m (by omega)
  rw [← hm]
  have HM := hid hm
  clear hm
  go_enter Try.func25, Try.ntmps25
  go_wp2_with fail
  clear hm2 hmk
  go_loopw [4] (fun i wr => ∃ k : Nat, k ≤ ls.length ∧ i = .int .i64 k ∧ Sat E (row 5 1 (.slice (some ⟨w.heap.size, 0, none⟩) m m) m (nums .u8 (packTo ls k)) * F) wr) (fun i _ => ls.length - (intOf i).toNat)
  case atStart => exact ⟨0, by omega, rfl, by simpa [packTo, nums, ← HM.out] using hS1⟩
  case round =>
    obtain ⟨k, hk, rfl, hr⟩ := hrel
    by_cases hlt : k < ls.length
    · obtain ⟨ad, rfl, hcell⟩ := (hR _ hr.right).at (by omega)
      have hck := hcell k _ (nums_at hlt)
      clear hcell
      obtain ⟨y0, y1⟩ := hb _ (List.getElem_mem hlt)
      have hpl := packTo_length ls k
      obtain ⟨q, hq1⟩ : ∃ q, q = k / 8 := ⟨_, rfl⟩
      obtain ⟨r, hr1⟩ : ∃ r, r = k % 8 := ⟨_, rfl⟩
      have hq : q < m := by have := HM.out; omega
      have hco := (hr.row_cell q (by omega)).trans (nums_getD (by rw [hpl]; have := HM.out; omega))
      have hfo := hr.row_free q
      obtain ⟨ov, hov⟩ : ∃ ov, ov = (packTo ls k).getD q 0 := ⟨_, rfl⟩
      rw [← hov] at hco
      have HO := hid hov
      clear hov
      have r8 : r < 8 := by omega
      have w1 := (i64_wrap (x := (k : Int) / 8) (by omega) (by omega)).trans (show (k : Int) / 8 = (q : Int) by omega)
      have w2 : (k : Int).tmod 8 = (r : Int) := by rw [Int.tmod_eq_emod_of_nonneg (by omega)]; omega
      have w3 := i64_wrap (x := (r : Int)) (by omega) (by omega)
      have w6 : IntKind.u64.wrap (r : Int) = (r : Int) := by rw [IntKind.wrap_u64]; omega
      have HQ := hid hq1
      have HRr := hid hr1
      clear hq1 hr1
      obtain ⟨y, hy, hy0, hy1⟩ : ∃ y : Int, ls[k] * 2 ^ r = y ∧ 0 ≤ y ∧ y ≤ 128 := by
        refine ⟨_, rfl, ?_, ?_⟩
        · exact Int.mul_nonneg y0 (by have := Int.pow_pos (n := 2) (m := r) (by omega); omega)
        · have h2 : (2 : Int) ^ r ≤ 128 := by
            have : 2 ^ r ≤ 2 ^ 7 := Nat.pow_le_pow_right (by decide) (by omega)
            have e : ((2 : Int) ^ r) = ((2 ^ r : Nat) : Int) := by simp
            rw [e]; omega
          have h3 : (0 : Int) ≤ 2 ^ r := by have := Int.pow_pos (n := 2) (m := r) (by omega); omega
          rcases (show ls[k] = 0 ∨ ls[k] = 1 by omega) with h | h
          · rw [h]; omega
          · rw [h]; omega
      have w4 := i64_wrap (x := y) (by omega) (by omega)
      have w5 : IntKind.u8.wrap y = y := by rw [IntKind.wrap_u8]; omega
      have hst := (hr.drew.row_store q (.int .u8 (bits .or .u8 ov y)))
      have hnx : (nums .u8 (packTo ls k)).set q (.int .u8 (bits .or .u8 ov y)) = nums .u8 (packTo ls (k + 1)) := by
        rw [HO.out, ← hy, HQ.out, HRr.out]
        simp only [packTo]
        rw [show ls.getD k 0 = ls[k] by rw [List.getD_eq_getElem?_getD, List.getElem?_eq_getElem hlt]; rfl]
        simp [nums, List.map_set]
      rw [hnx] at hst
      clear hnx
      go_wp2_with fail
      refine wp_region_tail 16 (by kernel_rfl) (by kernel_rfl) ?_
      simp only [List.take_succ_cons, List.take_zero, List.drop_succ_cons, List.drop_zero]
      repeat still_step
      refine wpStill_nil ?_
      go_wp2
      go_roundw
      case rel => exact ⟨k + 1, by omega, by go_num, hst⟩
      case measure => simp [intOf]; omega
    · obtain rfl : k = ls.length := by omega
      go_wp2
      go_ret
      exact ⟨_, rfl, hr⟩

theorem flip_old (ls t : List Int) (j : Nat) (hj : j < ls.length) (h : (j : Int) ∈ t) : flipTo ls (t ++ [(j : Int)]) = flipTo ls t := by
  apply list_ext_getD
  · rw [flipTo_length, flipTo_length]
  · intro i hi
    rw [flipTo_length] at hi
    rw [flipTo_get _ _ _ hi, flipTo_get _ _ _ hi, List.any_append]
    by_cases hij : j = i
    · subst hij
      have : (t.any fun b => decide (b.toNat = j)) = true := List.any_eq_true.2 ⟨_, h, by simp⟩
      rw [this, Bool.true_or]
    · simp [hij]
theorem flip_new (ls t : List Int) (j : Nat) (hj : j < ls.length) (hall : allB ls.length t = true) (h : ¬ (j : Int) ∈ t) : (flipTo ls t).getD j 0 = ls.getD j 0 := by
  rw [flipTo_get _ _ _ hj, if_neg]
  intro hc
  obtain ⟨x, hx, hx2⟩ := List.any_eq_true.1 hc
  have h2 := List.all_eq_true.1 hall x hx
  unfold isB at h2
  have h3 := of_decide_eq_true h2
  have h4 := of_decide_eq_true hx2
  exact h (by rwa [show (j : Int) = x by omega])
set_option maxRecDepth 100000 in
set_option maxHeartbeats 1000000 in
theorem refFlip {E w : World} {F : Asn} (A B : Option Addr) (c d : Nat) (ls bs : List Int) (hS : Sat E F w) (hn : ls.length ≤ 1000000) (hb : Bits01 ls) (hd : bs.length ≤ d)
    (hA : ∀ w, Sat E F w → Reads w 1 A ls.length (nums .i64 ls)) (hB : ∀ w, Sat E F w → Reads w 1 B bs.length (nums .i64 bs)) :
    Calls Try.prog 23 #[.slice A ls.length c, .slice B bs.length d] w fun e w' => ∃ v, e = .returned (.tuple #[v, .bool (allB ls.length bs)]) ∧ Sat E (row 3 1 v ls.length (nums .i64 (flipR ls bs)) * F) w' := by
  have hmm := (hB w hS).2.1
  go_enter Try.func23, Try.ntmps23
  go_wp2_with fail
  refine (copyInts A ls.length c _ hS (hA _ hS) (nums_one _ _) (by omega)).mono ?_
  rintro e w1 ⟨v, rfl, g1⟩
  obtain ⟨Av, cv, rfl, _, _, _⟩ := g1.reads
  go_wp2_with fail
  go_loopw [7] (fun i wr => ∃ k : Nat, k ≤ bs.length ∧ i = .int .i64 k ∧ Hid (allB ls.length (bs.take k) = true) ∧ Sat E (row 3 1 (.slice Av ls.length cv) ls.length (nums .i64 (flipTo ls (bs.take k))) * F) wr) (fun i _ => bs.length - (intOf i).toNat)
  case atStart => exact ⟨0, by omega, rfl, rfl, g1⟩
  case round =>
    obtain ⟨k, hk, rfl, hall, hr⟩ := hrel
    clear g1
    by_cases hlt : k < bs.length
    · obtain ⟨ad, rfl, hcell⟩ := (hB _ hr.right).at (by omega)
      have hck := hcell k _ (nums_at hlt)
      clear hcell
      by_cases hin : 0 ≤ bs[k] ∧ bs[k] < ls.length
      · obtain ⟨x0, x1⟩ := hin
        obtain ⟨j, hj⟩ := Int.eq_ofNat_of_zero_le x0
        have hjl : j < ls.length := by omega
        have hab2 : allB ls.length (bs.take (k + 1)) = true := by
          have := hall.out
          unfold allB at this ⊢
          rw [List.take_add_one, List.getElem?_eq_getElem hlt, Option.toList_some, List.all_append, this]
          simp [isB, x0, x1]
        have hsn : flipTo ls (bs.take (k + 1)) = flipTo ls (bs.take k ++ [(j : Int)]) := by rw [List.take_add_one, List.getElem?_eq_getElem hlt, hj]; rfl
        have HAB := hid hab2
        have HSN := hid hsn
        clear hab2 hsn
        have hRs : ∀ s : SW E (row 3 1 (.slice Av ls.length cv) ls.length (nums .i64 (flipTo ls (bs.take k))) * F), Reads s.w 1 (some ad) k (nums .i64 (bs.take k)) := fun s => reads_take (hB _ s.h.right) k (by omega)
        have hcs : ∀ w' : World, Sat E F w' → w'.cell? (ad.add k) = some (.int .i64 j) := fun w' hw' => by
          obtain ⟨ad', h1, h2⟩ := (hB _ hw').at (by omega)
          injection h1 with h1
          subst h1
          rw [← hj]
          exact h2 k _ (nums_at hlt)
        have hct : ∀ s : SW E (row 3 1 (.slice Av ls.length cv) ls.length (nums .i64 (flipTo ls (bs.take k))) * F), s.w.cell? (ad.add k) = some (.int .i64 j) := fun s => hcs _ s.h.right
        have hHAS := fun (s : SW E (row 3 1 (.slice Av ls.length cv) ls.length (nums .i64 (flipTo ls (bs.take k))) * F)) => has_sat (some ad) k d (bs.take k) j s.h (hRs s)
        have hkd : (k : Int) ≤ (d : Int) := by omega
        have hkl : (k : Int) < (bs.length : Int) := by omega
        rw [hj] at hck x0 x1
        by_cases hm : (j : Int) ∈ bs.take k
        · have hfo := flip_old ls (bs.take k) j hjl hm
          have HFO := hid hfo
          have hd1 := decide_eq_true hm
          have HD := hid hd1
          clear hm hfo hd1 hj hRs
          go_wp2_with fail
          refine wp_region_quietS _ (by kernel_rfl) (by kernel_rfl) hr ?_
          intro hne
          repeat (go_big_quiet_step (first | (go_at_call 35; exact quietS (hHAS _))))
          refine wpQuiet_nil ?_
          intro w12 hw'
          have h12 := SW.out hw'
          clear hw' hne hHAS hct
          rw [HD.out]
          go_wp2
          go_roundw
          case rel => exact ⟨k + 1, by omega, by go_num, HAB, by rw [HSN.out, HFO.out]; exact h12⟩
          case measure => simp [intOf]; omega
        · have hfn := flip_new ls (bs.take k) j hjl hall.out hm
          have hd1 := decide_eq_false hm
          have HD := hid hd1
          have hset : (nums .i64 (flipTo ls (bs.take k))).set j (.int .i64 (1 - ls.getD j 0)) = nums .i64 (flipTo ls (bs.take (k + 1))) := by
            rw [HSN.out, flipTo_snoc, Int.toNat_natCast]
            simp [nums, List.map_set]
          have HSET := hid hset
          have HFN := hid hfn
          obtain ⟨y0, y1⟩ := bits_get hb j
          clear hm hd1 hj hset hRs hfn
          go_wp2_with fail
          refine wp_region_quietS _ (by kernel_rfl) (by kernel_rfl) hr ?_
          intro hne
          repeat (go_big_quiet_step (first | (go_at_call 35; exact quietS (hHAS _))))
          refine wpQuiet_nil ?_
          intro w12 hw'
          have h12 := SW.out hw'
          clear hw' hne hHAS hct
          rw [HD.out]
          have hck2 := hcs _ h12.right
          obtain ⟨g, cg, e1, _, _⟩ := h12.row_head (by omega)
          injection e1 with e1 e2 e3
          subst e1
          clear e2 e3
          have hfl := flipTo_length ls (bs.take k)
          have hco := (h12.row_cell j (by omega)).trans (nums_getD (by rw [hfl]; omega))
          rw [HFN.out] at hco
          have hfo := h12.row_free j
          have hst := h12.drew.row_store j (.int .i64 (1 - ls.getD j 0))
          rw [HSET.out] at hst
          have HST := hid hst
          clear hst hcs hfl hck
          generalize ls.getD j 0 = y at *
          have wy := i64_wrap (x := 1 - y) (by omega) (by omega)
          go_wp2_with fail
          refine wp_region_tail 14 (by kernel_rfl) (by kernel_rfl) ?_
          simp only [List.take_succ_cons, List.take_zero, List.drop_succ_cons, List.drop_zero]
          repeat still_step
          refine wpStill_nil ?_
          go_wp2
          go_roundw
          case rel => exact ⟨k + 1, by omega, by go_num, HAB, HST.out⟩
          case measure => simp [intOf]; omega
      · have hnall : allB ls.length bs = false := by
          unfold allB
          rw [List.all_eq_false]
          exact ⟨bs[k], List.getElem_mem _, by unfold isB; simpa using hin⟩
        have HN := hid hnall
        have hor : bs[k] < 0 ∨ (0 ≤ bs[k] ∧ (ls.length : Int) ≤ bs[k]) := by omega
        have hfl : flipR ls bs = ls := by unfold flipR; rw [hnall]; rfl
        have HFL := hid hfl
        clear hnall hin hfl
        have hr2 := hr.right
        rcases hor with hor | ⟨hor1, hor⟩
        all_goals
          go_wp2_with fail
          refine (copyInts A ls.length c _ hr2 (hA _ hr2) (nums_one _ _) (by omega)).mono ?_
          rintro e w2 ⟨v2, rfl, g2⟩
          go_wp2
          go_ret2
          rw [HN.out, HFL.out]
          exact ⟨_, rfl, g2⟩
    · have hte : bs.take k = bs := List.take_of_length_le (by omega)
      rw [hte] at hr hall
      have hfl : flipR ls bs = flipTo ls bs := by unfold flipR; rw [if_pos hall.out]
      have HFL := hid hfl
      clear hfl hte
      go_wp2
      go_ret2
      rw [hall.out, HFL.out]
      exact ⟨_, rfl, hr⟩
end Go.Proofs.Ytfphpnccmkggfaa
