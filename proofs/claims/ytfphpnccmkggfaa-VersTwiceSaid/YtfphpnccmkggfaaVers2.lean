import Derived.Test.YtfphpnccmkggfaaVers
namespace Go.Proofs.Ytfphpnccmkggfaa
open Go.RowKit Go.Proofs.Sep

/-- Bits turned, one by one, each off what it was at first. -/
def flipTo (ls : List Int) (bs : List Int) : List Int := bs.foldl (fun acc b => acc.set b.toNat (1 - ls.getD b.toNat 0)) ls
theorem flipTo_length (ls bs : List Int) : (flipTo ls bs).length = ls.length := by
  unfold flipTo
  suffices ∀ acc : List Int, acc.length = ls.length → (bs.foldl (fun acc b => acc.set b.toNat (1 - ls.getD b.toNat 0)) acc).length = ls.length from this ls rfl
  induction bs with
  | nil => intro acc h; exact h
  | cons b bs ih => intro acc h; exact ih _ (by simpa using h)
theorem flipTo_snoc (ls bs : List Int) (b : Int) : flipTo ls (bs ++ [b]) = (flipTo ls bs).set b.toNat (1 - ls.getD b.toNat 0) := by
  unfold flipTo; rw [List.foldl_append]; rfl
/-- Are all buckets? -/
def allB (n : Nat) (bs : List Int) : Bool := bs.all (isB n)
def flipR (ls bs : List Int) : List Int := if allB ls.length bs = true then flipTo ls bs else ls
def Bit (x : Int) : Prop := 0 ≤ x ∧ x ≤ 1
def Bits01 (ls : List Int) : Prop := ∀ x ∈ ls, Bit x
theorem bits_get {ls : List Int} (h : Bits01 ls) (i : Nat) : 0 ≤ ls.getD i 0 ∧ ls.getD i 0 ≤ 1 := by
  rw [List.getD_eq_getElem?_getD]
  rcases Nat.lt_or_ge i ls.length with hi | hi
  · rw [List.getElem?_eq_getElem hi]; exact h _ (List.getElem_mem _)
  · rw [List.getElem?_eq_none hi]; simp
theorem flipTo_bits {ls : List Int} (h : Bits01 ls) (bs : List Int) : Bits01 (flipTo ls bs) := by
  unfold flipTo
  suffices ∀ acc : List Int, Bits01 acc → Bits01 (bs.foldl (fun acc b => acc.set b.toNat (1 - ls.getD b.toNat 0)) acc) from this ls h
  induction bs with
  | nil => intro acc h; exact h
  | cons b bs ih =>
    intro acc ha
    refine ih _ fun x hx => ?_
    rcases List.mem_or_eq_of_mem_set hx with hx | rfl
    · exact ha x hx
    · have := bits_get h b.toNat
      unfold Bit; omega
theorem flipR_bits {ls : List Int} (h : Bits01 ls) (bs : List Int) : Bits01 (flipR ls bs) := by
  unfold flipR; split
  · exact flipTo_bits h bs
  · exact h
theorem flipR_length (ls bs : List Int) : (flipR ls bs).length = ls.length := by
  unfold flipR; split
  · exact flipTo_length ls bs
  · rfl

set_option maxRecDepth 100000 in
set_option maxHeartbeats 1000000 in
theorem flip_calls {E w : World} {F : Asn} (b : Nat) (ls : List Int) (A : Option Addr) (m cm : Nat) (bs : List Int) (hS : Sat E (vbits b ls * F) w) (hn : ls.length ≤ 1000000) (hb : Bits01 ls)
    (hR : ∀ w, Sat E F w → Reads w 1 A m (nums .i64 bs)) :
    Calls Try.prog 15 #[.pointer (some ⟨b, 0, none⟩), .slice A m cm] w fun e w' => e = .returned (.bool (allB ls.length bs)) ∧ Sat E (vbits b (flipR ls bs) * F) w' := by
  obtain ⟨Av, cv, hlc, hc, h1, hRv⟩ := vbits_open hS
  have hml : bs.length = m := by have := (hR w hS.right).1; rw [nums_length] at this; omega
  have hmm := (hR w hS.right).2.1
  have hln := hRv.2.1
  have c0 := h1.cell_blk (i := 0)
  simp only [List.getElem?_toArray, List.getElem?_cons_zero] at c0
  go_enter Try.func15, Try.ntmps15
  go_wp2_with fail
  refine (cloneInts Av ls.length cv (nums .i64 ls) h1 hRv (nums_one _ _) (by omega)).mono ?_
  rintro e w1 ⟨vt, rfl, h2⟩
  obtain ⟨At, ct, rfl, ht1, ht2, _⟩ := h2.reads
  go_wp2_with fail
  go_loopw [15] (fun i wr => ∃ k : Nat, k ≤ m ∧ i = .int .i64 k ∧ Hid (allB ls.length (bs.take k) = true) ∧ Sat E (row 3 1 (.slice At ls.length ct) ls.length (nums .i64 (flipTo ls (bs.take k))) * (blk b (.cells #[.slice Av ls.length cv] 67) * (row 3 1 (.slice Av ls.length cv) ls.length (nums .i64 ls) * F))) wr) (fun i _ => m - (intOf i).toNat)
  case atStart => exact ⟨0, by omega, rfl, rfl, h2⟩
  case round =>
    obtain ⟨k, hk, rfl, hall, hr⟩ := hrel
    have hr2 : Sat E (blk b (.cells #[.slice Av ls.length cv] 67) * (row 3 1 (.slice At ls.length ct) ls.length (nums .i64 (flipTo ls (bs.take k))) * (row 3 1 (.slice Av ls.length cv) ls.length (nums .i64 ls) * F))) wr := hr.eq (by ac_rfl)
    have cr := hr2.cell_blk (i := 0)
    have fr := hr2.free_blk (i := 0)
    simp only [List.getElem?_toArray, List.getElem?_cons_zero] at cr
    by_cases hlt : k < m
    · obtain ⟨ad, rfl, hcell⟩ := (hR wr hr.right.right.right).at (by omega)
      have hcb := hcell k _ (nums_at (by omega))
      clear hcell
      by_cases hx : isB ls.length bs[k] = true
      · have hx2 := of_decide_eq_true hx
        obtain ⟨x0, x1⟩ := hx2
        have HX := hid hx
        obtain ⟨adv, rfl, hcv⟩ := (hr.right.right.reads_at).at (by omega)
        have hlv := hcv bs[k].toNat _ (nums_at (by omega))
        clear hcv
        obtain ⟨g, cg, hv, _, _⟩ := hr.row_head (by omega)
        injection hv with hv1 hv2 hv3
        subst hv1
        have hfl := flipTo_length ls (bs.take k)
        obtain ⟨uv, hct⟩ : ∃ uv, wr.cell? ⟨g, bs[k].toNat, none⟩ = some (.int .i64 uv) := ⟨_, (hr.row_cell bs[k].toNat (by omega)).trans (nums_at (by omega))⟩
        have hft := hr.row_free bs[k].toNat
        have hbx := hb (ls[bs[k].toNat]'(by omega)) (List.getElem_mem _)
        obtain ⟨y0, y1⟩ := hbx
        have hst := hr.row_store bs[k].toNat (.int .i64 (1 - ls[bs[k].toNat]'(by omega)))
        have hnx : (nums .i64 (flipTo ls (bs.take k))).set bs[k].toNat (.int .i64 (1 - ls[bs[k].toNat]'(by omega))) = nums .i64 (flipTo ls (bs.take (k + 1))) := by
          rw [List.take_add_one, List.getElem?_eq_getElem (by omega), Option.toList_some, flipTo_snoc, List.getD_eq_getElem?_getD, List.getElem?_eq_getElem (by omega)]
          simp [nums, List.map_set]
        rw [hnx] at hst
        have hall2 : allB ls.length (bs.take (k + 1)) = true := by
          have := hall.out
          unfold allB at this ⊢
          rw [List.take_add_one, List.getElem?_eq_getElem (by omega), Option.toList_some, List.all_append, this]
          simp [HX.out]
        have HA2 := hid hall2
        clear hx hnx hall2 hv3 hv2
        go_wp2_with fail
        refine (is_calls b _ _ _ _ cr).mono ?_
        rw [HX.out]
        rintro e w2 ⟨rfl, rfl⟩
        go_wp2
        go_roundw
        case rel => exact ⟨k + 1, by omega, by go_num, HA2, hst⟩
        case measure => simp [intOf]; omega
      · have HX := hid (Bool.not_eq_true _ ▸ hx : isB ls.length bs[k] = false)
        have hnall : allB ls.length bs = false := by
          unfold allB
          rw [List.all_eq_false]
          exact ⟨bs[k], List.getElem_mem _, hx⟩
        have HN := hid hnall
        clear hx hnall
        go_wp2_with fail
        refine (is_calls b _ _ _ _ cr).mono ?_
        rw [HX.out]
        rintro e w2 ⟨rfl, rfl⟩
        go_wp2
        go_ret
        refine ⟨ret_bool HN.out.symm, ?_⟩
        unfold flipR
        rw [if_neg (by rw [HN.out]; simp)]
        exact vbits_shut (v := .slice Av ls.length cv) (hr.right)
    · have hall2 : allB ls.length bs = true := by
        have := hall.out
        rwa [List.take_of_length_le (by omega)] at this
      have HA := hid hall2
      clear hall2
      rw [List.take_of_length_le (by omega)] at hr hr2
      go_wp2
      go_ret
      refine ⟨ret_bool HA.out.symm, ?_⟩
      unfold flipR
      rw [if_pos HA.out]
      refine vbits_shut (v := .slice At ls.length ct) ?_
      rw [flipTo_length]
      have h3 := (hr2.setCell (i := 0) (.slice At ls.length ct))
      have h4 : Sat E (blk b (.cells #[.slice At ls.length ct] 67) * (row 3 1 (.slice At ls.length ct) ls.length (nums .i64 (flipTo ls bs)) * (row 3 1 (.slice Av ls.length cv) ls.length (nums .i64 ls) * F))) (wr.setCell ⟨b, 0, none⟩ (.slice At ls.length ct)) := h3.eq (by simp)
      exact (h4.eq (show _ = row 3 1 (.slice Av ls.length cv) ls.length (nums .i64 ls) * (blk b (.cells #[.slice At ls.length ct] 67) * (row 3 1 (.slice At ls.length ct) ls.length (nums .i64 (flipTo ls bs)) * F)) by ac_rfl)).right
end Go.Proofs.Ytfphpnccmkggfaa
