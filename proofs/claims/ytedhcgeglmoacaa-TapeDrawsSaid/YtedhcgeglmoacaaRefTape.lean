import Derived.Test.YtedhcgeglmoacaaPads
import Derived.Test.YtedhcgeglmoacaaTape3
namespace Go.Proofs.Ytedhcgeglmoacaa
set_option linter.unusedVariables false
set_option linter.unusedSimpArgs false
open Go.RowKit Go.Proofs.Sep

theorem pow_small (h : Int) (h0 : 0 ≤ h) (h6 : h ≤ 6) : 1 ≤ (2 : Int) ^ h.toNat ∧ (2 : Int) ^ h.toNat ≤ 64 ∧ wrap64 (2 ^ h.toNat) = 2 ^ h.toNat := by
  obtain ⟨n, rfl⟩ := Int.eq_ofNat_of_zero_le h0
  rw [Int.toNat_natCast]
  have hle : 2 ^ n ≤ 2 ^ 6 := Nat.pow_le_pow_right (by decide) (by omega)
  have hpos : 0 < 2 ^ n := Nat.two_pow_pos n
  have e : ((2 : Int) ^ n) = ((2 ^ n : Nat) : Int) := by simp
  rw [e]
  unfold wrap64
  omega

set_option maxRecDepth 100000 in
set_option maxHeartbeats 400000 in
theorem refDraw_bad {w : World} (b : Nat) (hg : Int) (hh : hg < 0 ∨ 6 < hg) :
    Calls Try.prog 29 #[.pointer (some ⟨b, 0, none⟩), .int .i64 hg] w fun e w' => e = .returned (.tuple #[.int .i64 0, .int .i64 (-1)]) ∧ w = w' := by
  rcases hh with hh | hh
  · go_enter Try.func29, Try.ntmps29
    go_wp2
    go_ret2
    exact ⟨rfl, rfl⟩
  · have h0 : ¬ hg < 0 := by omega
    go_enter Try.func29, Try.ntmps29
    go_wp2
    go_ret2
    exact ⟨rfl, rfl⟩

/-- The document's tape: a list that came in, a count. -/
def refLeaves (b : Nat) (A : Option Addr) (n c d : Nat) : Asn := blk b (.cells #[.slice A n c, .int .i64 d] 56)

set_option maxRecDepth 100000 in
set_option maxHeartbeats 1000000 in
theorem refDraw {E w : World} {F : Asn} (b : Nat) (A : Option Addr) (n c d : Nat) (ls : List Int) (hg : Int) (h0 : 0 ≤ hg) (h6 : hg ≤ 6) (hS : Sat E (refLeaves b A n c d * F) w) (hR : ∀ w, Sat E F w → Reads w 1 A n (nums .i64 ls)) (hd : d < 4611686018427387904) :
    Calls Try.prog 29 #[.pointer (some ⟨b, 0, none⟩), .int .i64 hg] w fun e w' => e = .returned (.tuple #[.int .i64 (leafAt ls d hg), .int .i64 d]) ∧ Sat E (refLeaves b A n c (d + 1) * F) w' := by
  have hl : ls.length = n := by have := (hR w hS.right).1; simpa [nums] using this
  have hlen := (hR w hS.right).2.1
  have c0 := hS.cell_blk (i := 0)
  have c1 := hS.cell_blk (i := 1)
  have f1 := hS.free_blk (i := 1)
  simp only [List.getElem?_toArray, List.getElem?_cons_zero, List.getElem?_cons_succ] at c0 c1
  have h2 := hS.setCell (i := 1) (.int .i64 ((d : Int) + 1))
  have k1 := h2.cell_blk (i := 1)
  simp at k1
  obtain ⟨p1, p2, p3⟩ := pow_small hg h0 h6
  have z1 : ((2 : Int) ^ hg.toNat == 0) = false := by simp; omega
  unfold leafAt
  by_cases hn : d < n
  · have g1 : decide ((d : Int) < (n : Int)) = true := by simpa using hn
    obtain ⟨ad, rfl, hcell⟩ := (hR w hS.right).at (by omega)
    have hc3 := (hcell d _ (nums_at (by omega)))
    by_cases hx : 0 < ls[d]
    · have g2 : decide (0 < ls[d]) = true := by simpa using hx
      have hv : (if hd : d < ls.length then (if ls[d] < 0 then 0 else ls[d] % 2 ^ hg.toNat) else 0) = ls[d] % 2 ^ hg.toNat := by rw [dif_pos (by omega), if_neg (by omega)]
      rw [hv]
      clear hv
      go_enter Try.func29, Try.ntmps29
      go_wp2_with fail
      go_quiet (fail)
      go_wp2_with fail
      go_quiet (fail)
      go_wp2_with fail
      go_quiet (fail)
      go_wp2
      go_ret2
      exact ⟨rfl, (((hS.drewN _).setCell (i := 1) (.int .i64 ((d : Int) + 1))).drewN _).eq (by simp [refLeaves])⟩
    · have g2 : decide (0 < ls[d]) = false := by simpa using hx
      have hv : (if hd : d < ls.length then (if ls[d] < 0 then 0 else ls[d] % 2 ^ hg.toNat) else 0) = 0 := by
        rw [dif_pos (by omega)]
        split
        · rfl
        · rw [show ls[d] = 0 by omega]; simp
      rw [hv]
      clear hv
      go_enter Try.func29, Try.ntmps29
      go_wp2_with fail
      go_quiet (fail)
      go_wp2_with fail
      go_quiet (fail)
      go_wp2
      go_ret2
      exact ⟨rfl, (((hS.drewN _).setCell (i := 1) (.int .i64 ((d : Int) + 1))).drewN _).eq (by simp [refLeaves])⟩
  · have g1 : decide ((d : Int) < (n : Int)) = false := by simpa using hn
    have hv : (if hd : d < ls.length then (if ls[d] < 0 then 0 else ls[d] % 2 ^ hg.toNat) else 0) = 0 := by rw [dif_neg (by omega)]
    rw [hv]
    clear hv
    go_enter Try.func29, Try.ntmps29
    go_wp2_with fail
    go_quiet (fail)
    go_wp2_with fail
    go_quiet (fail)
    go_wp2
    go_ret2
    exact ⟨rfl, (((hS.drewN _).setCell (i := 1) (.int .i64 ((d : Int) + 1))).drewN _).eq (by simp [refLeaves])⟩

/-- The document's tape of bytes. -/
def refPads (b : Nat) (A : Option Addr) (n c d : Nat) : Asn := blk b (.cells #[.slice A n c, .int .i64 d] 59)

set_option maxRecDepth 100000 in
set_option maxHeartbeats 400000 in
theorem refPad_bad {w : World} (b : Nat) (n : Int) (hn : n < 1 ∨ 1048576 < n) :
    Calls Try.prog 32 #[.pointer (some ⟨b, 0, none⟩), .int .i64 n] w fun e w' => e = .returned (.slice none 0 0) ∧ w = w' := by
  rcases hn with hn | hn
  · go_enter Try.func32, Try.ntmps32
    go_wp2
    go_ret
    exact ⟨rfl, rfl⟩
  · have h0 : ¬ n < 1 := by omega
    go_enter Try.func32, Try.ntmps32
    go_wp2
    go_ret
    exact ⟨rfl, rfl⟩

theorem set_same {α : Type} {l : List α} {k : Nat} {x : α} (h : l[k]? = some x) : l.set k x = l := by
  apply List.ext_getElem?
  intro i
  rw [List.getElem?_set]
  split
  · rename_i hk
    subst hk
    split
    · exact h.symm
    · rename_i hl
      rw [List.getElem?_eq_none (by omega)] at h
      cases h
  · rfl
theorem padsAt_len (bs : List Int) (d n : Nat) : (padsAt bs d n).length = n := by
  unfold padsAt
  simp
  omega
theorem padsAt_get (bs : List Int) (d n k : Nat) (hk : k < n) : (padsAt bs d n)[k]? = some (if h : d + k < bs.length then bs[d + k] else 0) := by
  unfold padsAt
  by_cases h : d + k < bs.length
  · rw [dif_pos h, List.getElem?_append_left (by simp; omega), List.getElem?_take, if_pos hk, List.getElem?_drop, List.getElem?_eq_getElem h]
  · rw [dif_neg h, List.getElem?_append_right (by simp; omega), List.getElem?_replicate, if_pos (by simp; omega)]

set_option maxRecDepth 100000 in
set_option maxHeartbeats 1000000 in
theorem refPad {E w : World} {F : Asn} (b : Nat) (A : Option Addr) (m c d n : Nat) (bs : List Int) (h1 : 1 ≤ n) (h2 : n ≤ 1048576) (hS : Sat E (refPads b A m c d * F) w) (hR : ∀ w, Sat E F w → Reads w 1 A m (nums .u8 bs)) (hd : d < 4611686018427387904) :
    Calls Try.prog 32 #[.pointer (some ⟨b, 0, none⟩), .int .i64 n] w fun e w' => ∃ g, e = .returned (.slice (some ⟨g, 0, none⟩) n n) ∧
      Sat E (row 5 1 (.slice (some ⟨g, 0, none⟩) n n) n (nums .u8 (padsAt bs d n)) * (refPads b A m c (d + n) * F)) w' := by
  have hl : bs.length = m := by have := (hR w hS.right).1; simpa [nums] using this
  have hlen := (hR w hS.right).2.1
  have hmk := fun w => run_make_row' (P := Try.prog) 48 5 (.int .u8 0) 1 Try.underlying48 Try.info5 rfl .i64 .i64 n (by omega) (by omega) w
  have hS1 := hS.row_made (.int .u8 0) 5 n (by omega)
  obtain ⟨g, hg⟩ : ∃ g, g = w.heap.size := ⟨_, rfl⟩
  rw [← hg] at hS1
  have Hg := hid hg
  go_enter Try.func32, Try.ntmps32
  go_wp2_with fail
  rw [← hg]
  clear hg hmk
  go_loopw [6] (fun i wr => ∃ k : Nat, k ≤ n ∧ i = .int .i64 k ∧ Sat E (row 5 1 (.slice (some ⟨g, 0, none⟩) n n) n (nums .u8 ((padsAt bs d n).take k) ++ List.replicate (n - k) (.int .u8 0)) * (refPads b A m c d * F)) wr) (fun i _ => n - (intOf i).toNat)
  case atStart => exact ⟨0, by omega, rfl, by simpa [nums] using hS1⟩
  case round =>
    obtain ⟨k, hk, rfl, hr⟩ := hrel
    have hr2 := hr.eq (star_left_comm _ _ _)
    have c0 := hr2.cell_blk (i := 0)
    have c1 := hr2.cell_blk (i := 1)
    have f1 := hr2.free_blk (i := 1)
    simp only [List.getElem?_toArray, List.getElem?_cons_zero, List.getElem?_cons_succ] at c0 c1
    by_cases hlt : k < n
    · have hpl := padsAt_len bs d n
      have hpk := padsAt_get bs d n k hlt
      have hz : (nums .u8 ((padsAt bs d n).take k) ++ List.replicate (n - k) (Value.int .u8 0))[k]? = some (.int .u8 0) := by
        rw [List.getElem?_append_right (by simp [nums]; omega), List.getElem?_replicate, if_pos (by simp [nums, hpl]; omega)]
      have ck := (hr.row_cell k (by omega)).trans hz
      have fk := hr.row_free k
      have hnext : (nums .u8 ((padsAt bs d n).take k) ++ List.replicate (n - k) (Value.int .u8 0)).set k (.int .u8 (if h : d + k < bs.length then bs[d + k] else 0)) =
          nums .u8 ((padsAt bs d n).take (k + 1)) ++ List.replicate (n - (k + 1)) (Value.int .u8 0) := by
        have e1 : (padsAt bs d n).take (k + 1) = (padsAt bs d n).take k ++ [if h : d + k < bs.length then bs[d + k] else 0] := by
          rw [List.take_add_one, hpk]; rfl
        rw [e1, nums_append, List.set_append_right _ _ (by simp [nums]; omega)]
        have e2 : n - k = (n - (k + 1)) + 1 := by omega
        rw [e2, List.replicate_succ]
        simp [nums, hpl, Nat.min_eq_left hk]
      have HN := hid hnext
      clear hnext hpk hpl
      have HZ := hid hz
      clear hz
      by_cases hb : d + k < m
      · have g1 : decide ((d : Int) + (k : Int) < (m : Int)) = true := by simp; omega
        obtain ⟨ad, rfl, hcell⟩ := (hR wr hr.right.right).at (by omega)
        have hc3 := hcell (d + k) _ (nums_at (by omega))
        have hc4 : wr.cell? (ad.add ((d : Int) + (k : Int)).toNat) = some (.int .u8 bs[d + k]) := by rw [show ((d : Int) + (k : Int)).toNat = d + k by omega]; exact hc3
        rw [dif_pos (by omega)] at HN
        clear hcell hc3
        have hw := i64_wrap (x := (d : Int) + (k : Int)) (by omega) (by omega)
        have hs0 : (0 : Int) ≤ (d : Int) + (k : Int) := by omega
        have hs1 : (d : Int) + (k : Int) < (m : Int) := by omega
        go_wp2_with fail
        go_quiet (fail)
        go_wp2_with fail
        refine wp_region_tail 15 (by kernel_rfl) (by kernel_rfl) ?_
        simp only [List.take_succ_cons, List.take_zero, List.drop_succ_cons, List.drop_zero]
        repeat still_step
        refine wpStill_nil ?_
        go_wp2
        go_roundw
        case rel =>
          refine ⟨k + 1, by omega, by go_num, ?_⟩
          have := ((hr.drewN nq).drew.row_store k (.int .u8 bs[d + k]))
          rw [HN.out] at this
          exact this
        case measure => simp [intOf]; omega
      · have g1 : decide ((d : Int) + (k : Int) < (m : Int)) = false := by simp; omega
        have hw := i64_wrap (x := (d : Int) + (k : Int)) (by omega) (by omega)
        rw [dif_neg (by omega)] at HN
        go_wp2_with fail
        go_quiet (fail)
        go_wp2_with fail
        go_roundw
        case rel =>
          refine ⟨k + 1, by omega, by go_num, ?_⟩
          have h0 := HN.out
          rw [set_same HZ.out] at h0
          rw [← h0]
          exact hr.drewN nq
        case measure => simp [intOf]; omega
    · obtain rfl : k = n := by omega
      go_wp2
      go_ret
      refine ⟨g, rfl, ?_⟩
      have h3 := (hr2.setCell (i := 1) (.int .i64 ((d : Int) + k)))
      have e1 : nums .u8 ((padsAt bs d k).take k) ++ List.replicate (k - k) (Value.int .u8 0) = nums .u8 (padsAt bs d k) := by
        rw [List.take_of_length_le (by rw [padsAt_len]; omega)]; simp
      rw [e1] at h3
      exact (h3.eq (by simp [refPads])).eq (star_left_comm _ _ _)
end Go.Proofs.Ytedhcgeglmoacaa
