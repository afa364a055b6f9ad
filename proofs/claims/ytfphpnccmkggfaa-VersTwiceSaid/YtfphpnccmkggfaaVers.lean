import Derived.Test.YtfphpnccmkggfaaBBase
namespace Go.Proofs.Ytfphpnccmkggfaa
open Go.RowKit Go.Proofs.Sep

/-- Bits at block b. -/
def vbits (b : Nat) (ls : List Int) : Asn := ex fun v => blk b (.cells #[v] 67) * row 3 1 v ls.length (nums .i64 ls)
theorem vbits_open {E w : World} {F : Asn} {b : Nat} {ls : List Int} (h : Sat E (vbits b ls * F) w) : ∃ A c, ls.length ≤ c ∧ c ≤ maxLen ∧
    Sat E (blk b (.cells #[.slice A ls.length c] 67) * (row 3 1 (.slice A ls.length c) ls.length (nums .i64 ls) * F)) w ∧ Reads w 1 A ls.length (nums .i64 ls) := by
  obtain ⟨v, h⟩ := h.ex_left
  have h1 : Sat E (row 3 1 v ls.length (nums .i64 ls) * (blk b (.cells #[v] 67) * F)) w := h.eq (by ac_rfl)
  obtain ⟨A, c, rfl, h2, h3, h4⟩ := h1.reads
  exact ⟨A, c, h2, h3, h.eq (by ac_rfl), h4⟩
theorem vbits_shut {E w : World} {F : Asn} {b : Nat} {ls : List Int} {v : Value}
    (h : Sat E (blk b (.cells #[v] 67) * (row 3 1 v ls.length (nums .i64 ls) * F)) w) : Sat E (vbits b ls * F) w :=
  Sat.intro_left v (h.eq (by ac_rfl))

set_option maxRecDepth 100000 in
set_option maxHeartbeats 400000 in
theorem new_bad {w : World} (n : Int) (hn : n < 1 ∨ 127 < n) : Calls Try.prog 14 #[.int .i64 n] w fun e w' => e = .returned (.pointer none) ∧ w = w' := by
  rcases hn with hn | hn
  · go_enter Try.func14, Try.ntmps14
    go_wp2
    go_ret
    exact ⟨rfl, rfl⟩
  · have h0 : ¬ n < 1 := by omega
    go_enter Try.func14, Try.ntmps14
    go_wp2
    go_ret
    exact ⟨rfl, rfl⟩
set_option maxRecDepth 100000 in
set_option maxHeartbeats 400000 in
theorem new_nat {E w : World} {F : Asn} (n : Nat) (h1 : 1 ≤ n) (h2 : n ≤ 127) (hS : Sat E F w) : Calls Try.prog 14 #[.int .i64 n] w fun e w' => ∃ b, e = .returned (.pointer (some ⟨b, 0, none⟩)) ∧ Sat E (vbits b (List.replicate n 0) * F) w' := by
  have hmk := fun w => run_make_row' (P := Try.prog) 22 3 (.int .i64 0) 8 Try.underlying22 Try.info3 rfl .i64 .i64 n (by omega) (by omega) w
  have hS1 := hS.row_made (.int .i64 0) 3 n (by omega)
  have e1 : List.replicate n (Value.int .i64 0) = nums .i64 (List.replicate n 0) := by simp [nums]
  rw [e1] at hS1
  go_enter Try.func14, Try.ntmps14
  go_wp2
  go_ret
  refine ⟨_, rfl, vbits_shut (v := .slice (some ⟨w.heap.size, 0, none⟩) n n) ?_⟩
  rw [List.length_replicate]
  have := hS1.alloc (.cells #[.slice (some ⟨w.heap.size, 0, none⟩) n n] 67)
  simpa using this
theorem new_ok {E w : World} {F : Asn} (n : Int) (h1 : 1 ≤ n) (h2 : n ≤ 127) (hS : Sat E F w) : Calls Try.prog 14 #[.int .i64 n] w fun e w' => ∃ b, e = .returned (.pointer (some ⟨b, 0, none⟩)) ∧ Sat E (vbits b (List.replicate n.toNat 0) * F) w' := by
  obtain ⟨k, rfl⟩ := Int.eq_ofNat_of_zero_le (show 0 ≤ n by omega)
  rw [Int.toNat_natCast]
  exact new_nat k (by omega) (by omega) hS

/-- Is there such a bucket? -/
def isB (n : Nat) (k : Int) : Bool := decide (0 ≤ k ∧ k < n)
set_option maxRecDepth 100000 in
set_option maxHeartbeats 400000 in
theorem is_calls {w : World} (b : Nat) (A : Option Addr) (n c : Nat) (k : Int) (hc : w.cell? ⟨b, 0, none⟩ = some (.slice A n c)) :
    Calls Try.prog 42 #[.pointer (some ⟨b, 0, none⟩), .int .i64 k] w fun e w' => e = .returned (.bool (isB n k)) ∧ w = w' := by
  by_cases h0 : 0 ≤ k
  · by_cases h1 : k < n
    · have hv : isB n k = true := by unfold isB; exact decide_eq_true ⟨h0, h1⟩
      rw [hv]
      clear hv
      go_enter Try.func42, Try.ntmps42
      go_wp2
      go_ret
      exact ⟨ret_bool (by first | (simp; done) | (simp; omega)), rfl⟩
    · have hv : isB n k = false := by unfold isB; exact decide_eq_false (fun h => h1 h.2)
      rw [hv]
      clear hv
      go_enter Try.func42, Try.ntmps42
      go_wp2
      go_ret
      exact ⟨ret_bool (by first | (simp; done) | (simp; omega)), rfl⟩
  · have hv : isB n k = false := by unfold isB; exact decide_eq_false (fun h => h0 h.1)
    rw [hv]
    clear hv
    go_enter Try.func42, Try.ntmps42
    go_wp2
    go_ret
    exact ⟨ret_bool (by first | (simp; done) | (simp; omega)), rfl⟩

def liveAt (ls : List Int) (k : Int) : Int := if isB ls.length k = true then ls.getD k.toNat 0 else -1
set_option maxRecDepth 100000 in
set_option maxHeartbeats 400000 in
theorem live_calls {E w : World} {F : Asn} (b : Nat) (ls : List Int) (k : Int) (hS : Sat E (vbits b ls * F) w) :
    Calls Try.prog 21 #[.pointer (some ⟨b, 0, none⟩), .int .i64 k] w fun e w' => e = .returned (.int .i64 (liveAt ls k)) ∧ w = w' := by
  obtain ⟨A, c, hlc, hc, h1, hR⟩ := vbits_open hS
  have c0 := h1.cell_blk (i := 0)
  have hl := hR.2.1
  simp only [List.getElem?_toArray, List.getElem?_cons_zero] at c0
  unfold liveAt
  by_cases hk : isB ls.length k = true
  · rw [if_pos hk]
    have hk2 := of_decide_eq_true hk
    obtain ⟨k0, k1⟩ := hk2
    obtain ⟨ad, rfl, hcell⟩ := hR.at (by omega)
    have h3 := hcell k.toNat _ (nums_at (by omega))
    have h4 : ls.getD k.toNat 0 = ls[k.toNat]'(by omega) := by rw [List.getD_eq_getElem?_getD, List.getElem?_eq_getElem (by omega)]; rfl
    rw [h4]
    clear h4 hcell hR
    have HK := hid hk
    clear hk
    go_enter Try.func21, Try.ntmps21
    go_wp2_with (go_at_call 42; refine (is_calls b _ _ _ k c0).mono ?_; rw [HK.out]; rintro e w1 ⟨rfl, rfl⟩)
    go_ret
    exact ⟨rfl, rfl⟩
  · rw [if_neg hk]
    have HK := hid (Bool.not_eq_true _ ▸ hk : isB ls.length k = false)
    clear hk
    go_enter Try.func21, Try.ntmps21
    go_wp2_with (go_at_call 42; refine (is_calls b _ _ _ k c0).mono ?_; rw [HK.out]; rintro e w1 ⟨rfl, rfl⟩)
    go_ret
    exact ⟨rfl, rfl⟩
set_option maxRecDepth 100000 in
set_option maxHeartbeats 400000 in
theorem len_calls {E w : World} {F : Asn} (b : Nat) (ls : List Int) (hS : Sat E (vbits b ls * F) w) :
    Calls Try.prog 24 #[.pointer (some ⟨b, 0, none⟩)] w fun e w' => e = .returned (.int .i64 ls.length) ∧ w = w' := by
  obtain ⟨A, c, hlc, hc, h1, hR⟩ := vbits_open hS
  have c0 := h1.cell_blk (i := 0)
  simp only [List.getElem?_toArray, List.getElem?_cons_zero] at c0
  go_enter Try.func24, Try.ntmps24
  go_wp2
  go_ret
  exact ⟨rfl, rfl⟩
set_option maxRecDepth 100000 in
set_option maxHeartbeats 400000 in
theorem copy_calls {E w : World} {F : Asn} (b : Nat) (ls : List Int) (hS : Sat E (vbits b ls * F) w) (hn : ls.length ≤ 1000000) :
    Calls Try.prog 20 #[.pointer (some ⟨b, 0, none⟩)] w fun e w' => ∃ b', e = .returned (.pointer (some ⟨b', 0, none⟩)) ∧ Sat E (vbits b' ls * (vbits b ls * F)) w' := by
  obtain ⟨A, c, hlc, hc, h1, hR⟩ := vbits_open hS
  have c0 := h1.cell_blk (i := 0)
  simp only [List.getElem?_toArray, List.getElem?_cons_zero] at c0
  go_enter Try.func20, Try.ntmps20
  go_wp2_with (go_at_call 41; refine (cloneInts _ _ _ (nums .i64 ls) hS hR (nums_one _ _) (by omega)).mono ?_; rintro e w1 ⟨v, rfl, h2⟩; obtain ⟨A1, c1, rfl, _⟩ := h2.reads)
  go_ret
  exact ⟨_, rfl, vbits_shut (h2.alloc _)⟩
end Go.Proofs.Ytfphpnccmkggfaa
