import Derived.Test.YtedhcgeglmoacaaTape
namespace Go.Proofs.Ytedhcgeglmoacaa
set_option linter.unusedVariables false
set_option linter.unusedSimpArgs false
open Go.RowKit Go.Proofs.Sep

theorem mask_any (i : Nat) (hi : i ≤ 6) (x : Int) : bits .and .i64 x (2 ^ i - 1) = x % 2 ^ i := by
  have hpos : 0 < 2 ^ i := Nat.two_pow_pos i
  have hle : 2 ^ i ≤ 2 ^ 6 := Nat.pow_le_pow_right (by decide) hi
  have hc : ((2 : Int) ^ i - 1) = ((2 ^ i - 1 : Nat) : Int) := by
    rw [Int.natCast_sub hpos]; simp
  have hx : (BitVec.ofInt IntKind.i64.bits x).toNat = (x % 2 ^ 64).toNat := by rw [BitVec.toNat_ofInt]; rfl
  have hmod : (2 ^ i - 1) % 2 ^ IntKind.i64.bits = 2 ^ i - 1 := Nat.mod_eq_of_lt (by show 2 ^ i - 1 < 2 ^ 64; omega)
  obtain ⟨m, hm⟩ := Int.eq_ofNat_of_zero_le (Int.emod_nonneg x (show (2 : Int) ^ 64 ≠ 0 by decide))
  have hdvd : ((2 ^ i : Nat) : Int) ∣ 2 ^ 64 := by
    have h1 : (2 ^ i : Nat) ∣ 2 ^ 64 := Nat.pow_dvd_pow 2 (by omega)
    have h2 := Int.natCast_dvd_natCast.2 h1
    rwa [Int.natCast_pow 2 64] at h2
  rw [hc]
  simp only [bits, BitVec.ofInt_natCast, BitVec.toNat_and, BitVec.toNat_ofNat, hx, hm, hmod, Int.toNat_natCast]
  rw [Nat.and_two_pow_sub_one_eq_mod]
  have hlt : m % 2 ^ i < 2 ^ i := Nat.mod_lt _ hpos
  have hw : IntKind.i64.wrap ((m % 2 ^ i : Nat) : Int) = ((m % 2 ^ i : Nat) : Int) := by
    rw [IntKind.wrap_i64]; omega
  rw [hw, Int.natCast_emod, show ((m : Nat) : Int) = x % 2 ^ 64 from hm.symm, Int.natCast_pow]
  rw [show ((2 : Nat) : Int) = 2 from rfl]
  exact Int.emod_emod_of_dvd x (by simpa using hdvd)
theorem mask_walk (h x : Int) (h0 : 0 ≤ h) (h6 : h ≤ 6) : bits .and .i64 x (wrap64 (wrap64 (2 ^ h.toNat) - 1)) = x % 2 ^ h.toNat := by
  obtain ⟨n, rfl⟩ := Int.eq_ofNat_of_zero_le h0
  rw [Int.toNat_natCast, ← mask_any n (by omega) x]
  have hle : 2 ^ n ≤ 2 ^ 6 := Nat.pow_le_pow_right (by decide) (by omega)
  have hpos : 0 < 2 ^ n := Nat.two_pow_pos n
  have e : ((2 : Int) ^ n) = ((2 ^ n : Nat) : Int) := by simp
  rw [e]
  congr 1
  unfold wrap64
  omega

set_option maxRecDepth 100000 in
set_option maxHeartbeats 400000 in
theorem draw_bad {E w : World} {F : Asn} (b d s : Nat) (ls : List Int) (hg : Int) (hh : hg < 0 ∨ 6 < hg) :
    Calls Try.prog 17 #[.pointer (some ⟨b, 0, none⟩), .int .i64 hg] w fun e w' => e = .returned (.tuple #[.int .i64 0, .int .i64 (-1)]) ∧ w = w' := by
  rcases hh with hh | hh
  · go_enter Try.func17, Try.ntmps17
    go_wp2
    go_ret2
    exact ⟨rfl, rfl⟩
  · have h0 : ¬ hg < 0 := by omega
    go_enter Try.func17, Try.ntmps17
    go_wp2
    go_ret2
    exact ⟨rfl, rfl⟩

set_option maxRecDepth 100000 in
set_option maxHeartbeats 400000 in
theorem draw_end {E w : World} {F : Asn} (b d s : Nat) (ls : List Int) (hg : Int) (h0 : 0 ≤ hg) (h6 : hg ≤ 6) (hS : Sat E (leaves b d s ls * F) w) (hd : ls.length ≤ d) (hb : d < 4611686018427387904) :
    Calls Try.prog 17 #[.pointer (some ⟨b, 0, none⟩), .int .i64 hg] w fun e w' => e = .returned (.tuple #[.int .i64 0, .int .i64 d]) ∧ Sat E (leaves b (d + 1) s ls * F) w' := by
  obtain ⟨A, c, hlc, hc, h1, hR⟩ := leaves_open hS
  have c0 := h1.cell_blk (i := 0)
  have c1 := h1.cell_blk (i := 1)
  have c2 := h1.cell_blk (i := 2)
  have f0 := h1.free_blk (i := 0)
  simp at c0 c1 c2
  have g1 : decide (ls.length ≤ d) = true := by simpa using hd
  have g2 : decide ((ls.length : Int) ≤ (d : Int)) = true := by simpa using hd
  go_enter Try.func17, Try.ntmps17
  go_wp2
  go_ret2
  exact ⟨rfl, leaves_shut (v := .slice A ls.length c) ((h1.setCell (i := 0) (.int .i64 ((d : Int) + 1))).eq (by simp))⟩

set_option maxRecDepth 100000 in
set_option maxHeartbeats 400000 in
theorem draw_neg {E w : World} {F : Asn} (b d s : Nat) (ls : List Int) (hg : Int) (h0 : 0 ≤ hg) (h6 : hg ≤ 6) (hS : Sat E (leaves b d s ls * F) w) (hd : d < ls.length) (hx : ls[d] < 0) :
    Calls Try.prog 17 #[.pointer (some ⟨b, 0, none⟩), .int .i64 hg] w fun e w' => e = .returned (.tuple #[.int .i64 0, .int .i64 d]) ∧ Sat E (leaves b (d + 1) s ls * F) w' := by
  obtain ⟨A, c, hlc, hc, h1, hR⟩ := leaves_open hS
  have c0 := h1.cell_blk (i := 0)
  have c1 := h1.cell_blk (i := 1)
  have c2 := h1.cell_blk (i := 2)
  have f0 := h1.free_blk (i := 0)
  simp at c0 c1 c2
  have h2 := (h1.setCell (i := 0) (.int .i64 ((d : Int) + 1)))
  have hR2 := (h2.eq (show _ = row 3 1 (.slice A ls.length c) ls.length (nums .i64 ls) * _ from by rw [star_left_comm])).reads_at
  obtain ⟨ad, rfl, hcell⟩ := hR2.at (by omega)
  have hlen := hR.2.1
  have hc3 := (hcell d _ (nums_at hd))
  have g1 : decide (ls.length ≤ d) = false := by simpa using hd
  clear hR2
  go_enter Try.func17, Try.ntmps17
  go_wp2
  go_ret2
  exact ⟨rfl, leaves_shut (v := .slice (some ad) ls.length c) (h2.eq (by simp))⟩

set_option maxRecDepth 100000 in
set_option maxHeartbeats 400000 in
theorem draw_ok {E w : World} {F : Asn} (b d s : Nat) (ls : List Int) (hg : Int) (h0 : 0 ≤ hg) (h6 : hg ≤ 6) (hS : Sat E (leaves b d s ls * F) w) (hd : d < ls.length) (hx : 0 ≤ ls[d]) :
    Calls Try.prog 17 #[.pointer (some ⟨b, 0, none⟩), .int .i64 hg] w fun e w' => e = .returned (.tuple #[.int .i64 (ls[d] % 2 ^ hg.toNat), .int .i64 d]) ∧ Sat E (leaves b (d + 1) s ls * F) w' := by
  obtain ⟨A, c, hlc, hc, h1, hR⟩ := leaves_open hS
  have c0 := h1.cell_blk (i := 0)
  have c1 := h1.cell_blk (i := 1)
  have c2 := h1.cell_blk (i := 2)
  have f0 := h1.free_blk (i := 0)
  simp at c0 c1 c2
  have h2 := (h1.setCell (i := 0) (.int .i64 ((d : Int) + 1)))
  have hR2 := (h2.eq (show _ = row 3 1 (.slice A ls.length c) ls.length (nums .i64 ls) * _ from by rw [star_left_comm])).reads_at
  obtain ⟨ad, rfl, hcell⟩ := hR2.at (by omega)
  have hlen := hR.2.1
  have hc3 := (hcell d _ (nums_at hd))
  have g1 : decide (ls.length ≤ d) = false := by simpa using hd
  have g2 : ¬ ls[d] < 0 := by omega
  clear hR2
  go_enter Try.func17, Try.ntmps17
  go_wp2_with fail
  go_quiet (fail)
  go_wp2
  go_ret2
  refine ⟨?_, leaves_shut (v := .slice (some ad) ls.length c) ((h2.eq (by simp)).drewN _)⟩
  rw [← mask_walk hg _ h0 h6]
  rfl
end Go.Proofs.Ytedhcgeglmoacaa
