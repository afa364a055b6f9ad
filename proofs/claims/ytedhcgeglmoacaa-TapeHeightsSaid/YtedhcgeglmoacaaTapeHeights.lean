import Derived.Test.YtedhcgeglmoacaaTape3
import Derived.Test.YtedhcgeglmoacaaSepArgs
namespace Go.Proofs.Ytedhcgeglmoacaa
open Go.RowKit Go.Proofs.Sep

theorem leaf_nonneg (ls : List Int) (d : Nat) (h : Int) : 0 ≤ leafAt ls d h := by
  unfold leafAt
  split
  · split
    · omega
    · exact Int.emod_nonneg _ (by have := Int.pow_pos (n := 2) (m := h.toNat) (by omega); omega)
  · omega
theorem leaf_lt (ls : List Int) (d : Nat) (h : Int) : leafAt ls d h < 2 ^ h.toNat := by
  have hp : (0 : Int) < 2 ^ h.toNat := Int.pow_pos (by omega)
  unfold leafAt
  split
  · split
    · exact hp
    · exact Int.emod_lt_of_pos _ hp
  · exact hp
theorem leaf_low (ls : List Int) (d : Nat) (l h : Int) (h0 : 0 ≤ l) (h1 : l ≤ h) : leafAt ls d l = leafAt ls d h % 2 ^ l.toNat := by
  unfold leafAt
  split
  · split
    · simp
    · rw [Int.emod_emod_of_dvd]
      exact ⟨2 ^ (h.toNat - l.toNat), by rw [← Int.pow_add]; congr 1; omega⟩
  · simp

theorem pow_small (h : Int) (h0 : 0 ≤ h) (h6 : h ≤ 6) : 1 ≤ (2 : Int) ^ h.toNat ∧ (2 : Int) ^ h.toNat ≤ 64 ∧ wrap64 (2 ^ h.toNat) = 2 ^ h.toNat := by
  obtain ⟨n, rfl⟩ := Int.eq_ofNat_of_zero_le h0
  rw [Int.toNat_natCast]
  have hle : 2 ^ n ≤ 2 ^ 6 := Nat.pow_le_pow_right (by decide) (by omega)
  have hpos : 0 < 2 ^ n := Nat.two_pow_pos n
  have e : ((2 : Int) ^ n) = ((2 ^ n : Nat) : Int) := by simp
  rw [e]
  unfold wrap64
  omega

set_option maxRecDepth 100000 in
set_option maxHeartbeats 1000000 in
theorem tapeHeights {E w : World} {F : Asn} (A : Option Addr) (n c : Nat) (ls : List Int) (low high : Int) (hS : Sat E F w) (hR : ∀ w, Sat E F w → Reads w 1 A n (nums .i64 ls)) (hn : n * 8 ≤ 140737488351232) :
    Calls Try.prog 3 #[.slice A n c, .int .i64 low, .int .i64 high] w fun e w' => e = .returned (.bool true) ∧ Sat E F w' := by
  by_cases hg : 500 < n ∨ low < 0 ∨ high < low ∨ 6 < high
  · go_enter Try.func3, Try.ntmps3
    go_wp2_with (go_at_call 15; refine (first1 (E := E) (F := F) (by assumption)).mono ?_; rintro e w1 ⟨rfl, h1⟩)
    all_goals first
      | (go_ret; exact ⟨rfl, by assumption⟩)
      | (exfalso; omega)
  · have e1 : (decide ((500 : Int) < (n : Int)) || decide (low < 0) || decide (high < low) || decide (6 < high)) = false := by simp; omega
    have g1 : n ≤ 500 := by omega
    have g2 : 0 ≤ low := by omega
    have g3 : low ≤ high := by omega
    have g4 : high ≤ 6 := by omega
    clear hg
    go_enter Try.func3, Try.ntmps3
    go_wp2_with fail
    refine (first1 hS).mono ?_
    rintro e w1 ⟨rfl, h1⟩
    go_wp2_with fail
    refine (newLeaves A n c ls h1 (hR _ h1) hn).mono ?_
    rintro e w2 ⟨b, rfl, h2⟩
    go_wp2_with fail
    refine (newLeaves A n c ls h2 (hR _ h2.right) hn).mono ?_
    rintro e w3 ⟨b', rfl, h3⟩
    go_wp2_with fail
    go_loopw [9] (fun i wr => ∃ k : Nat, k ≤ n + 3 ∧ i = .int .i64 k ∧ Sat E (leaves b' k n ls * (leaves b k n ls * F)) wr) (fun i _ => n + 3 - (intOf i).toNat)
    case atStart => exact ⟨0, by omega, rfl, h3⟩
    case round =>
      obtain ⟨k, hk, rfl, hr⟩ := hrel
      by_cases hlt : k < n + 3
      · obtain ⟨m, hm⟩ : ∃ m, m = leafAt ls k high := ⟨_, rfl⟩
        have m0 : 0 ≤ m := hm ▸ leaf_nonneg ls k high
        have m1 : m < 2 ^ high.toNat := hm ▸ leaf_lt ls k high
        have hl : leafAt ls k low = m % 2 ^ low.toNat := hm ▸ leaf_low ls k low high g2 g3
        have HM := hid hm
        clear hm
        have HL := hid hl
        clear hl
        go_wp2_with fail
        refine (draw_any b k n ls low (by omega) (by omega) (hr.eq (star_left_comm _ _ _)) (by omega)).mono ?_
        rintro e w4 ⟨rfl, h4⟩
        rw [HL.out]
        go_wp2_with fail
        refine (draw_any b' k n ls high (by omega) (by omega) (h4.eq (star_left_comm _ _ _)) (by omega)).mono ?_
        rintro e w5 ⟨rfl, h5⟩
        rw [← HM.out]
        obtain ⟨p1, p2, p3⟩ := pow_small low (by omega) (by omega)
        obtain ⟨q1, q2, q3⟩ := pow_small high (by omega) (by omega)
        have z1 : ((2 : Int) ^ low.toNat == 0) = false := by simp; omega
        go_wp2
        go_roundw
        case rel => exact ⟨k + 1, by omega, by go_num, h5⟩
        case measure => simp [intOf]; omega
      · go_wp2_with (first | (go_at_call 15; refine (first1 (E := E) (F := leaves b' k n ls * (leaves b k n ls * F)) hr).mono ?_; rintro e w4 ⟨rfl, h4⟩) | (go_at_call 18; refine (left_sat b k n ls (h4.eq (star_left_comm _ _ _)) (by omega) (by omega)).mono ?_; rintro e w5 ⟨rfl, h5⟩) | (go_at_call 19; refine (drawn_sat b k n ls h5).mono ?_; rintro e w6 ⟨rfl, h6⟩))
        go_ret
        exact ⟨ret_bool (by simp; omega), h6.right.right⟩
theorem TapeHeights_walk (W : World) (a0 : Option Addr) (len0 cap0 : Nat) (l0 : (List Int)) (h0 : (decSlice 8 (decInt .i64)).rel W l0 [.slice a0 len0 cap0]) (a1 : Int) (w1 : (Lit.int .i64 a1).wf = true) (a2 : Int) (w2 : (Lit.int .i64 a2).wf = true) :
    Calls Try.prog 3 #[.slice a0 len0 cap0, .int .i64 a1, .int .i64 a2] W fun e w' => e = .returned (.bool true) ∧ Below W.heap.size W w' := by
  obtain ⟨A, c, he, h1, h2, h3, hR, hw⟩ := dec_ints h0
  simp at he
  obtain ⟨rfl, rfl, rfl⟩ := he
  exact (tapeHeights _ _ _ l0 a1 a2 (Sat.start W) (fun w hs => hR.keep fun k hk => hs.old1 hk) h3).mono fun e w' ⟨he, hs⟩ => ⟨he, hs.finish1⟩
end Go.Proofs.Ytedhcgeglmoacaa
