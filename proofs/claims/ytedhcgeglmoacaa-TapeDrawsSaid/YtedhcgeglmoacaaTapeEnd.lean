import Derived.Test.YtedhcgeglmoacaaRefTape
import Derived.Test.YtedhcgeglmoacaaSepArgs
namespace Go.Proofs.Ytedhcgeglmoacaa
set_option linter.unusedVariables false
set_option linter.unusedSimpArgs false
open Go.RowKit Go.Proofs.Sep

theorem pads_drawn {E w : World} {F : Asn} (b d s : Nat) (bs : List Int) (hS : Sat E (pads b d s bs * F) w) :
    Calls Try.prog 19 #[.pointer (some ⟨b, 0, none⟩)] w fun e w' => e = .returned (.int .i64 d) ∧ Sat E (pads b d s bs * F) w' := by
  obtain ⟨A, c, hlc, hc, h5, hR⟩ := pads_open hS
  have c0 := h5.cell_blk (i := 0)
  exact (reel_drawn b d (by simpa using c0)).mono fun e w' ⟨he, hw⟩ => ⟨he, hw ▸ hS⟩
theorem pads_left {E w : World} {F : Asn} (b d s : Nat) (bs : List Int) (hS : Sat E (pads b d s bs * F) w) (hd : d < 4611686018427387904) (hs1 : s < 4611686018427387904) :
    Calls Try.prog 18 #[.pointer (some ⟨b, 0, none⟩)] w fun e w' => e = .returned (.int .i64 ((s - d : Nat) : Int)) ∧ Sat E (pads b d s bs * F) w' := by
  obtain ⟨A, c, hlc, hc, h5, hR⟩ := pads_open hS
  have c0 := h5.cell_blk (i := 0)
  have c1 := h5.cell_blk (i := 1)
  exact (reel_left b d s (by simpa using c0) (by simpa using c1) hd hs1).mono fun e w' ⟨he, n, hw⟩ => ⟨he, hw ▸ hS.drewN n⟩
theorem padDrawI {E w : World} {F : Asn} (b d s : Nat) (m : Int) (bs : List Int) (h1 : 1 ≤ m) (h2 : m ≤ 1048576) (hS : Sat E (pads b d s bs * F) w) (hd : d < 4611686018427387904) :
    Calls Try.prog 31 #[.pointer (some ⟨b, 0, none⟩), .int .i64 m] w fun e w' => ∃ g, e = .returned (.slice (some ⟨g, 0, none⟩) m.toNat m.toNat) ∧
      Sat E (row 5 1 (.slice (some ⟨g, 0, none⟩) m.toNat m.toNat) m.toNat (nums .u8 (padsAt bs d m.toNat)) * (pads b (d + m.toNat) s bs * F)) w' := by
  obtain ⟨k, rfl⟩ := Int.eq_ofNat_of_zero_le (show 0 ≤ m by omega)
  rw [Int.toNat_natCast]
  exact padDraw b d s k bs (by omega) (by omega) hS hd
theorem refPadI {E w : World} {F : Asn} (b : Nat) (A : Option Addr) (n c d : Nat) (m : Int) (bs : List Int) (h1 : 1 ≤ m) (h2 : m ≤ 1048576) (hS : Sat E (refPads b A n c d * F) w) (hR : ∀ w, Sat E F w → Reads w 1 A n (nums .u8 bs)) (hd : d < 4611686018427387904) :
    Calls Try.prog 32 #[.pointer (some ⟨b, 0, none⟩), .int .i64 m] w fun e w' => ∃ g, e = .returned (.slice (some ⟨g, 0, none⟩) m.toNat m.toNat) ∧
      Sat E (row 5 1 (.slice (some ⟨g, 0, none⟩) m.toNat m.toNat) m.toNat (nums .u8 (padsAt bs d m.toNat)) * (refPads b A n c (d + m.toNat) * F)) w' := by
  obtain ⟨k, rfl⟩ := Int.eq_ofNat_of_zero_le (show 0 ≤ m by omega)
  rw [Int.toNat_natCast]
  exact refPad b A n c d k bs (by omega) (by omega) hS hR hd
theorem Reads_nil (w : World) (size : Nat) : Reads w size none 0 [] := ⟨by simp, by omega, fun _ => rfl, fun _ h => by cases h⟩
theorem padsAt_byte {bs : List Int} (h : ByteR bs) (d n : Nat) : ByteR (padsAt bs d n) := by
  intro x hx
  unfold padsAt at hx
  rcases List.mem_append.1 hx with hx | hx
  · exact h x (List.mem_of_mem_drop (List.mem_of_mem_take hx))
  · rw [List.eq_of_mem_replicate hx]; omega
theorem padsAt_head (bs : List Int) (n : Nat) (h : bs.length ≤ n) : (padsAt bs 0 n).take bs.length = bs := by
  unfold padsAt
  rw [List.drop_zero, List.take_append_of_le_length (by simp; omega), List.take_take, Nat.min_eq_left h, List.take_length]

set_option maxRecDepth 100000 in
set_option maxHeartbeats 1000000 in
theorem tapeEnd {E w : World} {F : Asn} (A : Option Addr) (n c : Nat) (bs : List Int) (more none : Int) (hS : Sat E F w) (hR : ∀ w, Sat E F w → Reads w 1 A n (nums .u8 bs)) (hn : n ≤ 140737488351232) (hbr : ByteR bs) :
    Calls Try.prog 7 #[.slice A n c, .int .i64 more, .int .i64 none] w fun e w' => e = .returned (.bool true) ∧ Sat E F w' := by
  have hl : bs.length = n := by have := (hR w hS).1; simpa [nums] using this
  by_cases hg : 500 < n ∨ more < 1 ∨ 500 < more ∨ (0 < none ∧ none ≤ 1048576)
  · go_enter Try.func7, Try.ntmps7
    go_wp2_with (go_at_call 15; refine (first1 (E := E) (F := F) (by assumption)).mono ?_; rintro e w1 ⟨rfl, h1⟩)
    all_goals first
      | (go_ret; exact ⟨rfl, by assumption⟩)
      | (exfalso; omega)
  · have g1 : n ≤ 500 := by omega
    have g2 : 1 ≤ more := by omega
    have g3 : more ≤ 500 := by omega
    have g4 : none < 1 ∨ 1048576 < none := by omega
    have e1 : (decide (0 < none) && decide (none ≤ 1048576)) = false := by simp; omega
    obtain ⟨k, rfl⟩ := Int.eq_ofNat_of_zero_le (show 0 ≤ more by omega)
    clear hg
    go_enter Try.func7, Try.ntmps7
    rcases g4 with g4 | g4
    all_goals
      have hbad : none < 1 ∨ 1048576 < none := by omega
      have HB := hid hbad
      clear hbad
      go_wp2_with fail
      refine (first1 hS).mono ?_
      rintro e w1 ⟨rfl, h1⟩
      go_wp2_with fail
      refine (newPads A n c bs h1 (hR _ h1) hn).mono ?_
      rintro e w2 ⟨b, rfl, h2⟩
      go_wp2_with fail
      refine (newLeaves Option.none 0 0 [] h2 (Reads_nil _ _) (by omega)).mono ?_
      rintro e w3 ⟨b', rfl, h3⟩
      go_wp2_with fail
      refine (padDraw_bad b none HB.out).mono ?_
      rintro e w4 ⟨rfl, rfl⟩
      go_wp2_with fail
      refine (pads_drawn b 0 n bs (h3.eq (star_left_comm _ _ _))).mono ?_
      rintro e w5 ⟨rfl, h5⟩
      go_wp2_with fail
      refine (pads_left b 0 n bs h5 (by omega) (by omega)).mono ?_
      rintro e w6 ⟨rfl, h6⟩
      go_wp2_with fail
      refine (padDrawI b 0 n _ bs (by omega) (by omega) h6 (by omega)).mono ?_
      rw [show ((n : Int) + (k : Int)).toNat = n + k by omega]
      rintro e w7 ⟨g, rfl, h7⟩
      have hRg := h7.reads_at
      have hRa := hR w7 h7.right.right.right
      go_wp2_with fail
      have hRt := hRg.take n (by omega)
      have e2 : (nums .u8 (padsAt bs 0 (n + k))).take (n * 1) = nums .u8 bs := by
        rw [Nat.mul_one, ← hl]
        unfold nums
        rw [← List.map_take, padsAt_head bs _ (by omega)]
      rw [e2] at hRt
      refine (bytesEq _ _ _ _ _ _ bs bs hRt hRa hbr hbr).mono ?_
      rintro e w8 ⟨rfl, rfl⟩
      rw [decide_eq_true (rfl : bs = bs)]
      go_wp2_with fail
      clear hRt hRg hRa e2
      go_loopw [10] (fun i wr => ∃ j : Nat, n ≤ j ∧ j ≤ n + k ∧ i = .int .i64 j ∧ Sat E (row 5 1 (.slice (some ⟨g, 0, Option.none⟩) (n + k) (n + k)) (n + k) (nums .u8 (padsAt bs 0 (n + k))) * (pads b (0 + (n + k)) n bs * (leaves b' 0 0 [] * F))) wr) (fun i _ => n + k - (intOf i).toNat)
      case atStart => exact ⟨n, by omega, by omega, rfl, h7⟩
      case round =>
        obtain ⟨j, hj0, hj, rfl, hr⟩ := hrel
        by_cases hlt : j < n + k
        · have hc : wr.cell? ⟨g, j, Option.none⟩ = some (.int .u8 0) := by
            rw [hr.row_cell j (by omega)]
            unfold nums
            rw [List.getElem?_map, padsAt_get _ _ _ _ hlt, dif_neg (by omega)]
            rfl
          have hj1 : (j : Int) < (n : Int) + (k : Int) := by omega
          go_wp2
          go_roundw
          case rel => exact ⟨j + 1, by omega, by omega, by go_num, hr⟩
          case measure => simp [intOf]; omega
        · obtain rfl : j = n + k := by omega
          go_wp2_with fail
          refine (draw_bad (E := E) (F := F) b' 0 0 [] (-1) (by omega)).mono ?_
          rintro e w9 ⟨rfl, rfl⟩
          go_wp2_with fail
          refine (first1 hr.right).mono ?_
          rintro e w10 ⟨rfl, h10⟩
          go_wp2_with fail
          refine (drawn_sat b' 0 0 [] (h10.eq (star_left_comm _ _ _))).mono ?_
          rintro e w11 ⟨rfl, h11⟩
          go_wp2_with fail
          refine (pads_left b (0 + (n + k)) n bs (h11.eq (star_left_comm _ _ _)) (by omega) (by omega)).mono ?_
          rintro e w12 ⟨rfl, h12⟩
          go_wp2
          go_ret
          exact ⟨ret_bool (by simp), h12.right.right⟩
theorem TapeEnd_walk (W : World) (a0 : Option Addr) (len0 cap0 : Nat) (l0 : (List Int)) (h0 : (decSlice 1 (decInt .u8)).rel W l0 [.slice a0 len0 cap0]) (a1 : Int) (w1 : (Lit.int .i64 a1).wf = true) (a2 : Int) (w2 : (Lit.int .i64 a2).wf = true) :
    Calls Try.prog 7 #[.slice a0 len0 cap0, .int .i64 a1, .int .i64 a2] W fun e w' => e = .returned (.bool true) ∧ Below W.heap.size W w' := by
  obtain ⟨A, c, he, h1, h2, h3, hR, hw⟩ := dec_ints h0
  simp at he
  obtain ⟨rfl, rfl, rfl⟩ := he
  exact (tapeEnd _ _ _ l0 a1 a2 (Sat.start W) (fun w hs => hR.keep fun k hk => hs.old1 hk) (by omega) (byteR_wf hw)).mono fun e w' ⟨he, hs⟩ => ⟨he, hs.finish1⟩
end Go.Proofs.Ytedhcgeglmoacaa
