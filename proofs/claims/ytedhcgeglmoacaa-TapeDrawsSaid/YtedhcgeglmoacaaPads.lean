import Derived.Test.YtedhcgeglmoacaaBase
namespace Go.Proofs.Ytedhcgeglmoacaa
set_option linter.unusedVariables false
set_option linter.unusedSimpArgs false
open Go.RowKit Go.Proofs.Sep

/-- A tape of pads at block b. -/
def pads (b : Nat) (d s : Nat) (bs : List Int) : Asn := ex fun v => blk b (.cells #[.int .i64 d, .int .i64 s, v] 65) * row 5 1 v bs.length (nums .u8 bs)
theorem pads_open {E w : World} {F : Asn} {b d s : Nat} {bs : List Int} (h : Sat E (pads b d s bs * F) w) : ∃ A c, bs.length ≤ c ∧ c ≤ maxLen ∧
    Sat E (blk b (.cells #[.int .i64 d, .int .i64 s, .slice A bs.length c] 65) * (row 5 1 (.slice A bs.length c) bs.length (nums .u8 bs) * F)) w ∧ Reads w 1 A bs.length (nums .u8 bs) := by
  obtain ⟨v, h⟩ := h.ex_left
  have h1 : Sat E (row 5 1 v bs.length (nums .u8 bs) * (blk b (.cells #[.int .i64 d, .int .i64 s, v] 65) * F)) w := h.eq (by ac_rfl)
  obtain ⟨A, c, rfl, h2, h3, h4⟩ := h1.reads
  exact ⟨A, c, h2, h3, h.eq (by ac_rfl), h4⟩
theorem pads_shut {E w : World} {F : Asn} {b d s : Nat} {bs : List Int} {v : Value}
    (h : Sat E (blk b (.cells #[.int .i64 d, .int .i64 s, v] 65) * (row 5 1 v bs.length (nums .u8 bs) * F)) w) : Sat E (pads b d s bs * F) w :=
  Sat.intro_left v (h.eq (by ac_rfl))

set_option maxRecDepth 100000 in
set_option maxHeartbeats 400000 in
theorem newPads {E w : World} {F : Asn} (A : Option Addr) (n c : Nat) (bs : List Int) (hS : Sat E F w) (hR : Reads w 1 A n (nums .u8 bs)) (hn : n ≤ 140737488351232) :
    Calls Try.prog 28 #[.slice A n c] w fun e w' => ∃ b, e = .returned (.pointer (some ⟨b, 0, none⟩)) ∧ Sat E (pads b 0 n bs * F) w' := by
  obtain rfl : bs.length = n := by have := hR.1; simpa [nums] using this
  go_enter Try.func28, Try.ntmps28
  go_wp2_with (go_at_call 62; refine (cloneBytes _ _ _ (nums .u8 bs) hS hR (nums_one _ _) (by omega)).mono ?_; rintro e w1 ⟨v, rfl, h1⟩; obtain ⟨A1, c1, rfl, _⟩ := h1.reads)
  go_ret
  exact ⟨_, rfl, pads_shut (h1.alloc _)⟩

def padsAt (bs : List Int) (d n : Nat) : List Int := (bs.drop d).take n ++ List.replicate (n - (bs.length - d)) 0

set_option maxRecDepth 100000 in
set_option maxHeartbeats 400000 in
theorem padDraw_bad {w : World} (b : Nat) (n : Int) (hn : n < 1 ∨ 1048576 < n) :
    Calls Try.prog 31 #[.pointer (some ⟨b, 0, none⟩), .int .i64 n] w fun e w' => e = .returned (.slice none 0 0) ∧ w = w' := by
  rcases hn with hn | hn
  · go_enter Try.func31, Try.ntmps31
    go_wp2
    go_ret
    exact ⟨rfl, rfl⟩
  · have h0 : ¬ n < 1 := by omega
    go_enter Try.func31, Try.ntmps31
    go_wp2
    go_ret
    exact ⟨rfl, rfl⟩

set_option maxRecDepth 100000 in
set_option maxHeartbeats 1000000 in
theorem padDraw {E w : World} {F : Asn} (b d s n : Nat) (bs : List Int) (h1 : 1 ≤ n) (h2 : n ≤ 1048576) (hS : Sat E (pads b d s bs * F) w) (hd : d < 4611686018427387904) :
    Calls Try.prog 31 #[.pointer (some ⟨b, 0, none⟩), .int .i64 n] w fun e w' => ∃ g, e = .returned (.slice (some ⟨g, 0, none⟩) n n) ∧
      Sat E (row 5 1 (.slice (some ⟨g, 0, none⟩) n n) n (nums .u8 (padsAt bs d n)) * (pads b (d + n) s bs * F)) w' := by
  obtain ⟨A, c, hlc, hc, hB, hR⟩ := pads_open hS
  have hlen := hR.2.1
  have hmk := fun w => run_make_row' (P := Try.prog) 48 5 (.int .u8 0) 1 Try.underlying48 Try.info5 rfl .i64 .i64 n (by omega) (by omega) w
  have hS1 := hB.row_made (.int .u8 0) 5 n (by omega)
  have hB1 := hS1.eq (star_left_comm _ _ _)
  have c0 := hB1.cell_blk (i := 0)
  have c2 := hB1.cell_blk (i := 2)
  have f0 := hB1.free_blk (i := 0)
  simp only [List.getElem?_toArray, List.getElem?_cons_zero, List.getElem?_cons_succ] at c0 c2
  obtain ⟨A', hcut, hRc⟩ := cut_from (P := Try.prog) 48 5 .i64 Try.underlying48 (by kernel_rfl) A bs.length c (min d bs.length) (by omega) hlc
  have hR1 := hRc _ _ hB1.right.right.reads_at
  have hmin : (if bs.length < d then (bs.length : Int) else (d : Int)) = ((min d bs.length : Nat) : Int) := by split <;> omega
  go_enter Try.func31, Try.ntmps31
  go_wp2_with fail
  refine wp_region_tail 17 (by kernel_rfl) (by kernel_rfl) ?_
  simp only [List.take_succ_cons, List.take_zero, List.drop_succ_cons, List.drop_zero]
  repeat still_step
  refine wpStill_nil ?_
  refine wpList_copy_sat rfl _ _ 48 48 rfl 5 Try.underlying48 (by kernel_rfl) _ _ _ _ _ _ rfl rfl _ _ (hS1.drew) hR1.drew (fun u hu => nums_one _ _ u (List.mem_of_mem_drop hu)) ?_
  intro w1 hw1
  clear c0 c2 f0 hmk hmin hcut
  have hB2 := hw1.eq (star_left_comm _ _ _)
  have c0 := hB2.cell_blk (i := 0)
  have f0 := hB2.free_blk (i := 0)
  simp only [List.getElem?_toArray, List.getElem?_cons_zero] at c0
  go_wp2
  go_ret
  refine ⟨_, rfl, ?_⟩
  have h3 := hB2.setCell (i := 0) (.int .i64 ((d : Int) + n))
  have e1 : List.take n (List.drop (min d bs.length * 1) (nums .u8 bs)) ++ List.drop (bs.length - min d bs.length) (List.replicate n (Value.int .u8 0)) = nums .u8 (padsAt bs d n) := by
    unfold padsAt nums
    rw [Nat.mul_one, List.map_append, List.map_take, List.map_drop, List.map_replicate, List.drop_replicate]
    congr 2
    · rcases Nat.le_total d bs.length with h | h
      · rw [Nat.min_eq_left h]
      · rw [Nat.min_eq_right h, List.drop_of_length_le (by simp), List.drop_of_length_le (by simpa using h)]
    · omega
  rw [e1] at h3
  exact ((pads_shut (F := row 5 1 (.slice (some ⟨w.heap.size, 0, none⟩) n n) n (nums .u8 (padsAt bs d n)) * F) (d := d + n) (s := s) (v := .slice A bs.length c) (h3.eq (by simp [star_left_comm]))).eq (star_left_comm _ _ _))
end Go.Proofs.Ytedhcgeglmoacaa
