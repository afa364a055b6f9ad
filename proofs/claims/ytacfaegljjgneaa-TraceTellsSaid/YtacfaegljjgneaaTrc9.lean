import Derived.Test.YtacfaegljjgneaaTrc8
namespace Go.Proofs.Ytacfaegljjgneaa
set_option linter.unusedVariables false
set_option linter.unusedSimpArgs false
open Go.RowKit Go.Proofs.Sep

def u21 : St := (sync t21).2
theorem first3_facts : write s21 0 [7] = (0, t21) ∧ sync t21 = (0, u21) ∧ SOk s21 ∧ SOk t21 := by
  refine ⟨rfl, rfl, ⟨by decide, by decide, by decide, by decide, by decide, by decide⟩, ⟨by decide, by decide, by decide, by decide, by decide, by decide⟩⟩
set_option maxRecDepth 100000 in
set_option maxHeartbeats 2000000 in
theorem first3 {E w : World} {F : Asn} (hS : Sat E F w) : Calls Try.prog 40 #[] w fun e w' => e = .returned (.bool true) ∧ Sat E F w' := by
  obtain ⟨k1, k2, k3, k4⟩ := first3_facts
  have K1 := hid k1
  have K2 := hid k2
  clear k1 k2
  go_enter Try.func40, Try.ntmps40
  go_wp2_with fail
  refine (made_calls 2 1 (by omega) (by omega) (by omega) (by omega) hS).mono ?_
  rintro e w1 ⟨r, s, rfl, g1⟩
  have g2 : Sat E (recd r s s21 [] * (blk w1.heap.size (.cells #[.int .u8 7] 5) * F)) (w1.alloc (.cells #[.int .u8 7] 5)) := (g1.alloc (.cells #[.int .u8 7] 5)).eq (star_left_comm _ _ _)
  clear g1
  go_wp2_with fail
  refine (rwrite_calls r s s21 [] 0 (some ⟨w1.heap.size, 0, none⟩) 1 [7] k3 (by simp) (by simp) g2 (fun w h => h.blk_reads (cs := [_]) rfl (by simp))).mono ?_
  rw [K1.out]
  rintro e w2 ⟨rfl, g3⟩
  have g4 : Sat E (recd r s t21 [(2, 0, [7])] * F) w2 := g3.drop_mid
  clear g2 g3
  go_wp2_with fail
  refine (rsync_calls r s t21 _ k4 (by simp) g4).mono ?_
  rw [K2.out]
  rintro e w3 ⟨rfl, g5⟩
  have g6 : Sat E (recd r s u21 [(2, 0, [7]), (3, 0, [])] * F) w3 := g5
  clear g4 g5
  go_wp2_with fail
  refine (trace_calls r s u21 _ (by simp) (by simp) g6).mono ?_
  rintro e w4 ⟨B, d, rfl, g7⟩
  clear g6
  obtain ⟨t, ht, g8⟩ := tlist_open g7
  clear g7
  obtain ⟨B', d', he, _, hT⟩ := tlist_in ht g8
  have hlen := ht.len
  have hmap := ht.map
  simp only [List.length_cons, List.length_nil] at hlen he g8
  injection he with he1 he2 he3
  subst he1
  have m0 := List.getElem_of_eq hmap (i := 0) (by simp [hlen])
  have m1 := List.getElem_of_eq hmap (i := 1) (by simp [hlen])
  simp only [List.getElem_map, List.getElem_cons_zero, List.getElem_cons_succ] at m0 m1
  obtain ⟨ad, A0, c0, hA, _, _, q0⟩ := top_at hT (k := 0) (by omega) g8
  obtain ⟨ad', A1, c1, hA', _, _, q1⟩ := top_at hT (k := 1) (by omega) g8
  rw [hA] at hA'
  injection hA' with hA'
  subst hA'
  subst hA
  rw [m0] at q0
  rw [m1] at q1
  obtain ⟨x0, x1, x2, rA⟩ := q0 _ g8
  obtain ⟨y0, _, _, _⟩ := q1 _ g8
  have g9 := g8.right.right
  simp only [Nat.zero_mul, Nat.one_mul] at x0 x1 x2 y0
  have za : ad.add 0 = ad := by unfold Addr.add; simp
  rw [za] at x0 x1 x2
  clear za
  have rB := hid fun w h => (q0 w h).2.2.2
  have hw4 := g8.alloc_drop (.cells #[.int .u8 7] 5)
  have y1 : (w4.alloc (.cells #[.int .u8 7] 5)).cell? { block := ad.block, off := ad.off + 3 } = some (.int .i64 3) := (q1 _ hw4).1
  clear q0 q1 m0 m1 hmap hT y0
  go_wp2_with fail
  refine (mark_calls r s u21 _ g9).mono ?_
  rintro e w5 ⟨rfl, rfl⟩
  go_wp2_with fail
  refine (bytesEq A0 (some ⟨w5.heap.size, 0, none⟩) 1 1 c0 1 [7] [7] (rB.out _ hw4) (Reads.new 1 1 [.int .u8 7] 5 rfl (by omega)) (by intro x hx; simp at hx; omega) (by intro x hx; simp at hx; omega)).mono ?_
  rw [decide_eq_true (rfl : ([7] : List Int) = [7])]
  rintro e w8 ⟨rfl, hw8⟩
  subst hw8
  have g10 := hw4.right.right.right
  go_wp2
  go_ret
  exact ⟨rfl, g10⟩
end Go.Proofs.Ytacfaegljjgneaa
