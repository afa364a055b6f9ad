import Derived.Test.YtobgfdongidaaaaDir17
namespace Go.Proofs.Ytobgfdongidaaaa
set_option linter.unusedVariables false
set_option linter.unusedSimpArgs false
open Go.RowKit Go.Proofs.Sep Go.Lib

/-- What Range answers. -/
def rangeR (lo hi : ByteArray) (lim : Int) (L : List Ent) : List Ent := if 0 < lim then (runs (stpR hi lim) (fromK lo L) []).1 else []
theorem stpR_len (hi : ByteArray) (lim : Int) (s : List Ent) (e : Ent) : (stpR hi lim s e).1.length ≤ s.length + 1 := by
  unfold stpR
  split <;> simp

set_option maxRecDepth 100000 in
set_option maxHeartbeats 4000000 in
theorem range12 {E w : World} {F : Asn} (T m : Nat) (L : List Ent) (lo hi : ByteArray) (lim : Int) (hl : L.length ≤ 900000) (hS : Sat E (dir T m L * F) w) :
    Calls Try.prog 12 #[ptrv T, .string lo, .string hi, .int .i64 lim] w fun r w' => ∃ v, r = .returned v ∧ Sat E (row 25 2 v (rangeR lo hi lim L).length (ents (rangeR lo hi lim L)) * (dir T m L * F)) w' := by
  obtain ⟨h, r, t, hs, s1⟩ := hS.dir_open
  have HS := hid hs
  obtain ⟨q1, q2, q3, _, _⟩ := hs
  have b1 := ((s1.alloc (.cells #[.string hi] 9)).alloc (.cells #[.int .i64 lim] 3)).alloc (.cells #[.slice none 0 0] 22)
  have n1 : (w.alloc (.cells #[.string hi] 9)).heap.size = w.heap.size + 1 := Array.size_push ..
  have n2 : ((w.alloc (.cells #[.string hi] 9)).alloc (.cells #[.int .i64 lim] 3)).heap.size = w.heap.size + 2 := by
    show ((w.alloc (.cells #[.string hi] 9)).heap.push _).size = _
    rw [Array.size_push, n1]
  rw [n1, n2] at b1
  obtain ⟨_, t1, _, _, _⟩ := three_cells (b1.right.right.right.eq (show _ = blk T (.cells #[.int .i64 m, ptrv r, .int .i64 L.length] 61) * (tree h r t * F) by unfold top; ac_rfl))
  have b0 : Sat E (row 25 2 (.slice none 0 0) 0 [] * _) _ := b1.row_nil
  have b3 : Sat E (accR (w.heap.size + 2) w.heap.size (w.heap.size + 1) hi lim [] * (tree h r t * (top T m (ptrv r) (.int .i64 L.length) * F))) _ := accR_shut (v := .slice none 0 0) (b0.eq (by
    show _ = (_ * row 25 2 (.slice none 0 0) 0 []) * _
    ac_rfl))
  have x9 := (one_cell b1).1
  have x8 := (one_cell b1.right).1
  generalize hZ : w.heap.size + 2 = l at *
  generalize hY : w.heap.size + 1 = bl at *
  generalize hX : w.heap.size = bh at *
  have hw := walk26 (E := E) (accR l bh bl hi lim) (stpR hi lim) 28 #[ptrv bh, ptrv l, ptrv bl] (fun args w => by simp [callFunc, Try.func28]; rfl) List.length 900000 (stpR_len hi lim) (fun s e hs h => tell28 l bh bl hi lim s e hs h) lo h r t [] (by rw [q1]; exact q2) q3 (by rw [q1]; exact hl) (by have := fromK_le lo (inord h t); rw [q1] at this; simp only [List.length_nil]; rw [q1]; omega) (b3.eq (star_left_comm _ _ _))
  have HB := hid b0
  clear b1 b0 b3 s1 hS
  unfold ptrv at t1 hw ⊢
  by_cases hlim : 0 < lim
  · have hrr : rangeR lo hi lim L = (runs (stpR hi lim) (fromK lo L) []).1 := by unfold rangeR; rw [if_pos hlim]
    have HR := hid hrr
    clear hrr HB
    go_enter Try.func12, Try.ntmps12
    go_wp2_with fail
    refine hw.mono ?_
    clear hw t1 x9 x8
    unfold WalkPost
    rintro e' w1 ⟨rfl, p1⟩
    rw [q1, ← HR.out] at p1
    generalize (runs (stpR hi lim) (fromK lo (inord h t)) []).2 = bb at *
    have p0 : Sat E (acc l (rangeR lo hi lim L) * (blk bh (.cells #[.string hi] 9) * (blk bl (.cells #[.int .i64 lim] 3) * (tree h r t * (top T m (ptrv r) (.int .i64 L.length) * F))))) w1 := p1.eq (by unfold accR; ac_rfl)
    obtain ⟨v, p2⟩ := p0.ex_left
    obtain ⟨R, hRR⟩ : ∃ R, R = rangeR lo hi lim L := ⟨_, rfl⟩
    rw [← hRR] at p2
    have HRR := hid hRR
    clear hRR
    have p2 : Sat E (blk l (.cells #[v] 22) * row 25 2 v R.length (ents R) * (blk bh (.cells #[.string hi] 9) * (blk bl (.cells #[.int .i64 lim] 3) * (tree h r t * (top T m (ptrv r) (.int .i64 L.length) * F))))) w1 := p2
    have p3 : Sat E (row 25 2 v R.length (ents R) * (blk l (.cells #[v] 22) * (blk bh (.cells #[.string hi] 9) * (blk bl (.cells #[.int .i64 lim] 3) * (tree h r t * (top T m (ptrv r) (.int .i64 L.length) * F)))))) w1 := p2.eq (by
      show (_ * row 25 2 v R.length (ents R)) * _ = _
      ac_rfl)
    obtain ⟨A, c, rfl, _, _, _⟩ := p3.reads
    obtain ⟨x0, _⟩ := one_cell p3.right
    have p4 := p3.drop_mid.drop_mid.drop_mid
    have p5 : Sat E (dir T m L * (row 25 2 (.slice A R.length c) R.length (ents R) * F)) w1 := Sat.dir_shut HS.out (p4.eq (by ac_rfl))
    clear p3 p4
    go_wp2_with fail
    go_ret
    rw [← HRR.out]
    exact ⟨_, rfl, p5.eq (star_left_comm _ _ _)⟩
  · have hrr : rangeR lo hi lim L = [] := by unfold rangeR; rw [if_neg hlim]
    rw [hrr]
    clear hw hrr
    go_enter Try.func12, Try.ntmps12
    go_wp2_with fail
    go_ret
    refine ⟨.slice none 0 0, rfl, ?_⟩
    have p4 := HB.out.drop_mid.drop_mid.drop_mid
    have p5 : Sat E (dir T m L * (row 25 2 (.slice none 0 0) 0 [] * F)) _ := Sat.dir_shut HS.out (p4.eq (by unfold ptrv; ac_rfl))
    exact p5.eq (star_left_comm _ _ _)
end Go.Proofs.Ytobgfdongidaaaa
