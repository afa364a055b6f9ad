import Derived.Test.YtfphpnccmkggfaaVers4
import Derived.Test.YtfphpnccmkggfaaSepArgs
namespace Go.Proofs.Ytfphpnccmkggfaa
set_option linter.unusedVariables false
set_option linter.unusedSimpArgs false
open Go.RowKit Go.Proofs.Sep

theorem zeros01 (n : Nat) : Bits01 (List.replicate n 0) := by intro x hx; rw [List.eq_of_mem_replicate hx]; unfold Bit; omega
theorem ret_ptr {a b : Option Addr} (h : a = b) : Ending.returned (.pointer a) = .returned (.pointer b) := by rw [h]

/-- One bucket turned among zeros. -/
def oneAt (n k : Nat) : List Int := (List.replicate n 0).set k 1
theorem flip_zero (n k : Nat) (h : k < n) : flipR (List.replicate n 0) [(k : Int)] = oneAt n k ∧ allB n [(k : Int)] = true ∧ flipR (List.replicate n 0) [(k : Int), (k : Int)] = oneAt n k ∧ allB n [(k : Int), (k : Int)] = true ∧ flipR (oneAt n k) [(k : Int)] = List.replicate n 0 := by
  have hb : isB n k = true := by unfold isB; exact decide_eq_true ⟨by omega, by omega⟩
  have hg : (List.replicate n (0 : Int)).getD k 0 = 0 := by rw [List.getD_eq_getElem?_getD]; simp [h]
  have hg1 : (oneAt n k).getD k 0 = 1 := by unfold oneAt; rw [List.getD_eq_getElem?_getD]; simp [h]
  have hl : (oneAt n k).length = n := by simp [oneAt]
  refine ⟨?_, by simp [allB, hb], ?_, by simp [allB, hb], ?_⟩
  · unfold flipR; rw [if_pos (by simp [allB, hb])]
    simp only [flipTo, List.foldl_cons, List.foldl_nil, Int.toNat_natCast, hg]
    rfl
  · unfold flipR; rw [if_pos (by simp [allB, hb])]
    simp only [flipTo, List.foldl_cons, List.foldl_nil, Int.toNat_natCast, hg, List.set_set]
    rfl
  · unfold flipR; rw [if_pos (by simp [allB, hl, hb])]
    simp only [flipTo, List.foldl_cons, List.foldl_nil, Int.toNat_natCast, hg1]
    apply List.ext_getElem
    · simp [oneAt]
    · intro i h1 h2
      simp [oneAt, List.getElem_set]
theorem live_zero (n k : Nat) (h : k < n) : liveAt (List.replicate n 0) k = 0 ∧ liveAt (oneAt n k) k = 1 := by
  constructor
  · rw [liveAt_nat (by simpa using h)]; simp
  · rw [liveAt_nat (by simpa [oneAt] using h)]; simp [oneAt]
theorem one01 (n k : Nat) : Bits01 (oneAt n k) := by
  intro x hx
  unfold oneAt at hx
  rcases List.mem_or_eq_of_mem_set hx with hx | rfl
  · rw [List.eq_of_mem_replicate hx]; unfold Bit; omega
  · unfold Bit; omega
theorem one_len (n k : Nat) : (oneAt n k).length = n := by simp [oneAt]

theorem pack_byte {ls : List Int} (h : Bits01 ls) : ByteR (pack ls) := by
  have key : ∀ k, ByteR (packTo ls k) := by
    intro k
    induction k with
    | zero => intro x hx; simp only [packTo] at hx; rw [List.eq_of_mem_replicate hx]; omega
    | succ k ih =>
      intro x hx
      simp only [packTo] at hx
      rcases List.mem_or_eq_of_mem_set hx with hx | rfl
      · exact ih x hx
      · unfold bits
        rw [IntKind.wrap_u8]
        omega
  exact key _

set_option maxRecDepth 100000 in
set_option maxHeartbeats 2000000 in
theorem versOwn_ok {E w : World} {F : Asn} (n k : Nat) (h1 : 1 ≤ n) (h2 : n ≤ 127) (hk : k < n) (hS : Sat E F w) :
    Calls Try.prog 4 #[.int .i64 n, .int .i64 k] w fun e w' => e = .returned (.bool true) ∧ Sat E F w' := by
  obtain ⟨f1, a1, f2, a2, f3⟩ := flip_zero n k hk
  obtain ⟨l1, l2⟩ := live_zero n k hk
  have z1 := zeros01 n
  have o1 := one01 n k
  have F1 := hid f1
  have A1 := hid a1
  have F2 := hid f2
  have A2 := hid a2
  have F3 := hid f3
  have L1 := hid l1
  have L2 := hid l2
  have hrl : (List.replicate n (0 : Int)).length = n := by simp
  have hol := one_len n k
  have HRL := hid hrl
  have HOL := hid hol
  clear f1 a1 f2 a2 f3 l1 l2 hrl hol
  have hk2 : (k : Int) < (n : Int) := by omega
  obtain ⟨m, hm⟩ : ∃ m, m = (n + 7) / 8 := ⟨_, rfl⟩
  have hdiv : ((n : Int) + 7) / 8 = (m : Int) := by omega
  have hm16 : m ≤ 16 := by omega
  have HM := hid hm
  clear hm
  go_enter Try.func4, Try.ntmps4
  go_wp2_with fail
  refine (first12 hS).mono ?_
  rintro e w1 ⟨rfl, g1⟩
  go_wp2_with fail
  refine (new_nat n h1 h2 g1).mono ?_
  rintro e w2 ⟨v, rfl, g2⟩
  go_wp2_with fail
  refine (copy_calls v _ g2 (by rw [HRL.out]; omega)).mono ?_
  rintro e w3 ⟨c, rfl, g3⟩
  have g4 : Sat E (vbits v (List.replicate n 0) * (blk w3.heap.size (.cells [Value.int .i64 k].toArray 3) * (vbits c (List.replicate n 0) * F))) (w3.alloc (.cells #[.int .i64 k] 3)) := (g3.alloc (.cells #[.int .i64 k] 3)).eq (by ac_rfl)
  go_wp2_with fail
  refine (flip_calls v _ _ 1 1 [(k : Int)] g4 (by rw [HRL.out]; omega) z1 (fun w hw => hw.blk_reads rfl (by omega))).mono ?_
  rw [HRL.out, A1.out, F1.out]
  rintro e w4 ⟨rfl, g5⟩
  have g6 : Sat E (vbits c (List.replicate n 0) * (vbits v (oneAt n k) * F)) w4 := (g5.eq (show _ = blk w3.heap.size (.cells [Value.int .i64 k].toArray 3) * (vbits c (List.replicate n 0) * (vbits v (oneAt n k) * F)) by ac_rfl)).right
  clear g5 g4
  go_wp2_with fail
  refine (live_calls c _ k g6).mono ?_
  rw [L1.out]
  rintro e w5 ⟨rfl, rfl⟩
  go_wp2_with fail
  refine (live_calls v _ k (g6.eq (star_left_comm _ _ _))).mono ?_
  rw [L2.out]
  rintro e w5 ⟨rfl, rfl⟩
  have g7 : Sat E (vbits c (List.replicate n 0) * (blk w4.heap.size (.cells [Value.int .i64 k, Value.int .i64 k].toArray 3) * (vbits v (oneAt n k) * F))) (w4.alloc (.cells #[.int .i64 k, .int .i64 k] 3)) := (g6.alloc (.cells #[.int .i64 k, .int .i64 k] 3)).eq (by ac_rfl)
  go_wp2_with fail
  refine (flip_calls c _ _ 2 2 [(k : Int), (k : Int)] g7 (by rw [HRL.out]; omega) z1 (fun w hw => hw.blk_reads rfl (by omega))).mono ?_
  rw [HRL.out, A2.out, F2.out]
  rintro e w5 ⟨rfl, g8⟩
  have g9 : Sat E (vbits v (oneAt n k) * (vbits c (oneAt n k) * F)) w5 := (g8.eq (show _ = blk w4.heap.size (.cells [Value.int .i64 k, Value.int .i64 k].toArray 3) * (vbits v (oneAt n k) * (vbits c (oneAt n k) * F)) by ac_rfl)).right
  clear g8 g7 g6
  go_wp2_with fail
  refine (bytes_calls v _ g9 (by rw [HOL.out]; omega) o1).mono ?_
  rw [HOL.out, ← HM.out]
  rintro e w6 ⟨vb, rfl, g10⟩
  obtain ⟨Ab, cb, rfl, _, _, _⟩ := g10.reads
  have g11 : Sat E (vbits c (oneAt n k) * (row 5 1 (.slice Ab m cb) m (nums .u8 (pack (oneAt n k))) * (vbits v (oneAt n k) * F))) w6 := g10.eq (by ac_rfl)
  go_wp2_with fail
  refine (bytes_calls c _ g11 (by rw [HOL.out]; omega) o1).mono ?_
  rw [HOL.out, ← HM.out]
  rintro e w7 ⟨vb2, rfl, g12⟩
  obtain ⟨Ab2, cb2, rfl, _, _, hR2⟩ := g12.reads
  have hR1 := g12.right.right.reads_at
  go_wp2_with fail
  refine (bytesEq Ab Ab2 m m cb cb2 (pack (oneAt n k)) (pack (oneAt n k)) hR1 hR2 (pack_byte o1) (pack_byte o1)).mono ?_
  rw [decide_eq_true (rfl : pack (oneAt n k) = pack (oneAt n k))]
  rintro e w8 ⟨rfl, rfl⟩
  clear hR1 hR2
  have g13 : Sat E (row 5 1 (.slice Ab m cb) m (nums .u8 (pack (oneAt n k))) * (vbits c (oneAt n k) * (vbits v (oneAt n k) * F))) w7 := (g12.right).eq (by ac_rfl)
  clear g10 g11 g12 g9
  go_wp2_with fail
  clear hdiv
  go_loopw [8] (fun i wr => ∃ (j : Nat) (xs : List Int), j ≤ m ∧ i = .int .i64 j ∧ Sat E (row 5 1 (.slice Ab m cb) m (nums .u8 xs) * (vbits c (oneAt n k) * (vbits v (oneAt n k) * F))) wr) (fun i _ => m - (intOf i).toNat)
  case atStart => exact ⟨0, _, by omega, rfl, g13⟩
  case round =>
    obtain ⟨j, xs, hj, rfl, hr⟩ := hrel
    by_cases hlt : j < m
    · obtain ⟨g, cg, hv, _, _⟩ := hr.row_head (by omega)
      injection hv with hv1 hv2 hv3
      subst hv1
      have hxl : xs.length = m := by have := hr.row_len; rw [nums_length] at this; omega
      obtain ⟨uv, hct⟩ : ∃ uv, wr.cell? ⟨g, j, none⟩ = some (.int .u8 uv) := ⟨_, (hr.row_cell j (by omega)).trans (nums_at (by omega))⟩
      have hf := hr.row_free j
      clear hv3 hv2 hxl
      go_wp2
      go_roundw
      case rel => exact ⟨j + 1, xs.set j 255, by omega, by go_num, by have := hr.row_store j (.int .u8 255); rwa [show (nums .u8 xs).set j (.int .u8 255) = nums .u8 (xs.set j 255) by simp [nums, List.map_set]] at this⟩
      case measure => simp [intOf]; omega
    · have r1 := hr.right
      go_wp2_with fail
      refine (first12 r1).mono ?_
      rintro e w9 ⟨rfl, r2⟩
      go_wp2_with fail
      refine (bytes_calls v _ (r2.eq (star_left_comm _ _ _)) (by rw [HOL.out]; omega) o1).mono ?_
      rw [HOL.out, ← HM.out]
      rintro e w10 ⟨vb3, rfl, r3⟩
      obtain ⟨Ac, cc, rfl, _, _, _⟩ := r3.reads
      have r4 : Sat E (vbits c (oneAt n k) * (row 5 1 (.slice Ac m cc) m (nums .u8 (pack (oneAt n k))) * (vbits v (oneAt n k) * F))) w10 := r3.eq (by ac_rfl)
      go_wp2_with fail
      refine (bytes_calls c _ r4 (by rw [HOL.out]; omega) o1).mono ?_
      rw [HOL.out, ← HM.out]
      rintro e w11 ⟨vb4, rfl, r5⟩
      obtain ⟨Ad, cd, rfl, _, _, hR5⟩ := r5.reads
      have hR6 := r5.right.right.reads_at
      go_wp2_with fail
      refine (bytesEq Ac Ad m m cc cd (pack (oneAt n k)) (pack (oneAt n k)) hR6 hR5 (pack_byte o1) (pack_byte o1)).mono ?_
      rw [decide_eq_true (rfl : pack (oneAt n k) = pack (oneAt n k))]
      rintro e w12 ⟨rfl, rfl⟩
      have r6 : Sat E (vbits v (oneAt n k) * (vbits c (oneAt n k) * F)) w11 := (r5.eq (show _ = row 5 1 (.slice Ad m cd) m (nums .u8 (pack (oneAt n k))) * (row 5 1 (.slice Ac m cc) m (nums .u8 (pack (oneAt n k))) * (vbits v (oneAt n k) * (vbits c (oneAt n k) * F))) by ac_rfl)).right.right
      clear hR5 hR6 r5 r4 r3 r2 r1 hr
      have r7 : Sat E (vbits v (oneAt n k) * (blk w11.heap.size (.cells [Value.int .i64 k].toArray 3) * (vbits c (oneAt n k) * F))) (w11.alloc (.cells #[.int .i64 k] 3)) := (r6.alloc (.cells #[.int .i64 k] 3)).eq (by ac_rfl)
      go_wp2_with fail
      refine (flip_calls v _ _ 1 1 [(k : Int)] r7 (by rw [HOL.out]; omega) o1 (fun w hw => hw.blk_reads rfl (by omega))).mono ?_
      rw [HOL.out, A1.out, F3.out]
      rintro e w12 ⟨rfl, r8⟩
      go_wp2_with fail
      refine (live_calls v _ k r8).mono ?_
      rw [L1.out]
      rintro e w13 ⟨rfl, rfl⟩
      have r9 : Sat E (vbits c (oneAt n k) * (vbits v (List.replicate n 0) * F)) w12 := (r8.eq (show _ = blk w11.heap.size (.cells [Value.int .i64 k].toArray 3) * (vbits c (oneAt n k) * (vbits v (List.replicate n 0) * F)) by ac_rfl)).right
      go_wp2_with fail
      refine (live_calls c _ k r9).mono ?_
      rw [L2.out]
      rintro e w13 ⟨rfl, rfl⟩
      go_wp2
      go_ret
      exact ⟨rfl, r9.right.right⟩

set_option maxRecDepth 100000 in
set_option maxHeartbeats 2000000 in
theorem versOwn {E w : World} {F : Asn} (n k : Int) (hS : Sat E F w) :
    Calls Try.prog 4 #[.int .i64 n, .int .i64 k] w fun e w' => e = .returned (.bool true) ∧ Sat E F w' := by
  by_cases hn : n < 1 ∨ 127 < n
  · go_enter Try.func4, Try.ntmps4
    go_wp2_with fail
    refine (first12 hS).mono ?_
    rintro e w1 ⟨rfl, g1⟩
    go_wp2_with fail
    refine (new_bad n hn).mono ?_
    rintro e w2 ⟨rfl, rfl⟩
    go_wp2_with fail
    refine (first12 g1).mono ?_
    rintro e w3 ⟨rfl, g3⟩
    go_wp2
    go_ret
    exact ⟨rfl, g3⟩
  · by_cases hk : 0 ≤ k ∧ k < n
    · obtain ⟨n', rfl⟩ := Int.eq_ofNat_of_zero_le (show 0 ≤ n by omega)
      obtain ⟨k', rfl⟩ := Int.eq_ofNat_of_zero_le (show 0 ≤ k by omega)
      exact versOwn_ok n' k' (by omega) (by omega) (by omega) hS
    · go_enter Try.func4, Try.ntmps4
      go_wp2_with fail
      refine (first12 hS).mono ?_
      rintro e w1 ⟨rfl, g1⟩
      go_wp2_with fail
      refine (new_ok n (by omega) (by omega) g1).mono ?_
      rintro e w2 ⟨b, rfl, g2⟩
      go_wp2_with (go_at_call 12; refine (first12 (E := E) (F := F) g2.right).mono ?_; rintro e w3 ⟨rfl, g3⟩)
      all_goals first
        | (go_ret; exact ⟨rfl, by assumption⟩)
        | (exfalso; omega)

theorem VersOwn_walk (W : World) (a0 : Int) (w0 : (Lit.int .i64 a0).wf = true) (a1 : Int) (w1 : (Lit.int .i64 a1).wf = true) :
    Calls Try.prog 4 #[.int .i64 a0, .int .i64 a1] W fun e w' => e = .returned (.bool true) ∧ Below W.heap.size W w' :=
  (versOwn a0 a1 (Sat.start W)).mono fun e w' ⟨he, hs⟩ => ⟨he, hs.finish1⟩
end Go.Proofs.Ytfphpnccmkggfaa
