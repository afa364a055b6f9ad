import Derived.Test.YtfphpnccmkggfaaVersPlays
namespace Go.Proofs.Ytfphpnccmkggfaa
set_option linter.unusedVariables false
set_option linter.unusedSimpArgs false
open Go.RowKit Go.Proofs.Sep

theorem and_one_u8 (y : Nat) (hy : y < 256) : bits .and .u8 (y : Int) 1 = ((y % 2 : Nat) : Int) := by
  have h1 : (BitVec.ofInt 8 (y : Int)).toNat = y := by
    rw [BitVec.ofInt_natCast, BitVec.toNat_ofNat]; exact Nat.mod_eq_of_lt (by omega)
  have h2 : (BitVec.ofInt 8 (1 : Int)).toNat = 1 := by decide
  show IntKind.u8.wrap ((BitVec.ofInt 8 (y : Int) &&& BitVec.ofInt 8 (1 : Int)).toNat : Int) = _
  rw [BitVec.toNat_and, h1, h2, IntKind.wrap_u8, Nat.and_one_is_mod]
  omega
theorem and_one_i64 (y : Nat) (hy : y < 256) : bits .and .i64 (y : Int) 1 = ((y % 2 : Nat) : Int) := by
  have h1 : (BitVec.ofInt 64 (y : Int)).toNat = y := by
    rw [BitVec.ofInt_natCast, BitVec.toNat_ofNat]; exact Nat.mod_eq_of_lt (by omega)
  have h2 : (BitVec.ofInt 64 (1 : Int)).toNat = 1 := by decide
  show IntKind.i64.wrap ((BitVec.ofInt 64 (y : Int) &&& BitVec.ofInt 64 (1 : Int)).toNat : Int) = _
  rw [BitVec.toNat_and, h1, h2, IntKind.wrap_i64, Nat.and_one_is_mod]
  omega
/-- Bit i of the bytes. -/
def bitAt (b : List Int) (i : Nat) : Int := (((b.getD (i / 8) 0).toNat / 2 ^ (i % 8) % 2 : Nat) : Int)
theorem bitAt_01 (b : List Int) (i : Nat) : Bit (bitAt b i) := by unfold Bit bitAt; omega
def unpTo (b : List Int) (n : Nat) : Nat → List Int
  | 0 => List.replicate n 0
  | k + 1 => (unpTo b n k).set k (bitAt b k)
def unp (b : List Int) (n : Nat) : List Int := unpTo b n n
theorem unpTo_length (b : List Int) (n k : Nat) : (unpTo b n k).length = n := by
  induction k with
  | zero => simp [unpTo]
  | succ k ih => simp [unpTo, ih]
theorem unpTo_get (b : List Int) (n k j : Nat) (hj : j < n) : (unpTo b n k).getD j 0 = if j < k then bitAt b j else 0 := by
  induction k with
  | zero => simp [unpTo, hj]
  | succ k ih =>
    simp only [unpTo]
    rw [List.getD_eq_getElem?_getD, List.getElem?_set]
    by_cases hkj : k = j
    · subst hkj
      simp [unpTo_length, hj]
    · simp only [hkj, if_false]
      rw [← List.getD_eq_getElem?_getD, ih]
      by_cases hlt : j < k
      · rw [if_pos hlt, if_pos (by omega)]
      · rw [if_neg hlt, if_neg (by omega)]
theorem unpTo_skip (b : List Int) (n k : Nat) (hk : k < n) (h : b.length ≤ k / 8) : unpTo b n (k + 1) = unpTo b n k := by
  apply list_ext_getD
  · rw [unpTo_length, unpTo_length]
  · intro j hj
    rw [unpTo_length] at hj
    rw [unpTo_get _ _ _ _ hj, unpTo_get _ _ _ _ hj]
    by_cases hkj : j = k
    · subst hkj
      rw [if_pos (by omega), if_neg (by omega)]
      unfold bitAt
      rw [List.getD_eq_getElem?_getD, List.getElem?_eq_none h]
      simp
    · by_cases hlt : j < k
      · rw [if_pos hlt, if_pos (by omega)]
      · rw [if_neg hlt, if_neg (by omega)]
theorem unp01 (b : List Int) (n : Nat) : Bits01 (unp b n) := by
  intro x hx
  obtain ⟨j, hj, rfl⟩ := List.getElem_of_mem hx
  have hjn : j < n := by unfold unp at hj; rwa [unpTo_length] at hj
  have := unpTo_get b n n j hjn
  rw [List.getD_eq_getElem?_getD, ← unp, List.getElem?_eq_getElem hj, if_pos hjn] at this
  rw [show (unp b n)[j] = bitAt b j from this]
  exact bitAt_01 b j
/-- What the walk reckons for bit k: of the byte x. -/
theorem bit_u8 (b : List Int) (hb : ByteR b) (k r : Nat) (hk : k / 8 < b.length) (hr : r = k % 8) : bits .and .u8 ((b.getD (k / 8) 0).fdiv (2 ^ r)) 1 = bitAt b k ∧ bits .and .i64 ((b.getD (k / 8) 0).fdiv (2 ^ r)) 1 = bitAt b k ∧ 0 ≤ (b.getD (k / 8) 0).fdiv (2 ^ r) ∧ (b.getD (k / 8) 0).fdiv (2 ^ r) < 256 := by
  subst hr
  have hx := hb (b[k / 8]) (List.getElem_mem _)
  have hg : b.getD (k / 8) 0 = b[k / 8] := by rw [List.getD_eq_getElem?_getD, List.getElem?_eq_getElem hk]; rfl
  obtain ⟨x, hxx⟩ := Int.eq_ofNat_of_zero_le hx.1
  have hx2 : x < 256 := by omega
  have e : (b.getD (k / 8) 0).fdiv (2 ^ (k % 8)) = ((x / 2 ^ (k % 8) : Nat) : Int) := by
    rw [hg, hxx, Int.fdiv_eq_ediv_of_nonneg _ (by have := Int.pow_pos (n := 2) (m := k % 8) (by omega); omega)]
    rw [show ((2 : Int) ^ (k % 8)) = ((2 ^ (k % 8) : Nat) : Int) by simp, ← Int.natCast_ediv]
  have hlt : x / 2 ^ (k % 8) < 256 := Nat.lt_of_le_of_lt (Nat.div_le_self _ _) hx2
  have hbit : bitAt b k = ((x / 2 ^ (k % 8) % 2 : Nat) : Int) := by unfold bitAt; rw [hg, hxx]; rfl
  rw [e, hbit]
  exact ⟨and_one_u8 _ hlt, and_one_i64 _ hlt, Int.natCast_nonneg _, Int.ofNat_lt.2 hlt⟩
set_option maxRecDepth 100000 in
set_option maxHeartbeats 400000 in
theorem bytesEqual {w : World} (A B : Option Addr) (n m c d : Nat) (xs ys : List Int) (hA : Reads w 1 A n (nums .u8 xs)) (hB : Reads w 1 B m (nums .u8 ys)) (hx : ByteR xs) (hy : ByteR ys) :
    Calls Try.prog 43 #[.slice A n c, .slice B m d] w fun e w' => e = .returned (.bool (decide (xs = ys))) ∧ w = w' := by
  have ka : (convert 31 9 (.slice A n c)).run Try.prog w = .ok (.string (strOfNums xs)) w := run_bytes_string 31 5 9 Try.underlying31 Try.underlying5 Try.underlying9 hA
  have kb : (convert 31 9 (.slice B m d)).run Try.prog w = .ok (.string (strOfNums ys)) w := run_bytes_string 31 5 9 Try.underlying31 Try.underlying5 Try.underlying9 hB
  rw [← strOfNums_beq hx hy]
  go_enter Try.func43, Try.ntmps43
  go_wp2
  go_ret
  exact ⟨rfl, rfl⟩
theorem bit_div (b : List Int) (hb : ByteR b) (k r q : Nat) (hq : q = k / 8) (hr : r = k % 8) (hql : q < b.length) :
    bits .and .u8 (b[q] / 2 ^ r) 1 = bitAt b k ∧ bits .and .i64 (b[q] / 2 ^ r) 1 = bitAt b k ∧ 0 ≤ bitAt b k ∧ bitAt b k ≤ 1 ∧ 0 ≤ b[q] ∧ b[q] < 256 := by
  subst hq
  obtain ⟨h1, h2, _, _⟩ := bit_u8 b hb k r hql hr
  have hg : b.getD (k / 8) 0 = b[k / 8] := by rw [List.getD_eq_getElem?_getD, List.getElem?_eq_getElem hql]; rfl
  rw [hg, Int.fdiv_eq_ediv_of_nonneg _ (by have := Int.pow_pos (n := 2) (m := r) (by omega); omega)] at h1 h2
  obtain ⟨b1, b2⟩ := bitAt_01 b k
  obtain ⟨x1, x2⟩ := hb (b[k / 8]) (List.getElem_mem _)
  exact ⟨h1, h2, b1, b2, x1, x2⟩

set_option maxRecDepth 100000 in
set_option maxHeartbeats 1000000 in
theorem parse_ok {E w : World} {F : Asn} (n : Nat) (A : Option Addr) (c : Nat) (b : List Int) (h1 : 1 ≤ n) (h2 : n ≤ 127) (hb : ByteR b) (hS : Sat E F w) (hR : ∀ w, Sat E F w → Reads w 1 A b.length (nums .u8 b)) :
    Calls Try.prog 26 #[.int .i64 n, .slice A b.length c] w fun e w' => (pack (unp b n) = b ∧ ∃ v, e = .returned (.tuple #[.pointer (some ⟨v, 0, none⟩), .int .i64 0]) ∧ Sat E (vbits v (unp b n) * F) w') ∨ (pack (unp b n) ≠ b ∧ e = .returned (.tuple #[.pointer none, .int .i64 2]) ∧ Sat E F w') := by
  have hmm := (hR w hS).2.1
  go_enter Try.func26, Try.ntmps26
  go_wp2_with fail
  refine (new_nat n h1 h2 hS).mono ?_
  rintro e w2 ⟨v, rfl, g2⟩
  obtain ⟨Av, cv, _, _, g3, _⟩ := vbits_open g2
  have c0 := g3.cell_blk (i := 0)
  simp only [List.getElem?_toArray, List.getElem?_cons_zero, List.length_replicate] at c0 g3
  clear g2
  go_wp2_with fail
  clear c0
  go_loopw [17] (fun i wr => ∃ k : Nat, k ≤ n ∧ i = .int .i64 k ∧ Sat E (row 3 1 (.slice Av n cv) n (nums .i64 (unpTo b n k)) * (blk v (.cells #[.slice Av n cv] 67) * F)) wr) (fun i _ => n - (intOf i).toNat)
  case atStart => exact ⟨0, by omega, rfl, g3.eq (star_left_comm _ _ _)⟩
  case round =>
    clear g3
    obtain ⟨k, hk, rfl, hr⟩ := hrel
    have c0 := hr.right.cell_blk (i := 0)
    simp only [List.getElem?_toArray, List.getElem?_cons_zero] at c0
    by_cases hlt : k < n
    · obtain ⟨q, hq1⟩ : ∃ q, q = k / 8 := ⟨_, rfl⟩
      obtain ⟨r, hr1⟩ : ∃ r, r = k % 8 := ⟨_, rfl⟩
      have r8 : r < 8 := by omega
      have w1 := (i64_wrap (x := (k : Int) / 8) (by omega) (by omega)).trans (show (k : Int) / 8 = (q : Int) by omega)
      have w2 : (k : Int).tmod 8 = (r : Int) := by rw [Int.tmod_eq_emod_of_nonneg (by omega)]; omega
      have w3 := i64_wrap (x := (r : Int)) (by omega) (by omega)
      by_cases hql : q < b.length
      · have HQ := hid hq1
        have HRR := hid hr1
        clear hq1 hr1
        obtain ⟨ad, rfl, hc⟩ := (hR _ hr.right.right).at (by omega)
        have hca := hc q _ (nums_getD hql)
        clear hc
        obtain ⟨b1, b2, y0, y1, x1, x2⟩ := bit_div b hb k r q HQ.out HRR.out hql
        have hnx : (nums .i64 (unpTo b n k)).set k (.int .i64 (bitAt b k)) = nums .i64 (unpTo b n (k + 1)) := by
          simp only [unpTo]
          simp [nums, List.map_set]
        have HN := hid hnx
        obtain ⟨g, cg, e1, _, _⟩ := hr.row_head (by omega)
        injection e1 with e1 e2 e3
        subst e1
        clear e2 e3 b2 hnx
        have hul := unpTo_length b n k
        obtain ⟨uv, hct⟩ : ∃ uv, wr.cell? ⟨g, k, none⟩ = some (.int .i64 uv) := ⟨_, (hr.row_cell k (by omega)).trans (nums_getD (by rw [hul]; exact hlt))⟩
        have hf := hr.row_free k
        have hst := hr.drew.row_store k (.int .i64 (bitAt b k))
        rw [HN.out] at hst
        have HST := hid hst
        clear hst hul
        generalize bitAt b k = y at b1 y0 y1 HST
        have wy := i64_wrap (x := y) (by omega) (by omega)
        have hql2 : (q : Int) < (b.length : Int) := by omega
        have hkn : (k : Int) < (n : Int) := by omega
        go_wp2_with fail
        refine wp_region_tail 16 (by kernel_rfl) (by kernel_rfl) ?_
        simp only [List.take_succ_cons, List.take_zero, List.drop_succ_cons, List.drop_zero]
        repeat still_step
        refine wpStill_nil ?_
        go_wp2
        go_roundw
        case rel => exact ⟨k + 1, by omega, by go_num, HST.out⟩
        case measure => simp [intOf]; omega
      · have hsk := unpTo_skip b n k hlt (by omega)
        have HSK := hid hsk
        clear hsk
        have HQ := hid hq1
        have HRR := hid hr1
        clear hq1 hr1
        go_wp2
        go_roundw
        case rel => exact ⟨k + 1, by omega, by go_num, by rw [HSK.out]; exact hr⟩
        case measure => simp [intOf]; omega
    · obtain rfl : k = n := by omega
      have hul := unpTo_length b k k
      have hr2 : Sat E (vbits v (unp b k) * F) wr := by
        refine vbits_shut (v := .slice Av k cv) ?_
        unfold unp
        rw [hul]
        exact hr.eq (star_left_comm _ _ _)
      have HU : Hid ((unp b k).length = k) := hul
      clear hr c0 hul
      have u01 := unp01 b k
      have hpb := pack_byte u01
      obtain ⟨m, hm⟩ : ∃ m, m = (k + 7) / 8 := ⟨_, rfl⟩
      have HM := hid hm
      clear hm
      go_wp2_with fail
      refine (bytes_calls v _ hr2 (by rw [HU.out]; omega) u01).mono ?_
      rw [HU.out, ← HM.out]
      rintro e w3 ⟨v1, rfl, s1⟩
      obtain ⟨A1, c1, rfl, _, _, rr1⟩ := s1.reads
      go_wp2_with fail
      refine (bytesEqual A1 A m b.length c1 c _ b rr1 (hR _ s1.right.right) hpb hb).mono ?_
      have s2 := s1.right
      clear s1 rr1
      by_cases hpe : pack (unp b k) = b
      · have HP := hid hpe
        rw [decide_eq_true hpe]
        clear hpe
        rintro e w4 ⟨rfl, rfl⟩
        go_wp2
        go_ret2
        exact .inl ⟨HP.out, _, rfl, s2⟩
      · have HP := hid hpe
        rw [decide_eq_false hpe]
        clear hpe
        rintro e w4 ⟨rfl, rfl⟩
        go_wp2
        go_ret2
        exact .inr ⟨HP.out, rfl, s2.right⟩
end Go.Proofs.Ytfphpnccmkggfaa
