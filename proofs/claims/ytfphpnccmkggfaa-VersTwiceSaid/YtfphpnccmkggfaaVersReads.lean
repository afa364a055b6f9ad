import Derived.Test.YtfphpnccmkggfaaVersParse
namespace Go.Proofs.Ytfphpnccmkggfaa
set_option linter.unusedVariables false
set_option linter.unusedSimpArgs false
open Go.RowKit Go.Proofs.Sep

theorem pack_len (ls : List Int) : (pack ls).length = (ls.length + 7) / 8 := packTo_length ls ls.length
set_option maxRecDepth 100000 in
set_option maxHeartbeats 1000000 in
theorem parseBits_ok {E w : World} {F : Asn} (n : Nat) (A : Option Addr) (c : Nat) (b : List Int) (h1 : 1 ≤ n) (h2 : n ≤ 127) (hb : ByteR b) (hS : Sat E F w) (hR : ∀ w, Sat E F w → Reads w 1 A b.length (nums .u8 b)) :
    Calls Try.prog 27 #[.int .i64 n, .slice A b.length c] w fun e w' => (pack (unp b n) = b ∧ ∃ v, e = .returned (.tuple #[v, .int .i64 0]) ∧ Sat E (row 3 1 v n (nums .i64 (unp b n)) * F) w') ∨ (pack (unp b n) ≠ b ∧ e = .returned (.tuple #[.slice none 0 0, .int .i64 2]) ∧ Sat E F w') := by
  have hmm := (hR w hS).2.1
  obtain ⟨m, hm⟩ : ∃ m, m = (n + 7) / 8 := ⟨_, rfl⟩
  have hm2 : ((n : Int) + 7) / 8 = (m : Int) := by omega
  have hlen : (pack (unp b n)).length = m := by rw [pack_len, show (unp b n).length = n from unpTo_length b n n, hm]
  have HM := hid hm
  have hm16 : m ≤ 16 := by omega
  have hdn : decide (1 ≤ (n : Int) ∧ (n : Int) ≤ 127) = true := decide_eq_true (by omega)
  have HDN := hid hdn
  clear hdn hm
  by_cases hbl : b.length = m
  · have hbl2 : (b.length : Int) = (m : Int) := by omega
    have HBL := hid hbl
    have hmk := fun w => run_make_row' (P := Try.prog) 22 3 (.int .i64 0) 8 Try.underlying22 Try.info3 rfl .i64 .i64 n (by omega) (by omega) w
    have hS1 := hS.row_made (.int .i64 0) 3 n (by omega)
    rw [show List.replicate n (Value.int .i64 0) = nums .i64 (unpTo b n 0) by simp [nums, unpTo]] at hS1
    clear hbl hlen
    go_enter Try.func27, Try.ntmps27
    go_wp2_with fail
    refine (mayBits n).mono ?_
    rw [HDN.out]
    rintro e w1 ⟨rfl, rfl⟩
    go_wp2_with fail
    clear hmk hm2 hbl2
    go_loopw [7] (fun i wr => ∃ k : Nat, k ≤ n ∧ i = .int .i64 k ∧ Sat E (row 3 1 (.slice (some ⟨w.heap.size, 0, none⟩) n n) n (nums .i64 (unpTo b n k)) * F) wr) (fun i _ => n - (intOf i).toNat)
    case atStart => exact ⟨0, by omega, rfl, hS1⟩
    case round =>
      clear hS1
      obtain ⟨k, hk, rfl, hr⟩ := hrel
      by_cases hlt : k < n
      · obtain ⟨q, hq1⟩ : ∃ q, q = k / 8 := ⟨_, rfl⟩
        obtain ⟨r, hr1⟩ : ∃ r, r = k % 8 := ⟨_, rfl⟩
        have r8 : r < 8 := by omega
        have w1 := (i64_wrap (x := (k : Int) / 8) (by omega) (by omega)).trans (show (k : Int) / 8 = (q : Int) by omega)
        have w2 : (k : Int).tmod 8 = (r : Int) := by rw [Int.tmod_eq_emod_of_nonneg (by omega)]; omega
        have w3 := i64_wrap (x := (r : Int)) (by omega) (by omega)
        have w6 : IntKind.u64.wrap (r : Int) = (r : Int) := by rw [IntKind.wrap_u64]; omega
        have hql : q < b.length := by have := HM.out; have := HBL.out; omega
        have HQ := hid hq1
        have HRR := hid hr1
        clear hq1 hr1
        obtain ⟨ad, rfl, hc⟩ := (hR _ hr.right).at (by omega)
        have hca := hc q _ (nums_at hql)
        clear hc
        obtain ⟨b2, b1, y0, y1, x1, x2⟩ := bit_div b hb k r q HQ.out HRR.out hql
        have hnx : (nums .i64 (unpTo b n k)).set k (.int .i64 (bitAt b k)) = nums .i64 (unpTo b n (k + 1)) := by
          simp only [unpTo]
          simp [nums, List.map_set]
        have HN := hid hnx
        clear b2 hnx
        have hul := unpTo_length b n k
        obtain ⟨uv, hct⟩ : ∃ uv, wr.cell? ⟨w.heap.size, k, none⟩ = some (.int .i64 uv) := ⟨_, (hr.row_cell k (by omega)).trans (nums_getD (by rw [hul]; exact hlt))⟩
        have hf := hr.row_free k
        have hst := hr.row_store k (.int .i64 (bitAt b k))
        rw [HN.out] at hst
        have HST := hid hst
        clear hst hul
        generalize bitAt b k = y at b1 y0 y1 HST
        have wy := i64_wrap (x := y) (by omega) (by omega)
        have hql2 : (q : Int) < (b.length : Int) := by omega
        have hkn : (k : Int) < (n : Int) := by omega
        have wx := i64_wrap (x := b[q]) (by omega) (by omega)
        go_wp2
        go_roundw
        case rel => exact ⟨k + 1, by omega, by go_num, HST.out⟩
        case measure => simp [intOf]; omega
      · obtain rfl : k = n := by omega
        have hr2 : Sat E (row 3 1 (.slice (some ⟨w.heap.size, 0, none⟩) k k) k (nums .i64 (unp b k)) * F) wr := hr
        clear hr
        have u01 := unp01 b k
        have hpb := pack_byte u01
        go_wp2_with fail
        have hbb := bitBytesN k (some ⟨w.heap.size, 0, none⟩) k (unp b k) (unpTo_length b k k) hr2 (by omega) u01 (fun w hw => hw.reads_at)
        rw [← HM.out] at hbb
        refine hbb.mono ?_
        rintro e w3 ⟨v1, rfl, s1⟩
        obtain ⟨A1, c1, rfl, _, _, rr1⟩ := s1.reads
        clear hbb
        go_wp2_with fail
        refine (bytesEq A1 A m b.length c1 c _ b rr1 (hR _ s1.right.right) hpb hb).mono ?_
        have s2 := s1.right
        clear s1 rr1
        by_cases hpe : pack (unp b k) = b
        · have HP := hid hpe
          rw [decide_eq_true hpe]
          clear hpe
          rintro e w4 ⟨rfl, rfl⟩
          go_wp2
          go_ret2
          exact .inl ⟨HP.out, _, rfl, s2⟩
        · have HP := hid hpe
          rw [decide_eq_false hpe]
          clear hpe
          rintro e w4 ⟨rfl, rfl⟩
          go_wp2
          go_ret2
          exact .inr ⟨HP.out, rfl, s2.right⟩
  · have hne : pack (unp b n) ≠ b := fun h => hbl (by rw [← hlen, h])
    have HNE := hid hne
    have hbl2 : ¬ (b.length : Int) = (m : Int) := by omega
    clear hne hlen
    go_enter Try.func27, Try.ntmps27
    go_wp2_with fail
    refine (mayBits n).mono ?_
    rw [HDN.out]
    rintro e w1 ⟨rfl, rfl⟩
    go_wp2
    go_ret2
    exact .inr ⟨HNE.out, rfl, hS⟩

set_option maxRecDepth 100000 in
set_option maxHeartbeats 1000000 in
theorem parse_bad {w : World} (n : Int) (A : Option Addr) (c m : Nat) (hn : n < 1 ∨ 127 < n) :
    Calls Try.prog 26 #[.int .i64 n, .slice A m c] w fun e w' => e = .returned (.tuple #[.pointer none, .int .i64 1]) ∧ w = w' := by
  go_enter Try.func26, Try.ntmps26
  go_wp2_with fail
  refine (new_bad n hn).mono ?_
  rintro e w2 ⟨rfl, rfl⟩
  go_wp2
  go_ret2
  exact ⟨rfl, rfl⟩
set_option maxRecDepth 100000 in
set_option maxHeartbeats 1000000 in
theorem parseBits_bad {w : World} (n : Int) (A : Option Addr) (c m : Nat) (hn : n < 1 ∨ 127 < n) :
    Calls Try.prog 27 #[.int .i64 n, .slice A m c] w fun e w' => e = .returned (.tuple #[.slice none 0 0, .int .i64 1]) ∧ w = w' := by
  have hdn : decide (1 ≤ n ∧ n ≤ 127) = false := decide_eq_false (by omega)
  have HDN := hid hdn
  clear hdn
  go_enter Try.func27, Try.ntmps27
  go_wp2_with fail
  refine (mayBits n).mono ?_
  rw [HDN.out]
  rintro e w2 ⟨rfl, rfl⟩
  go_wp2
  go_ret2
  exact ⟨rfl, rfl⟩

set_option maxRecDepth 100000 in
set_option maxHeartbeats 1000000 in
theorem versReads {E w : World} {F : Asn} (n : Int) (A : Option Addr) (c : Nat) (b : List Int) (hb : ByteR b) (hS : Sat E F w) (hR : ∀ w, Sat E F w → Reads w 1 A b.length (nums .u8 b)) :
    Calls Try.prog 6 #[.int .i64 n, .slice A b.length c] w fun e w' => e = .returned (.bool true) ∧ Sat E F w' := by
  have hmm := (hR w hS).2.1
  go_enter Try.func6, Try.ntmps6
  go_wp2_with fail
  refine (first12 hS).mono ?_
  rintro e w1 ⟨rfl, g1⟩
  by_cases hl : b.length ≤ 1000
  · by_cases hn : n < 1 ∨ 127 < n
    · go_wp2_with fail
      refine (parse_bad n A c b.length hn).mono ?_
      rintro e w2 ⟨rfl, rfl⟩
      go_wp2_with fail
      refine (parseBits_bad n A c b.length hn).mono ?_
      rintro e w2 ⟨rfl, rfl⟩
      go_wp2_with fail
      refine (first12 g1).mono ?_
      rintro e w2 ⟨rfl, g2⟩
      go_wp2
      go_ret
      exact ⟨rfl, g2⟩
    · obtain ⟨n', rfl⟩ := Int.eq_ofNat_of_zero_le (show 0 ≤ n by omega)
      go_wp2_with fail
      refine (parse_ok n' A c b (by omega) (by omega) hb g1 hR).mono ?_
      rintro e w2 (⟨hp, v, rfl, g2⟩ | ⟨hp, rfl, g2⟩)
      · have HP := hid hp
        clear hp
        have u01 := unp01 b n'
        have hul : (unp b n').length = n' := unpTo_length b n' n'
        have HU := hid hul
        have hpb := pack_byte u01
        clear hul
        go_wp2_with fail
        refine (parseBits_ok n' A c b (by omega) (by omega) hb g2 (fun w hw => hR w hw.right)).mono ?_
        rintro e w3 (⟨hp, x, rfl, g3⟩ | ⟨hp, rfl, g3⟩)
        · obtain ⟨Ax, cx, rfl, _, _, _⟩ := g3.reads
          clear hp
          go_wp2_with fail
          refine (first12 g3).mono ?_
          rintro e w4 ⟨rfl, g4⟩
          go_wp2_with fail
          refine (bits_calls v _ (g4.eq (star_left_comm _ _ _)) (by rw [HU.out]; omega)).mono ?_
          rw [HU.out]
          rintro e w5 ⟨v2, rfl, g5⟩
          obtain ⟨A2, c2, rfl, _, _, rr2⟩ := g5.reads
          have rr3 := (g5.eq (show _ = row 3 1 (.slice Ax n' cx) n' (nums .i64 (unp b n')) * (row 3 1 (.slice A2 n' c2) n' (nums .i64 (unp b n')) * (vbits v (unp b n') * F)) by ac_rfl)).reads_at
          go_wp2_with fail
          refine (intsEq A2 Ax n' n' c2 cx _ _ rr2 rr3).mono ?_
          rw [decide_eq_true (rfl : unp b n' = unp b n')]
          rintro e w6 ⟨rfl, nq, rfl⟩
          have g6 : Sat E (vbits v (unp b n') * F) (w5.drewN nq) := ((g5.drewN nq).eq (show _ = row 3 1 (.slice Ax n' cx) n' (nums .i64 (unp b n')) * (row 3 1 (.slice A2 n' c2) n' (nums .i64 (unp b n')) * (vbits v (unp b n') * F)) by ac_rfl)).right.right
          generalize w5.drewN nq = w6 at g6 ⊢
          clear g5 g4 g3 rr2 rr3
          obtain ⟨m, hm⟩ : ∃ m, m = (n' + 7) / 8 := ⟨_, rfl⟩
          have HM := hid hm
          clear hm
          go_wp2_with fail
          refine (bytes_calls v _ g6 (by rw [HU.out]; omega) u01).mono ?_
          rw [HU.out, ← HM.out]
          rintro e w7 ⟨v3, rfl, g7⟩
          obtain ⟨A3, c3, rfl, _, _, rr4⟩ := g7.reads
          go_wp2_with fail
          refine (bytesEq A3 A m b.length c3 c _ b rr4 (hR _ g7.right.right) hpb hb).mono ?_
          rw [decide_eq_true HP.out]
          rintro e w8 ⟨rfl, rfl⟩
          have g8 := g7.right.right
          clear g7 rr4 HP
          go_wp2
          go_ret
          exact ⟨rfl, g8⟩
        · exact absurd HP.out hp
      · have HP := hid hp
        clear hp
        go_wp2_with fail
        refine (parseBits_ok n' A c b (by omega) (by omega) hb g2 hR).mono ?_
        rintro e w3 (⟨hp, x, rfl, g3⟩ | ⟨hp, rfl, g3⟩)
        · exact absurd hp HP.out
        · clear hp
          go_wp2_with fail
          refine (first12 g3).mono ?_
          rintro e w4 ⟨rfl, g4⟩
          go_wp2
          go_ret
          exact ⟨rfl, g4⟩
  · go_wp2_with fail
    refine (first12 g1).mono ?_
    rintro e w2 ⟨rfl, g2⟩
    go_wp2
    go_ret
    exact ⟨rfl, g2⟩

theorem VersReads_walk (W : World) (a0 : Int) (w0 : (Lit.int .i64 a0).wf = true) (a1 : Option Addr) (len1 cap1 : Nat) (l1 : (List Int)) (h1 : (decSlice 1 (decInt .u8)).rel W l1 [.slice a1 len1 cap1]) :
    Calls Try.prog 6 #[.int .i64 a0, .slice a1 len1 cap1] W fun e w' => e = .returned (.bool true) ∧ Below W.heap.size W w' := by
  obtain ⟨A, c, he, h1, h2, h3, hR, hw⟩ := dec_ints h1
  simp at he
  obtain ⟨rfl, rfl, rfl⟩ := he
  exact (versReads a0 _ _ l1 (byteR_wf hw) (Sat.start W) (fun w hs => hR.keep fun k hk => hs.old1 hk)).mono fun e w' ⟨he, hs⟩ => ⟨he, hs.finish1⟩
end Go.Proofs.Ytfphpnccmkggfaa
