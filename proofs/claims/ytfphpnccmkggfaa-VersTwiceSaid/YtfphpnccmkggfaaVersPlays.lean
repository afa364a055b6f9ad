import Derived.Test.YtfphpnccmkggfaaVersRef
import Derived.Deep.RegionHeld3
namespace Go.Proofs.Ytfphpnccmkggfaa
set_option linter.unusedVariables false
set_option linter.unusedSimpArgs false
open Go.RowKit Go.Proofs.Sep

/-- A slice of slices of numbers. -/
theorem dec_lists {b1 b2 : Nat} {w : World} {l : List (List Int)} {cs : List Value} (h : (decSlice b1 (decSlice b2 (decInt .i64))).rel w l cs) :
    ∃ A c hd, cs = [.slice A l.length c] ∧ l.length ≤ c ∧ c ≤ maxLen ∧ Reads w 1 A l.length hd ∧
      ∀ i (hi : i < l.length), ∃ Ai ci, hd[i]? = some (.slice Ai l[i].length ci) ∧ l[i].length ≤ ci ∧ Reads w 1 Ai l[i].length (nums .i64 l[i]) := by
  obtain ⟨A, c, css, h0, h1, h2, h3, h4, h5, h6⟩ := h
  refine ⟨A, c, css.flatten, h0, h1, h2, h6, ?_⟩
  intro i hi
  obtain ⟨Ai, ci, e, q1, q2, q3, q4, q5⟩ := dec_ints (h5 i hi (by omega))
  refine ⟨Ai, ci, ?_, q1, q4⟩
  have hall : ∀ c ∈ css, c.length = 1 := by
    intro c hc
    obtain ⟨j, hj, rfl⟩ := List.getElem_of_mem hc
    obtain ⟨A2, c2, e2, _⟩ := dec_ints (h5 j (by omega) hj)
    rw [e2]; rfl
  have := flatten_at hall i 0 (by omega) (by omega)
  rw [Nat.mul_one, Nat.add_zero, e] at this
  simpa using this

theorem refFlipN {E w : World} {F : Asn} (n : Nat) (A B : Option Addr) (c d : Nat) (ls bs : List Int) (hX : ls.length = n) (hS : Sat E F w) (hn : n ≤ 1000000) (hb : Bits01 ls) (hd : bs.length ≤ d)
    (hA : ∀ w, Sat E F w → Reads w 1 A n (nums .i64 ls)) (hB : ∀ w, Sat E F w → Reads w 1 B bs.length (nums .i64 bs)) :
    Calls Try.prog 23 #[.slice A n c, .slice B bs.length d] w fun e w' => ∃ v, e = .returned (.tuple #[v, .bool (allB n bs)]) ∧ Sat E (row 3 1 v n (nums .i64 (flipR ls bs)) * F) w' := by
  subst hX
  exact refFlip A B c d ls bs hS hn hb hd hA hB
theorem bitBytesN {E w : World} {F : Asn} (n : Nat) (A : Option Addr) (c : Nat) (ls : List Int) (hX : ls.length = n) (hS : Sat E F w) (hn : n ≤ 1000000) (hb : Bits01 ls) (hR : ∀ w, Sat E F w → Reads w 1 A n (nums .i64 ls)) :
    Calls Try.prog 25 #[.slice A n c] w fun e w' => ∃ v, e = .returned v ∧ Sat E (row 5 1 v ((n + 7) / 8) (nums .u8 (pack ls)) * F) w' := by
  subst hX
  exact bitBytes A c ls hS hn hb hR
set_option maxRecDepth 100000 in
set_option maxHeartbeats 2000000 in
theorem versPlays {E w : World} {F : Asn} (n : Int) (A : Option Addr) (c : Nat) (l : List (List Int)) (hd : List Value) (hS : Sat E F w) (hR : ∀ w, Sat E F w → Reads w 1 A l.length hd)
    (hL : ∀ i (hi : i < l.length), ∃ Ai ci, hd[i]? = some (.slice Ai l[i].length ci) ∧ l[i].length ≤ ci ∧ ∀ w, Sat E F w → Reads w 1 Ai l[i].length (nums .i64 l[i])) :
    Calls Try.prog 5 #[.int .i64 n, .slice A l.length c] w fun e w' => e = .returned (.bool true) ∧ Sat E F w' := by
  have hmm := (hR w hS).2.1
  go_enter Try.func5, Try.ntmps5
  go_wp2_with fail
  refine (first12 hS).mono ?_
  rintro e w1 ⟨rfl, g1⟩
  go_wp2_with fail
  go_loopw [5, 6] (fun s i wr => ∃ k t : Nat, k ≤ l.length ∧ k ≤ 100 ∧ t ≤ 2001 * k ∧ i = .int .i64 k ∧ s = .int .i64 t ∧ Sat E F wr) (fun _ i _ => l.length - (intOf i).toNat)
  case atStart => exact ⟨0, 0, by omega, by omega, by omega, rfl, rfl, g1⟩
  case round =>
    clear g1
    obtain ⟨k, t, hk, hk2, ht, rfl, rfl, hr⟩ := hrel
    by_cases hgo : k < l.length ∧ k < 100
    · obtain ⟨hlt, hlt2⟩ := hgo
      obtain ⟨ad, rfl, hc⟩ := (hR _ hr).at (by omega)
      obtain ⟨Ai, ci, e1, e2, e3⟩ := hL k hlt
      have hca := hc k _ e1
      have hli := (e3 _ hr).2.1
      clear hc e3 e1 hL
      have wa := i64_wrap (x := (t : Int) + (l[k].length : Int))
      have wb := i64_wrap (x := (t : Int) + 2001) (by omega) (by omega)
      by_cases hmin : l[k].length ≤ 2000
      · have wa2 := wa (by omega) (by omega)
        have hmn : min (l[k].length : Int) 2001 = l[k].length := by omega
        have hmn2 : ¬ (2001 : Int) < (l[k].length : Int) := by omega
        clear wa
        go_wp2
        go_roundw
        case rel => exact ⟨k + 1, t + l[k].length, by omega, by omega, by omega, by go_num, by go_num, hr⟩
        case measure => simp [intOf]; omega
      · have hmn : min (l[k].length : Int) 2001 = 2001 := by omega
        have hmn2 : (2001 : Int) ≤ (l[k].length : Int) := by omega
        clear wa
        go_wp2
        go_roundw
        case rel => exact ⟨k + 1, t + 2001, by omega, by omega, by omega, by go_num, by congr 1; split <;> omega, hr⟩
        case measure => simp [intOf]; omega
    · by_cases hG : l.length ≤ 100 ∧ t ≤ 2000
      · obtain ⟨hl1, ht2⟩ := hG
        have hge : ¬ k < l.length := by omega
        by_cases hn : n < 1 ∨ 127 < n
        · have hdn : decide (1 ≤ n ∧ n ≤ 127) = false := decide_eq_false (by omega)
          have HDN := hid hdn
          clear hdn
          go_wp2_with fail
          refine (new_bad n hn).mono ?_
          rintro e w2 ⟨rfl, rfl⟩
          go_wp2_with fail
          refine (mayBits n).mono ?_
          rw [HDN.out]
          rintro e w2 ⟨rfl, rfl⟩
          go_wp2_with fail
          refine (first12 hr).mono ?_
          rintro e w2 ⟨rfl, g2⟩
          go_wp2
          go_ret
          exact ⟨rfl, g2⟩
        · obtain ⟨n', rfl⟩ := Int.eq_ofNat_of_zero_le (show 0 ≤ n by omega)
          have hdn : decide (1 ≤ (n' : Int) ∧ (n' : Int) ≤ 127) = true := decide_eq_true (by omega)
          have HDN := hid hdn
          have hmk := fun w => run_make_row' (P := Try.prog) 22 3 (.int .i64 0) 8 Try.underlying22 Try.info3 rfl .i64 .i64 n' (by omega) (by omega) w
          have e1 : List.replicate n' (Value.int .i64 0) = nums .i64 (List.replicate n' 0) := by simp [nums]
          have E1 := hid e1
          have z1 := zeros01 n'
          have HZ : Hid ((List.replicate n' (0 : Int)).length = n') := by simp [Hid]
          clear hdn e1
          go_wp2_with fail
          refine (new_nat n' (by omega) (by omega) hr).mono ?_
          rintro e w2 ⟨vb, rfl, g2⟩
          have g3 := g2.row_made (.int .i64 0) 3 n' (by omega)
          rw [E1.out] at g3
          generalize hz : List.replicate n' (0 : Int) = z at *
          have HZZ := hid hz
          clear hz
          go_wp2_with fail
          refine (mayBits _).mono ?_
          rw [HDN.out]
          rintro e w3 ⟨rfl, rfl⟩
          go_wp2_with fail
          refine (copy_calls vb z (g3.eq (star_left_comm _ _ _)) (by rw [HZ.out]; omega)).mono ?_
          rintro e w4 ⟨cb, rfl, g4⟩
          have g5 : Sat E (row 3 1 (.slice (some ⟨w2.heap.size, 0, none⟩) n' n') n' (nums .i64 z) * (vbits vb z * (vbits cb z * F))) w4 := g4.eq (by ac_rfl)
          clear g2 g3 g4 hr
          go_wp2_with fail
          go_loopw [8, 10] (fun xv i wr => ∃ (q : Nat) (X : List Int), q ≤ l.length ∧ i = .int .i64 q ∧ Hid (X.length = n') ∧ Bits01 X ∧ Sat E (row 3 1 xv n' (nums .i64 X) * (vbits vb X * (vbits cb z * F))) wr) (fun _ i _ => l.length - (intOf i).toNat)
          case atStart => exact ⟨0, z, by omega, rfl, HZ, z1, g5⟩
          case round =>
            clear g5
            obtain ⟨q, X, hq, rfl, HX, hX1, hr⟩ := hrel
            obtain ⟨Ax, cx, rfl, _, _, _⟩ := hr.reads
            by_cases hlt : q < l.length
            · obtain ⟨Ai, ci, e1, e2, e3⟩ := hL q hlt
              have hcs : ∀ w' : World, Sat E F w' → ∃ ad, A = some ad ∧ w'.cell? (ad.add q) = some (.slice Ai l[q].length ci) := fun w' hw' => by
                obtain ⟨ad, h1, h2⟩ := (hR _ hw').at (by omega)
                exact ⟨ad, h1, h2 q _ e1⟩
              obtain ⟨ad, rfl, hca⟩ := hcs _ hr.right.right.right
              have hY1 := flipR_bits hX1 l[q]
              have HY : Hid ((flipR X l[q]).length = n') := (flipR_length X l[q]).trans HX.out
              have hf1 := refFlipN n' Ax Ai cx ci X l[q] HX.out hr (by omega) hX1 e2 (fun w hw => hw.reads_at) (fun w hw => e3 w hw.right.right.right)
              clear hL hmk hcs
              have hcs : ∀ w' : World, Sat E F w' → w'.cell? (ad.add q) = some (.slice Ai l[q].length ci) := fun w' hw' => by
                obtain ⟨ad', h1, h2⟩ := (hR _ hw').at (by omega)
                injection h1 with h1
                subst h1
                exact h2 q _ e1
              clear e1
              obtain ⟨m, hm⟩ : ∃ m, m = (n' + 7) / 8 := ⟨_, rfl⟩
              have HQ := hid hm
              clear hm
              go_wp2_with fail
              refine hf1.mono ?_
              rintro e w5 ⟨v, rfl, r1⟩
              obtain ⟨Av, cv, rfl, _, _, _⟩ := r1.reads
              have hca2 := hcs _ r1.right.right.right.right
              clear hf1 hca
              go_wp2_with fail
              have hf2 := flip_calls vb X Ai l[q].length ci l[q] (r1.eq (show _ = vbits vb X * (row 3 1 (.slice Av n' cv) n' (nums .i64 (flipR X l[q])) * (row 3 1 (.slice Ax n' cx) n' (nums .i64 X) * (vbits cb z * F))) by ac_rfl)) (by rw [HX.out]; omega) hX1 (fun w hw => e3 w hw.right.right.right)
              rw [HX.out] at hf2
              generalize flipR X l[q] = Y at hf2 r1 HY hY1
              generalize allB n' l[q] = bb at *
              refine hf2.mono ?_
              rintro e w6 ⟨rfl, r2⟩
              clear hf2 r1 hca2
              go_wp2_with fail
              refine (len_calls vb Y r2).mono ?_
              rw [HY.out]
              rintro e w7 ⟨rfl, rfl⟩
              go_wp2_with fail
              refine (bits_calls vb Y r2 (by rw [HY.out]; omega)).mono ?_
              rw [HY.out]
              rintro e w7 ⟨v3, rfl, r3⟩
              obtain ⟨A3, c3, rfl, _, _, rr1⟩ := r3.reads
              have rr2 := r3.right.right.reads_at
              go_wp2_with fail
              refine (intsEq A3 Av n' n' c3 cv Y Y rr1 rr2).mono ?_
              rw [decide_eq_true (rfl : Y = Y)]
              rintro e w8 ⟨rfl, nq, rfl⟩
              have r4 := (r3.drewN nq).right
              clear r3 r2 rr1 rr2
              generalize w7.drewN nq = w8 at r4 ⊢
              go_wp2_with fail
              refine (bytes_calls vb Y r4 (by rw [HY.out]; omega) hY1).mono ?_
              rw [HY.out, ← HQ.out]
              rintro e w9 ⟨v4, rfl, r5⟩
              obtain ⟨A4, c4, rfl, _, _, _⟩ := r5.reads
              have hb4 := bitBytesN n' Av cv Y HY.out r5 (by omega) hY1 (fun w hw => hw.right.right.reads_at)
              rw [← HQ.out] at hb4
              go_wp2_with fail
              refine hb4.mono ?_
              rintro e w10 ⟨v5, rfl, r6⟩
              obtain ⟨A5, c5, rfl, _, _, rr5⟩ := r6.reads
              have rr4 := r6.right.reads_at
              go_wp2_with fail
              refine (bytesEq A4 A5 m m c4 c5 (pack Y) (pack Y) rr4 rr5 (pack_byte hY1) (pack_byte hY1)).mono ?_
              rw [decide_eq_true (rfl : pack Y = pack Y)]
              rintro e w11 ⟨rfl, rfl⟩
              have r7 : Sat E (row 3 1 (.slice Av n' cv) n' (nums .i64 Y) * (vbits vb Y * (vbits cb z * F))) w10 := ((r6.right.right).eq (show _ = row 3 1 (.slice Ax n' cx) n' (nums .i64 X) * (row 3 1 (.slice Av n' cv) n' (nums .i64 Y) * (vbits vb Y * (vbits cb z * F))) by ac_rfl)).right
              clear r6 r5 r4 rr4 rr5 hb4
              go_wp2
              go_roundw
              case rel => exact ⟨q + 1, Y, by omega, by go_num, HY, hY1, r7⟩
              case measure => simp [intOf]; omega
            · have r1 : Sat E (vbits cb z * (vbits vb X * F)) wr := (hr.right).eq (star_left_comm _ _ _)
              clear hr hL hR
              go_wp2_with fail
              have hd1 := r1.drew
              go_region_held3 (fun w' => Sat E (vbits cb z * (vbits vb X * F)) w') (first | assumption | exact Sat.alloc_drop (by assumption) _ | exact Sat.drew (by assumption))
                (first
                  | (go_at_call 12; refine (first12 hd1).mono ?_; rintro e w2 ⟨rfl, s1⟩; have m1 := s1.row_made (.int .i64 0) 3 n' (by omega); rw [E1.out] at m1; have m1r := m1.right)
                  | (go_at_call 17; refine (bits_calls cb z s1 (by rw [HZ.out]; omega)).mono ?_; rw [HZ.out]; rintro e w3 ⟨v3, rfl, s2⟩; obtain ⟨A3, c3, rfl, _, _, _⟩ := s2.reads; have s2r := s2.right; have m2 := s2.row_made (.int .i64 0) 3 n' (by omega); rw [E1.out] at m2; have m2r := m2.right.right)
                  | (go_at_call 17; refine (bits_calls cb z (m1.eq (star_left_comm _ _ _)) (by rw [HZ.out]; omega)).mono ?_; rw [HZ.out]; rintro e w3 ⟨v3, rfl, s3⟩; obtain ⟨A3, c3, rfl, _, _, _⟩ := s3.reads; have s3r := s3.right.drop_mid)
                  | (go_at_call 16; refine (intsEq _ _ n' n' _ _ z z m2.right.reads_at m2.reads_at).mono ?_; rw [decide_eq_true (rfl : z = z)]; rintro e w5 ⟨rfl, nq, rfl⟩; have t1 := m2r.drewN nq)
                  | (go_at_call 16; refine (intsEq _ _ n' n' _ _ z z s3.reads_at s3.right.right.reads_at).mono ?_; rw [decide_eq_true (rfl : z = z)]; rintro e w5 ⟨rfl, nq, rfl⟩; have t1 := s3r.drewN nq))
              all_goals
                go_wp2
                go_ret
                exact ⟨rfl, t1.right.right⟩
      · have hor : (k < l.length ∧ ¬ k < 100 ∧ 100 < l.length) ∨ (¬ k < l.length ∧ l.length ≤ 100 ∧ 2000 < t) := by omega
        rcases hor with ⟨o1, o2, o3⟩ | ⟨o1, o2, o3⟩
        all_goals
          go_wp2_with fail
          refine (first12 hr).mono ?_
          rintro e w2 ⟨rfl, g2⟩
          go_wp2
          go_ret
          exact ⟨rfl, g2⟩
theorem VersPlays_walk (W : World) (a0 : Int) (w0 : (Lit.int .i64 a0).wf = true) (a1 : Option Addr) (len1 cap1 : Nat) (l1 : (List (List Int))) (h1 : (decSlice 24 (decSlice 8 (decInt .i64))).rel W l1 [.slice a1 len1 cap1]) :
    Calls Try.prog 5 #[.int .i64 a0, .slice a1 len1 cap1] W fun e w' => e = .returned (.bool true) ∧ Below W.heap.size W w' := by
  obtain ⟨A, c, hd, he, _, _, hR, hL⟩ := dec_lists h1
  simp at he
  obtain ⟨rfl, rfl, rfl⟩ := he
  refine (versPlays a0 _ _ l1 hd (Sat.start W) (fun w hs => hR.keep fun k hk => hs.old1 hk) ?_).mono fun e w' ⟨he, hs⟩ => ⟨he, hs.finish1⟩
  intro i hi
  obtain ⟨Ai, ci, e1, e2, e3⟩ := hL i hi
  exact ⟨Ai, ci, e1, e2, fun w hs => e3.keep fun k hk => hs.old1 hk⟩
end Go.Proofs.Ytfphpnccmkggfaa
