import Derived.Test.YtfphpnccmkggfaaVersBack
namespace Go.Proofs.Ytfphpnccmkggfaa
set_option linter.unusedVariables false
set_option linter.unusedSimpArgs false
open Go.RowKit Go.Proofs.Sep

theorem twice_pure (X b : List Int) (h01 : Bits01 X) (i : Nat) (hi : i < X.length) :
    (flipR X b).getD i 0 = if allB X.length b = true ∧ (i : Int) ∈ b then 1 - X.getD i 0 else X.getD i 0 := by
  unfold flipR
  by_cases ha : allB X.length b = true
  · rw [if_pos ha, flipTo_get _ _ _ hi]
    by_cases hm : (i : Int) ∈ b
    · have : (b.any fun y => decide (y.toNat = i)) = true := List.any_eq_true.2 ⟨_, hm, by simp⟩
      rw [if_pos this, if_pos ⟨ha, hm⟩]
    · have : ¬ (b.any fun y => decide (y.toNat = i)) = true := by
        intro hc
        obtain ⟨x, hx, hx2⟩ := List.any_eq_true.1 hc
        have h2 := List.all_eq_true.1 ha x hx
        unfold isB at h2
        have h3 := of_decide_eq_true h2
        have h4 := of_decide_eq_true hx2
        exact hm (by rwa [show (i : Int) = x by omega])
      rw [if_neg this, if_neg (fun h => hm h.2)]
  · rw [if_neg ha, if_neg (fun h => ha h.1)]
theorem flip_twice (X b : List Int) (h01 : Bits01 X) : flipR (flipR X b) b = X := by
  have hl := flipR_length X b
  apply list_ext_getD
  · rw [flipR_length, hl]
  · intro i hi
    rw [flipR_length, hl] at hi
    rw [twice_pure _ b (flipR_bits h01 b) i (by omega), hl, twice_pure X b h01 i hi]
    split <;> omega

set_option maxRecDepth 100000 in
set_option maxHeartbeats 2000000 in
theorem versTwice_ok {E w : World} {F : Asn} (n : Nat) (A B : Option Addr) (ca cb : Nat) (a b : List Int) (h1 : 1 ≤ n) (h2 : n ≤ 127) (hla : a.length ≤ 200) (hlb : b.length ≤ 200) (hS : Sat E F w)
    (hA : ∀ w, Sat E F w → Reads w 1 A a.length (nums .i64 a)) (hB : ∀ w, Sat E F w → Reads w 1 B b.length (nums .i64 b)) :
    Calls Try.prog 11 #[.int .i64 n, .slice A a.length ca, .slice B b.length cb] w fun e w' => e = .returned (.bool true) ∧ Sat E F w' := by
  have HZ : Hid ((List.replicate n (0 : Int)).length = n) := by simp [Hid]
  have z1 := zeros01 n
  have x1 := flipR_bits z1 a
  have HX : Hid ((flipR (List.replicate n 0) a).length = n) := (flipR_length _ _).trans HZ.out
  go_enter Try.func11, Try.ntmps11
  go_wp2_with fail
  refine (first12 hS).mono ?_
  rintro e w1 ⟨rfl, g1⟩
  go_wp2_with fail
  refine (new_nat n h1 h2 g1).mono ?_
  rintro e w2 ⟨v, rfl, g2⟩
  go_wp2_with fail
  refine (flip_calls v _ A a.length ca a g2 (by rw [HZ.out]; omega) z1 hA).mono ?_
  rw [HZ.out]
  generalize flipR (List.replicate n 0) a = X at x1 HX ⊢
  generalize allB n a = ba
  rintro e w3 ⟨rfl, g3⟩
  go_wp2_with fail
  refine (copy_calls v X g3 (by rw [HX.out]; omega)).mono ?_
  rintro e w4 ⟨was, rfl, g4⟩
  obtain ⟨m, hm⟩ : ∃ m, m = (n + 7) / 8 := ⟨_, rfl⟩
  have HM := hid hm
  have hlen : (pack X).length = m := by rw [pack_len, HX.out, hm]
  have HLEN := hid hlen
  clear hm hlen
  go_wp2_with fail
  refine (bytes_calls v X (g4.eq (star_left_comm _ _ _)) (by rw [HX.out]; omega) x1).mono ?_
  rw [HX.out, ← HM.out]
  rintro e w5 ⟨v1, rfl, g5⟩
  obtain ⟨A1, c1, rfl, _, _, _⟩ := g5.reads
  have hpp := parse_ok n A1 c1 (pack X) h1 h2 (pack_byte x1) g5 (fun w hw => by rw [HLEN.out]; exact hw.reads_at)
  have hun : unp (pack X) n = X := by have := unp_pack X x1; rwa [HX.out] at this
  rw [HLEN.out, hun] at hpp
  have HUN := hid hun
  clear hun
  go_wp2_with fail
  refine hpp.mono ?_
  rintro e w6 (⟨_, pw, rfl, g6⟩ | ⟨hne, rfl, g6⟩)
  · clear hpp
    go_wp2_with fail
    refine (bits_calls pw X g6 (by rw [HX.out]; omega)).mono ?_
    rw [HX.out]
    rintro e w7 ⟨v2, rfl, g7⟩
    obtain ⟨A2, c2, rfl, _, _, _⟩ := g7.reads
    go_wp2_with fail
    refine (bits_calls v X (g7.eq (show _ = vbits v X * (row 3 1 (.slice A2 n c2) n (nums .i64 X) * (vbits pw X * (row 5 1 (.slice A1 m c1) m (nums .u8 (pack X)) * (vbits was X * F)))) by ac_rfl)) (by rw [HX.out]; omega)).mono ?_
    rw [HX.out]
    rintro e w8 ⟨v3, rfl, g8⟩
    obtain ⟨A3, c3, rfl, _, _, rr3⟩ := g8.reads
    have rr2 := g8.right.right.reads_at
    go_wp2_with fail
    refine (intsEq A2 A3 n n c2 c3 X X rr2 rr3).mono ?_
    rw [decide_eq_true (rfl : X = X)]
    rintro e w9 ⟨rfl, nq, rfl⟩
    have g9 : Sat E (vbits v X * (vbits was X * F)) (w8.drewN nq) := ((g8.drewN nq).eq (show _ = row 3 1 (.slice A3 n c3) n (nums .i64 X) * (row 3 1 (.slice A2 n c2) n (nums .i64 X) * (vbits pw X * (row 5 1 (.slice A1 m c1) m (nums .u8 (pack X)) * (vbits v X * (vbits was X * F))))) by ac_rfl)).right.right.right.right
    generalize w8.drewN nq = w9 at g9 ⊢
    clear g8 g7 g6 g5 g4 g3 g2 g1 rr2 rr3
    have HY : Hid ((flipR X b).length = n) := (flipR_length X b).trans HX.out
    have y1 := flipR_bits x1 b
    have hp := twice_pure X b x1
    have hft := flip_twice X b x1
    have HP := hid hp
    have HFT := hid hft
    clear hp hft
    go_wp2_with fail
    refine (flip_calls v X B b.length cb b g9 (by rw [HX.out]; omega) x1 (fun w hw => hB w hw.right)).mono ?_
    rw [HX.out]
    rintro e w10 ⟨rfl, g10⟩
    go_wp2_with fail
    generalize hYY : flipR X b = Y at g10 HY y1 HP HFT
    clear hYY
    go_loopw [12] (fun i wr => ∃ k : Nat, k ≤ n ∧ i = .int .i64 k ∧ Sat E (vbits v Y * (vbits was X * F)) wr) (fun i _ => n - (intOf i).toNat)
    case atStart => exact ⟨0, by omega, rfl, g10⟩
    case round =>
      clear g10
      obtain ⟨k, hk, rfl, hr⟩ := hrel
      by_cases hlt : k < n
      · have hpk := HP.out k (by rw [HX.out]; exact hlt)
        rw [HX.out] at hpk
        have hly : liveAt Y k = Y.getD k 0 := by rw [liveAt_nat (by rw [HY.out]; exact hlt), List.getD_eq_getElem?_getD, List.getElem?_eq_getElem (by rw [HY.out]; exact hlt)]; rfl
        have hlx : liveAt X k = X.getD k 0 := by rw [liveAt_nat (by rw [HX.out]; exact hlt), List.getD_eq_getElem?_getD, List.getElem?_eq_getElem (by rw [HX.out]; exact hlt)]; rfl
        obtain ⟨p0, p1⟩ := bits_get x1 k
        obtain ⟨q0, q1⟩ := bits_get y1 k
        have HLY := hid hly
        have HLX := hid hlx
        clear hly hlx
        generalize hyv : Y.getD k 0 = y at hpk q0 q1 HLY
        generalize hxv : X.getD k 0 = x at hpk p0 p1 HLX
        clear hyv hxv
        generalize hok : allB n b = ok at hpk ⊢
        clear hok
        have hc : (ok = true ∧ (k : Int) ∈ b ∧ (y != x) = true) ∨ (ok = true ∧ ¬ (k : Int) ∈ b ∧ (y != x) = false) ∨ (ok = false ∧ (y != x) = false) := by
          cases ok with
          | true =>
            by_cases hm : (k : Int) ∈ b
            · rw [if_pos ⟨rfl, hm⟩] at hpk
              exact .inl ⟨rfl, hm, by simp; omega⟩
            · rw [if_neg (fun h => hm h.2)] at hpk
              exact .inr (.inl ⟨rfl, hm, by simp; omega⟩)
          | false =>
            rw [if_neg (fun h => by cases h.1)] at hpk
            exact .inr (.inr ⟨rfl, by simp; omega⟩)
        clear hpk
        rcases hc with ⟨rfl, hm, hne⟩ | ⟨rfl, hm, hne⟩ | ⟨rfl, hne⟩
        case inl =>
          have hd := decide_eq_true hm
          have HD := hid hd
          clear hm hd
          go_wp2_with fail
          refine (live_calls v Y k hr).mono ?_
          rw [HLY.out]
          rintro e w11 ⟨rfl, rfl⟩
          go_wp2_with fail
          refine (live_calls was X k (hr.eq (star_left_comm _ _ _))).mono ?_
          rw [HLX.out]
          rintro e w11 ⟨rfl, rfl⟩
          go_wp2_with fail
          refine (hasInt B b.length cb b k (hB _ hr.right.right)).mono ?_
          rw [HD.out]
          rintro e w11 ⟨rfl, rfl⟩
          go_wp2_with fail
          refine (live_calls v Y k hr).mono ?_
          rw [HLY.out]
          rintro e w11 ⟨rfl, rfl⟩
          go_wp2_with fail
          refine (live_calls v Y k hr).mono ?_
          rw [HLY.out]
          rintro e w11 ⟨rfl, rfl⟩
          go_wp2
          go_roundw
          case rel => exact ⟨k + 1, by omega, by go_num, hr⟩
          case measure => simp [intOf]; omega
        case inr.inl =>
          have hd := decide_eq_false hm
          have HD := hid hd
          clear hm hd
          go_wp2_with fail
          refine (live_calls v Y k hr).mono ?_
          rw [HLY.out]
          rintro e w11 ⟨rfl, rfl⟩
          go_wp2_with fail
          refine (live_calls was X k (hr.eq (star_left_comm _ _ _))).mono ?_
          rw [HLX.out]
          rintro e w11 ⟨rfl, rfl⟩
          go_wp2_with fail
          refine (hasInt B b.length cb b k (hB _ hr.right.right)).mono ?_
          rw [HD.out]
          rintro e w11 ⟨rfl, rfl⟩
          go_wp2_with fail
          refine (live_calls v Y k hr).mono ?_
          rw [HLY.out]
          rintro e w11 ⟨rfl, rfl⟩
          go_wp2_with fail
          refine (live_calls v Y k hr).mono ?_
          rw [HLY.out]
          rintro e w11 ⟨rfl, rfl⟩
          go_wp2
          go_roundw
          case rel => exact ⟨k + 1, by omega, by go_num, hr⟩
          case measure => simp [intOf]; omega
        case inr.inr =>
          go_wp2_with fail
          refine (live_calls v Y k hr).mono ?_
          rw [HLY.out]
          rintro e w11 ⟨rfl, rfl⟩
          go_wp2_with fail
          refine (live_calls was X k (hr.eq (star_left_comm _ _ _))).mono ?_
          rw [HLX.out]
          rintro e w11 ⟨rfl, rfl⟩
          go_wp2_with fail
          refine (live_calls v Y k hr).mono ?_
          rw [HLY.out]
          rintro e w11 ⟨rfl, rfl⟩
          go_wp2_with fail
          refine (live_calls v Y k hr).mono ?_
          rw [HLY.out]
          rintro e w11 ⟨rfl, rfl⟩
          go_wp2
          go_roundw
          case rel => exact ⟨k + 1, by omega, by go_num, hr⟩
          case measure => simp [intOf]; omega
      · have hokk := HFT.out
        clear HP
        have hall : allB Y.length b = allB n b := by rw [HY.out]
        go_wp2_with fail
        refine (first12 hr).mono ?_
        rintro e w11 ⟨rfl, r1⟩
        go_wp2_with fail
        refine (flip_calls v Y B b.length cb b r1 (by rw [HY.out]; omega) y1 (fun w hw => hB w hw.right)).mono ?_
        rw [HY.out, HFT.out]
        generalize allB n b = ok
        clear hokk hall
        rintro e w12 ⟨rfl, r2⟩
        go_wp2_with fail
        refine (bits_calls v X r2 (by rw [HX.out]; omega)).mono ?_
        rw [HX.out]
        rintro e w13 ⟨v2, rfl, r3⟩
        obtain ⟨A2, c2, rfl, _, _, _⟩ := r3.reads
        go_wp2_with fail
        refine (bits_calls was X (r3.eq (show _ = vbits was X * (row 3 1 (.slice A2 n c2) n (nums .i64 X) * (vbits v X * F)) by ac_rfl)) (by rw [HX.out]; omega)).mono ?_
        rw [HX.out]
        rintro e w14 ⟨v3, rfl, r4⟩
        obtain ⟨A3, c3, rfl, _, _, rr3⟩ := r4.reads
        have rr2 := r4.right.right.reads_at
        go_wp2_with fail
        refine (intsEq A2 A3 n n c2 c3 X X rr2 rr3).mono ?_
        rw [decide_eq_true (rfl : X = X)]
        rintro e w15 ⟨rfl, nq, rfl⟩
        have r5 := (r4.drewN nq).right.right.right.right
        clear r4 r3 r2 r1 rr2 rr3
        go_wp2
        go_ret
        exact ⟨ret_bool (by simp), r5⟩
  · exact absurd rfl hne

set_option maxRecDepth 100000 in
set_option maxHeartbeats 1000000 in
theorem versTwice {E w : World} {F : Asn} (n : Int) (A B : Option Addr) (ca cb : Nat) (a b : List Int) (hS : Sat E F w)
    (hA : ∀ w, Sat E F w → Reads w 1 A a.length (nums .i64 a)) (hB : ∀ w, Sat E F w → Reads w 1 B b.length (nums .i64 b)) :
    Calls Try.prog 11 #[.int .i64 n, .slice A a.length ca, .slice B b.length cb] w fun e w' => e = .returned (.bool true) ∧ Sat E F w' := by
  by_cases hg : a.length ≤ 200 ∧ b.length ≤ 200
  · by_cases hn : n < 1 ∨ 127 < n
    · obtain ⟨x1, x2⟩ := hg
      go_enter Try.func11, Try.ntmps11
      go_wp2_with fail
      refine (first12 hS).mono ?_
      rintro e w1 ⟨rfl, g1⟩
      go_wp2_with fail
      refine (new_bad n hn).mono ?_
      rintro e w2 ⟨rfl, rfl⟩
      go_wp2_with fail
      refine (first12 g1).mono ?_
      rintro e w2 ⟨rfl, g2⟩
      go_wp2
      go_ret
      exact ⟨rfl, g2⟩
    · obtain ⟨n', rfl⟩ := Int.eq_ofNat_of_zero_le (show 0 ≤ n by omega)
      exact versTwice_ok n' A B ca cb a b (by omega) (by omega) hg.1 hg.2 hS hA hB
  · go_enter Try.func11, Try.ntmps11
    go_wp2_with fail
    refine (first12 hS).mono ?_
    rintro e w1 ⟨rfl, g1⟩
    go_wp2_with (go_at_call 12; refine (first12 (E := E) (F := F) (by assumption)).mono ?_; rintro e w2 ⟨rfl, h1⟩)
    all_goals first
      | (go_ret; exact ⟨rfl, by assumption⟩)
      | (exfalso; omega)

theorem VersTwice_walk (W : World) (a0 : Int) (w0 : (Lit.int .i64 a0).wf = true) (a1 : Option Addr) (len1 cap1 : Nat) (l1 : (List Int)) (h1 : (decSlice 8 (decInt .i64)).rel W l1 [.slice a1 len1 cap1]) (a2 : Option Addr) (len2 cap2 : Nat) (l2 : (List Int)) (h2 : (decSlice 8 (decInt .i64)).rel W l2 [.slice a2 len2 cap2]) :
    Calls Try.prog 11 #[.int .i64 a0, .slice a1 len1 cap1, .slice a2 len2 cap2] W fun e w' => e = .returned (.bool true) ∧ Below W.heap.size W w' := by
  obtain ⟨A, c, he, _, _, _, hR, _⟩ := dec_ints h1
  simp at he
  obtain ⟨rfl, rfl, rfl⟩ := he
  obtain ⟨B, d, he, _, _, _, hQ, _⟩ := dec_ints h2
  simp at he
  obtain ⟨rfl, rfl, rfl⟩ := he
  exact (versTwice a0 _ _ _ _ l1 l2 (Sat.start W) (fun w hs => hR.keep fun k hk => hs.old1 hk) (fun w hs => hQ.keep fun k hk => hs.old1 hk)).mono fun e w' ⟨he, hs⟩ => ⟨he, hs.finish1⟩
end Go.Proofs.Ytfphpnccmkggfaa
