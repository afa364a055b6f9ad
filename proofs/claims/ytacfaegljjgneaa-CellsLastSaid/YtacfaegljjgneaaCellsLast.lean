import Derived.Test.YtacfaegljjgneaaCells9
namespace Go.Proofs.Ytacfaegljjgneaa
set_option linter.unusedVariables false
set_option linter.unusedSimpArgs false
open Go.RowKit Go.Proofs.Sep

set_option maxRecDepth 100000 in
set_option maxHeartbeats 4000000 in
theorem cellsLast {E w : World} {F : Asn} (A B : Option Addr) (c d : Nat) (l : List Int) (ka : List Bool) (hc : l.length ≤ c) (hd : ka.length ≤ d) (hS : Sat E F w)
    (hR : ∀ w, Sat E F w → Reads w 1 A l.length (nums .u8 l)) (hQ : ∀ w, Sat E F w → Reads w 1 B ka.length (bools ka)) :
    Calls Try.prog 3 #[.slice A l.length c, .slice B ka.length d] w fun e w' => e = .returned (.bool true) ∧ Sat E F w' := by
  by_cases hl : l.length ≤ 200
  · by_cases hk : ka.length ≤ 400
    · have hl1 : ¬ (200 : Int) < (l.length : Int) := by omega
      have hk1 : ¬ (400 : Int) < (ka.length : Int) := by omega
      go_enter Try.func3, Try.ntmps3
      go_wp2_with fail
      refine (first2 hS).mono ?_
      rintro e w1 ⟨rfl, g1⟩
      go_wp2_with fail
      refine (cellsNew 1 1 (by omega) (by omega) (by omega) (by omega) g1).mono ?_
      rintro e w2 ⟨s, rfl, g2⟩
      rw [← tst_zero l] at g2
      clear g1 hS
      go_wp2_with fail
      go_loopw [7, 8, 9] (fun v _ i wr => ∃ k : Nat, k ≤ l.length ∧ i = .int .i64 k ∧ v = .int .u8 (wantTo l ka k) ∧ Sat E (store s (tst l k) * F) wr) (fun _ _ i _ => l.length - (intOf i).toNat)
      case atStart => exact ⟨0, by omega, rfl, rfl, g2⟩
      case round =>
        clear g2
        obtain ⟨k, hkl, rfl, rfl, hr⟩ := hrel
        by_cases hlt : k < l.length
        · have hkd : (k : Int) < (l.length : Int) := by omega
          obtain ⟨A', hcut, hcr⟩ := cut_one (P := Try.prog) 22 5 Try.underlying22 (by rfl) A l.length c k hlt hc
          obtain ⟨ad, hA, hcc⟩ := (hR wr hr.right).at (by omega)
          have wk := i64_wrap (x := (k : Int) + 1) (by omega) (by omega)
          have HW := hid (tst_write l k hlt)
          have HP := hid (tst_peek l k hlt)
          have hb1 : (begins (tst l k)).2.fl.length ≤ 1000000 := by rw [tst_begins]; show (tst l k).fl.length ≤ _; rw [tst_fl l k hkl]; omega
          have hfk := tst_fl l (k + 1) (by omega)
          have HF := hid hfk
          clear hfk
          have hrd : ∀ {w}, Sat E (store s (tst l (k + 1)) * F) w → ∃ ad, A = some ad ∧ w.cell? (ad.add k) = some (.int .u8 l[k]) := fun h => by
            obtain ⟨ad, hA, hcc⟩ := (hR _ h.right).at (by omega)
            exact ⟨ad, hA, hcc k _ (nums_at hlt)⟩
          have hrk : ∀ {w} (hk2 : k < ka.length), Sat E (store s (tst l (k + 1)) * F) w → ∃ ad, B = some ad ∧ w.cell? (ad.add k) = some (.bool ka[k]) := fun hk2 h => by
            obtain ⟨ad, hA, hcc⟩ := (hQ _ h.right).at (by omega)
            exact ⟨ad, hA, hcc k _ (bools_at hk2)⟩
          have hcall := write_calls s (tst l k) 0 A' 1 (c - k) [l[k]] (by show (0 : Int) ≤ (k : Int); omega) (by show (k : Int) ≤ 1000000; omega) (by show (0 : Int) ≤ 0; omega) (by show (0 : Int) ≤ 9223372036854775807; omega) hb1 (by simp) hr (fun w h => hcr w l hlt (hR w h))
          rw [HW.out] at hcall
          clear hb1 hcr hA hcc HW
          have q1 := wantTo_out (l := l) (ka := ka) (k := k)
          have q2 := wantTo_off (l := l) (ka := ka) (k := k)
          have q3 := wantTo_on (l := l) (ka := ka) (k := k) hlt
          generalize hx : l[k] = x at *
          generalize hwn : wantTo l ka (k + 1) = wn at *
          generalize hwo : wantTo l ka k = wo at *
          have HWN := hid hwn
          clear hx hwn hwo
          go_wp2_with fail
          refine hcall.mono ?_
          rintro e w3 ⟨rfl, g3⟩
          obtain ⟨ad, hA, z1⟩ := hrd g3
          by_cases hk2 : k < ka.length
          · have hkd2 : (k : Int) < (ka.length : Int) := by omega
            obtain ⟨bd, hB, z2⟩ := hrk hk2 g3
            replace q2 := q2 hk2
            replace q3 := q3 hk2
            clear hrd hrk q1 hcall hr
            subst hA
            subst hB
            cases hkk : ka[k] with
            | true =>
              rw [hkk] at z2
              replace q3 := q3 hkk
              clear q2 hkk
              replace q3 := q3.symm
              subst q3
              go_wp2_with fail
              refine (peek_calls s (tst l (k + 1)) 0 (by show 1 ≤ 4096; omega) g3).mono ?_
              rw [HP.out]
              rintro e w4 ⟨v4, rfl, g4⟩
              obtain ⟨A4, c4, rfl, _, _, hr4⟩ := g4.reads
              obtain ⟨p4, hp4, hc4⟩ := hr4.at (by simp)
              have z4 : w4.cell? p4 = some (.int .u8 x) := hc4 0 _ rfl
              subst hp4
              have g5 := g4.right
              clear hc4 hr4 g3 g4
              go_wp2_with fail
              refine (flight_calls s (tst l (k + 1)) g5).mono ?_
              rw [HF.out]
              rintro e w5 ⟨rfl, rfl⟩
              go_wp2
              go_roundw
              case rel => exact ⟨k + 1, by omega, by go_num, by rw [HWN.out], g5⟩
              case measure => simp [intOf]; omega
            | false =>
              rw [hkk] at z2
              replace q2 := q2 hkk
              clear q3 hkk
              subst q2
              go_wp2_with fail
              refine (peek_calls s (tst l (k + 1)) 0 (by show 1 ≤ 4096; omega) g3).mono ?_
              rw [HP.out]
              rintro e w4 ⟨v4, rfl, g4⟩
              obtain ⟨A4, c4, rfl, _, _, hr4⟩ := g4.reads
              obtain ⟨p4, hp4, hc4⟩ := hr4.at (by simp)
              have z4 : w4.cell? p4 = some (.int .u8 x) := hc4 0 _ rfl
              subst hp4
              have g5 := g4.right
              clear hc4 hr4 g3 g4
              go_wp2_with fail
              refine (flight_calls s (tst l (k + 1)) g5).mono ?_
              rw [HF.out]
              rintro e w5 ⟨rfl, rfl⟩
              go_wp2
              go_roundw
              case rel => exact ⟨k + 1, by omega, by go_num, by rw [HWN.out], g5⟩
              case measure => simp [intOf]; omega
          · have hkd2 : ¬ (k : Int) < (ka.length : Int) := by omega
            replace q1 := q1 hk2
            clear hrd hrk q2 q3 hcall hr
            subst hA
            subst q1
            go_wp2_with fail
            refine (peek_calls s (tst l (k + 1)) 0 (by show 1 ≤ 4096; omega) g3).mono ?_
            rw [HP.out]
            rintro e w4 ⟨v4, rfl, g4⟩
            obtain ⟨A4, c4, rfl, _, _, hr4⟩ := g4.reads
            obtain ⟨p4, hp4, hc4⟩ := hr4.at (by simp)
            have z4 : w4.cell? p4 = some (.int .u8 x) := hc4 0 _ rfl
            subst hp4
            have g5 := g4.right
            clear hc4 hr4 g3 g4
            go_wp2_with fail
            refine (flight_calls s (tst l (k + 1)) g5).mono ?_
            rw [HF.out]
            rintro e w5 ⟨rfl, rfl⟩
            go_wp2
            go_roundw
            case rel => exact ⟨k + 1, by omega, by go_num, by rw [HWN.out], g5⟩
            case measure => simp [intOf]; omega
        · obtain rfl : k = l.length := by omega
          obtain ⟨τ, t1, t2, t3, t4, t5, t6⟩ := tst_crash l ka
          have T1 := hid t1
          have T2 := hid t2
          have T3 := hid t3
          have T4 := hid t4
          have T6 := hid t6
          clear t1 t2 t3 t4 t6
          generalize wantTo l ka l.length = wn at *
          go_wp2_with fail
          refine (crash_calls s (tst l l.length) B ka.length d ka hr hQ).mono ?_
          rw [T1.out]
          rintro e w3 ⟨rfl, g3⟩
          have hdn : (!(tst l l.length).down) = true := rfl
          rw [hdn]
          clear hr hdn
          go_wp2_with fail
          refine (crash_calls s τ B ka.length d ka g3 hQ).mono ?_
          rw [T2.out, T3.out]
          rintro e w4 ⟨rfl, g4⟩
          clear g3
          go_wp2_with fail
          refine (peek_calls s τ 0 (by rw [t5]; omega) g4).mono ?_
          rw [T6.out]
          rintro e w5 ⟨v5, rfl, g5⟩
          obtain ⟨A5, c5, rfl, _, _, _⟩ := g5.reads
          clear g4
          go_wp2_with fail
          refine (first2 g5).mono ?_
          rintro e w6 ⟨rfl, g6⟩
          obtain ⟨p6, hp6, hc6⟩ := g6.reads_at.at (by simp)
          have z6 : w6.cell? p6 = some (.int .u8 wn) := hc6 0 _ rfl
          subst hp6
          have g7 := g6.right
          clear hc6 g5
          go_wp2_with fail
          refine (flight_calls s τ g7).mono ?_
          rw [T4.out]
          rintro e w7 ⟨rfl, rfl⟩
          go_wp2_with fail
          refine (up_calls s τ g7).mono ?_
          rw [T3.out]
          rintro e w8 ⟨rfl, rfl⟩
          go_wp2
          go_ret
          exact ⟨rfl, g7.right⟩
    · have hl1 : ¬ (200 : Int) < (l.length : Int) := by omega
      have hk1 : (400 : Int) < (ka.length : Int) := by omega
      go_enter Try.func3, Try.ntmps3
      go_wp2_with fail
      refine (first2 hS).mono ?_
      rintro e w1 ⟨rfl, g1⟩
      go_wp2_with fail
      refine (cellsNew 1 1 (by omega) (by omega) (by omega) (by omega) g1).mono ?_
      rintro e w2 ⟨s, rfl, g2⟩
      go_wp2_with fail
      refine (first2 g2.right).mono ?_
      rintro e w3 ⟨rfl, g3⟩
      go_wp2
      go_ret
      exact ⟨rfl, g3⟩
  · have hl1 : (200 : Int) < (l.length : Int) := by omega
    go_enter Try.func3, Try.ntmps3
    go_wp2_with fail
    refine (first2 hS).mono ?_
    rintro e w1 ⟨rfl, g1⟩
    go_wp2_with fail
    refine (cellsNew 1 1 (by omega) (by omega) (by omega) (by omega) g1).mono ?_
    rintro e w2 ⟨s, rfl, g2⟩
    go_wp2_with fail
    refine (first2 g2.right).mono ?_
    rintro e w3 ⟨rfl, g3⟩
    go_wp2
    go_ret
    exact ⟨rfl, g3⟩

theorem CellsLast_walk (W : World) (a0 : Option Addr) (len0 cap0 : Nat) (l0 : (List Int)) (h0 : (decSlice 1 (decInt .u8)).rel W l0 [.slice a0 len0 cap0]) (a1 : Option Addr) (len1 cap1 : Nat) (l1 : (List Bool)) (h1 : (decSlice 1 decBool).rel W l1 [.slice a1 len1 cap1]) :
    Calls Try.prog 3 #[.slice a0 len0 cap0, .slice a1 len1 cap1] W fun e w' => e = .returned (.bool true) ∧ Below W.heap.size W w' := by
  obtain ⟨A, c, he, hlc, _, _, hR, _⟩ := dec_ints h0
  simp at he
  obtain ⟨rfl, rfl, rfl⟩ := he
  obtain ⟨B, d, he, hld, _, _, hQ⟩ := dec_bools h1
  simp at he
  obtain ⟨rfl, rfl, rfl⟩ := he
  exact (cellsLast _ _ _ _ l0 l1 hlc hld (Sat.start W) (fun w hs => hR.keep fun k hk => hs.old1 hk) (fun w hs => hQ.keep fun k hk => hs.old1 hk)).mono fun e w' ⟨he, hs⟩ => ⟨he, hs.finish1⟩
end Go.Proofs.Ytacfaegljjgneaa
