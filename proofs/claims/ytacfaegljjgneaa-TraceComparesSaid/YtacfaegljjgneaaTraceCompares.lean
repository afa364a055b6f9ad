import Derived.Test.YtacfaegljjgneaaTrc9
import Derived.BigRegion
import Derived.Deep.RegionLaw
import Derived.Deep.DeepCutAuto
import Derived.Deep.CutBlock
namespace Go.Proofs.Ytacfaegljjgneaa
set_option linter.unusedVariables false
set_option linter.unusedSimpArgs false
open Go.RowKit Go.Proofs.Sep

theorem cell_zero {w : World} {ad : Addr} {u : Value} (h : w.cell? (ad.add (0 * 3)) = some u) : w.cell? ad = some u := by
  have : ad.add (0 * 3) = ad := by unfold Addr.add; simp
  rwa [this] at h
set_option maxRecDepth 100000 in
set_option maxHeartbeats 4000000 in
theorem traceCompares {E w : World} {F : Asn} (A B : Option Addr) (c d : Nat) (L M : List (TOp × Value)) (C : Option Addr) (cc : Nat) (ks : List Int) (hL : ∀ x ∈ L, ByteR x.1.2.2) (hM : ∀ x ∈ M, ByteR x.1.2.2) (hc : L.length ≤ c) (hd : M.length ≤ d) (hS : Sat E F w) (hA : ∀ w, Sat E F w → TIn w A L) (hB : ∀ w, Sat E F w → TIn w B M) (hC : ∀ w, Sat E F w → Reads w 1 C ks.length (nums .i64 ks)) :
    Calls Try.prog 8 #[.slice A L.length c, .slice B M.length d, .slice C ks.length cc] w fun e w' => e = .returned (.bool true) ∧ Sat E F w' := by
  go_enter Try.func8, Try.ntmps8
  go_wp2_with fail
  refine (first3 hS).mono ?_
  rintro e w1 ⟨rfl, g1⟩
  clear hS
  go_upto_block 0 with fail
  go_cut [7] (fun v wc => ∃ t : Nat, t ≤ 4000200 ∧ v = .int .i64 t ∧ Sat E F wc)
  case first =>
    go_wp2_with fail
    go_loopw [7, 8] (fun v i wr => ∃ (k t : Nat), k ≤ L.length ∧ k ≤ 200 ∧ t ≤ 20001 * k + 0 ∧ i = .int .i64 k ∧ v = .int .i64 t ∧ Sat E F wr) (fun _ i _ => L.length - (intOf i).toNat)
    case atStart => exact ⟨0, 0, by omega, by omega, by omega, rfl, rfl, g1⟩
    case round =>
      clear g1
      obtain ⟨k, t, hk, hk2, ht, rfl, rfl, hr⟩ := hrel
      by_cases hgo : k < L.length ∧ k < 200
      · obtain ⟨hlt, hlt2⟩ := hgo
        obtain ⟨ad, Ai, ci, hAd, _, _, q⟩ := top_at hA hlt hr
        subst hAd
        obtain ⟨x0, x1, x2, rr⟩ := q _ hr
        have hxl := rr.2.1
        clear q rr
        generalize L[k].1.2.2.length = x at *
        have hkd : (k : Int) < (L.length : Int) := by omega
        have hk3 : (k : Int) < 200 := by omega
        have wk := i64_wrap (x := (k : Int) + 1) (by omega) (by omega)
        by_cases hx : (20001 : Int) < (x : Int)
        · have wt := i64_wrap (x := (t : Int) + 20001) (by omega) (by omega)
          go_wp2
          go_roundw
          case rel => exact ⟨k + 1, t + 20001, by omega, by omega, by omega, by go_num, by go_num, hr⟩
          case measure => simp [intOf]; omega
        · have wt := i64_wrap (x := (t : Int) + (x : Int)) (by omega) (by omega)
          go_wp2
          go_roundw
          case rel => exact ⟨k + 1, t + x, by omega, by omega, by omega, by go_num, by go_num, hr⟩
          case measure => simp [intOf]; omega
      · have hout : ((k : Int) < (L.length : Int) ∧ ¬ (k : Int) < 200) ∨ ¬ (k : Int) < (L.length : Int) := by omega
        have ht2 : t ≤ 4000200 := by omega
        clear hgo hk ht
        rcases hout with ⟨ho1, ho2⟩ | ho1
        · go_wp2
          go_meet
          exact ⟨t, ht2, rfl, hr⟩
        · go_wp2
          go_meet
          exact ⟨t, ht2, rfl, hr⟩
  case rest =>
    obtain ⟨t1, ht1, rfl, g2⟩ := hcut
    go_upto_block 2 with fail
    go_cut [7] (fun v wc => ∃ t : Nat, t ≤ 8000400 ∧ v = .int .i64 t ∧ Sat E F wc)
    case first =>
      go_wp2_with fail
      go_loopw [7, 9] (fun v i wr => ∃ (k t : Nat), k ≤ M.length ∧ k ≤ 200 ∧ t ≤ 20001 * k + 4000200 ∧ i = .int .i64 k ∧ v = .int .i64 t ∧ Sat E F wr) (fun _ i _ => M.length - (intOf i).toNat)
      case atStart => exact ⟨0, t1, by omega, by omega, by omega, rfl, rfl, g2⟩
      case round =>
        clear g2
        obtain ⟨k, t, hk, hk2, ht, rfl, rfl, hr⟩ := hrel
        by_cases hgo : k < M.length ∧ k < 200
        · obtain ⟨hlt, hlt2⟩ := hgo
          obtain ⟨ad, Ai, ci, hAd, _, _, q⟩ := top_at hB hlt hr
          subst hAd
          obtain ⟨x0, x1, x2, rr⟩ := q _ hr
          have hxl := rr.2.1
          clear q rr
          generalize M[k].1.2.2.length = x at *
          have hkd : (k : Int) < (M.length : Int) := by omega
          have hk3 : (k : Int) < 200 := by omega
          have wk := i64_wrap (x := (k : Int) + 1) (by omega) (by omega)
          by_cases hx : (20001 : Int) < (x : Int)
          · have wt := i64_wrap (x := (t : Int) + 20001) (by omega) (by omega)
            go_wp2
            go_roundw
            case rel => exact ⟨k + 1, t + 20001, by omega, by omega, by omega, by go_num, by go_num, hr⟩
            case measure => simp [intOf]; omega
          · have wt := i64_wrap (x := (t : Int) + (x : Int)) (by omega) (by omega)
            go_wp2
            go_roundw
            case rel => exact ⟨k + 1, t + x, by omega, by omega, by omega, by go_num, by go_num, hr⟩
            case measure => simp [intOf]; omega
        · have hout : ((k : Int) < (M.length : Int) ∧ ¬ (k : Int) < 200) ∨ ¬ (k : Int) < (M.length : Int) := by omega
          have ht2 : t ≤ 8000400 := by omega
          clear hgo hk ht
          rcases hout with ⟨ho1, ho2⟩ | ho1
          · go_wp2
            go_meet
            exact ⟨t, ht2, rfl, hr⟩
          · go_wp2
            go_meet
            exact ⟨t, ht2, rfl, hr⟩
    case rest =>
      obtain ⟨t2, ht2, rfl, g3⟩ := hcut
      by_cases h1 : (200 : Int) < (L.length : Int)
      · skip
        go_wp2_with fail
        refine (first3 g3).mono ?_
        rintro e w5 ⟨rfl, g5⟩
        go_wp2
        go_ret
        exact ⟨rfl, g5⟩
      by_cases h2 : (200 : Int) < (M.length : Int)
      · skip
        go_wp2_with fail
        refine (first3 g3).mono ?_
        rintro e w5 ⟨rfl, g5⟩
        go_wp2
        go_ret
        exact ⟨rfl, g5⟩
      by_cases h3 : (20000 : Int) < (t2 : Int)
      · skip
        go_wp2_with fail
        refine (first3 g3).mono ?_
        rintro e w5 ⟨rfl, g5⟩
        go_wp2
        go_ret
        exact ⟨rfl, g5⟩
      by_cases h4 : (50 : Int) < (ks.length : Int)
      · skip
        go_wp2_with fail
        refine (first3 g3).mono ?_
        rintro e w5 ⟨rfl, g5⟩
        go_wp2
        go_ret
        exact ⟨rfl, g5⟩
      go_wp2_with fail
      refine (plain_calls A c L (by omega) g3 hA).mono ?_
      rintro e w5 ⟨X, cx, rfl, g5⟩
      go_wp2_with fail
      refine (plain_calls B d M (by omega) g5 (fun w h => hB w h.right)).mono ?_
      rintro e w6 ⟨Y, cy, rfl, g6⟩
      clear g3 g5
      obtain ⟨G, hG⟩ : ∃ G, row 65 3 (.slice Y M.length cy) M.length (tf M) * (row 65 3 (.slice X L.length cx) L.length (tf L) * F) = G := ⟨_, rfl⟩
      have hGF : ∀ w, Sat E G w → Sat E F w := fun w h => by rw [← hG] at h; exact h.right.right
      have hX : ∀ w, Sat E G w → TIn w X L := fun w h => by rw [← hG] at h; exact ⟨h.right.reads_at, (hA _ h.right.right).2⟩
      have hY : ∀ w, Sat E G w → TIn w Y M := fun w h => by rw [← hG] at h; exact ⟨h.reads_at, (hB _ h.right.right).2⟩
      have hA' : ∀ w, Sat E G w → TIn w A L := fun w h => hA w (hGF w h)
      have hB' : ∀ w, Sat E G w → TIn w B M := fun w h => hB w (hGF w h)
      have hC' : ∀ w, Sat E G w → Reads w 1 C ks.length (nums .i64 ks) := fun w h => hC w (hGF w h)
      rw [hG] at g6
      clear hG hA hB hC
      have HGF := hid hGF
      clear hGF
      have k1 : ((0 : Int) < (L.length : Int) ∧ (0 : Int) < (M.length : Int)) ∨ ((0 : Int) < (L.length : Int) ∧ ¬ (0 : Int) < (M.length : Int)) ∨ ¬ (0 : Int) < (L.length : Int) := by omega
      go_upto_region 15 with fail
      go_cut [98] (fun v wc => v = .bool false ∧ Sat E G wc)
      case first =>
        rcases k1 with ⟨k1, k2⟩ | ⟨k1, k2⟩ | k1
        · have n1 : 0 < L.length := by omega
          have n2 : 0 < M.length := by omega
          have HX0 := hid hX
          obtain ⟨ad, Ai, ci, hAd, _, _, q⟩ := top_at hA' (k := 0) (by omega) g6
          obtain ⟨bd, Bi, di, hBd, _, _, p⟩ := top_at hB' (k := 0) (by omega) g6
          obtain ⟨xd, Xi, xi, hXd, _, _, q2⟩ := top_at hX (k := 0) (by omega) g6
          obtain ⟨yd, Yi, yi, hYd, _, _, p2⟩ := top_at hY (k := 0) (by omega) g6
          subst hAd
          subst hBd
          subst hXd
          subst hYd
          have x0 : ∀ s : SW E G, s.w.cell? ad = some (.int .i64 L[0].1.1) := fun s => cell_zero (q _ s.h).1
          have x1 : ∀ s : SW E G, s.w.cell? { block := ad.block, off := ad.off + 1 } = some (.int .i64 L[0].1.2.1) := fun s => (q _ s.h).2.1
          have x2 : ∀ s : SW E G, s.w.cell? { block := ad.block, off := ad.off + 2 } = some (.slice Ai L[0].1.2.2.length ci) := fun s => (q _ s.h).2.2.1
          have y0 : ∀ s : SW E G, s.w.cell? bd = some (.int .i64 M[0].1.1) := fun s => cell_zero (p _ s.h).1
          have y1 : ∀ s : SW E G, s.w.cell? { block := bd.block, off := bd.off + 1 } = some (.int .i64 M[0].1.2.1) := fun s => (p _ s.h).2.1
          have y2 : ∀ s : SW E G, s.w.cell? { block := bd.block, off := bd.off + 2 } = some (.slice Bi M[0].1.2.2.length di) := fun s => (p _ s.h).2.2.1
          have u0 : ∀ s : SW E G, s.w.cell? xd = some (.int .i64 L[0].1.1) := fun s => cell_zero (q2 _ s.h).1
          have u1 : ∀ s : SW E G, s.w.cell? { block := xd.block, off := xd.off + 1 } = some (.int .i64 L[0].1.2.1) := fun s => (q2 _ s.h).2.1
          have u2 : ∀ s : SW E G, s.w.cell? { block := xd.block, off := xd.off + 2 } = some (.slice Xi L[0].1.2.2.length xi) := fun s => (q2 _ s.h).2.2.1
          have v0 : ∀ s : SW E G, s.w.cell? yd = some (.int .i64 M[0].1.1) := fun s => cell_zero (p2 _ s.h).1
          have v1 : ∀ s : SW E G, s.w.cell? { block := yd.block, off := yd.off + 1 } = some (.int .i64 M[0].1.2.1) := fun s => (p2 _ s.h).2.1
          have v2 : ∀ s : SW E G, s.w.cell? { block := yd.block, off := yd.off + 2 } = some (.slice Yi M[0].1.2.2.length yi) := fun s => (p2 _ s.h).2.2.1
          have rA : ∀ w, Sat E G w → Reads w 1 Ai L[0].1.2.2.length (nums .u8 L[0].1.2.2) := fun w h => (q w h).2.2.2
          have rB : ∀ w, Sat E G w → Reads w 1 Bi M[0].1.2.2.length (nums .u8 M[0].1.2.2) := fun w h => (p w h).2.2.2
          have rX : ∀ w, Sat E G w → Reads w 1 Xi L[0].1.2.2.length (nums .u8 L[0].1.2.2) := fun w h => (q2 w h).2.2.2
          have rY : ∀ w, Sat E G w → Reads w 1 Yi M[0].1.2.2.length (nums .u8 M[0].1.2.2) := fun w h => (p2 w h).2.2.2
          have bA := hL _ (List.getElem_mem (show 0 < L.length by omega))
          have bB := hM _ (List.getElem_mem (show 0 < M.length by omega))
          clear q p q2 p2 hX hY hA' hB' hC' HX0
          generalize L[0].1 = U at *
          generalize M[0].1 = V at *
          obtain ⟨U1, U2, U3⟩ := U
          obtain ⟨V1, V2, V3⟩ := V
          simp only at x0 x1 x2 y0 y1 y2 u0 u1 u2 v0 v1 v2 rA rB rX rY bA bB
          refine wp_region_quietS _ (by kernel_rfl) (by kernel_rfl) g6 ?_
          intro hne
          repeat (go_big_quiet_step (first | (go_at_call 42; exact quietS (same42 _ _ _ _ _ _ _ _ _ _ _ _ bA bB (SW.h _) rA rB)) | (go_at_call 43; exact quietS (same43 _ _ _ _ _ _ _ _ _ _ _ _ bA bB (SW.h _) rX rY))))
          refine wpQuiet_nil ?_
          intro w12 hw'
          have h12 := SW.out hw'
          clear hw' hne
          generalize teq (U1, U2, U3) (V1, V2, V3) = z at *
          go_wp2
          go_meet
          exact ⟨by first | rfl | simp, h12⟩
        · have n1 : 0 < L.length := by omega
          have n2 : ¬ 0 < M.length := by omega
          refine wp_region_quietS _ (by kernel_rfl) (by kernel_rfl) g6 ?_
          intro hne
          repeat (go_big_quiet_step (fail))
          refine wpQuiet_nil ?_
          intro w12 hw'
          have h12 := SW.out hw'
          clear hw' hne
          go_wp2
          go_meet
          exact ⟨rfl, h12⟩
        · have n1 : ¬ 0 < L.length := by omega
          refine wp_region_quietS _ (by kernel_rfl) (by kernel_rfl) g6 ?_
          intro hne
          repeat (go_big_quiet_step (fail))
          refine wpQuiet_nil ?_
          intro w12 hw'
          have h12 := SW.out hw'
          clear hw' hne
          go_wp2
          go_meet
          exact ⟨rfl, h12⟩
      case rest =>
        obtain ⟨rfl, g7⟩ := hcut
        clear g6 k1
        go_wp2_with fail
        refine (first3 g7).mono ?_
        rintro e w7 ⟨rfl, g8⟩
        clear g7
        go_wp2_with fail
        refine (equal44 A B c d L M hL hM g8 hA' hB').mono ?_
        rintro e w8 ⟨rfl, g9⟩
        clear g8
        go_wp2_with fail
        refine (sameOps45 X Y cx cy L M hL hM g9 hX hY).mono ?_
        rintro e w9 ⟨rfl, g10⟩
        clear g9
        generalize leq (L.map (·.1)) (M.map (·.1)) = z at *
        go_wp2_with fail
        refine (common46 A B c d L M hL hM g10 hA' hB').mono ?_
        rintro e w10 ⟨rfl, g11⟩
        clear g10
        go_wp2_with fail
        refine (common47 X Y cx cy L M hL hM g11 hX hY).mono ?_
        rintro e w11 ⟨rfl, g12⟩
        clear g11
        generalize common (L.map (·.1)) (M.map (·.1)) = z2 at *
        go_wp2_with fail
        refine (count48 A C c ks.length cc L ks g12 hA' hC').mono ?_
        rintro e w12 ⟨rfl, g13⟩
        clear g12
        go_wp2_with fail
        refine (count49 X C cx ks.length cc L ks g13 hX hC').mono ?_
        rintro e w13 ⟨rfl, g14⟩
        clear g13
        generalize count ks (L.map (·.1)) = z3 at *
        go_wp2_with fail
        refine (equal44 A A c c L L hL hL g14 hA' hA').mono ?_
        have HE := hid (show leq (L.map (·.1)) (L.map (·.1)) = true from decide_eq_true rfl)
        rw [HE.out]
        rintro e w14 ⟨rfl, g15⟩
        have g16 := HGF.out _ g15
        clear g14 g15
        go_wp2
        go_ret
        exact ⟨rfl, g16⟩
theorem TraceCompares_walk (W : World) (a0 : Option Addr) (len0 cap0 : Nat) (l0 : (List (Int × (Int × (List Int))))) (h0 : (decSlice 40 (decPair (decInt .i64) (decPair (decInt .i64) (decSlice 1 (decInt .u8))))).rel W l0 [.slice a0 len0 cap0]) (a1 : Option Addr) (len1 cap1 : Nat) (l1 : (List (Int × (Int × (List Int))))) (h1 : (decSlice 40 (decPair (decInt .i64) (decPair (decInt .i64) (decSlice 1 (decInt .u8))))).rel W l1 [.slice a1 len1 cap1]) (a2 : Option Addr) (len2 cap2 : Nat) (l2 : (List Int)) (h2 : (decSlice 8 (decInt .i64)).rel W l2 [.slice a2 len2 cap2]) :
    Calls Try.prog 8 #[.slice a0 len0 cap0, .slice a1 len1 cap1, .slice a2 len2 cap2] W fun e w' => e = .returned (.bool true) ∧ Below W.heap.size W w' := by
  obtain ⟨A, c, L, he, hlc, _, rfl, hT, hb⟩ := dec_tops h0
  obtain ⟨B, d, M, he', hlc', _, rfl, hT', hb'⟩ := dec_tops h1
  obtain ⟨C, cc, he2, _, _, _, hR, _⟩ := dec_ints h2
  simp at he he' he2
  obtain ⟨rfl, rfl, rfl⟩ := he
  obtain ⟨rfl, rfl, rfl⟩ := he'
  obtain ⟨rfl, rfl, rfl⟩ := he2
  exact (traceCompares _ _ _ _ L M _ _ l2 (fun x hx => hb _ (List.mem_map_of_mem hx)) (fun x hx => hb' _ (List.mem_map_of_mem hx)) (by simpa using hlc) (by simpa using hlc') (Sat.start W) (fun w hs => hT.keep fun k hk => hs.old1 hk) (fun w hs => hT'.keep fun k hk => hs.old1 hk) (fun w hs => hR.keep fun k hk => hs.old1 hk)).mono fun e w' ⟨he, hs⟩ => ⟨he, hs.finish1⟩
end Go.Proofs.Ytacfaegljjgneaa
