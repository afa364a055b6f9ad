import Derived.Test.YtfphpnccmkggfaaIds6
namespace Go.Proofs.Ytfphpnccmkggfaa
set_option linter.unusedVariables false
set_option linter.unusedSimpArgs false
open Go.RowKit Go.Proofs.Sep

set_option maxRecDepth 100000 in
set_option maxHeartbeats 2000000 in
theorem idsPlay {E w : World} {F : Asn} (x : Int) (A B : Option Addr) (c cb : Nat) (used : List Int) (l : List IOp) (hd : List Value) (id : Int) (huc : used.length ≤ c) (hS : Sat E F w)
    (hR : ∀ w, Sat E F w → Reads w 1 A used.length (nums .i64 used)) (hQ : ∀ w, Sat E F w → Reads w 2 B l.length hd) (hO : ∀ w, Sat E F w → IOpsIn w l hd) :
    Calls Try.prog 7 #[.int .i64 x, .slice A used.length c, .slice B l.length cb, .int .i64 id] w fun e w' => e = .returned (.bool true) ∧ Sat E F w' := by
  by_cases hu : used.length ≤ 200
  · by_cases hx : 0 ≤ x ∧ x ≤ 64
    · obtain ⟨n, rfl⟩ := Int.eq_ofNat_of_zero_le hx.1
      exact idsPlay_ok n A B c cb used l hd id (by omega) hu huc hS hR hQ hO
    · have hf4 : ¬ (200 : Int) < (used.length : Int) := by omega
      have HM := hid (show mayPool x used = false from decide_eq_false (fun h => hx ⟨h.1, h.2.1⟩))
      go_enter Try.func7, Try.ntmps7
      go_wp2_with fail
      refine (first18 hS).mono ?_
      rintro e w1 ⟨rfl, g1⟩
      go_wp2_with fail
      refine (few18 B cb l hd g1 hQ hO).mono ?_
      rintro e w2 ⟨⟨rfl, hl1⟩ | rfl, g2⟩
      · go_wp2_with fail
        refine (newBad x A used.length c (by omega)).mono ?_
        rintro e w3 ⟨rfl, rfl⟩
        go_wp2_with fail
        refine (mayPool_calls x A c used g2 huc hR).mono ?_
        rw [HM.out]
        rintro e w4 ⟨rfl, g4⟩
        go_wp2_with fail
        refine (first18 g4).mono ?_
        rintro e w5 ⟨rfl, g5⟩
        go_wp2
        go_ret
        exact ⟨rfl, g5⟩
      · go_wp2_with fail
        refine (first18 g2).mono ?_
        rintro e w3 ⟨rfl, g3⟩
        go_wp2
        go_ret
        exact ⟨rfl, g3⟩
  · have hf4 : (200 : Int) < (used.length : Int) := by omega
    go_enter Try.func7, Try.ntmps7
    go_wp2_with fail
    refine (first18 hS).mono ?_
    rintro e w1 ⟨rfl, g1⟩
    go_wp2_with fail
    refine (first18 g1).mono ?_
    rintro e w3 ⟨rfl, g3⟩
    go_wp2
    go_ret
    exact ⟨rfl, g3⟩

theorem IdsPlay_walk (W : World) (a0 : Int) (w0 : (Lit.int .i64 a0).wf = true) (a1 : Option Addr) (len1 cap1 : Nat) (l1 : (List Int)) (h1 : (decSlice 8 (decInt .i64)).rel W l1 [.slice a1 len1 cap1]) (a2 : Option Addr) (len2 cap2 : Nat) (l2 : (List (Int × (List Int)))) (h2 : (decSlice 32 (decPair (decInt .i64) (decSlice 8 (decInt .i64)))).rel W l2 [.slice a2 len2 cap2]) (a3 : Int) (w3 : (Lit.int .i64 a3).wf = true) :
    Calls Try.prog 7 #[.int .i64 a0, .slice a1 len1 cap1, .slice a2 len2 cap2, .int .i64 a3] W fun e w' => e = .returned (.bool true) ∧ Below W.heap.size W w' := by
  obtain ⟨A, c, he, hlc, _, _, hR, _⟩ := dec_ints h1
  simp at he
  obtain ⟨rfl, rfl, rfl⟩ := he
  obtain ⟨B, d, hd, he, _, _, hQ, hO⟩ := dec_iops h2
  simp at he
  obtain ⟨rfl, rfl, rfl⟩ := he
  exact (idsPlay a0 _ _ _ _ l1 l2 hd a3 hlc (Sat.start W) (fun w hs => hR.keep fun k hk => hs.old1 hk) (fun w hs => hQ.keep fun k hk => hs.old1 hk) (fun w hs => hO.keep fun k hk => hs.old1 hk)).mono fun e w' ⟨he, hs⟩ => ⟨he, hs.finish1⟩
end Go.Proofs.Ytfphpnccmkggfaa
