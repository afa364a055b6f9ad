import Derived.Test.YtacfaegljjgneaaSure1
namespace Go.Proofs.Ytacfaegljjgneaa
set_option linter.unusedVariables false
set_option linter.unusedSimpArgs false
open Go.RowKit Go.Proofs.Sep

set_option maxRecDepth 100000 in
set_option maxHeartbeats 4000000 in
theorem cellsSure {E w : World} {F : Asn} (x : Int) (A B C : Option Addr) (ca cb cc : Nat) (l1 l2 : List SOp) (ka : List Bool) (hd1 hd2 : List Value) (hS : Sat E F w)
    (hQ1 : ∀ w, Sat E F w → Reads w 4 A l1.length hd1) (hO1 : ∀ w, Sat E F w → SOpsIn w l1 hd1) (hQ2 : ∀ w, Sat E F w → Reads w 4 B l2.length hd2) (hO2 : ∀ w, Sat E F w → SOpsIn w l2 hd2) (hR : ∀ w, Sat E F w → Reads w 1 C ka.length (bools ka)) (hB1 : ∀ x ∈ l1, ByteR x.2.2.1) (hB2 : ∀ x ∈ l2, ByteR x.2.2.1) :
    Calls Try.prog 5 #[.int .i64 x, .slice A l1.length ca, .slice B l2.length cb, .slice C ka.length cc] w fun e w' => e = .returned (.bool true) ∧ Sat E F w' := by
  by_cases h1 : x < 1
  · skip
    go_enter Try.func5, Try.ntmps5
    go_wp2_with fail
    refine (first2 hS).mono ?_
    rintro e w1 ⟨rfl, g1⟩
    go_wp2_with fail
    refine (cellsNew_bad x 4 (.inl h1)).mono ?_
    rintro e w2 ⟨rfl, rfl⟩
    go_wp2_with fail
    refine (first2 g1).mono ?_
    rintro e w5 ⟨rfl, g5⟩
    go_wp2
    go_ret
    exact ⟨rfl, g5⟩
  obtain ⟨n, rfl⟩ := Int.eq_ofNat_of_zero_le (show 0 ≤ x by omega)
  by_cases h2 : (30 : Int) < (n : Int)
  · by_cases h3 : (65536 : Int) < (n : Int)
    · skip
      go_enter Try.func5, Try.ntmps5
      go_wp2_with fail
      refine (first2 hS).mono ?_
      rintro e w1 ⟨rfl, g1⟩
      go_wp2_with fail
      refine (cellsNew_bad n 4 (.inr (.inl h3))).mono ?_
      rintro e w2 ⟨rfl, rfl⟩
      go_wp2_with fail
      refine (first2 g1).mono ?_
      rintro e w5 ⟨rfl, g5⟩
      go_wp2
      go_ret
      exact ⟨rfl, g5⟩
    · skip
      go_enter Try.func5, Try.ntmps5
      go_wp2_with fail
      refine (first2 hS).mono ?_
      rintro e w1 ⟨rfl, g1⟩
      go_wp2_with fail
      refine (cellsNew n 4 (by omega) (by omega) (by omega) (by omega) g1).mono ?_
      rintro e w2 ⟨s, rfl, g2⟩
      go_wp2_with fail
      refine (first2 g2.right).mono ?_
      rintro e w5 ⟨rfl, g5⟩
      go_wp2
      go_ret
      exact ⟨rfl, g5⟩
  by_cases h4 : (300 : Int) < (ka.length : Int)
  · skip
    go_enter Try.func5, Try.ntmps5
    go_wp2_with fail
    refine (first2 hS).mono ?_
    rintro e w1 ⟨rfl, g1⟩
    go_wp2_with fail
    refine (cellsNew n 4 (by omega) (by omega) (by omega) (by omega) g1).mono ?_
    rintro e w2 ⟨s, rfl, g2⟩
    go_wp2_with fail
    refine (few24 A ca l1 hd1 g2 (fun w h => hQ1 w h.right) (fun w h => hO1 w h.right)).mono ?_
    rintro e w3 ⟨⟨rfl, hl1, hf1⟩ | rfl, g3⟩
    · clear hf1
      go_wp2_with fail
      refine (few24 B cb l2 hd2 g3 (fun w h => hQ2 w h.right) (fun w h => hO2 w h.right)).mono ?_
      rintro e w4 ⟨⟨rfl, hl2, hf2⟩ | rfl, g4⟩
      · clear hf2
        go_wp2_with fail
        refine (first2 g4.right).mono ?_
        rintro e w5 ⟨rfl, g5⟩
        go_wp2
        go_ret
        exact ⟨rfl, g5⟩
      · skip
        go_wp2_with fail
        refine (first2 g4.right).mono ?_
        rintro e w5 ⟨rfl, g5⟩
        go_wp2
        go_ret
        exact ⟨rfl, g5⟩
    · skip
      go_wp2_with fail
      refine (first2 g3.right).mono ?_
      rintro e w5 ⟨rfl, g5⟩
      go_wp2
      go_ret
      exact ⟨rfl, g5⟩
  exact cellsSure_ok n A B C ca cb cc l1 l2 ka hd1 hd2 (by omega) (by omega) (by omega) hS hQ1 hO1 hQ2 hO2 hR hB1 hB2

theorem CellsSure_walk (W : World) (a0 : Int) (w0 : (Lit.int .i64 a0).wf = true) (a1 : Option Addr) (len1 cap1 : Nat) (l1 : (List (Int × (Int × ((List Int) × (List Bool)))))) (h1 : (decSlice 64 (decPair (decInt .i64) (decPair (decInt .i64) (decPair (decSlice 1 (decInt .u8)) (decSlice 1 decBool))))).rel W l1 [.slice a1 len1 cap1]) (a2 : Option Addr) (len2 cap2 : Nat) (l2 : (List (Int × (Int × ((List Int) × (List Bool)))))) (h2 : (decSlice 64 (decPair (decInt .i64) (decPair (decInt .i64) (decPair (decSlice 1 (decInt .u8)) (decSlice 1 decBool))))).rel W l2 [.slice a2 len2 cap2]) (a3 : Option Addr) (len3 cap3 : Nat) (l3 : (List Bool)) (h3 : (decSlice 1 decBool).rel W l3 [.slice a3 len3 cap3]) :
    Calls Try.prog 5 #[.int .i64 a0, .slice a1 len1 cap1, .slice a2 len2 cap2, .slice a3 len3 cap3] W fun e w' => e = .returned (.bool true) ∧ Below W.heap.size W w' := by
  obtain ⟨A, c, hd, he, hlc, _, hQ, hO, hB⟩ := dec_sops h1
  obtain ⟨A', c', hd', he', hlc', _, hQ', hO', hB'⟩ := dec_sops h2
  obtain ⟨C, cc, he2, _, _, _, hR⟩ := dec_bools h3
  simp at he he' he2
  obtain ⟨rfl, rfl, rfl⟩ := he
  obtain ⟨rfl, rfl, rfl⟩ := he'
  obtain ⟨rfl, rfl, rfl⟩ := he2
  exact (cellsSure a0 _ _ _ _ _ _ l1 l2 l3 hd hd' (Sat.start W) (fun w hs => hQ.keep fun k hk => hs.old1 hk) (fun w hs => hO.keep fun k hk => hs.old1 hk) (fun w hs => hQ'.keep fun k hk => hs.old1 hk) (fun w hs => hO'.keep fun k hk => hs.old1 hk) (fun w hs => hR.keep fun k hk => hs.old1 hk) hB hB').mono fun e w' ⟨he, hs⟩ => ⟨he, hs.finish1⟩
end Go.Proofs.Ytacfaegljjgneaa
