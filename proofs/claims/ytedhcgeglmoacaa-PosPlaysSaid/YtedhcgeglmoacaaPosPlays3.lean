import Derived.Test.YtedhcgeglmoacaaPosPlays2
import Derived.Test.YtedhcgeglmoacaaPosBack
namespace Go.Proofs.Ytedhcgeglmoacaa
set_option linter.unusedVariables false
set_option linter.unusedSimpArgs false
open Go.RowKit Go.Proofs.Sep

set_option maxRecDepth 100000 in
set_option maxHeartbeats 2000000 in
theorem posPlays {E w : World} {F : Asn} (A B : Option Addr) (ca cb : Nat) (l : List (Int × Int)) (ops : List POp) (hd : List Value) (hS : Sat E F w) (hR : ∀ w, Sat E F w → Reads w 2 A l.length (pairs l))
    (hQ : ∀ w, Sat E F w → Reads w 5 B ops.length hd) (hO : ∀ w, Sat E F w → OpsIn (Reads w 3) ops hd) :
    Calls Try.prog 10 #[.slice A l.length ca, .slice B ops.length cb] w fun e w' => e = .returned (.bool true) ∧ Sat E F w' := by
  by_cases hl : (100 : Int) < (l.length : Int)
  · go_enter Try.func10, Try.ntmps10
    go_wp2_with fail
    refine (first8 hS).mono ?_
    rintro e w1 ⟨rfl, g1⟩
    go_wp2_with fail
    refine (first8 g1).mono ?_
    rintro e w2 ⟨rfl, g2⟩
    go_wp2
    go_ret
    exact ⟨rfl, g2⟩
  · exact posPlays_ok A B ca cb l ops hd (by omega) hS hR hQ hO
theorem PosPlays_walk (W : World) (a0 : Option Addr) (len0 cap0 : Nat) (l0 : (List (Int × Int))) (h0 : (decSlice 16 (decPair (decInt .i64) (decInt .i64))).rel W l0 [.slice a0 len0 cap0]) (a1 : Option Addr) (len1 cap1 : Nat) (l1 : (List (Int × (Int × ((Int × Int) × (List (Int × (Int × Int)))))))) (h1 : (decSlice 56 (decPair (decInt .i64) (decPair (decInt .i64) (decPair (decPair (decInt .i64) (decInt .i64)) (decSlice 24 (decPair (decInt .i64) (decPair (decInt .i64) (decInt .i64)))))))).rel W l1 [.slice a1 len1 cap1]) :
    Calls Try.prog 10 #[.slice a0 len0 cap0, .slice a1 len1 cap1] W fun e w' => e = .returned (.bool true) ∧ Below W.heap.size W w' := by
  obtain ⟨A, c, he, _, _, _, hR, hw⟩ := dec_pairs h0
  simp at he
  obtain ⟨rfl, rfl, rfl⟩ := he
  obtain ⟨B, d, hd, he, _, _, hQ, hO⟩ := dec_ops h1
  simp at he
  obtain ⟨rfl, rfl, rfl⟩ := he
  exact (posPlays _ _ _ _ l0 l1 hd (Sat.start W) (fun w hs => hR.keep fun k hk => hs.old1 hk) (fun w hs => hQ.keep fun k hk => hs.old1 hk) (fun w hs => hO.keep fun k hk => hs.old1 hk)).mono fun e w' ⟨he, hs⟩ => ⟨he, hs.finish1⟩
end Go.Proofs.Ytedhcgeglmoacaa
