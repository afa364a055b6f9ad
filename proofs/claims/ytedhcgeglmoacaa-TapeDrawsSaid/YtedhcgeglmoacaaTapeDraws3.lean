import Derived.Test.YtedhcgeglmoacaaTapeDraws2
namespace Go.Proofs.Ytedhcgeglmoacaa
set_option linter.unusedVariables false
set_option linter.unusedSimpArgs false
open Go.RowKit Go.Proofs.Sep

theorem TapeDraws_walk (W : World) (a0 : Option Addr) (len0 cap0 : Nat) (l0 : (List Int)) (h0 : (decSlice 8 (decInt .i64)).rel W l0 [.slice a0 len0 cap0]) (a1 : Option Addr) (len1 cap1 : Nat) (l1 : (List Int)) (h1 : (decSlice 1 (decInt .u8)).rel W l1 [.slice a1 len1 cap1]) (a2 : Option Addr) (len2 cap2 : Nat) (l2 : (List (Int × Int))) (h2 : (decSlice 16 (decPair (decInt .i64) (decInt .i64))).rel W l2 [.slice a2 len2 cap2]) :
    Calls Try.prog 5 #[.slice a0 len0 cap0, .slice a1 len1 cap1, .slice a2 len2 cap2] W fun e w' => e = .returned (.bool true) ∧ Below W.heap.size W w' := by
  obtain ⟨A, c, he, h01, h02, h03, hR0, hw0⟩ := dec_ints h0
  obtain ⟨A1, c1, he1, h11, h12, h13, hR1, hw1⟩ := dec_ints h1
  obtain ⟨A2, c2, he2, h21, h22, h23, hR2, hw2⟩ := dec_pairs h2
  simp at he he1 he2
  obtain ⟨rfl, rfl, rfl⟩ := he
  obtain ⟨rfl, rfl, rfl⟩ := he1
  obtain ⟨rfl, rfl, rfl⟩ := he2
  exact (tapeDraws _ _ _ l0 _ _ _ l1 _ _ _ l2 (Sat.start W) (fun w hs => hR0.keep fun k hk => hs.old1 hk) (fun w hs => hR1.keep fun k hk => hs.old1 hk) (fun w hs => hR2.keep fun k hk => hs.old1 hk) h03 (by omega) h23 (byteR_wf hw1)).mono fun e w' ⟨he, hs⟩ => ⟨he, hs.finish1⟩
end Go.Proofs.Ytedhcgeglmoacaa
