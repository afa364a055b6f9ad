import Derived.Test.YtedhcgeglmoacaaRound8
namespace Go.Proofs.Ytedhcgeglmoacaa
set_option linter.unusedVariables false
set_option linter.unusedSimpArgs false
open Go.RowKit Go.Proofs.Sep

set_option maxRecDepth 100000 in
set_option maxHeartbeats 2000000 in
theorem roundAll {E w : World} {F : Asn} (A B : Option Addr) (n ca cb : Nat) (hv : List Int) (l : List (List Int)) (hd : List Value) (hS : Sat E F w)
    (hR : ∀ w, Sat E F w → Reads w 1 A n (nums .i64 hv)) (hQ : ∀ w, Sat E F w → Reads w 1 B l.length hd) (hO : ∀ w, Sat E F w → NeedsIn w l hd) :
    Calls Try.prog 13 #[.slice A n ca, .slice B l.length cb] w fun e w' => e = .returned (.bool true) ∧ Sat E F w' := by
  by_cases h : n ≤ 200
  · exact roundAll_ok A B n ca cb hv l hd h hS hR hQ hO
  · have h : 200 < (n : Int) := by omega
    go_enter Try.func13, Try.ntmps13
    go_wp2_with (first
      | (go_at_call 47; refine (first21 (E := E) (F := F) (by assumption)).mono ?_; rintro e w2 ⟨rfl, h1⟩)
      | (go_at_call 48; refine (few21 (E := E) (F := F) B cb l hd (by assumption) hQ hO).mono ?_; rintro e w2 ⟨⟨rfl, _, _⟩ | rfl, h1⟩))
    all_goals first | (go_ret; exact ⟨rfl, by assumption⟩) | (exfalso; omega)

theorem RoundAll_walk (W : World) (a0 : Option Addr) (len0 cap0 : Nat) (l0 : (List Int)) (h0 : (decSlice 8 (decInt .i64)).rel W l0 [.slice a0 len0 cap0]) (a1 : Option Addr) (len1 cap1 : Nat) (l1 : (List (List Int))) (h1 : (decSlice 24 (decSlice 8 (decInt .i64))).rel W l1 [.slice a1 len1 cap1]) :
    Calls Try.prog 13 #[.slice a0 len0 cap0, .slice a1 len1 cap1] W fun e w' => e = .returned (.bool true) ∧ Below W.heap.size W w' := by
  obtain ⟨A, c, he, hlc, _, _, hR, _⟩ := dec_ints h0
  simp at he
  obtain ⟨rfl, rfl, rfl⟩ := he
  obtain ⟨B, d, hd, he, _, _, hQ, hO⟩ := dec_lists h1
  simp at he
  obtain ⟨rfl, rfl, rfl⟩ := he
  exact (roundAll _ _ _ _ _ l0 l1 hd (Sat.start W) (fun w hs => hR.keep fun k hk => hs.old1 hk) (fun w hs => hQ.keep fun k hk => hs.old1 hk) (fun w hs => hO.keep fun k hk => hs.old1 hk)).mono fun e w' ⟨he, hs⟩ => ⟨he, hs.finish1⟩
end Go.Proofs.Ytedhcgeglmoacaa
