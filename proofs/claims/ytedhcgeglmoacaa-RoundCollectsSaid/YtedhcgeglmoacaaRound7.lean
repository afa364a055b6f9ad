import Derived.Test.YtedhcgeglmoacaaRound6
namespace Go.Proofs.Ytedhcgeglmoacaa
set_option linter.unusedVariables false
set_option linter.unusedSimpArgs false
open Go.RowKit Go.Proofs.Sep

set_option maxRecDepth 100000 in
set_option maxHeartbeats 2000000 in
theorem roundFirst {E w : World} {F : Asn} (x : Int) (A B : Option Addr) (n ca cb : Nat) (hv : List Int) (l : List (List Int)) (hd : List Value) (hS : Sat E F w)
    (hR : ∀ w, Sat E F w → Reads w 1 A n (nums .i64 hv)) (hQ : ∀ w, Sat E F w → Reads w 1 B l.length hd) (hO : ∀ w, Sat E F w → NeedsIn w l hd) :
    Calls Try.prog 12 #[.int .i64 x, .slice A n ca, .slice B l.length cb] w fun e w' => e = .returned (.bool true) ∧ Sat E F w' := by
  by_cases hok : 0 ≤ x ∧ x ≤ 1000 ∧ n ≤ 200
  · obtain ⟨h1, h2, h3⟩ := hok
    obtain ⟨m, rfl⟩ := Int.eq_ofNat_of_zero_le h1
    exact roundFirst_ok m A B n ca cb hv l hd (by omega) h3 hS hR hQ hO
  · have hbad : x < 0 ∨ 1000 < x ∨ 200 < (n : Int) := by omega
    clear hok
    rcases hbad with h | h | h
    all_goals
      go_enter Try.func12, Try.ntmps12
      go_wp2_with (first
        | (go_at_call 47; refine (first21 (E := E) (F := F) (by assumption)).mono ?_; rintro e w2 ⟨rfl, h1⟩)
        | (go_at_call 48; refine (few21 (E := E) (F := F) B cb l hd (by assumption) hQ hO).mono ?_; rintro e w2 ⟨⟨rfl, _, _⟩ | rfl, h1⟩))
      all_goals first | (go_ret; exact ⟨rfl, by assumption⟩) | (exfalso; omega)

theorem RoundFirst_walk (W : World) (a0 : Int) (w0 : (Lit.int .i64 a0).wf = true) (a1 : Option Addr) (len1 cap1 : Nat) (l1 : (List Int)) (h1 : (decSlice 8 (decInt .i64)).rel W l1 [.slice a1 len1 cap1]) (a2 : Option Addr) (len2 cap2 : Nat) (l2 : (List (List Int))) (h2 : (decSlice 24 (decSlice 8 (decInt .i64))).rel W l2 [.slice a2 len2 cap2]) :
    Calls Try.prog 12 #[.int .i64 a0, .slice a1 len1 cap1, .slice a2 len2 cap2] W fun e w' => e = .returned (.bool true) ∧ Below W.heap.size W w' := by
  obtain ⟨A, c, he, hlc, _, _, hR, _⟩ := dec_ints h1
  simp at he
  obtain ⟨rfl, rfl, rfl⟩ := he
  obtain ⟨B, d, hd, he, _, _, hQ, hO⟩ := dec_lists h2
  simp at he
  obtain ⟨rfl, rfl, rfl⟩ := he
  exact (roundFirst a0 _ _ _ _ _ l1 l2 hd (Sat.start W) (fun w hs => hR.keep fun k hk => hs.old1 hk) (fun w hs => hQ.keep fun k hk => hs.old1 hk) (fun w hs => hO.keep fun k hk => hs.old1 hk)).mono fun e w' ⟨he, hs⟩ => ⟨he, hs.finish1⟩
end Go.Proofs.Ytedhcgeglmoacaa
