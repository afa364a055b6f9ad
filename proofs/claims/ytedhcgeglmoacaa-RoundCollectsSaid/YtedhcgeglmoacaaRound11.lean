import Derived.Test.YtedhcgeglmoacaaRound10
namespace Go.Proofs.Ytedhcgeglmoacaa
set_option linter.unusedVariables false
set_option linter.unusedSimpArgs false
open Go.RowKit Go.Proofs.Sep

set_option maxRecDepth 100000 in
set_option maxHeartbeats 2000000 in
theorem roundCollects {E w : World} {F : Asn} (x : Int) (A B C : Option Addr) (n ca cb cc : Nat) (hv : List Int) (l : List (List Int)) (hd : List Value) (ids : List Int) (hic : ids.length ≤ cc) (hS : Sat E F w)
    (hR : ∀ w, Sat E F w → Reads w 1 A n (nums .i64 hv)) (hQ : ∀ w, Sat E F w → Reads w 1 B l.length hd) (hO : ∀ w, Sat E F w → NeedsIn w l hd) (hI : ∀ w, Sat E F w → Reads w 1 C ids.length (nums .i64 ids)) :
    Calls Try.prog 11 #[.int .i64 x, .slice A n ca, .slice B l.length cb, .slice C ids.length cc] w fun e w' => e = .returned (.bool true) ∧ Sat E F w' := by
  by_cases hok : x ≤ 10000 ∧ n ≤ 200 ∧ ids.length ≤ 200
  · obtain ⟨h1, h2, h3⟩ := hok
    exact roundCollects_ok x (bnd x) A B C n ca cb cc hv l hd ids rfl h1 h2 h3 hic hS hR hQ hO hI
  · have hbad : 10000 < x ∨ 200 < (ids.length : Int) ∨ 200 < (n : Int) := by omega
    clear hok
    rcases hbad with h | h | h
    all_goals
      go_enter Try.func11, Try.ntmps11
      go_wp2_with (first
        | (go_at_call 47; refine (first21 (E := E) (F := F) (by assumption)).mono ?_; rintro e w2 ⟨rfl, h1⟩)
        | (go_at_call 48; refine (few21 (E := E) (F := F) B cb l hd (by assumption) hQ hO).mono ?_; rintro e w2 ⟨⟨rfl, _, _⟩ | rfl, h1⟩))
      all_goals first | (go_ret; exact ⟨rfl, by assumption⟩) | (exfalso; omega)

theorem RoundCollects_walk (W : World) (a0 : Int) (w0 : (Lit.int .i64 a0).wf = true) (a1 : Option Addr) (len1 cap1 : Nat) (l1 : (List Int)) (h1 : (decSlice 8 (decInt .i64)).rel W l1 [.slice a1 len1 cap1]) (a2 : Option Addr) (len2 cap2 : Nat) (l2 : (List (List Int))) (h2 : (decSlice 24 (decSlice 8 (decInt .i64))).rel W l2 [.slice a2 len2 cap2]) (a3 : Option Addr) (len3 cap3 : Nat) (l3 : (List Int)) (h3 : (decSlice 8 (decInt .i64)).rel W l3 [.slice a3 len3 cap3]) :
    Calls Try.prog 11 #[.int .i64 a0, .slice a1 len1 cap1, .slice a2 len2 cap2, .slice a3 len3 cap3] W fun e w' => e = .returned (.bool true) ∧ Below W.heap.size W w' := by
  obtain ⟨A, c, he, hlc, _, _, hR, _⟩ := dec_ints h1
  simp at he
  obtain ⟨rfl, rfl, rfl⟩ := he
  obtain ⟨B, d, hd, he, _, _, hQ, hO⟩ := dec_lists h2
  simp at he
  obtain ⟨rfl, rfl, rfl⟩ := he
  obtain ⟨C, c3, he, hlc3, _, _, hI, _⟩ := dec_ints h3
  simp at he
  obtain ⟨rfl, rfl, rfl⟩ := he
  exact (roundCollects a0 _ _ _ _ _ _ _ l1 l2 hd l3 hlc3 (Sat.start W) (fun w hs => hR.keep fun k hk => hs.old1 hk) (fun w hs => hQ.keep fun k hk => hs.old1 hk) (fun w hs => hO.keep fun k hk => hs.old1 hk) (fun w hs => hI.keep fun k hk => hs.old1 hk)).mono fun e w' ⟨he, hs⟩ => ⟨he, hs.finish1⟩
end Go.Proofs.Ytedhcgeglmoacaa
