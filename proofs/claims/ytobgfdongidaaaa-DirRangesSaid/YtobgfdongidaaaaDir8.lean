import Derived.Test.YtobgfdongidaaaaDir5b
import Derived.Test.YtobgfdongidaaaaDir7
namespace Go.Proofs.Ytobgfdongidaaaa
set_option linter.unusedVariables false
set_option linter.unusedSimpArgs false
open Go.RowKit Go.Proofs.Sep Go.Lib

theorem cut_list {α : Type} (ps : List α) (n m : Nat) (h : ps.length = n + m + 1) : ∃ P1 q P2, ps = P1 ++ q :: P2 ∧ P1.length = n :=
  ⟨ps.take n, ps[n], ps.drop (n + 1), by rw [← List.drop_eq_getElem_cons, List.take_append_drop], by rw [List.length_take]; omega⟩
theorem insAt_next {α : Type} (P1 : List α) (q r : α) (P2 : List α) (n : Nat) (h : P1.length = n) : insAt (n + 1) [r] (P1 ++ q :: P2) = P1 ++ q :: r :: P2 := by
  unfold insAt
  subst h
  have e : P1 ++ q :: P2 = (P1 ++ [q]) ++ P2 := by simp
  rw [e, List.take_left' (by simp), List.drop_left' (by simp)]
  simp
/-- What 'split' leaves of the kid. -/
structure Split (lo hi h : Nat) (i : Nat) (k : Tr h) (es es' : List Ent) (K : List (Tr h)) : Prop where
  or : (K = [k] ∧ es' = es ∧ (ownE h k).length ≤ hi) ∨
    (hi < (ownE h k).length ∧ ∃ a b x, K = [a, b] ∧ es' = insAt i [x] es ∧ inord h k = inord h a ++ x :: inord h b ∧ okT lo hi h a ∧ okT lo hi h b ∧
      lo ≤ (ownE h a).length ∧ (ownE h a).length ≤ hi ∧ lo ≤ (ownE h b).length ∧ (ownE h b).length ≤ hi)

set_option maxRecDepth 100000 in
set_option maxHeartbeats 1000000 in
theorem split_tree {E w : World} {F : Asn} (t m p lo hi h i : Nat) (u1 u2 : Value) (es : List Ent) (ps : List Nat) (K1 K2 : List (Tr h)) (k : Tr h)
    (hm3 : 3 ≤ m) (hlo : lo = (m - 1) / 2) (hhi : hi = m - 1) (hi1 : K1.length = i) (hlen : K1.length + K2.length = es.length) (hok : okT lo hi h k) (hkh : (ownE h k).length ≤ hi + 1)
    (hm : m ≤ 64) (hes : es.length ≤ 999998)
    (hS : Sat E (node p es ps * (stars (tree h) ps (K1 ++ k :: K2) * (top t m u1 u2 * F))) w) :
    Calls Try.prog 34 #[ptrv t, ptrv p, .int .i64 i] w fun e w' => (∃ v, e = .returned v) ∧ ∃ es' ps' K, Split lo hi h i k es es' K ∧ (es' = es → ps' = ps) ∧
      Sat E (node p es' ps' * (stars (tree h) ps' (K1 ++ (K ++ K2)) * (top t m u1 u2 * F))) w' := by
  have hpl := stars_len (tree h) hS.right
  simp only [List.length_append, List.length_cons] at hpl
  obtain ⟨P1, q, P2, rfl, hP1⟩ := cut_list ps K1.length K2.length (by omega)
  have hsx := stars_app (tree h) P1 K1 (q :: P2) (k :: K2) hP1
  rw [hsx] at hS
  have s1 : Sat E (tree h q k * (node p es (P1 ++ q :: P2) * (stars (tree h) P1 K1 * (stars (tree h) P2 K2 * (top t m u1 u2 * F))))) w := hS.eq (by
    show _ * (_ * (tree h q k * stars (tree h) P2 K2) * _) = _
    ac_rfl)
  obtain ⟨qs, s2⟩ := s1.tree_open
  have hq : (P1 ++ q :: P2)[i]? = some q := by rw [← hi1, ← hP1]; simp
  by_cases hfull : (ownE h k).length < m
  · have s3 : Sat E (node p es (P1 ++ q :: P2) * (node q (ownE h k) qs * (top t m u1 u2 * (kids h qs k * (stars (tree h) P1 K1 * (stars (tree h) P2 K2 * F)))))) w := s2.eq (by ac_rfl)
    refine (split_room t m p q i u1 u2 es (ownE h k) _ qs hq hfull (by rw [hpl]; omega) s3).mono ?_
    rintro e w1 ⟨hv, s4⟩
    refine ⟨hv, es, P1 ++ q :: P2, [k], ⟨.inl ⟨rfl, rfl, by omega⟩⟩, fun _ => rfl, ?_⟩
    have s5 : Sat E (tree h q k * (node p es (P1 ++ q :: P2) * (stars (tree h) P1 K1 * (stars (tree h) P2 K2 * (top t m u1 u2 * F))))) w1 := Sat.tree_shut (qs := qs) rfl (s4.eq (by ac_rfl))
    rw [show K1 ++ ([k] ++ K2) = K1 ++ k :: K2 from rfl, hsx]
    refine s5.eq ?_
    show _ = _ * (_ * (tree h q k * stars (tree h) P2 K2) * _)
    ac_rfl
  · have hown : (ownE h k).length = m := by omega
    obtain ⟨n, hn⟩ : ∃ n, n = (ownE h k).length / 2 := ⟨_, rfl⟩
    have hnm : n < (ownE h k).length := by omega
    obtain ⟨hle, s3⟩ := kids_cut hok n hnm (s2.eq (star_left_comm _ _ _))
    have hql : qs.length ≤ 1000000 := by
      cases h with
      | zero =>
        obtain ⟨h0, _⟩ := Sat.pur_left (s2.eq (star_left_comm _ _ _))
        rw [h0]; simp
      | succ h =>
        have := stars_len _ (s2.eq (star_left_comm _ _ _))
        have h2 : k.2.length = k.1.length + 1 := hok.1
        have h3 : k.1.length = m := hown
        omega
    have s4 : Sat E (node p es (P1 ++ q :: P2) * (node q (ownE h k) qs * (top t m u1 u2 * (kids h (qs.take (n + 1)) (takeT h n k) * (kids h (qs.drop (n + 1)) (dropT h n k) * (stars (tree h) P1 K1 * (stars (tree h) P2 K2 * F))))))) w := s3.eq (by ac_rfl)
    refine (split_full t m p q i n u1 u2 es (ownE h k) _ qs hq (by omega) hm3 hn hnm (by rw [hpl]; omega) (by omega) (by omega) hql (by omega) hle s4).mono ?_
    rintro e w1 ⟨r, hv, s5⟩
    obtain ⟨ok1, ok2⟩ := okT_take hok n hnm
    refine ⟨hv, insAt i [(ownE h k)[n]] es, P1 ++ q :: r :: P2, [takeT h n k, dropT h n k], ⟨.inr ⟨by omega, takeT h n k, dropT h n k, (ownE h k)[n], rfl, rfl, inord_cut hok n hnm, ok1, ok2, ?_, ?_, ?_, ?_⟩⟩, fun he => absurd (congrArg List.length he) (by rw [insAt_length es _ i (by omega)]; omega), ?_⟩
    · rw [own_takeT, List.length_take]; omega
    · rw [own_takeT, List.length_take]; omega
    · rw [own_dropT, List.length_drop]; omega
    · rw [own_dropT, List.length_drop]; omega
    have s6 : Sat E (tree h q (takeT h n k) * (node p (insAt i [(ownE h k)[n]] es) (insAt (i + 1) [r] (P1 ++ q :: P2)) * (node r ((ownE h k).drop (n + 1)) (qs.drop (n + 1)) * (kids h (qs.drop (n + 1)) (dropT h n k) * (stars (tree h) P1 K1 * (stars (tree h) P2 K2 * (top t m u1 u2 * F))))))) w1 := Sat.tree_shut (qs := qs.take (n + 1)) (own_takeT h n k).symm (s5.eq (by ac_rfl))
    have s7 : Sat E (tree h r (dropT h n k) * (tree h q (takeT h n k) * (node p (insAt i [(ownE h k)[n]] es) (insAt (i + 1) [r] (P1 ++ q :: P2)) * (stars (tree h) P1 K1 * (stars (tree h) P2 K2 * (top t m u1 u2 * F)))))) w1 := Sat.tree_shut (qs := qs.drop (n + 1)) (own_dropT h n k).symm (s6.eq (by ac_rfl))
    rw [insAt_next P1 q r P2 i (by omega)] at s7
    refine s7.eq ?_
    show _ = _ * (stars (tree h) (P1 ++ q :: r :: P2) (K1 ++ takeT h n k :: dropT h n k :: K2) * _)
    rw [stars_app (tree h) P1 K1 (q :: r :: P2) (takeT h n k :: dropT h n k :: K2) hP1]
    show _ = _ * (_ * (tree h q (takeT h n k) * (tree h r (dropT h n k) * stars (tree h) P2 K2)) * _)
    ac_rfl
end Go.Proofs.Ytobgfdongidaaaa
