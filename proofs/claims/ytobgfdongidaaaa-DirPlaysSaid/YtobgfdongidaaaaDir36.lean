import Derived.Test.YtobgfdongidaaaaDir34
import Derived.Test.YtobgfdongidaaaaDir35
namespace Go.Proofs.Ytobgfdongidaaaa
set_option linter.unusedVariables false
set_option linter.unusedSimpArgs false
open Go.RowKit Go.Proofs.Sep Go.Lib

theorem kids_cat {E w : World} {F : Asn} {lo hi h : Nat} {ta tb : Tr h} (x : Ent) {qa qb : List Nat} (hS : Sat E (kids h qa ta * (kids h qb tb * F)) w) : Sat E (kids h (qa ++ qb) (catT h ta x tb) * F) w := by
  cases h with
  | zero =>
    obtain ⟨rfl, h1⟩ := Sat.pur_left hS
    obtain ⟨rfl, h2⟩ := Sat.pur_left h1
    exact h2.add_pur rfl
  | succ h =>
    have hl := stars_len _ hS
    rw [kids_succ]
    show Sat E (stars (tree h) (qa ++ qb) (ta.2 ++ tb.2) * F) w
    rw [stars_app (tree h) qa ta.2 qb tb.2 hl, star_assoc]
    exact hS
theorem kids_len {E w : World} {F : Asn} {lo hi h : Nat} {t : Tr h} (hok : okT lo hi h t) {qs : List Nat} (hS : Sat E (kids h qs t * F) w) : qs = [] ∨ qs.length = (ownE h t).length + 1 := by
  cases h with
  | zero => exact .inl (Sat.pur_left hS).1
  | succ h =>
    have hl := stars_len _ hS
    exact .inr (hl.trans hok.1)
theorem kids_both {E w : World} {F : Asn} {lo hi h : Nat} {ta tb : Tr h} (ha : okT lo hi h ta) (hb : okT lo hi h tb) {qa qb : List Nat} (hS : Sat E (kids h qa ta * (kids h qb tb * F)) w) :
    (qa = [] ∧ qb = []) ∨ (qa.length = (ownE h ta).length + 1 ∧ qb.length = (ownE h tb).length + 1) := by
  cases h with
  | zero => exact .inl ⟨(Sat.pur_left hS).1, (Sat.pur_left (Sat.pur_left hS).2).1⟩
  | succ h =>
    have hl := stars_len _ hS
    have hl2 := stars_len _ hS.right
    exact .inr ⟨hl.trans ha.1, hl2.trans hb.1⟩
theorem drop_two : ∀ (A B : List Ent) (x : Ent), (A ++ x :: B).drop (A.length + 1 + 1) = B.drop 1
  | [], _, _ => rfl
  | a :: A, B, x => by
    have := drop_two A B x
    simp only [List.cons_append, List.length_cons, List.drop_succ_cons] at this ⊢
    exact this
theorem star_in (N A B C D G : Asn) : N * ((A * C) * ((B * D) * G)) = N * (A * (B * (C * (D * G)))) := by ac_rfl
theorem tree_pair {E w : World} {G N : Asn} {h a b : Nat} {ta tb : Tr h} (hS : Sat E (N * (tree h a ta * (tree h b tb * G))) w) :
    ∃ qa qb, Sat E (N * (node a (ownE h ta) qa * (node b (ownE h tb) qb * (kids h qa ta * (kids h qb tb * G))))) w := by
  obtain ⟨qa, h1⟩ := (hS.eq (star_left_comm _ _ _)).tree_open
  obtain ⟨qb, h2⟩ := (h1.eq (show _ = tree h b tb * (node a (ownE h ta) qa * (kids h qa ta * (N * G))) by ac_rfl)).tree_open
  exact ⟨qa, qb, h2.eq (by ac_rfl)⟩
theorem pair_tree {E w : World} {G N : Asn} {h a b : Nat} {ta tb : Tr h} {qa qb : List Nat} {La Lb : List Ent} (ea : La = ownE h ta) (eb : Lb = ownE h tb) (hS : Sat E (N * (node a La qa * (node b Lb qb * (kids h qa ta * (kids h qb tb * G))))) w) :
    Sat E (N * (tree h a ta * (tree h b tb * G))) w := by
  have h1 := Sat.tree_shut (h := h) (t := ta) (qs := qa) ea (hS.eq (show _ = node a La qa * (kids h qa ta * (N * (node b Lb qb * (kids h qb tb * G)))) by ac_rfl))
  have h2 := Sat.tree_shut (h := h) (t := tb) (qs := qb) eb (h1.eq (show _ = node b Lb qb * (kids h qb tb * (N * (tree h a ta * G))) by ac_rfl))
  exact h2.eq (by ac_rfl)
/-- A shift to the right, on trees. -/
theorem shiftR_tree {E w : World} {G : Asn} {lo hi h : Nat} (n a b i j k : Nat) (es : List Ent) (ps : List Nat) (ta tb : Tr h) (hj : j = i + 1) (hpa : ps[i]? = some a) (hpb : ps[j]? = some b) (X : Ent) (hX : es[i]? = some X) (hk : (ownE h ta).length = k + 1)
    (oa : okT lo hi h ta) (ob : okT lo hi h tb) (l1 : es.length ≤ 1000) (l2 : (ownE h ta).length ≤ 1000) (l3 : (ownE h tb).length ≤ 1000) (l4 : ps.length ≤ 1000)
    (Y : Ent) (hY : (ownE h ta ++ X :: ownE h tb)[k]? = some Y) (hS : Sat E (node n es ps * (tree h a ta * (tree h b tb * G))) w) :
    Calls Try.prog 48 #[ptrv n, .int .i64 i, .int .i64 j] w fun e w' => (∃ v, e = .returned v) ∧
      Sat E (node n (es.set i Y) ps * (tree h a (takeT h k (catT h ta X tb)) * (tree h b (dropT h k (catT h ta X tb)) * G))) w' := by
  obtain ⟨qa, qb, h1⟩ := tree_pair hS
  have hl := kids_both oa ob (h1.right.right.right)
  have lq : qa.length ≤ 1001 ∧ qb.length ≤ 1001 := by
    rcases hl with ⟨rfl, rfl⟩ | ⟨h1, h2⟩
    · exact ⟨by simp, by simp⟩
    · omega
  have hY' : (ownE h ta)[k]? = some Y := by rw [List.getElem?_append_left (by omega)] at hY; exact hY
  refine (shift_right n a b i j k es (ownE h ta) (ownE h tb) ps qa qb hj hpa hpb X Y hX hY' hk (by omega) (by omega) (by omega) (by omega) (by omega) (by omega) h1).mono ?_
  rintro e w' ⟨hv, s⟩
  refine ⟨hv, ?_⟩
  have s2 : Sat E (kids h qa ta * (kids h qb tb * _)) w' := s.eq (show _ = kids h qa ta * (kids h qb tb * (node n (es.set i Y) ps * (node a ((ownE h ta).take k) (qa.take (qa.length - 1)) * (node b (X :: ownE h tb) (qa.drop (qa.length - 1) ++ qb) * G)))) by ac_rfl)
  have s3 := kids_cat (lo := lo) (hi := hi) X s2
  have s4 := (kids_cut (okT_cat X oa ob) k (by rw [own_catT, List.length_append]; omega) s3).2
  have e1 : (qa ++ qb).take (k + 1) = qa.take (qa.length - 1) := by
    rcases hl with ⟨rfl, rfl⟩ | ⟨h1, h2⟩
    · simp
    · rw [List.take_append_of_le_length (by omega)]
      congr 1
      omega
  have e2 : (qa ++ qb).drop (k + 1) = qa.drop (qa.length - 1) ++ qb := by
    rcases hl with ⟨rfl, rfl⟩ | ⟨h1, h2⟩
    · simp
    · rw [List.drop_append_of_le_length (by omega)]
      congr 2
      omega
  rw [e1, e2] at s4
  refine pair_tree (qa := qa.take (qa.length - 1)) (qb := qa.drop (qa.length - 1) ++ qb) ?_ ?_ (s4.eq (by ac_rfl))
  · rw [own_takeT, own_catT, List.take_append_of_le_length (by omega)]
  · rw [own_dropT, own_catT, List.drop_append, List.drop_of_length_le (by omega), hk]
    simp
theorem shiftL_tree {E w : World} {G : Asn} {lo hi h : Nat} (n a b i j k : Nat) (es : List Ent) (ps : List Nat) (ta tb : Tr h) (hj : j = i + 1) (hpa : ps[j]? = some a) (hpb : ps[i]? = some b) (X : Ent) (hX : es[i]? = some X) (hk : (ownE h ta).length = k + 1)
    (oa : okT lo hi h ta) (ob : okT lo hi h tb) (l1 : es.length ≤ 1000) (l2 : (ownE h ta).length ≤ 1000) (l3 : (ownE h tb).length ≤ 1000) (l4 : ps.length ≤ 1000)
    (Y : Ent) (hY : (ownE h tb ++ X :: ownE h ta)[(ownE h tb).length + 1]? = some Y) (hS : Sat E (node n es ps * (tree h a ta * (tree h b tb * G))) w) :
    Calls Try.prog 48 #[ptrv n, .int .i64 j, .int .i64 i] w fun e w' => (∃ v, e = .returned v) ∧
      Sat E (node n (es.set i Y) ps * (tree h b (takeT h ((ownE h tb).length + 1) (catT h tb X ta)) * (tree h a (dropT h ((ownE h tb).length + 1) (catT h tb X ta)) * G))) w' := by
  obtain ⟨qa, qb, h1⟩ := tree_pair hS
  have hl := kids_both oa ob (h1.right.right.right)
  have lq : qa.length ≤ 1001 ∧ qb.length ≤ 1001 := by
    rcases hl with ⟨rfl, rfl⟩ | ⟨h1, h2⟩
    · exact ⟨by simp, by simp⟩
    · omega
  have hY' : (ownE h ta)[0]? = some Y := by
    rw [List.getElem?_append_right (by omega)] at hY
    simpa using hY
  refine (shift_left n a b i j k es (ownE h ta) (ownE h tb) ps qa qb hj hpa hpb X Y hX hY' hk (by omega) (by omega) (by omega) (by omega) (by omega) (by omega) h1).mono ?_
  rintro e w' ⟨hv, s⟩
  refine ⟨hv, ?_⟩
  have s2 : Sat E (kids h qb tb * (kids h qa ta * _)) w' := s.eq (show _ = kids h qb tb * (kids h qa ta * (node n (es.set i Y) ps * (node a ((ownE h ta).drop 1) (qa.drop 1) * (node b (ownE h tb ++ [X]) (qb ++ qa.take 1) * G)))) by ac_rfl)
  have s3 := kids_cat (lo := lo) (hi := hi) X s2
  have s4 := (kids_cut (okT_cat X ob oa) ((ownE h tb).length + 1) (by rw [own_catT, List.length_append, List.length_cons]; omega) s3).2
  have e1 : (qb ++ qa).take ((ownE h tb).length + 1 + 1) = qb ++ qa.take 1 := by
    rcases hl with ⟨rfl, rfl⟩ | ⟨h1, h2⟩
    · simp
    · rw [List.take_append, List.take_of_length_le (by omega)]
      congr 2
      omega
  have e2 : (qb ++ qa).drop ((ownE h tb).length + 1 + 1) = qa.drop 1 := by
    rcases hl with ⟨rfl, rfl⟩ | ⟨h1, h2⟩
    · simp
    · rw [List.drop_append, List.drop_of_length_le (by omega), List.nil_append]
      congr 1
      omega
  rw [e1, e2] at s4
  refine pair_tree (qa := qb ++ qa.take 1) (qb := qa.drop 1) ?_ ?_ (s4.eq (by ac_rfl))
  · rw [own_takeT, own_catT, List.take_append, List.take_of_length_le (by omega)]
    simp
  · rw [own_dropT, own_catT]
    exact (drop_two _ _ _).symm
theorem join_tree {E w : World} {G : Asn} {lo hi h : Nat} (n a b i : Nat) (es : List Ent) (ps : List Nat) (ta tb : Tr h) (hpa : ps[i]? = some a) (hpb : ps[i + 1]? = some b) (X : Ent) (hX : es[i]? = some X)
    (oa : okT lo hi h ta) (ob : okT lo hi h tb) (l1 : es.length ≤ 1000) (l2 : (ownE h ta).length ≤ 1000) (l3 : (ownE h tb).length ≤ 1000) (l4 : ps.length ≤ 1000)
    (hS : Sat E (node n es ps * (tree h a ta * (tree h b tb * G))) w) :
    Calls Try.prog 49 #[ptrv n, .int .i64 i] w fun e w' => (∃ v, e = .returned v) ∧
      Sat E (node n (es.take i ++ es.drop (i + 1)) (ps.take (i + 1) ++ ps.drop (i + 2)) * (tree h a (catT h ta X tb) * G)) w' := by
  obtain ⟨qa, qb, h1⟩ := tree_pair hS
  have hl := kids_both oa ob (h1.right.right.right)
  have lq : qa.length ≤ 1001 ∧ qb.length ≤ 1001 := by
    rcases hl with ⟨rfl, rfl⟩ | ⟨h1, h2⟩
    · exact ⟨by simp, by simp⟩
    · omega
  refine (join49 n a b i es (ownE h ta) (ownE h tb) ps qa qb hpa hpb X hX (by omega) (by omega) (by omega) (by omega) (by omega) (by omega) h1).mono ?_
  rintro e w' ⟨hv, s⟩
  refine ⟨hv, ?_⟩
  have s2 : Sat E (kids h qa ta * (kids h qb tb * _)) w' := s.eq (show _ = kids h qa ta * (kids h qb tb * (node n (es.take i ++ es.drop (i + 1)) (ps.take (i + 1) ++ ps.drop (i + 2)) * (node a (ownE h ta ++ X :: ownE h tb) (qa ++ qb) * G))) by ac_rfl)
  have s3 := kids_cat (lo := lo) (hi := hi) X s2
  have s4 := Sat.tree_shut (h := h) (t := catT h ta X tb) (qs := qa ++ qb) (own_catT ..).symm (s3.eq (show _ = node a (ownE h ta ++ X :: ownE h tb) (qa ++ qb) * (kids h (qa ++ qb) (catT h ta X tb) * (node n (es.take i ++ es.drop (i + 1)) (ps.take (i + 1) ++ ps.drop (i + 2)) * G)) by ac_rfl))
  exact s4.eq (star_left_comm _ _ _)
end Go.Proofs.Ytobgfdongidaaaa

namespace Go.Proofs.Ytobgfdongidaaaa
set_option linter.unusedVariables false
set_option linter.unusedSimpArgs false
open Go.RowKit Go.Proofs.Sep Go.Lib

set_option maxRecDepth 100000 in
set_option maxHeartbeats 400000 in
theorem least47 {w : World} (T m m1 lo : Nat) (h1 : m = m1 + 1) (h2 : lo = m1 / 2) (hm : m ≤ 64) (h : w.cell? ⟨T, 0, none⟩ = some (.int .i64 m)) : Calls Try.prog 47 #[.pointer (some ⟨T, 0, none⟩)] w fun e w' => e = .returned (.int .i64 lo) ∧ w' = w := by
  have e1 : (m : Int) - 1 = (m1 : Int) := by omega
  have e2 := i64_wrap (x := (m1 : Int)) (by omega) (by omega)
  have e3 : (m1 : Int) / 2 = (lo : Int) := by omega
  have e4 := i64_wrap (x := (lo : Int)) (by omega) (by omega)
  clear h1 h2
  go_enter Try.func47, Try.ntmps47
  go_wp2_with fail
  go_ret
  exact ⟨rfl, rfl⟩
theorem kid_cells {E w : World} {G : Asn} {h p : Nat} {es : List Ent} {ps : List Nat} {ks : List (Tr h)} (hS : Sat E (node p es ps * (stars (tree h) ps ks * G)) w) :
    ∃ ad c2, w.cell? ⟨p, 1, none⟩ = some (.slice ad ps.length c2) ∧ ∀ i k, ks[i]? = some k → ∃ q, ps[i]? = some q ∧ (∃ a, ad = some a ∧ w.cell? (a.add i) = some (ptrv q)) ∧ ∃ B c, w.cell? ⟨q, 0, none⟩ = some (.slice B (ownE h k).length c) := by
  obtain ⟨A1, c1, A2, c2, _, _, h1⟩ := hS.node_open
  obtain ⟨_, x1, _, _, _, x5⟩ := node_facts rfl rfl h1
  refine ⟨A2, c2, x1, fun i k hk => ?_⟩
  have hl := stars_len (tree h) h1.right
  obtain ⟨hi, hki⟩ := List.getElem?_eq_some_iff.1 hk
  obtain ⟨K1, k', K2, rfl, hK⟩ := cut_list ks i (ks.length - i - 1) (by omega)
  obtain rfl : k' = k := by
    have : (K1 ++ k' :: K2)[i]? = some k' := by rw [← hK]; simp
    rw [this] at hk
    exact Option.some.inj hk
  simp only [List.length_append, List.length_cons] at hl
  obtain ⟨P1, q, P2, rfl, hP⟩ := cut_list ps i K2.length (by omega)
  have hq : (P1 ++ q :: P2)[i]? = some q := by rw [← hP]; simp
  obtain ⟨a, ha, hc⟩ := ptr_at x5 hq
  refine ⟨q, hq, ⟨a, ha, hc⟩, ?_⟩
  have h2 := h1.right
  rw [stars_app (tree h) P1 K1 (q :: P2) (k' :: K2) (by omega)] at h2
  have h3 : Sat E (tree h q k' * (stars (tree h) P2 K2 * (stars (tree h) P1 K1 * G))) w := h2.eq (by
    show (_ * (tree h q k' * _)) * _ = _
    ac_rfl)
  obtain ⟨qs, h4⟩ := h3.tree_open
  obtain ⟨A3, c3, A4, c4, _, _, h5⟩ := h4.node_open
  exact ⟨A3, c3, (node_facts rfl rfl h5).1⟩
/-- Two neighbours, taken out of a row of kids. -/
theorem stars_two {h : Nat} (P1 P2 : List Nat) (J1 J2 : List (Tr h)) (a b : Nat) (ta tb : Tr h) (hl : P1.length = J1.length) : stars (tree h) (P1 ++ a :: b :: P2) (J1 ++ ta :: tb :: J2) = stars (tree h) P1 J1 * (tree h a ta * (tree h b tb * stars (tree h) P2 J2)) :=
  stars_app (tree h) P1 J1 (a :: b :: P2) (ta :: tb :: J2) hl
theorem stars_one {h : Nat} (P1 P2 : List Nat) (J1 J2 : List (Tr h)) (a : Nat) (ta : Tr h) (hl : P1.length = J1.length) : stars (tree h) (P1 ++ a :: P2) (J1 ++ ta :: J2) = stars (tree h) P1 J1 * (tree h a ta * stars (tree h) P2 J2) :=
  stars_app (tree h) P1 J1 (a :: P2) (ta :: J2) hl
end Go.Proofs.Ytobgfdongidaaaa

namespace Go.Proofs.Ytobgfdongidaaaa
set_option linter.unusedVariables false
set_option linter.unusedSimpArgs false
open Go.RowKit Go.Proofs.Sep Go.Lib

def FillPost (E : World) (G : Asn) (lo hi h p : Nat) (es : List Ent) (ks : List (Tr h)) (w' : World) : Prop :=
  ∃ (es' : List Ent) (ps' : List Nat) (ks' : List (Tr h)), Filled lo hi h es ks es' ks' ∧ Sat E (node p es' ps' * (stars (tree h) ps' ks' * G)) w'
theorem set_mid {α : Type} (E1 E2 : List α) (x y : α) (i : Nat) (hi : i = E1.length) : (E1 ++ x :: E2).set i y = E1 ++ y :: E2 := by
  subst hi
  induction E1 with
  | nil => rfl
  | cons a E1 ih => simp only [List.cons_append, List.length_cons, List.set_cons_succ, ih]
theorem cut_mid {α : Type} (E1 E2 : List α) (x : α) (i : Nat) (hi : i = E1.length) : (E1 ++ x :: E2).take i ++ (E1 ++ x :: E2).drop (i + 1) = E1 ++ E2 := by
  subst hi
  rw [List.take_left' rfl, ← List.drop_drop, List.drop_left' rfl]
  rfl
theorem mid_at {α : Type} (E1 E2 : List α) (x : α) (i : Nat) (hi : i = E1.length) : (E1 ++ x :: E2)[i]? = some x := by
  subst hi
  simp
theorem mid_at2 {α : Type} (E1 E2 : List α) (x y : α) (i : Nat) (hi : i = E1.length) : (E1 ++ x :: y :: E2)[i + 1]? = some y := by
  subst hi
  rw [List.getElem?_append_right (by omega)]
  simp
section
variable {E w : World} {G : Asn} {lo hi h : Nat}
theorem fill_R (p i j : Nat) (es : List Ent) (ps : List Nat) (J1 J2 : List (Tr h)) (ta tb : Tr h) (hJ : J1.length = i) (hj : j = i + 1) (hlen : J1.length + J2.length + 1 = es.length)
    (o1 : ∀ x ∈ J1, lo ≤ (ownE h x).length ∧ (ownE h x).length ≤ hi ∧ okT lo hi h x) (o2 : ∀ x ∈ J2, lo ≤ (ownE h x).length ∧ (ownE h x).length ≤ hi ∧ okT lo hi h x)
    (oa : okT lo hi h ta) (ob : okT lo hi h tb) (hhi : hi ≤ 63) (h2 : 2 * lo ≤ hi) (h1 : 1 ≤ lo) (ha : lo < (ownE h ta).length) (ha2 : (ownE h ta).length ≤ hi) (hb : (ownE h tb).length + 1 = lo) (les : es.length ≤ 900)
    (hS : Sat E (node p es ps * (stars (tree h) ps (J1 ++ ta :: tb :: J2) * G)) w) :
    Calls Try.prog 48 #[ptrv p, .int .i64 i, .int .i64 j] w fun e w' => (∃ v, e = .returned v) ∧ FillPost E G lo hi h p es (J1 ++ ta :: tb :: J2) w' := by
  have hl := stars_len (tree h) hS.right
  simp only [List.length_append, List.length_cons] at hl
  obtain ⟨E1, X, E2, rfl, hE⟩ := cut_list es i (es.length - i - 1) (by omega)
  simp only [List.length_append, List.length_cons] at hlen les
  obtain ⟨P1, a, P2', rfl, hP⟩ := cut_list ps i (J2.length + 1) (by omega)
  obtain ⟨_, b, P2, h0, hP0⟩ := cut_list P2' 0 J2.length (by simp only [List.length_append, List.length_cons] at hl; omega)
  obtain rfl := List.eq_nil_of_length_eq_zero hP0
  simp only [List.nil_append] at h0
  subst h0
  rw [stars_two P1 P2 J1 J2 a b ta tb (by omega)] at hS
  obtain ⟨k, hk⟩ : ∃ k, (ownE h ta).length = k + 1 := ⟨(ownE h ta).length - 1, by omega⟩
  have hkn : k < (ownE h ta ++ X :: ownE h tb).length := by rw [List.length_append]; omega
  have hS2 := hS.eq (show _ = node p (E1 ++ X :: E2) (P1 ++ a :: b :: P2) * (tree h a ta * (tree h b tb * (stars (tree h) P1 J1 * (stars (tree h) P2 J2 * G)))) by ac_rfl)
  simp only [List.length_append, List.length_cons] at hl
  refine (shiftR_tree p a b i j k (E1 ++ X :: E2) (P1 ++ a :: b :: P2) ta tb hj (mid_at _ _ _ _ (by omega)) (by rw [hj]; exact mid_at2 _ _ _ _ _ (by omega)) X (mid_at _ _ _ _ (by omega)) hk oa ob (by simp only [List.length_append, List.length_cons]; omega) (by omega) (by omega) (by simp only [List.length_append, List.length_cons]; omega) _ (List.getElem?_eq_getElem hkn) hS2).mono ?_
  rintro e w' ⟨hv, s⟩
  refine ⟨hv, _, P1 ++ a :: b :: P2, _, filled_cut k (by omega) (by omega) o1 o2 oa ob hkn (by omega) (by omega) (by omega) (by omega), ?_⟩
  rw [stars_two P1 P2 J1 J2 a b _ _ (by omega)]
  rw [set_mid _ _ _ _ _ (by omega)] at s
  exact s.eq (by ac_rfl)
theorem fill_L (p i j : Nat) (es : List Ent) (ps : List Nat) (J1 J2 : List (Tr h)) (ta tb : Tr h) (hJ : J1.length = i) (hj : j = i + 1) (hlen : J1.length + J2.length + 1 = es.length)
    (o1 : ∀ x ∈ J1, lo ≤ (ownE h x).length ∧ (ownE h x).length ≤ hi ∧ okT lo hi h x) (o2 : ∀ x ∈ J2, lo ≤ (ownE h x).length ∧ (ownE h x).length ≤ hi ∧ okT lo hi h x)
    (oa : okT lo hi h ta) (ob : okT lo hi h tb) (hhi : hi ≤ 63) (h2 : 2 * lo ≤ hi) (h1 : 1 ≤ lo) (hb : lo < (ownE h tb).length) (hb2 : (ownE h tb).length ≤ hi) (ha : (ownE h ta).length + 1 = lo) (les : es.length ≤ 900)
    (hS : Sat E (node p es ps * (stars (tree h) ps (J1 ++ ta :: tb :: J2) * G)) w) :
    Calls Try.prog 48 #[ptrv p, .int .i64 j, .int .i64 i] w fun e w' => (∃ v, e = .returned v) ∧ FillPost E G lo hi h p es (J1 ++ ta :: tb :: J2) w' := by
  have hl := stars_len (tree h) hS.right
  simp only [List.length_append, List.length_cons] at hl
  obtain ⟨E1, X, E2, rfl, hE⟩ := cut_list es i (es.length - i - 1) (by omega)
  simp only [List.length_append, List.length_cons] at hlen les
  obtain ⟨P1, a, P2', rfl, hP⟩ := cut_list ps i (J2.length + 1) (by omega)
  obtain ⟨_, b, P2, h0, hP0⟩ := cut_list P2' 0 J2.length (by simp only [List.length_append, List.length_cons] at hl; omega)
  obtain rfl := List.eq_nil_of_length_eq_zero hP0
  simp only [List.nil_append] at h0
  subst h0
  rw [stars_two P1 P2 J1 J2 a b ta tb (by omega)] at hS
  obtain ⟨k, hk⟩ : ∃ k, (ownE h tb).length = k + 1 := ⟨(ownE h tb).length - 1, by omega⟩
  have hkn : (ownE h ta).length + 1 < (ownE h ta ++ X :: ownE h tb).length := by rw [List.length_append, List.length_cons]; omega
  have hS2 := hS.eq (show _ = node p (E1 ++ X :: E2) (P1 ++ a :: b :: P2) * (tree h b tb * (tree h a ta * (stars (tree h) P1 J1 * (stars (tree h) P2 J2 * G)))) by ac_rfl)
  simp only [List.length_append, List.length_cons] at hl
  refine (shiftL_tree p b a i j k (E1 ++ X :: E2) (P1 ++ a :: b :: P2) tb ta hj (by rw [hj]; exact mid_at2 _ _ _ _ _ (by omega)) (mid_at _ _ _ _ (by omega)) X (mid_at _ _ _ _ (by omega)) hk ob oa (by simp only [List.length_append, List.length_cons]; omega) (by omega) (by omega) (by simp only [List.length_append, List.length_cons]; omega) _ (List.getElem?_eq_getElem hkn) hS2).mono ?_
  rintro e w' ⟨hv, s⟩
  refine ⟨hv, _, P1 ++ a :: b :: P2, _, filled_cut ((ownE h ta).length + 1) (by omega) (by omega) o1 o2 oa ob hkn (by omega) (by omega) (by omega) (by omega), ?_⟩
  rw [stars_two P1 P2 J1 J2 a b _ _ (by omega)]
  rw [set_mid _ _ _ _ _ (by omega)] at s
  exact s.eq (by ac_rfl)
theorem fill_J (p i : Nat) (es : List Ent) (ps : List Nat) (J1 J2 : List (Tr h)) (ta tb : Tr h) (hJ : J1.length = i) (hlen : J1.length + J2.length + 1 = es.length)
    (o1 : ∀ x ∈ J1, lo ≤ (ownE h x).length ∧ (ownE h x).length ≤ hi ∧ okT lo hi h x) (o2 : ∀ x ∈ J2, lo ≤ (ownE h x).length ∧ (ownE h x).length ≤ hi ∧ okT lo hi h x)
    (oa : okT lo hi h ta) (ob : okT lo hi h tb) (hhi : hi ≤ 63) (hs : (ownE h ta).length + (ownE h tb).length + 1 ≤ hi) (hs2 : lo ≤ (ownE h ta).length + (ownE h tb).length + 1) (les : es.length ≤ 900)
    (hS : Sat E (node p es ps * (stars (tree h) ps (J1 ++ ta :: tb :: J2) * G)) w) :
    Calls Try.prog 49 #[ptrv p, .int .i64 i] w fun e w' => (∃ v, e = .returned v) ∧ FillPost E G lo hi h p es (J1 ++ ta :: tb :: J2) w' := by
  have hl := stars_len (tree h) hS.right
  simp only [List.length_append, List.length_cons] at hl
  obtain ⟨E1, X, E2, rfl, hE⟩ := cut_list es i (es.length - i - 1) (by omega)
  simp only [List.length_append, List.length_cons] at hlen les
  obtain ⟨P1, a, P2', rfl, hP⟩ := cut_list ps i (J2.length + 1) (by omega)
  obtain ⟨_, b, P2, h0, hP0⟩ := cut_list P2' 0 J2.length (by simp only [List.length_append, List.length_cons] at hl; omega)
  obtain rfl := List.eq_nil_of_length_eq_zero hP0
  simp only [List.nil_append] at h0
  subst h0
  rw [stars_two P1 P2 J1 J2 a b ta tb (by omega)] at hS
  have hS2 := hS.eq (show _ = node p (E1 ++ X :: E2) (P1 ++ a :: b :: P2) * (tree h a ta * (tree h b tb * (stars (tree h) P1 J1 * (stars (tree h) P2 J2 * G)))) by ac_rfl)
  simp only [List.length_append, List.length_cons] at hl
  refine (join_tree p a b i (E1 ++ X :: E2) (P1 ++ a :: b :: P2) ta tb (mid_at _ _ _ _ (by omega)) (mid_at2 _ _ _ _ _ (by omega)) X (mid_at _ _ _ _ (by omega)) oa ob (by simp only [List.length_append, List.length_cons]; omega) (by omega) (by omega) (by simp only [List.length_append, List.length_cons]; omega) hS2).mono ?_
  rintro e w' ⟨hv, s⟩
  refine ⟨hv, _, P1 ++ a :: P2, _, filled_cat (by omega) (by omega) o1 o2 oa ob (by omega) (by omega), ?_⟩
  rw [stars_one P1 P2 J1 J2 a _ (by omega)]
  rw [cut_mid _ _ _ _ (by omega)] at s
  have hp : (P1 ++ a :: b :: P2).take (i + 1) ++ (P1 ++ a :: b :: P2).drop (i + 2) = P1 ++ a :: P2 := by
    have := cut_mid (P1 ++ [a]) P2 b (i + 1) (by simp only [List.length_append, List.length_cons, List.length_nil]; omega)
    simpa using this
  rw [hp] at s
  exact s.eq (by ac_rfl)
end
end Go.Proofs.Ytobgfdongidaaaa
