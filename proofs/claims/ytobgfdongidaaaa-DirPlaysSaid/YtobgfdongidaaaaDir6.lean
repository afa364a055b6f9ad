import Derived.Test.YtobgfdongidaaaaDir4
import Derived.Test.YtobgfdongidaaaaDir5a
import Derived.Test.YtobgfdongidaaaaDir5b
namespace Go.Proofs.Ytobgfdongidaaaa
set_option linter.unusedVariables false
set_option linter.unusedSimpArgs false

/-! Trees of a height, plain. -/
def Tr : Nat → Type
  | 0 => List Ent
  | h + 1 => List Ent × List (Tr h)
def ownE : (h : Nat) → Tr h → List Ent
  | 0, t => t
  | _ + 1, t => t.1
def weave : List Ent → List (List Ent) → List Ent
  | [], ks => ks.flatten
  | e :: es, [] => e :: es
  | e :: es, k :: ks => k ++ e :: weave es ks
def inord : (h : Nat) → Tr h → List Ent
  | 0, t => t
  | h + 1, t => weave t.1 (t.2.map (inord h))
def okT (lo hi : Nat) : (h : Nat) → Tr h → Prop
  | 0, _ => True
  | h + 1, t => t.2.length = t.1.length + 1 ∧ ∀ k ∈ t.2, lo ≤ (ownE h k).length ∧ (ownE h k).length ≤ hi ∧ okT lo hi h k
/-- What stands ahead of a kid, and behind it. -/
def wpre : List Ent → List (List Ent) → List Ent
  | e :: es, k :: ks => k ++ e :: wpre es ks
  | _, _ => []
def wpost : List Ent → List (List Ent) → List Ent
  | e :: es, k :: ks => e :: (k ++ wpost es ks)
  | _, _ => []
theorem weave_post : ∀ (es : List Ent) (k : List Ent) (K : List (List Ent)), K.length = es.length → weave es (k :: K) = k ++ wpost es K
  | [], k, [], _ => by simp [weave, wpost]
  | e :: es, k, k2 :: K, h => by
    simp only [weave, wpost]
    rw [weave_post es k2 K (by simpa using h)]
theorem weave_at : ∀ (es : List Ent) (K1 : List (List Ent)) (k : List Ent) (K2 : List (List Ent)), K1.length + K2.length = es.length →
    weave es (K1 ++ k :: K2) = wpre (es.take K1.length) K1 ++ (k ++ wpost (es.drop K1.length) K2)
  | es, [], k, K2, h => by simpa [wpre] using weave_post es k K2 (by simpa using h)
  | [], _ :: _, _, _, h => by simp at h
  | e :: es, k1 :: K1, k, K2, h => by
    have ih := weave_at es K1 k K2 (by simp only [List.length_cons] at h; omega)
    simp only [List.cons_append, weave, List.length_cons, List.take_succ_cons, List.drop_succ_cons, wpre, ih, List.append_assoc]
theorem weave_sub : ∀ (es : List Ent) (ks : List (List Ent)), es.Sublist (weave es ks)
  | [], ks => by simp
  | e :: es, [] => by simp [weave]
  | e :: es, k :: ks => by
    simp only [weave]
    exact ((weave_sub es ks).cons_cons e).trans (List.sublist_append_right _ _)
theorem own_rises {h : Nat} {t : Tr h} (hr : Rises (inord h t)) : Rises (ownE h t) := by
  cases h with
  | zero => exact hr
  | succ h => exact List.Pairwise.sublist (weave_sub _ _) hr
theorem own_le {h : Nat} (t : Tr h) : (ownE h t).length ≤ (inord h t).length := by
  cases h with
  | zero => exact Nat.le_refl _
  | succ h => exact (weave_sub _ _).length_le
/-- What 'put' does to what is there. -/
def insR (e : Ent) : List Ent → List Ent
  | [] => [e]
  | x :: L => if klt x.1 e.1 then x :: insR e L else if x.1 = e.1 then e :: L else e :: x :: L
theorem insR_right (e : Ent) : ∀ (A B : List Ent), (∀ x ∈ A, klt x.1 e.1) → insR e (A ++ B) = A ++ insR e B
  | [], _, _ => rfl
  | x :: A, B, h => by
    simp only [List.cons_append, insR]
    rw [if_pos (h x (by simp)), insR_right e A B fun y hy => h y (by simp [hy])]
theorem insR_left (e : Ent) : ∀ (B C : List Ent), (∀ x ∈ C, klt e.1 x.1) → insR e (B ++ C) = insR e B ++ C
  | [], [], _ => rfl
  | [], c :: C, h => by
    have hc := h c (by simp)
    simp only [List.nil_append, insR]
    rw [if_neg (klt_asymm hc), if_neg]
    · rfl
    · intro e2
      rw [e2] at hc
      exact klt_irrefl _ hc
  | b :: B, C, h => by
    simp only [List.cons_append, insR]
    split
    · rw [insR_left e B C h]; rfl
    · split <;> rfl
theorem wpre_lt {key : ByteArray} : ∀ (es : List Ent) (K : List (List Ent)) (R : List Ent), Rises (wpre es K ++ R) → (∀ x ∈ es, klt x.1 key) → ∀ x ∈ wpre es K, klt x.1 key
  | [], _, _, _, _ => by simp [wpre]
  | e :: es, [], _, _, _ => by simp [wpre]
  | e :: es, k :: K, R, hr, he => by
    intro x hx
    have h0 := he e (by simp)
    simp only [wpre, List.append_assoc, List.cons_append] at hr hx
    have hr2 := List.pairwise_append.1 hr
    rcases List.mem_append.1 hx with hx | hx
    · exact klt_trans (hr2.2.2 x hx e (by simp)) h0
    · rcases List.mem_cons.1 hx with rfl | hx
      · exact h0
      · exact wpre_lt es K R (List.pairwise_cons.1 hr2.2.1).2 (fun y hy => he y (by simp [hy])) x hx
theorem wpost_gt {key : ByteArray} (es : List Ent) (K : List (List Ent)) (hr : Rises (wpost es K)) (he : ∀ x, es[0]? = some x → klt key x.1) : ∀ x ∈ wpost es K, klt key x.1 := by
  cases es with
  | nil => simp [wpost]
  | cons e es =>
    cases K with
    | nil => simp [wpost]
    | cons k K =>
      intro x hx
      have h0 := he e rfl
      simp only [wpost] at hr hx
      rcases List.mem_cons.1 hx with rfl | hx
      · exact h0
      · exact klt_trans h0 ((List.pairwise_cons.1 hr).1 x hx)
theorem insR_mem (e : Ent) : ∀ (L : List Ent), ∀ x ∈ insR e L, x = e ∨ x ∈ L
  | [], x, hx => by simp [insR] at hx; exact .inl hx
  | y :: L, x, hx => by
    simp only [insR] at hx
    split at hx
    · rcases List.mem_cons.1 hx with rfl | hx
      · exact .inr (by simp)
      · rcases insR_mem e L x hx with h | h
        · exact .inl h
        · exact .inr (by simp [h])
    · split at hx
      · rcases List.mem_cons.1 hx with rfl | hx
        · exact .inl rfl
        · exact .inr (by simp [hx])
      · rcases List.mem_cons.1 hx with rfl | hx
        · exact .inl rfl
        · exact .inr hx
theorem insR_rises (e : Ent) : ∀ (L : List Ent), Rises L → Rises (insR e L)
  | [], _ => by simp [insR, Rises]
  | y :: L, h => by
    have h2 := List.pairwise_cons.1 h
    simp only [insR]
    split
    · rename_i hy
      refine List.pairwise_cons.2 ⟨fun x hx => ?_, insR_rises e L h2.2⟩
      rcases insR_mem e L x hx with rfl | hx
      · exact hy
      · exact h2.1 x hx
    · rename_i hy
      split
      · rename_i he
        exact List.pairwise_cons.2 ⟨fun x hx => by rw [← he]; exact h2.1 x hx, h2.2⟩
      · rename_i he
        have hlt : klt e.1 y.1 := by
          rcases klt_or y.1 e.1 with h | h | h
          · exact absurd h hy
          · exact absurd h he
          · exact h
        refine List.pairwise_cons.2 ⟨fun x hx => ?_, h⟩
        rcases List.mem_cons.1 hx with rfl | hx
        · exact hlt
        · exact klt_trans hlt (h2.1 x hx)
theorem insR_length (e : Ent) : ∀ (L : List Ent), Rises L → (insR e L).length = L.length + if hasKey e.1 L then 0 else 1
  | [], _ => by simp [insR, hasKey]
  | y :: L, h => by
    have h2 := List.pairwise_cons.1 h
    have ih := insR_length e L h2.2
    simp only [insR]
    split
    · rename_i hy
      have hne : ¬ y.1 = e.1 := fun he => klt_irrefl e.1 (by rw [he] at hy; exact hy)
      have hh : hasKey e.1 (y :: L) = hasKey e.1 L := by simp [hasKey, hne]
      rw [hh, List.length_cons, ih, List.length_cons]
      omega
    · split
      · rename_i he
        simp [hasKey, he]
      · rename_i hy he
        have hlt : klt e.1 y.1 := by
          rcases klt_or y.1 e.1 with h | h | h
          · exact absurd h hy
          · exact absurd h he
          · exact h
        have hh : hasKey e.1 (y :: L) = false := by
          simp only [hasKey, List.any_eq_false, decide_eq_true_eq]
          intro x hx hk
          rcases List.mem_cons.1 hx with rfl | hx
          · exact he hk
          · have := klt_trans hlt (h2.1 x hx)
            rw [hk] at this
            exact klt_irrefl _ this
        rw [hh]
        simp
theorem insR_hit {e x : Ent} {A B : List Ent} (hr : Rises (A ++ x :: B)) (he : x.1 = e.1) : insR e (A ++ x :: B) = A ++ e :: B := by
  have h2 := List.pairwise_append.1 hr
  rw [insR_right e A _ fun y hy => by rw [← he]; exact h2.2.2 y hy x (by simp)]
  simp only [insR]
  rw [if_neg, if_pos he]
  rw [he]
  exact klt_irrefl _
theorem has_mid {key : ByteArray} {A M B : List Ent} (hA : ∀ x ∈ A, klt x.1 key) (hB : ∀ x ∈ B, klt key x.1) : hasKey key (A ++ (M ++ B)) = hasKey key M := by
  have h1 : hasKey key A = false := by
    simp only [hasKey, List.any_eq_false, decide_eq_true_eq]
    intro x hx hk
    have := hA x hx
    rw [hk] at this
    exact klt_irrefl _ this
  have h2 : hasKey key B = false := by
    simp only [hasKey, List.any_eq_false, decide_eq_true_eq]
    intro x hx hk
    have := hB x hx
    rw [hk] at this
    exact klt_irrefl _ this
  unfold hasKey at *
  simp [h1, h2]
theorem insR_mid {e : Ent} {A M B : List Ent} (hA : ∀ x ∈ A, klt x.1 e.1) (hB : ∀ x ∈ B, klt e.1 x.1) : insR e (A ++ (M ++ B)) = A ++ (insR e M ++ B) := by
  rw [insR_right e A _ hA, insR_left e M B hB]
/-- The keys ahead of where a key stands, and behind. -/
theorem ahead_lt {key : ByteArray} {L : List Ent} (hr : Rises L) : ∀ x ∈ L.take (ahead key L), klt x.1 key := by
  intro x hx
  obtain ⟨i, hi, rfl⟩ := List.getElem_of_mem hx
  rw [List.length_take] at hi
  rw [List.getElem_take]
  exact (ahead_spec hr i (by omega)).2 (by omega)
theorem ahead_gt {key : ByteArray} {L : List Ent} (hr : Rises L) (hk : hasKey key L = false) : ∀ x ∈ L.drop (ahead key L), klt key x.1 := by
  intro x hx
  obtain ⟨i, hi, rfl⟩ := List.getElem_of_mem hx
  rw [List.length_drop] at hi
  rw [List.getElem_drop]
  have h1 : ¬ klt L[ahead key L + i].1 key := fun h => by have := (ahead_spec hr _ (by omega)).1 h; omega
  rcases klt_or L[ahead key L + i].1 key with h | h | h
  · exact absurd h h1
  · exfalso
    have : hasKey key L = true := by
      simp only [hasKey, List.any_eq_true, decide_eq_true_eq]
      exact ⟨_, List.getElem_mem _, h⟩
    rw [hk] at this
    cases this
  · exact h
open Go.Proofs.Sep in
theorem insR_leaf {e : Ent} {L : List Ent} (hr : Rises L) (hk : hasKey e.1 L = false) : insR e L = insAt (ahead e.1 L) [e] L := by
  have h := insR_mid (e := e) (M := []) (ahead_lt (key := e.1) hr) (ahead_gt hr hk)
  rw [List.nil_append, List.take_append_drop] at h
  rw [h]
  simp [insAt, insR]
theorem insR_set {e : Ent} {L : List Ent} (hr : Rises L) (hi : ahead e.1 L < L.length) (hk : L[ahead e.1 L].1 = e.1) : insR e L = L.set (ahead e.1 L) e := by
  have h := List.take_append_drop (ahead e.1 L) L
  rw [List.drop_eq_getElem_cons hi] at h
  have hr2 := hr
  rw [← h] at hr2
  have := insR_hit hr2 hk
  rw [h] at this
  rw [this, List.set_eq_take_append_cons_drop, if_pos hi]
end Go.Proofs.Ytobgfdongidaaaa

namespace Go.Proofs.Ytobgfdongidaaaa
set_option linter.unusedVariables false
set_option linter.unusedSimpArgs false
open Go.RowKit Go.Proofs.Sep Go.Lib

def stars {α : Type} (T : Nat → α → Asn) : List Nat → List α → Asn
  | [], [] => emp
  | p :: ps, k :: ks => T p k * stars T ps ks
  | _, _ => pur False
theorem stars_app {α : Type} (T : Nat → α → Asn) : ∀ (P1 : List Nat) (K1 : List α) (P2 : List Nat) (K2 : List α), P1.length = K1.length → stars T (P1 ++ P2) (K1 ++ K2) = stars T P1 K1 * stars T P2 K2
  | [], [], P2, K2, _ => by simp only [List.nil_append, stars, emp_star]
  | p :: P1, k :: K1, P2, K2, h => by
    simp only [List.cons_append, stars]
    rw [stars_app T P1 K1 P2 K2 (by simpa using h), star_assoc]
  | [], _ :: _, _, _, h => by simp at h
  | _ :: _, [], _, _, h => by simp at h
theorem stars_len {α : Type} (T : Nat → α → Asn) {E w : World} {F : Asn} : ∀ {ps : List Nat} {ks : List α}, Sat E (stars T ps ks * F) w → ps.length = ks.length
  | [], [], _ => rfl
  | p :: ps, k :: ks, h => by
    simp only [stars] at h
    rw [star_assoc] at h
    simpa using stars_len T h.right
  | [], _ :: _, h => by simp only [stars] at h; exact (Sat.pur_left h).1.elim
  | _ :: _, [], h => by simp only [stars] at h; exact (Sat.pur_left h).1.elim
def kids : (h : Nat) → List Nat → Tr h → Asn
  | 0, qs, _ => pur (qs = [])
  | h + 1, qs, t => stars (fun q k => ex fun qs' => node q (ownE h k) qs' * kids h qs' k) qs t.2
def tree (h : Nat) (q : Nat) (t : Tr h) : Asn := ex fun qs => node q (ownE h t) qs * kids h qs t
theorem kids_succ (h : Nat) (qs : List Nat) (t : Tr (h + 1)) : kids (h + 1) qs t = stars (tree h) qs t.2 := rfl
theorem _root_.Go.Proofs.Sep.Sat.tree_open {E w : World} {F : Asn} {h q : Nat} {t : Tr h} (hS : Sat E (tree h q t * F) w) : ∃ qs, Sat E (node q (ownE h t) qs * (kids h qs t * F)) w := by
  obtain ⟨qs, h1⟩ := hS.ex_left
  exact ⟨qs, h1.eq (star_assoc _ _ _)⟩
theorem _root_.Go.Proofs.Sep.Sat.tree_shut {E w : World} {F : Asn} {h q : Nat} {t : Tr h} {qs : List Nat} {L : List Ent} (hL : L = ownE h t) (hS : Sat E (node q L qs * (kids h qs t * F)) w) : Sat E (tree h q t * F) w := by
  subst hL
  exact Sat.intro_left qs (hS.eq (star_assoc _ _ _).symm)
/-- The halves of a node. -/
def takeT : (h : Nat) → Nat → Tr h → Tr h
  | 0, n, t => List.take n t
  | _ + 1, n, t => (t.1.take n, t.2.take (n + 1))
def dropT : (h : Nat) → Nat → Tr h → Tr h
  | 0, n, t => List.drop (n + 1) t
  | _ + 1, n, t => (t.1.drop (n + 1), t.2.drop (n + 1))
theorem own_takeT (h n : Nat) (t : Tr h) : ownE h (takeT h n t) = (ownE h t).take n := by cases h <;> rfl
theorem own_dropT (h n : Nat) (t : Tr h) : ownE h (dropT h n t) = (ownE h t).drop (n + 1) := by cases h <;> rfl
theorem weave_cut : ∀ (M : List Ent) (K : List (List Ent)) (n : Nat) (hn : n < M.length), K.length = M.length + 1 → weave M K = weave (M.take n) (K.take (n + 1)) ++ M[n] :: weave (M.drop (n + 1)) (K.drop (n + 1))
  | x :: M, k :: K, 0, _, _ => by simp [weave]
  | x :: M, k :: K, n + 1, hn, h => by
    have ih := weave_cut M K n (by simpa using hn) (by simpa using h)
    simp only [weave, List.take_succ_cons, List.drop_succ_cons, List.getElem_cons_succ]
    rw [ih]
    simp
  | [], _, _, hn, _ => by simp at hn
  | _ :: _, [], _, _, h => by simp at h
theorem inord_cut {lo hi h : Nat} {t : Tr h} (hok : okT lo hi h t) (n : Nat) (hn : n < (ownE h t).length) : inord h t = inord h (takeT h n t) ++ (ownE h t)[n] :: inord h (dropT h n t) := by
  cases h with
  | zero =>
    have h1 : ∀ (L : List Ent) (hn : n < L.length), L = L.take n ++ L[n] :: L.drop (n + 1) := fun L hn => by
      rw [← List.drop_eq_getElem_cons hn, List.take_append_drop]
    exact h1 t hn
  | succ h =>
    have := weave_cut t.1 (t.2.map (inord h)) n hn (by rw [List.length_map]; exact hok.1)
    rw [← List.map_take, ← List.map_drop] at this
    exact this
theorem okT_take {lo hi h : Nat} {t : Tr h} (hok : okT lo hi h t) (n : Nat) (hn : n < (ownE h t).length) : okT lo hi h (takeT h n t) ∧ okT lo hi h (dropT h n t) := by
  cases h with
  | zero => exact ⟨trivial, trivial⟩
  | succ h =>
    obtain ⟨h1, h2⟩ := hok
    have hn' : n < t.1.length := hn
    refine ⟨⟨?_, fun k hk => h2 k (List.mem_of_mem_take hk)⟩, ⟨?_, fun k hk => h2 k (List.mem_of_mem_drop hk)⟩⟩
    · show (t.2.take (n + 1)).length = (t.1.take n).length + 1
      rw [List.length_take, List.length_take]; omega
    · show (t.2.drop (n + 1)).length = (t.1.drop (n + 1)).length + 1
      rw [List.length_drop, List.length_drop]; omega
theorem kids_cut {E w : World} {F : Asn} {lo hi h : Nat} {t : Tr h} (hok : okT lo hi h t) (n : Nat) (hn : n < (ownE h t).length) {qs : List Nat} (hS : Sat E (kids h qs t * F) w) :
    (qs = [] ∨ n + 1 ≤ qs.length) ∧ Sat E (kids h (qs.take (n + 1)) (takeT h n t) * (kids h (qs.drop (n + 1)) (dropT h n t) * F)) w := by
  cases h with
  | zero =>
    obtain ⟨rfl, h1⟩ := Sat.pur_left hS
    exact ⟨.inl rfl, (h1.add_pur rfl).add_pur rfl⟩
  | succ h =>
    have hl := stars_len _ hS
    have hn' : n < t.1.length := hn
    have h2 : t.2.length = t.1.length + 1 := hok.1
    refine ⟨.inr (by omega), ?_⟩
    have e := stars_app (tree h) (qs.take (n + 1)) (t.2.take (n + 1)) (qs.drop (n + 1)) (t.2.drop (n + 1)) (by rw [List.length_take, List.length_take]; omega)
    rw [List.take_append_drop, List.take_append_drop] at e
    rw [kids_succ, e, star_assoc] at hS
    exact hS
end Go.Proofs.Ytobgfdongidaaaa

namespace Go.Proofs.Ytobgfdongidaaaa
set_option linter.unusedVariables false
set_option linter.unusedSimpArgs false
open Go.RowKit Go.Proofs.Sep Go.Lib

theorem cut_list {α : Type} (ps : List α) (n m : Nat) (h : ps.length = n + m + 1) : ∃ P1 q P2, ps = P1 ++ q :: P2 ∧ P1.length = n :=
  ⟨ps.take n, ps[n], ps.drop (n + 1), by rw [← List.drop_eq_getElem_cons, List.take_append_drop], by rw [List.length_take]; omega⟩
theorem insAt_next {α : Type} (P1 : List α) (q r : α) (P2 : List α) (n : Nat) (h : P1.length = n) : insAt (n + 1) [r] (P1 ++ q :: P2) = P1 ++ q :: r :: P2 := by
  unfold insAt
  subst h
  have e : P1 ++ q :: P2 = (P1 ++ [q]) ++ P2 := by simp
  rw [e, List.take_left' (by simp), List.drop_left' (by simp)]
  simp
/-- What 'split' leaves of the kid. -/
structure Split (lo hi h : Nat) (i : Nat) (k : Tr h) (es es' : List Ent) (K : List (Tr h)) : Prop where
  or : (K = [k] ∧ es' = es ∧ (ownE h k).length ≤ hi) ∨
    (hi < (ownE h k).length ∧ ∃ a b x, K = [a, b] ∧ es' = insAt i [x] es ∧ inord h k = inord h a ++ x :: inord h b ∧ okT lo hi h a ∧ okT lo hi h b ∧
      lo ≤ (ownE h a).length ∧ (ownE h a).length ≤ hi ∧ lo ≤ (ownE h b).length ∧ (ownE h b).length ≤ hi)

set_option maxRecDepth 100000 in
set_option maxHeartbeats 1000000 in
theorem split_tree {E w : World} {F : Asn} (t m p lo hi h i : Nat) (u1 u2 : Value) (es : List Ent) (ps : List Nat) (K1 K2 : List (Tr h)) (k : Tr h)
    (hm3 : 3 ≤ m) (hlo : lo = (m - 1) / 2) (hhi : hi = m - 1) (hi1 : K1.length = i) (hlen : K1.length + K2.length = es.length) (hok : okT lo hi h k) (hkh : (ownE h k).length ≤ hi + 1)
    (hm : m ≤ 64) (hes : es.length ≤ 999998)
    (hS : Sat E (node p es ps * (stars (tree h) ps (K1 ++ k :: K2) * (top t m u1 u2 * F))) w) :
    Calls Try.prog 34 #[ptrv t, ptrv p, .int .i64 i] w fun e w' => (∃ v, e = .returned v) ∧ ∃ es' ps' K, Split lo hi h i k es es' K ∧ (es' = es → ps' = ps) ∧
      Sat E (node p es' ps' * (stars (tree h) ps' (K1 ++ (K ++ K2)) * (top t m u1 u2 * F))) w' := by
  have hpl := stars_len (tree h) hS.right
  simp only [List.length_append, List.length_cons] at hpl
  obtain ⟨P1, q, P2, rfl, hP1⟩ := cut_list ps K1.length K2.length (by omega)
  have hsx := stars_app (tree h) P1 K1 (q :: P2) (k :: K2) hP1
  rw [hsx] at hS
  have s1 : Sat E (tree h q k * (node p es (P1 ++ q :: P2) * (stars (tree h) P1 K1 * (stars (tree h) P2 K2 * (top t m u1 u2 * F))))) w := hS.eq (by
    show _ * (_ * (tree h q k * stars (tree h) P2 K2) * _) = _
    ac_rfl)
  obtain ⟨qs, s2⟩ := s1.tree_open
  have hq : (P1 ++ q :: P2)[i]? = some q := by rw [← hi1, ← hP1]; simp
  by_cases hfull : (ownE h k).length < m
  · have s3 : Sat E (node p es (P1 ++ q :: P2) * (node q (ownE h k) qs * (top t m u1 u2 * (kids h qs k * (stars (tree h) P1 K1 * (stars (tree h) P2 K2 * F)))))) w := s2.eq (by ac_rfl)
    refine (split_room t m p q i u1 u2 es (ownE h k) _ qs hq hfull (by rw [hpl]; omega) s3).mono ?_
    rintro e w1 ⟨hv, s4⟩
    refine ⟨hv, es, P1 ++ q :: P2, [k], ⟨.inl ⟨rfl, rfl, by omega⟩⟩, fun _ => rfl, ?_⟩
    have s5 : Sat E (tree h q k * (node p es (P1 ++ q :: P2) * (stars (tree h) P1 K1 * (stars (tree h) P2 K2 * (top t m u1 u2 * F))))) w1 := Sat.tree_shut (qs := qs) rfl (s4.eq (by ac_rfl))
    rw [show K1 ++ ([k] ++ K2) = K1 ++ k :: K2 from rfl, hsx]
    refine s5.eq ?_
    show _ = _ * (_ * (tree h q k * stars (tree h) P2 K2) * _)
    ac_rfl
  · have hown : (ownE h k).length = m := by omega
    obtain ⟨n, hn⟩ : ∃ n, n = (ownE h k).length / 2 := ⟨_, rfl⟩
    have hnm : n < (ownE h k).length := by omega
    obtain ⟨hle, s3⟩ := kids_cut hok n hnm (s2.eq (star_left_comm _ _ _))
    have hql : qs.length ≤ 1000000 := by
      cases h with
      | zero =>
        obtain ⟨h0, _⟩ := Sat.pur_left (s2.eq (star_left_comm _ _ _))
        rw [h0]; simp
      | succ h =>
        have := stars_len _ (s2.eq (star_left_comm _ _ _))
        have h2 : k.2.length = k.1.length + 1 := hok.1
        have h3 : k.1.length = m := hown
        omega
    have s4 : Sat E (node p es (P1 ++ q :: P2) * (node q (ownE h k) qs * (top t m u1 u2 * (kids h (qs.take (n + 1)) (takeT h n k) * (kids h (qs.drop (n + 1)) (dropT h n k) * (stars (tree h) P1 K1 * (stars (tree h) P2 K2 * F))))))) w := s3.eq (by ac_rfl)
    refine (split_full t m p q i n u1 u2 es (ownE h k) _ qs hq (by omega) hm3 hn hnm (by rw [hpl]; omega) (by omega) (by omega) hql (by omega) hle s4).mono ?_
    rintro e w1 ⟨r, hv, s5⟩
    obtain ⟨ok1, ok2⟩ := okT_take hok n hnm
    refine ⟨hv, insAt i [(ownE h k)[n]] es, P1 ++ q :: r :: P2, [takeT h n k, dropT h n k], ⟨.inr ⟨by omega, takeT h n k, dropT h n k, (ownE h k)[n], rfl, rfl, inord_cut hok n hnm, ok1, ok2, ?_, ?_, ?_, ?_⟩⟩, fun he => absurd (congrArg List.length he) (by rw [insAt_length es _ i (by omega)]; omega), ?_⟩
    · rw [own_takeT, List.length_take]; omega
    · rw [own_takeT, List.length_take]; omega
    · rw [own_dropT, List.length_drop]; omega
    · rw [own_dropT, List.length_drop]; omega
    have s6 : Sat E (tree h q (takeT h n k) * (node p (insAt i [(ownE h k)[n]] es) (insAt (i + 1) [r] (P1 ++ q :: P2)) * (node r ((ownE h k).drop (n + 1)) (qs.drop (n + 1)) * (kids h (qs.drop (n + 1)) (dropT h n k) * (stars (tree h) P1 K1 * (stars (tree h) P2 K2 * (top t m u1 u2 * F))))))) w1 := Sat.tree_shut (qs := qs.take (n + 1)) (own_takeT h n k).symm (s5.eq (by ac_rfl))
    have s7 : Sat E (tree h r (dropT h n k) * (tree h q (takeT h n k) * (node p (insAt i [(ownE h k)[n]] es) (insAt (i + 1) [r] (P1 ++ q :: P2)) * (stars (tree h) P1 K1 * (stars (tree h) P2 K2 * (top t m u1 u2 * F)))))) w1 := Sat.tree_shut (qs := qs.drop (n + 1)) (own_dropT h n k).symm (s6.eq (by ac_rfl))
    rw [insAt_next P1 q r P2 i (by omega)] at s7
    refine s7.eq ?_
    show _ = _ * (stars (tree h) (P1 ++ q :: r :: P2) (K1 ++ takeT h n k :: dropT h n k :: K2) * _)
    rw [stars_app (tree h) P1 K1 (q :: r :: P2) (takeT h n k :: dropT h n k :: K2) hP1]
    show _ = _ * (_ * (tree h q (takeT h n k) * (tree h r (dropT h n k) * stars (tree h) P2 K2)) * _)
    ac_rfl
end Go.Proofs.Ytobgfdongidaaaa

namespace Go.Proofs.Ytobgfdongidaaaa
set_option linter.unusedVariables false
set_option linter.unusedSimpArgs false
open Go.RowKit Go.Proofs.Sep Go.Lib

def setOwn : (h : Nat) → Tr h → List Ent → Tr h
  | 0, _, L => L
  | _ + 1, t, L => (L, t.2)
theorem own_setOwn (h : Nat) (t : Tr h) (L : List Ent) : ownE h (setOwn h t L) = L := by cases h <;> rfl
theorem kids_setOwn (h : Nat) (qs : List Nat) (t : Tr h) (L : List Ent) : kids h qs (setOwn h t L) = kids h qs t := by cases h <;> rfl
theorem ents_set {L : List Ent} {i : Nat} (e : Ent) : ∀ (_ : i < L.length), ents (L.set i e) = ((ents L).set (i * 2) (.string e.1)).set (i * 2 + 1) (.int .i64 e.2) := by
  induction L generalizing i with
  | nil => intro h; simp at h
  | cons a l ih =>
    intro h
    cases i with
    | zero => simp [ents]
    | succ i =>
      have := ih (i := i) (by simpa using h)
      rw [show (i + 1) * 2 = i * 2 + 2 by omega]
      simpa [ents] using this
theorem set_parts {es : List Ent} {i : Nat} (e : Ent) (h : i < es.length) : (es.set i e).take i = es.take i ∧ (es.set i e).drop i = e :: es.drop (i + 1) := by
  refine ⟨List.take_set_of_le (Nat.le_refl i), ?_⟩
  rw [List.set_eq_take_append_cons_drop, if_pos h, List.drop_left' (by rw [List.length_take]; omega)]
theorem ins_parts {es : List Ent} {i : Nat} (x : Ent) (h : i ≤ es.length) : (insAt i [x] es).take i = es.take i ∧ (insAt i [x] es).drop i = x :: es.drop i := by
  have h1 : (es.take i).length = i := by rw [List.length_take]; omega
  unfold insAt
  rw [List.append_assoc]
  exact ⟨List.take_left' h1, List.drop_left' h1⟩
theorem inord_set_at {h i : Nat} {es : List Ent} {ks : List (Tr h)} (h1 : ks.length = es.length + 1) (hr : Rises (inord (h + 1) (es, ks))) (e : Ent) (hi : i < es.length) (hk : es[i].1 = e.1) :
    inord (h + 1) (es.set i e, ks) = insR e (inord (h + 1) (es, ks)) := by
  obtain ⟨K1, k, K2, rfl, hK⟩ := cut_list ks i (es.length - i) (by omega)
  simp only [List.length_append, List.length_cons] at h1
  cases K2 with
  | nil => simp at h1; omega
  | cons k2 K2 =>
    have hl : (K1.map (inord h)).length = i := by rw [List.length_map, hK]
    have e1 : inord (h + 1) (es, K1 ++ k :: k2 :: K2) = (wpre (es.take i) (K1.map (inord h)) ++ inord h k) ++ es[i] :: (inord h k2 ++ wpost (es.drop (i + 1)) (K2.map (inord h))) := by
      show weave es ((K1 ++ k :: k2 :: K2).map (inord h)) = _
      rw [List.map_append, List.map_cons, weave_at es _ _ _ (by simp only [List.length_map, List.length_cons] at *; omega), hl, List.drop_eq_getElem_cons hi, List.map_cons]
      simp only [wpost, List.append_assoc]
    have e2 : inord (h + 1) (es.set i e, K1 ++ k :: k2 :: K2) = (wpre (es.take i) (K1.map (inord h)) ++ inord h k) ++ e :: (inord h k2 ++ wpost (es.drop (i + 1)) (K2.map (inord h))) := by
      show weave (es.set i e) ((K1 ++ k :: k2 :: K2).map (inord h)) = _
      rw [List.map_append, List.map_cons, weave_at _ _ _ _ (by simp only [List.length_map, List.length_cons, List.length_set] at *; omega), hl, (set_parts e hi).1, (set_parts e hi).2, List.map_cons]
      simp only [wpost, List.append_assoc]
    show inord (h + 1) (es.set i e, K1 ++ k :: k2 :: K2) = _
    rw [e1] at hr ⊢
    rw [e2]
    exact (insR_hit hr hk).symm
/-- A key that a node has: its entry turned. -/
theorem inord_set {lo hi h : Nat} {t : Tr h} (hok : okT lo hi h t) (hr : Rises (inord h t)) (e : Ent) (hi : ahead e.1 (ownE h t) < (ownE h t).length) (hk : (ownE h t)[ahead e.1 (ownE h t)].1 = e.1) :
    inord h (setOwn h t ((ownE h t).set (ahead e.1 (ownE h t)) e)) = insR e (inord h t) := by
  cases h with
  | zero => exact (insR_set hr hi hk).symm
  | succ h => exact inord_set_at hok.1 hr e hi hk
/-- A key that a node has not: the kid below. -/
theorem kid_parts {h : Nat} {es : List Ent} {K1 K2 : List (Tr h)} {k : Tr h} {key : ByteArray} (hlen : K1.length + K2.length = es.length) (hr : Rises (inord (h + 1) (es, K1 ++ k :: K2))) (hk : hasKey key es = false) (hi : K1.length = ahead key es) :
    ∃ A B, (∀ x ∈ A, klt x.1 key) ∧ (∀ x ∈ B, klt key x.1) ∧ Rises (inord h k) ∧ inord (h + 1) (es, K1 ++ k :: K2) = A ++ (inord h k ++ B) ∧
      (∀ k', inord (h + 1) (es, K1 ++ k' :: K2) = A ++ (inord h k' ++ B)) ∧
      (∀ a b x, inord (h + 1) (insAt K1.length [x] es, K1 ++ a :: b :: K2) = A ++ ((inord h a ++ x :: inord h b) ++ B)) := by
  have hes : Rises es := own_rises (h := h + 1) (t := (es, K1 ++ k :: K2)) hr
  have hl : (K1.map (inord h)).length = K1.length := List.length_map ..
  have hw : ∀ k', inord (h + 1) (es, K1 ++ k' :: K2) = wpre (es.take K1.length) (K1.map (inord h)) ++ (inord h k' ++ wpost (es.drop K1.length) (K2.map (inord h))) := fun k' => by
    show weave es ((K1 ++ k' :: K2).map (inord h)) = _
    rw [List.map_append, List.map_cons, weave_at es _ _ _ (by simp only [List.length_map] at *; omega), hl]
  have hr2 := hr
  rw [hw] at hr2
  have hr3 := (List.pairwise_append.1 hr2).2.1
  have hr4 := List.pairwise_append.1 hr3
  refine ⟨_, _, ?_, ?_, hr4.1, hw k, hw, fun a b x => ?_⟩
  · exact wpre_lt _ _ _ hr2 (by rw [hi]; exact ahead_lt hes)
  · refine wpost_gt _ _ hr4.2.1 fun x hx => ?_
    rw [hi] at hx
    exact ahead_gt hes hk x (List.mem_of_getElem? hx)
  · obtain ⟨p1, p2⟩ := ins_parts (es := es) (i := K1.length) x (by omega)
    show weave (insAt K1.length [x] es) ((K1 ++ a :: b :: K2).map (inord h)) = _
    rw [List.map_append, List.map_cons, weave_at _ _ _ _ (by rw [insAt_length es x _ (by omega)]; simp only [List.length_map, List.length_cons] at *; omega), hl, p1, p2, List.map_cons]
    simp only [wpost, List.append_assoc, List.cons_append]
/-- What 'put' and 'split' leave of a node with kids. -/
theorem put_kid {lo hi h i : Nat} {es es' : List Ent} {K1 K2 K : List (Tr h)} {k k' : Tr h} {e : Ent} (hok : okT lo hi (h + 1) (es, K1 ++ k :: K2)) (hr : Rises (inord (h + 1) (es, K1 ++ k :: K2))) (hk : hasKey e.1 es = false) (hi1 : K1.length = i) (hia : i = ahead e.1 es)
    (h1 : inord h k' = insR e (inord h k)) (h2 : okT lo hi h k') (h3 : (ownE h k).length ≤ (ownE h k').length) (hsp : Split lo hi h i k' es es' K) :
    inord (h + 1) (es', K1 ++ (K ++ K2)) = insR e (inord (h + 1) (es, K1 ++ k :: K2)) ∧ okT lo hi (h + 1) (es', K1 ++ (K ++ K2)) ∧ es.length ≤ es'.length ∧ es'.length ≤ es.length + 1 ∧
      hasKey e.1 (inord (h + 1) (es, K1 ++ k :: K2)) = hasKey e.1 (inord h k) := by
  obtain ⟨o1, o2⟩ := hok
  simp only [List.length_append, List.length_cons] at o1 o2
  obtain ⟨A, B, a1, a2, a3, a4, a5, a6⟩ := kid_parts (by omega) hr hk (by omega)
  have hin : insR e (inord (h + 1) (es, K1 ++ k :: K2)) = A ++ (insR e (inord h k) ++ B) := by rw [a4, insR_mid a1 a2]
  have hmem : ∀ x ∈ K1 ++ K2, lo ≤ (ownE h x).length ∧ (ownE h x).length ≤ hi ∧ okT lo hi h x := fun x hx => o2 x (by
    rcases List.mem_append.1 hx with h | h
    · exact List.mem_append.2 (.inl h)
    · exact List.mem_append.2 (.inr (List.mem_cons_of_mem _ h)))
  have hkk := o2 k (by simp)
  rcases hsp.or with ⟨rfl, rfl, q1⟩ | ⟨q0, a, b, x, rfl, rfl, q1, q2, q3, q4, q5, q6, q7⟩
  · refine ⟨by rw [hin, ← h1]; exact a5 k', ⟨?_, ?_⟩, Nat.le_refl _, by omega, by rw [a4, has_mid a1 a2]⟩
    · show (K1 ++ ([k'] ++ K2)).length = es'.length + 1
      simp only [List.length_append, List.length_cons, List.length_nil]; omega
    · intro y hy
      have hy : y ∈ K1 ++ (k' :: K2) := hy
      rcases List.mem_append.1 hy with h | h
      · exact hmem y (by simp [h])
      · rcases List.mem_cons.1 h with rfl | h
        · exact ⟨by omega, q1, h2⟩
        · exact hmem y (by simp [h])
  · have hl := insAt_length es x i (by omega)
    refine ⟨by rw [hin, ← h1, q1, ← hi1]; exact a6 a b x, ⟨?_, ?_⟩, by omega, by omega, by rw [a4, has_mid a1 a2]⟩
    · show (K1 ++ ([a, b] ++ K2)).length = (insAt i [x] es).length + 1
      rw [hl]
      simp only [List.length_append, List.length_cons, List.length_nil]; omega
    · intro y hy
      have hy : y ∈ K1 ++ (a :: b :: K2) := hy
      rcases List.mem_append.1 hy with h | h
      · exact hmem y (by simp [h])
      · rcases List.mem_cons.1 h with rfl | h
        · exact ⟨q4, q5, q2⟩
        · rcases List.mem_cons.1 h with rfl | h
          · exact ⟨q6, q7, q3⟩
          · exact hmem y (by simp [h])
end Go.Proofs.Ytobgfdongidaaaa
