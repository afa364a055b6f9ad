import Derived.Test.YtobgfdongidaaaaDir4
namespace Go.Proofs.Ytobgfdongidaaaa
set_option linter.unusedVariables false
set_option linter.unusedSimpArgs false

/-! Trees of a height, plain. -/
def Tr : Nat → Type
  | 0 => List Ent
  | h + 1 => List Ent × List (Tr h)
def ownE : (h : Nat) → Tr h → List Ent
  | 0, t => t
  | _ + 1, t => t.1
def weave : List Ent → List (List Ent) → List Ent
  | [], ks => ks.flatten
  | e :: es, [] => e :: es
  | e :: es, k :: ks => k ++ e :: weave es ks
def inord : (h : Nat) → Tr h → List Ent
  | 0, t => t
  | h + 1, t => weave t.1 (t.2.map (inord h))
def okT (lo hi : Nat) : (h : Nat) → Tr h → Prop
  | 0, _ => True
  | h + 1, t => t.2.length = t.1.length + 1 ∧ ∀ k ∈ t.2, lo ≤ (ownE h k).length ∧ (ownE h k).length ≤ hi ∧ okT lo hi h k
/-- What stands ahead of a kid, and behind it. -/
def wpre : List Ent → List (List Ent) → List Ent
  | e :: es, k :: ks => k ++ e :: wpre es ks
  | _, _ => []
def wpost : List Ent → List (List Ent) → List Ent
  | e :: es, k :: ks => e :: (k ++ wpost es ks)
  | _, _ => []
theorem weave_post : ∀ (es : List Ent) (k : List Ent) (K : List (List Ent)), K.length = es.length → weave es (k :: K) = k ++ wpost es K
  | [], k, [], _ => by simp [weave, wpost]
  | e :: es, k, k2 :: K, h => by
    simp only [weave, wpost]
    rw [weave_post es k2 K (by simpa using h)]
theorem weave_at : ∀ (es : List Ent) (K1 : List (List Ent)) (k : List Ent) (K2 : List (List Ent)), K1.length + K2.length = es.length →
    weave es (K1 ++ k :: K2) = wpre (es.take K1.length) K1 ++ (k ++ wpost (es.drop K1.length) K2)
  | es, [], k, K2, h => by simpa [wpre] using weave_post es k K2 (by simpa using h)
  | [], _ :: _, _, _, h => by simp at h
  | e :: es, k1 :: K1, k, K2, h => by
    have ih := weave_at es K1 k K2 (by simp only [List.length_cons] at h; omega)
    simp only [List.cons_append, weave, List.length_cons, List.take_succ_cons, List.drop_succ_cons, wpre, ih, List.append_assoc]
theorem weave_sub : ∀ (es : List Ent) (ks : List (List Ent)), es.Sublist (weave es ks)
  | [], ks => by simp
  | e :: es, [] => by simp [weave]
  | e :: es, k :: ks => by
    simp only [weave]
    exact ((weave_sub es ks).cons_cons e).trans (List.sublist_append_right _ _)
theorem own_rises {h : Nat} {t : Tr h} (hr : Rises (inord h t)) : Rises (ownE h t) := by
  cases h with
  | zero => exact hr
  | succ h => exact List.Pairwise.sublist (weave_sub _ _) hr
theorem own_le {h : Nat} (t : Tr h) : (ownE h t).length ≤ (inord h t).length := by
  cases h with
  | zero => exact Nat.le_refl _
  | succ h => exact (weave_sub _ _).length_le
/-- What 'put' does to what is there. -/
def insR (e : Ent) : List Ent → List Ent
  | [] => [e]
  | x :: L => if klt x.1 e.1 then x :: insR e L else if x.1 = e.1 then e :: L else e :: x :: L
theorem insR_right (e : Ent) : ∀ (A B : List Ent), (∀ x ∈ A, klt x.1 e.1) → insR e (A ++ B) = A ++ insR e B
  | [], _, _ => rfl
  | x :: A, B, h => by
    simp only [List.cons_append, insR]
    rw [if_pos (h x (by simp)), insR_right e A B fun y hy => h y (by simp [hy])]
theorem insR_left (e : Ent) : ∀ (B C : List Ent), (∀ x ∈ C, klt e.1 x.1) → insR e (B ++ C) = insR e B ++ C
  | [], [], _ => rfl
  | [], c :: C, h => by
    have hc := h c (by simp)
    simp only [List.nil_append, insR]
    rw [if_neg (klt_asymm hc), if_neg]
    · rfl
    · intro e2
      rw [e2] at hc
      exact klt_irrefl _ hc
  | b :: B, C, h => by
    simp only [List.cons_append, insR]
    split
    · rw [insR_left e B C h]; rfl
    · split <;> rfl
theorem wpre_lt {key : ByteArray} : ∀ (es : List Ent) (K : List (List Ent)) (R : List Ent), Rises (wpre es K ++ R) → (∀ x ∈ es, klt x.1 key) → ∀ x ∈ wpre es K, klt x.1 key
  | [], _, _, _, _ => by simp [wpre]
  | e :: es, [], _, _, _ => by simp [wpre]
  | e :: es, k :: K, R, hr, he => by
    intro x hx
    have h0 := he e (by simp)
    simp only [wpre, List.append_assoc, List.cons_append] at hr hx
    have hr2 := List.pairwise_append.1 hr
    rcases List.mem_append.1 hx with hx | hx
    · exact klt_trans (hr2.2.2 x hx e (by simp)) h0
    · rcases List.mem_cons.1 hx with rfl | hx
      · exact h0
      · exact wpre_lt es K R (List.pairwise_cons.1 hr2.2.1).2 (fun y hy => he y (by simp [hy])) x hx
theorem wpost_gt {key : ByteArray} (es : List Ent) (K : List (List Ent)) (hr : Rises (wpost es K)) (he : ∀ x, es[0]? = some x → klt key x.1) : ∀ x ∈ wpost es K, klt key x.1 := by
  cases es with
  | nil => simp [wpost]
  | cons e es =>
    cases K with
    | nil => simp [wpost]
    | cons k K =>
      intro x hx
      have h0 := he e rfl
      simp only [wpost] at hr hx
      rcases List.mem_cons.1 hx with rfl | hx
      · exact h0
      · exact klt_trans h0 ((List.pairwise_cons.1 hr).1 x hx)
theorem insR_mem (e : Ent) : ∀ (L : List Ent), ∀ x ∈ insR e L, x = e ∨ x ∈ L
  | [], x, hx => by simp [insR] at hx; exact .inl hx
  | y :: L, x, hx => by
    simp only [insR] at hx
    split at hx
    · rcases List.mem_cons.1 hx with rfl | hx
      · exact .inr (by simp)
      · rcases insR_mem e L x hx with h | h
        · exact .inl h
        · exact .inr (by simp [h])
    · split at hx
      · rcases List.mem_cons.1 hx with rfl | hx
        · exact .inl rfl
        · exact .inr (by simp [hx])
      · rcases List.mem_cons.1 hx with rfl | hx
        · exact .inl rfl
        · exact .inr hx
theorem insR_rises (e : Ent) : ∀ (L : List Ent), Rises L → Rises (insR e L)
  | [], _ => by simp [insR, Rises]
  | y :: L, h => by
    have h2 := List.pairwise_cons.1 h
    simp only [insR]
    split
    · rename_i hy
      refine List.pairwise_cons.2 ⟨fun x hx => ?_, insR_rises e L h2.2⟩
      rcases insR_mem e L x hx with rfl | hx
      · exact hy
      · exact h2.1 x hx
    · rename_i hy
      split
      · rename_i he
        exact List.pairwise_cons.2 ⟨fun x hx => by rw [← he]; exact h2.1 x hx, h2.2⟩
      · rename_i he
        have hlt : klt e.1 y.1 := by
          rcases klt_or y.1 e.1 with h | h | h
          · exact absurd h hy
          · exact absurd h he
          · exact h
        refine List.pairwise_cons.2 ⟨fun x hx => ?_, h⟩
        rcases List.mem_cons.1 hx with rfl | hx
        · exact hlt
        · exact klt_trans hlt (h2.1 x hx)
theorem insR_length (e : Ent) : ∀ (L : List Ent), Rises L → (insR e L).length = L.length + if hasKey e.1 L then 0 else 1
  | [], _ => by simp [insR, hasKey]
  | y :: L, h => by
    have h2 := List.pairwise_cons.1 h
    have ih := insR_length e L h2.2
    simp only [insR]
    split
    · rename_i hy
      have hne : ¬ y.1 = e.1 := fun he => klt_irrefl e.1 (by rw [he] at hy; exact hy)
      have hh : hasKey e.1 (y :: L) = hasKey e.1 L := by simp [hasKey, hne]
      rw [hh, List.length_cons, ih, List.length_cons]
      omega
    · split
      · rename_i he
        simp [hasKey, he]
      · rename_i hy he
        have hlt : klt e.1 y.1 := by
          rcases klt_or y.1 e.1 with h | h | h
          · exact absurd h hy
          · exact absurd h he
          · exact h
        have hh : hasKey e.1 (y :: L) = false := by
          simp only [hasKey, List.any_eq_false, decide_eq_true_eq]
          intro x hx hk
          rcases List.mem_cons.1 hx with rfl | hx
          · exact he hk
          · have := klt_trans hlt (h2.1 x hx)
            rw [hk] at this
            exact klt_irrefl _ this
        rw [hh]
        simp
theorem insR_hit {e x : Ent} {A B : List Ent} (hr : Rises (A ++ x :: B)) (he : x.1 = e.1) : insR e (A ++ x :: B) = A ++ e :: B := by
  have h2 := List.pairwise_append.1 hr
  rw [insR_right e A _ fun y hy => by rw [← he]; exact h2.2.2 y hy x (by simp)]
  simp only [insR]
  rw [if_neg, if_pos he]
  rw [he]
  exact klt_irrefl _
theorem has_mid {key : ByteArray} {A M B : List Ent} (hA : ∀ x ∈ A, klt x.1 key) (hB : ∀ x ∈ B, klt key x.1) : hasKey key (A ++ (M ++ B)) = hasKey key M := by
  have h1 : hasKey key A = false := by
    simp only [hasKey, List.any_eq_false, decide_eq_true_eq]
    intro x hx hk
    have := hA x hx
    rw [hk] at this
    exact klt_irrefl _ this
  have h2 : hasKey key B = false := by
    simp only [hasKey, List.any_eq_false, decide_eq_true_eq]
    intro x hx hk
    have := hB x hx
    rw [hk] at this
    exact klt_irrefl _ this
  unfold hasKey at *
  simp [h1, h2]
theorem insR_mid {e : Ent} {A M B : List Ent} (hA : ∀ x ∈ A, klt x.1 e.1) (hB : ∀ x ∈ B, klt e.1 x.1) : insR e (A ++ (M ++ B)) = A ++ (insR e M ++ B) := by
  rw [insR_right e A _ hA, insR_left e M B hB]
/-- The keys ahead of where a key stands, and behind. -/
theorem ahead_lt {key : ByteArray} {L : List Ent} (hr : Rises L) : ∀ x ∈ L.take (ahead key L), klt x.1 key := by
  intro x hx
  obtain ⟨i, hi, rfl⟩ := List.getElem_of_mem hx
  rw [List.length_take] at hi
  rw [List.getElem_take]
  exact (ahead_spec hr i (by omega)).2 (by omega)
theorem ahead_gt {key : ByteArray} {L : List Ent} (hr : Rises L) (hk : hasKey key L = false) : ∀ x ∈ L.drop (ahead key L), klt key x.1 := by
  intro x hx
  obtain ⟨i, hi, rfl⟩ := List.getElem_of_mem hx
  rw [List.length_drop] at hi
  rw [List.getElem_drop]
  have h1 : ¬ klt L[ahead key L + i].1 key := fun h => by have := (ahead_spec hr _ (by omega)).1 h; omega
  rcases klt_or L[ahead key L + i].1 key with h | h | h
  · exact absurd h h1
  · exfalso
    have : hasKey key L = true := by
      simp only [hasKey, List.any_eq_true, decide_eq_true_eq]
      exact ⟨_, List.getElem_mem _, h⟩
    rw [hk] at this
    cases this
  · exact h
open Go.Proofs.Sep in
theorem insR_leaf {e : Ent} {L : List Ent} (hr : Rises L) (hk : hasKey e.1 L = false) : insR e L = insAt (ahead e.1 L) [e] L := by
  have h := insR_mid (e := e) (M := []) (ahead_lt (key := e.1) hr) (ahead_gt hr hk)
  rw [List.nil_append, List.take_append_drop] at h
  rw [h]
  simp [insAt, insR]
theorem insR_set {e : Ent} {L : List Ent} (hr : Rises L) (hi : ahead e.1 L < L.length) (hk : L[ahead e.1 L].1 = e.1) : insR e L = L.set (ahead e.1 L) e := by
  have h := List.take_append_drop (ahead e.1 L) L
  rw [List.drop_eq_getElem_cons hi] at h
  have hr2 := hr
  rw [← h] at hr2
  have := insR_hit hr2 hk
  rw [h] at this
  rw [this, List.set_eq_take_append_cons_drop, if_pos hi]
end Go.Proofs.Ytobgfdongidaaaa
