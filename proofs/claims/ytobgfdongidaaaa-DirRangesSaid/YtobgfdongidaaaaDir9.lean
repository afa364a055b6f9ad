import Derived.Test.YtobgfdongidaaaaDir8
namespace Go.Proofs.Ytobgfdongidaaaa
set_option linter.unusedVariables false
set_option linter.unusedSimpArgs false
open Go.RowKit Go.Proofs.Sep Go.Lib

def setOwn : (h : Nat) → Tr h → List Ent → Tr h
  | 0, _, L => L
  | _ + 1, t, L => (L, t.2)
theorem own_setOwn (h : Nat) (t : Tr h) (L : List Ent) : ownE h (setOwn h t L) = L := by cases h <;> rfl
theorem kids_setOwn (h : Nat) (qs : List Nat) (t : Tr h) (L : List Ent) : kids h qs (setOwn h t L) = kids h qs t := by cases h <;> rfl
theorem ents_set {L : List Ent} {i : Nat} (e : Ent) : ∀ (_ : i < L.length), ents (L.set i e) = ((ents L).set (i * 2) (.string e.1)).set (i * 2 + 1) (.int .i64 e.2) := by
  induction L generalizing i with
  | nil => intro h; simp at h
  | cons a l ih =>
    intro h
    cases i with
    | zero => simp [ents]
    | succ i =>
      have := ih (i := i) (by simpa using h)
      rw [show (i + 1) * 2 = i * 2 + 2 by omega]
      simpa [ents] using this
theorem set_parts {es : List Ent} {i : Nat} (e : Ent) (h : i < es.length) : (es.set i e).take i = es.take i ∧ (es.set i e).drop i = e :: es.drop (i + 1) := by
  refine ⟨List.take_set_of_le (Nat.le_refl i), ?_⟩
  rw [List.set_eq_take_append_cons_drop, if_pos h, List.drop_left' (by rw [List.length_take]; omega)]
theorem ins_parts {es : List Ent} {i : Nat} (x : Ent) (h : i ≤ es.length) : (insAt i [x] es).take i = es.take i ∧ (insAt i [x] es).drop i = x :: es.drop i := by
  have h1 : (es.take i).length = i := by rw [List.length_take]; omega
  unfold insAt
  rw [List.append_assoc]
  exact ⟨List.take_left' h1, List.drop_left' h1⟩
theorem inord_set_at {h i : Nat} {es : List Ent} {ks : List (Tr h)} (h1 : ks.length = es.length + 1) (hr : Rises (inord (h + 1) (es, ks))) (e : Ent) (hi : i < es.length) (hk : es[i].1 = e.1) :
    inord (h + 1) (es.set i e, ks) = insR e (inord (h + 1) (es, ks)) := by
  obtain ⟨K1, k, K2, rfl, hK⟩ := cut_list ks i (es.length - i) (by omega)
  simp only [List.length_append, List.length_cons] at h1
  cases K2 with
  | nil => simp at h1; omega
  | cons k2 K2 =>
    have hl : (K1.map (inord h)).length = i := by rw [List.length_map, hK]
    have e1 : inord (h + 1) (es, K1 ++ k :: k2 :: K2) = (wpre (es.take i) (K1.map (inord h)) ++ inord h k) ++ es[i] :: (inord h k2 ++ wpost (es.drop (i + 1)) (K2.map (inord h))) := by
      show weave es ((K1 ++ k :: k2 :: K2).map (inord h)) = _
      rw [List.map_append, List.map_cons, weave_at es _ _ _ (by simp only [List.length_map, List.length_cons] at *; omega), hl, List.drop_eq_getElem_cons hi, List.map_cons]
      simp only [wpost, List.append_assoc]
    have e2 : inord (h + 1) (es.set i e, K1 ++ k :: k2 :: K2) = (wpre (es.take i) (K1.map (inord h)) ++ inord h k) ++ e :: (inord h k2 ++ wpost (es.drop (i + 1)) (K2.map (inord h))) := by
      show weave (es.set i e) ((K1 ++ k :: k2 :: K2).map (inord h)) = _
      rw [List.map_append, List.map_cons, weave_at _ _ _ _ (by simp only [List.length_map, List.length_cons, List.length_set] at *; omega), hl, (set_parts e hi).1, (set_parts e hi).2, List.map_cons]
      simp only [wpost, List.append_assoc]
    show inord (h + 1) (es.set i e, K1 ++ k :: k2 :: K2) = _
    rw [e1] at hr ⊢
    rw [e2]
    exact (insR_hit hr hk).symm
/-- A key that a node has: its entry turned. -/
theorem inord_set {lo hi h : Nat} {t : Tr h} (hok : okT lo hi h t) (hr : Rises (inord h t)) (e : Ent) (hi : ahead e.1 (ownE h t) < (ownE h t).length) (hk : (ownE h t)[ahead e.1 (ownE h t)].1 = e.1) :
    inord h (setOwn h t ((ownE h t).set (ahead e.1 (ownE h t)) e)) = insR e (inord h t) := by
  cases h with
  | zero => exact (insR_set hr hi hk).symm
  | succ h => exact inord_set_at hok.1 hr e hi hk
/-- A key that a node has not: the kid below. -/
theorem kid_parts {h : Nat} {es : List Ent} {K1 K2 : List (Tr h)} {k : Tr h} {key : ByteArray} (hlen : K1.length + K2.length = es.length) (hr : Rises (inord (h + 1) (es, K1 ++ k :: K2))) (hk : hasKey key es = false) (hi : K1.length = ahead key es) :
    ∃ A B, (∀ x ∈ A, klt x.1 key) ∧ (∀ x ∈ B, klt key x.1) ∧ Rises (inord h k) ∧ inord (h + 1) (es, K1 ++ k :: K2) = A ++ (inord h k ++ B) ∧
      (∀ k', inord (h + 1) (es, K1 ++ k' :: K2) = A ++ (inord h k' ++ B)) ∧
      (∀ a b x, inord (h + 1) (insAt K1.length [x] es, K1 ++ a :: b :: K2) = A ++ ((inord h a ++ x :: inord h b) ++ B)) := by
  have hes : Rises es := own_rises (h := h + 1) (t := (es, K1 ++ k :: K2)) hr
  have hl : (K1.map (inord h)).length = K1.length := List.length_map ..
  have hw : ∀ k', inord (h + 1) (es, K1 ++ k' :: K2) = wpre (es.take K1.length) (K1.map (inord h)) ++ (inord h k' ++ wpost (es.drop K1.length) (K2.map (inord h))) := fun k' => by
    show weave es ((K1 ++ k' :: K2).map (inord h)) = _
    rw [List.map_append, List.map_cons, weave_at es _ _ _ (by simp only [List.length_map] at *; omega), hl]
  have hr2 := hr
  rw [hw] at hr2
  have hr3 := (List.pairwise_append.1 hr2).2.1
  have hr4 := List.pairwise_append.1 hr3
  refine ⟨_, _, ?_, ?_, hr4.1, hw k, hw, fun a b x => ?_⟩
  · exact wpre_lt _ _ _ hr2 (by rw [hi]; exact ahead_lt hes)
  · refine wpost_gt _ _ hr4.2.1 fun x hx => ?_
    rw [hi] at hx
    exact ahead_gt hes hk x (List.mem_of_getElem? hx)
  · obtain ⟨p1, p2⟩ := ins_parts (es := es) (i := K1.length) x (by omega)
    show weave (insAt K1.length [x] es) ((K1 ++ a :: b :: K2).map (inord h)) = _
    rw [List.map_append, List.map_cons, weave_at _ _ _ _ (by rw [insAt_length es x _ (by omega)]; simp only [List.length_map, List.length_cons] at *; omega), hl, p1, p2, List.map_cons]
    simp only [wpost, List.append_assoc, List.cons_append]
/-- What 'put' and 'split' leave of a node with kids. -/
theorem put_kid {lo hi h i : Nat} {es es' : List Ent} {K1 K2 K : List (Tr h)} {k k' : Tr h} {e : Ent} (hok : okT lo hi (h + 1) (es, K1 ++ k :: K2)) (hr : Rises (inord (h + 1) (es, K1 ++ k :: K2))) (hk : hasKey e.1 es = false) (hi1 : K1.length = i) (hia : i = ahead e.1 es)
    (h1 : inord h k' = insR e (inord h k)) (h2 : okT lo hi h k') (h3 : (ownE h k).length ≤ (ownE h k').length) (hsp : Split lo hi h i k' es es' K) :
    inord (h + 1) (es', K1 ++ (K ++ K2)) = insR e (inord (h + 1) (es, K1 ++ k :: K2)) ∧ okT lo hi (h + 1) (es', K1 ++ (K ++ K2)) ∧ es.length ≤ es'.length ∧ es'.length ≤ es.length + 1 ∧
      hasKey e.1 (inord (h + 1) (es, K1 ++ k :: K2)) = hasKey e.1 (inord h k) := by
  obtain ⟨o1, o2⟩ := hok
  simp only [List.length_append, List.length_cons] at o1 o2
  obtain ⟨A, B, a1, a2, a3, a4, a5, a6⟩ := kid_parts (by omega) hr hk (by omega)
  have hin : insR e (inord (h + 1) (es, K1 ++ k :: K2)) = A ++ (insR e (inord h k) ++ B) := by rw [a4, insR_mid a1 a2]
  have hmem : ∀ x ∈ K1 ++ K2, lo ≤ (ownE h x).length ∧ (ownE h x).length ≤ hi ∧ okT lo hi h x := fun x hx => o2 x (by
    rcases List.mem_append.1 hx with h | h
    · exact List.mem_append.2 (.inl h)
    · exact List.mem_append.2 (.inr (List.mem_cons_of_mem _ h)))
  have hkk := o2 k (by simp)
  rcases hsp.or with ⟨rfl, rfl, q1⟩ | ⟨q0, a, b, x, rfl, rfl, q1, q2, q3, q4, q5, q6, q7⟩
  · refine ⟨by rw [hin, ← h1]; exact a5 k', ⟨?_, ?_⟩, Nat.le_refl _, by omega, by rw [a4, has_mid a1 a2]⟩
    · show (K1 ++ ([k'] ++ K2)).length = es'.length + 1
      simp only [List.length_append, List.length_cons, List.length_nil]; omega
    · intro y hy
      have hy : y ∈ K1 ++ (k' :: K2) := hy
      rcases List.mem_append.1 hy with h | h
      · exact hmem y (by simp [h])
      · rcases List.mem_cons.1 h with rfl | h
        · exact ⟨by omega, q1, h2⟩
        · exact hmem y (by simp [h])
  · have hl := insAt_length es x i (by omega)
    refine ⟨by rw [hin, ← h1, q1, ← hi1]; exact a6 a b x, ⟨?_, ?_⟩, by omega, by omega, by rw [a4, has_mid a1 a2]⟩
    · show (K1 ++ ([a, b] ++ K2)).length = (insAt i [x] es).length + 1
      rw [hl]
      simp only [List.length_append, List.length_cons, List.length_nil]; omega
    · intro y hy
      have hy : y ∈ K1 ++ (a :: b :: K2) := hy
      rcases List.mem_append.1 hy with h | h
      · exact hmem y (by simp [h])
      · rcases List.mem_cons.1 h with rfl | h
        · exact ⟨q4, q5, q2⟩
        · rcases List.mem_cons.1 h with rfl | h
          · exact ⟨q6, q7, q3⟩
          · exact hmem y (by simp [h])
end Go.Proofs.Ytobgfdongidaaaa
