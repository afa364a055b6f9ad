import Derived.Test.YtobgfdongidaaaaDir6
namespace Go.Proofs.Ytobgfdongidaaaa
set_option linter.unusedVariables false
set_option linter.unusedSimpArgs false
open Go.RowKit Go.Proofs.Sep Go.Lib

/-! Deletion, plain: two neighbours and the entry between them. -/
def catT : (h : Nat) → Tr h → Ent → Tr h → Tr h
  | 0, a, x, b => List.append a (x :: b)
  | _ + 1, a, x, b => (a.1 ++ x :: b.1, a.2 ++ b.2)
theorem own_catT (h : Nat) (a b : Tr h) (x : Ent) : ownE h (catT h a x b) = ownE h a ++ x :: ownE h b := by cases h <;> rfl
theorem weave_cat : ∀ (M1 : List Ent) (K1 : List (List Ent)) (x : Ent) (M2 : List Ent) (K2 : List (List Ent)), K1.length = M1.length + 1 → weave (M1 ++ x :: M2) (K1 ++ K2) = weave M1 K1 ++ x :: weave M2 K2
  | [], [k], x, M2, K2, _ => by simp [weave]
  | m :: M1, k :: K1, x, M2, K2, h => by
    have ih := weave_cat M1 K1 x M2 K2 (by simpa using h)
    simp only [List.cons_append, weave, ih, List.append_assoc]
  | [], [], _, _, _, h => by simp at h
  | [], _ :: _ :: _, _, _, _, h => by simp at h
  | _ :: _, [], _, _, _, h => by simp at h
theorem inord_cat {lo hi h : Nat} {a b : Tr h} (x : Ent) (hok : okT lo hi h a) : inord h (catT h a x b) = inord h a ++ x :: inord h b := by
  cases h with
  | zero => rfl
  | succ h =>
    show weave (a.1 ++ x :: b.1) ((a.2 ++ b.2).map (inord h)) = _
    rw [List.map_append, weave_cat _ _ _ _ _ (by rw [List.length_map]; exact hok.1)]
    rfl
theorem okT_cat {lo hi h : Nat} {a b : Tr h} (x : Ent) (ha : okT lo hi h a) (hb : okT lo hi h b) : okT lo hi h (catT h a x b) := by
  cases h with
  | zero => trivial
  | succ h =>
    refine ⟨?_, fun k hk => ?_⟩
    · show (a.2 ++ b.2).length = (a.1 ++ x :: b.1).length + 1
      have h1 := ha.1
      have h2 := hb.1
      simp only [List.length_append, List.length_cons]
      omega
    · rcases List.mem_append.1 hk with hk | hk
      · exact ha.2 k hk
      · exact hb.2 k hk
/-- Two neighbours in their node. -/
theorem inord_pair {h : Nat} (E1 E2 : List Ent) (J1 J2 : List (Tr h)) (hl : J1.length = E1.length) (hl2 : J2.length = E2.length) (a b : Tr h) (x : Ent) :
    inord (h + 1) (E1 ++ x :: E2, J1 ++ a :: b :: J2) = wpre E1 (J1.map (inord h)) ++ ((inord h a ++ x :: inord h b) ++ wpost E2 (J2.map (inord h))) := by
  show weave (E1 ++ x :: E2) ((J1 ++ a :: b :: J2).map (inord h)) = _
  have e : J1 ++ a :: b :: J2 = (J1 ++ a :: []) ++ b :: J2 := by simp
  rw [e, List.map_append, weave_cat _ _ _ _ _ (by simp [hl]), List.map_append, List.map_cons, List.map_cons, weave_at _ _ _ _ (by simp [hl]), weave_post _ _ _ (by simp [hl2])]
  rw [List.length_map, hl, List.take_length, List.drop_length]
  simp [wpost]
theorem inord_one {h : Nat} (E1 E2 : List Ent) (J1 J2 : List (Tr h)) (hl : J1.length = E1.length) (hl2 : J2.length = E2.length) (c : Tr h) :
    inord (h + 1) (E1 ++ E2, J1 ++ c :: J2) = wpre E1 (J1.map (inord h)) ++ (inord h c ++ wpost E2 (J2.map (inord h))) := by
  show weave (E1 ++ E2) ((J1 ++ c :: J2).map (inord h)) = _
  rw [List.map_append, List.map_cons, weave_at _ _ _ _ (by simp [hl, hl2]), List.length_map, hl, List.take_left' rfl, List.drop_left' rfl]

/-- What 'fill' leaves of a node. -/
structure Filled (lo hi h : Nat) (es : List Ent) (ks : List (Tr h)) (es' : List Ent) (ks' : List (Tr h)) : Prop where
  ord : inord (h + 1) (es', ks') = inord (h + 1) (es, ks)
  ok : okT lo hi (h + 1) (es', ks')
  le : es'.length ≤ es.length
  ge : es.length ≤ es'.length + 1
/-- A kid that may lack one. -/
structure Lacks (lo hi h : Nat) (es : List Ent) (K1 : List (Tr h)) (k : Tr h) (K2 : List (Tr h)) : Prop where
  len : K1.length + K2.length = es.length
  left : ∀ x ∈ K1, lo ≤ (ownE h x).length ∧ (ownE h x).length ≤ hi ∧ okT lo hi h x
  right : ∀ x ∈ K2, lo ≤ (ownE h x).length ∧ (ownE h x).length ≤ hi ∧ okT lo hi h x
  ok : okT lo hi h k
  low : lo ≤ (ownE h k).length + 1
  high : (ownE h k).length ≤ hi
theorem filled_none {lo hi h : Nat} {es : List Ent} {K1 K2 : List (Tr h)} {k : Tr h} (hL : Lacks lo hi h es K1 k K2) (hk : lo ≤ (ownE h k).length) : Filled lo hi h es (K1 ++ k :: K2) es (K1 ++ k :: K2) where
  ord := rfl
  ok := ⟨by have := hL.len; show (K1 ++ k :: K2).length = es.length + 1; simp only [List.length_append, List.length_cons]; omega, fun x hx => by
    rcases List.mem_append.1 hx with hx | hx
    · exact hL.left x hx
    · rcases List.mem_cons.1 hx with rfl | hx
      · exact ⟨hk, hL.high, hL.ok⟩
      · exact hL.right x hx⟩
  le := Nat.le_refl _
  ge := by omega
theorem filled_pair {lo hi h : Nat} {E1 E2 : List Ent} {J1 J2 : List (Tr h)} {a b a' b' : Tr h} {x y : Ent} (hl : J1.length = E1.length) (hl2 : J2.length = E2.length)
    (o1 : ∀ x ∈ J1, lo ≤ (ownE h x).length ∧ (ownE h x).length ≤ hi ∧ okT lo hi h x) (o2 : ∀ x ∈ J2, lo ≤ (ownE h x).length ∧ (ownE h x).length ≤ hi ∧ okT lo hi h x)
    (ha : okT lo hi h a') (hb : okT lo hi h b') (a1 : lo ≤ (ownE h a').length) (a2 : (ownE h a').length ≤ hi) (b1 : lo ≤ (ownE h b').length) (b2 : (ownE h b').length ≤ hi)
    (he : inord h a' ++ y :: inord h b' = inord h a ++ x :: inord h b) : Filled lo hi h (E1 ++ x :: E2) (J1 ++ a :: b :: J2) (E1 ++ y :: E2) (J1 ++ a' :: b' :: J2) where
  ord := by rw [inord_pair _ _ _ _ hl hl2, inord_pair _ _ _ _ hl hl2, he]
  ok := ⟨by show (J1 ++ a' :: b' :: J2).length = (E1 ++ y :: E2).length + 1; simp only [List.length_append, List.length_cons]; omega, fun z hz => by
    rcases List.mem_append.1 hz with hz | hz
    · exact o1 z hz
    · rcases List.mem_cons.1 hz with rfl | hz
      · exact ⟨a1, a2, ha⟩
      · rcases List.mem_cons.1 hz with rfl | hz
        · exact ⟨b1, b2, hb⟩
        · exact o2 z hz⟩
  le := by simp
  ge := by simp
theorem filled_join {lo hi h : Nat} {E1 E2 : List Ent} {J1 J2 : List (Tr h)} {a b c : Tr h} {x : Ent} (hl : J1.length = E1.length) (hl2 : J2.length = E2.length)
    (o1 : ∀ x ∈ J1, lo ≤ (ownE h x).length ∧ (ownE h x).length ≤ hi ∧ okT lo hi h x) (o2 : ∀ x ∈ J2, lo ≤ (ownE h x).length ∧ (ownE h x).length ≤ hi ∧ okT lo hi h x)
    (hc : okT lo hi h c) (c1 : lo ≤ (ownE h c).length) (c2 : (ownE h c).length ≤ hi) (he : inord h c = inord h a ++ x :: inord h b) : Filled lo hi h (E1 ++ x :: E2) (J1 ++ a :: b :: J2) (E1 ++ E2) (J1 ++ c :: J2) where
  ord := by rw [inord_pair _ _ _ _ hl hl2, inord_one _ _ _ _ hl hl2, he]
  ok := ⟨by show (J1 ++ c :: J2).length = (E1 ++ E2).length + 1; simp only [List.length_append, List.length_cons]; omega, fun z hz => by
    rcases List.mem_append.1 hz with hz | hz
    · exact o1 z hz
    · rcases List.mem_cons.1 hz with rfl | hz
      · exact ⟨c1, c2, hc⟩
      · exact o2 z hz⟩
  le := by simp
  ge := by simp only [List.length_append, List.length_cons]; omega
/-- A shift: the two laid in one, and cut elsewhere. -/
theorem filled_cut {lo hi h : Nat} {E1 E2 : List Ent} {J1 J2 : List (Tr h)} {a b : Tr h} {x : Ent} (n : Nat) (hl : J1.length = E1.length) (hl2 : J2.length = E2.length)
    (o1 : ∀ x ∈ J1, lo ≤ (ownE h x).length ∧ (ownE h x).length ≤ hi ∧ okT lo hi h x) (o2 : ∀ x ∈ J2, lo ≤ (ownE h x).length ∧ (ownE h x).length ≤ hi ∧ okT lo hi h x)
    (ha : okT lo hi h a) (hb : okT lo hi h b) (hn : n < (ownE h a ++ x :: ownE h b).length) (n1 : lo ≤ n) (n2 : n ≤ hi) (n3 : lo + n ≤ (ownE h a).length + (ownE h b).length) (n4 : (ownE h a).length + (ownE h b).length ≤ hi + n) :
    Filled lo hi h (E1 ++ x :: E2) (J1 ++ a :: b :: J2) (E1 ++ (ownE h a ++ x :: ownE h b)[n] :: E2) (J1 ++ takeT h n (catT h a x b) :: dropT h n (catT h a x b) :: J2) := by
  have hc := okT_cat x ha hb
  have hnn : n < (ownE h (catT h a x b)).length := by rw [own_catT]; exact hn
  obtain ⟨t1, t2⟩ := okT_take hc n hnn
  have hcut := inord_cut hc n hnn
  rw [inord_cat x ha] at hcut
  have e : (ownE h a ++ x :: ownE h b)[n] = (ownE h (catT h a x b))[n] := by simp only [own_catT]
  simp only [List.length_append, List.length_cons] at hn
  refine filled_pair hl hl2 o1 o2 t1 t2 ?_ ?_ ?_ ?_ (by rw [e]; exact hcut.symm)
  all_goals
    first | rw [own_takeT, own_catT] | rw [own_dropT, own_catT]
    simp only [List.length_take, List.length_drop, List.length_append, List.length_cons]
    omega
theorem filled_cat {lo hi h : Nat} {E1 E2 : List Ent} {J1 J2 : List (Tr h)} {a b : Tr h} {x : Ent} (hl : J1.length = E1.length) (hl2 : J2.length = E2.length)
    (o1 : ∀ x ∈ J1, lo ≤ (ownE h x).length ∧ (ownE h x).length ≤ hi ∧ okT lo hi h x) (o2 : ∀ x ∈ J2, lo ≤ (ownE h x).length ∧ (ownE h x).length ≤ hi ∧ okT lo hi h x)
    (ha : okT lo hi h a) (hb : okT lo hi h b) (n1 : lo ≤ (ownE h a).length + (ownE h b).length + 1) (n2 : (ownE h a).length + (ownE h b).length + 1 ≤ hi) :
    Filled lo hi h (E1 ++ x :: E2) (J1 ++ a :: b :: J2) (E1 ++ E2) (J1 ++ catT h a x b :: J2) := by
  refine filled_join hl hl2 o1 o2 (okT_cat x ha hb) ?_ ?_ (inord_cat x ha)
  all_goals
    rw [own_catT]
    simp only [List.length_append, List.length_cons]
    omega

/-! What 'Delete' leaves of the sorted list. -/
def delR (key : ByteArray) (L : List Ent) : List Ent := L.filter fun x => !decide (x.1 = key)
theorem delR_keep {key : ByteArray} {L : List Ent} (h : ∀ x ∈ L, x.1 ≠ key) : delR key L = L := List.filter_eq_self.2 fun x hx => by simpa using h x hx
theorem delR_mid {key : ByteArray} {A M B : List Ent} (hA : ∀ x ∈ A, klt x.1 key) (hB : ∀ x ∈ B, klt key x.1) : delR key (A ++ (M ++ B)) = A ++ (delR key M ++ B) := by
  have h1 : delR key A = A := delR_keep fun x hx e => by have := hA x hx; rw [e] at this; exact klt_irrefl _ this
  have h2 : delR key B = B := delR_keep fun x hx e => by have := hB x hx; rw [e] at this; exact klt_irrefl _ this
  unfold delR at *
  rw [List.filter_append, List.filter_append, h1, h2]
theorem delR_no {key : ByteArray} {L : List Ent} (h : hasKey key L = false) : delR key L = L := delR_keep fun x hx e => by
  simp only [hasKey, List.any_eq_false, decide_eq_true_eq] at h
  exact h x hx e
theorem delR_at {key : ByteArray} {A B : List Ent} {x : Ent} (hr : Rises (A ++ x :: B)) (hk : x.1 = key) : delR key (A ++ x :: B) = A ++ B := by
  have h2 := List.pairwise_append.1 hr
  have h3 := List.pairwise_cons.1 h2.2.1
  have := delR_mid (key := key) (A := A) (M := [x]) (B := B) (fun y hy => by rw [← hk]; exact h2.2.2 y hy x (by simp)) (fun y hy => by rw [← hk]; exact h3.1 y hy)
  rw [show A ++ x :: B = A ++ ([x] ++ B) from rfl, this]
  simp [delR, hk]
theorem delR_rises (key : ByteArray) (L : List Ent) (h : Rises L) : Rises (delR key L) := List.Pairwise.sublist List.filter_sublist h
theorem delR_le (key : ByteArray) (L : List Ent) : (delR key L).length ≤ L.length := List.length_filter_le _ _
end Go.Proofs.Ytobgfdongidaaaa
