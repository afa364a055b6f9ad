/- Who is read in a round, in plain lists. No project text; nothing here is trusted. -/
import Derived.WalkKit
namespace Go.Proofs.Sep
set_option linter.unusedVariables false
set_option linter.unusedSimpArgs false

/-- The numbers of a need that are neither had nor taken come behind what was taken. -/
def addOne (hv : List Int) (a : List Int) (x : Int) : List Int := if x ∈ hv ∨ x ∈ a then a else a ++ [x]
def addTo (hv acc xs : List Int) : List Int := xs.foldl (addOne hv) acc
theorem addTo_snoc (hv acc xs : List Int) (x : Int) : addTo hv acc (xs ++ [x]) = addOne hv (addTo hv acc xs) x := by simp [addTo]
theorem addOne_pre (hv a : List Int) (x : Int) : ∃ m, addOne hv a x = a ++ m ∧ m.length ≤ 1 := by
  unfold addOne
  split
  · exact ⟨[], by simp, by simp⟩
  · exact ⟨[x], rfl, by simp⟩
theorem addTo_pre (hv : List Int) (xs : List Int) : ∀ acc, ∃ m, addTo hv acc xs = acc ++ m ∧ m.length ≤ xs.length := by
  induction xs with
  | nil => exact fun acc => ⟨[], by simp [addTo], by simp⟩
  | cons x xs ih =>
    intro acc
    obtain ⟨m1, e1, l1⟩ := addOne_pre hv acc x
    obtain ⟨m2, e2, l2⟩ := ih (acc ++ m1)
    refine ⟨m1 ++ m2, ?_, by simp only [List.length_append, List.length_cons]; omega⟩
    show addTo hv (addOne hv acc x) xs = _
    rw [e1, e2, List.append_assoc]
theorem addTo_mono {hv acc xs : List Int} {x : Int} (h : x ∈ acc) : x ∈ addTo hv acc xs := by
  obtain ⟨m, e, _⟩ := addTo_pre hv xs acc
  rw [e]; exact List.mem_append_left _ h
theorem addTo_length_le (hv acc xs : List Int) : (addTo hv acc xs).length ≤ acc.length + xs.length := by
  obtain ⟨m, e, l⟩ := addTo_pre hv xs acc
  rw [e, List.length_append]; omega
theorem addTo_length_ge (hv acc xs : List Int) : acc.length ≤ (addTo hv acc xs).length := by
  obtain ⟨m, e, l⟩ := addTo_pre hv xs acc
  rw [e, List.length_append]; omega
theorem addTo_has {hv xs : List Int} : ∀ {acc : List Int} {x : Int}, x ∈ xs → x ∈ hv ∨ x ∈ addTo hv acc xs := by
  induction xs with
  | nil => intro _ _ h; simp at h
  | cons y xs ih =>
    intro acc x h
    show x ∈ hv ∨ x ∈ addTo hv (addOne hv acc y) xs
    rcases List.mem_cons.1 h with rfl | h
    · by_cases hx : x ∈ hv
      · exact .inl hx
      · refine .inr (addTo_mono ?_)
        unfold addOne
        split
        · rename_i hh; exact hh.resolve_left hx
        · simp
    · exact ih h
/-- Nothing twice, nothing that is had. -/
def Clean (hv a : List Int) : Prop := a.Nodup ∧ ∀ x ∈ a, x ∉ hv
theorem addTo_clean {hv xs : List Int} : ∀ {acc : List Int}, Clean hv acc → Clean hv (addTo hv acc xs) := by
  induction xs with
  | nil => exact fun h => h
  | cons y xs ih =>
    intro acc h
    refine ih ?_
    unfold addOne
    split
    · exact h
    · rename_i hn
      refine ⟨?_, ?_⟩
      · rw [List.nodup_append]
        refine ⟨h.1, by simp, ?_⟩
        intro a ha b hb
        rw [List.mem_singleton] at hb
        subst hb
        rintro rfl
        exact hn (.inr ha)
      · intro x hx
        rcases List.mem_append.1 hx with hx | hx
        · exact h.2 x hx
        · rw [List.mem_singleton] at hx
          subst hx
          exact fun h => hn (.inl h)
/-- One need more. -/
def collOne (lim : Nat) (hv : List Int) (s : List Int × List Bool) (need : List Int) : List Int × List Bool :=
  if lim < (addTo hv s.1 need).length then (s.1, s.2 ++ [true]) else (addTo hv s.1 need, s.2 ++ [false])
def coll (lim : Nat) (hv : List Int) (needs : List (List Int)) : List Int × List Bool := needs.foldl (collOne lim hv) ([], [])
theorem coll_snoc (lim : Nat) (hv : List Int) (needs : List (List Int)) (x : List Int) : coll lim hv (needs ++ [x]) = collOne lim hv (coll lim hv needs) x := by simp [coll]
theorem coll_take {lim : Nat} {hv : List Int} {needs : List (List Int)} {k : Nat} (h : k < needs.length) : coll lim hv (needs.take (k + 1)) = collOne lim hv (coll lim hv (needs.take k)) needs[k] := by
  rw [List.take_add_one, List.getElem?_eq_getElem h, Option.toList_some, coll_snoc]
theorem addTo_take {hv acc xs : List Int} {k : Nat} (h : k < xs.length) : addTo hv acc (xs.take (k + 1)) = addOne hv (addTo hv acc (xs.take k)) xs[k] := by
  rw [List.take_add_one, List.getElem?_eq_getElem h, Option.toList_some, addTo_snoc]
/-- What holds of a round of the first k needs. -/
structure CollOk (lim : Nat) (hv : List Int) (needs : List (List Int)) (k : Nat) (s : List Int × List Bool) : Prop where
  le : s.1.length ≤ lim
  late : s.2.length = k
  clean : Clean hv s.1
  has : ∀ i (hi : i < needs.length), i < k → s.2[i]? = some false → ∀ x ∈ needs[i], x ∈ hv ∨ x ∈ s.1
  first : ∀ (h : 0 < needs.length), 0 < k → needs[0].length ≤ lim → s.2[0]? = some false
theorem coll_ok (lim : Nat) (hv : List Int) (needs : List (List Int)) (k : Nat) (hk : k ≤ needs.length) : CollOk lim hv needs k (coll lim hv (needs.take k)) := by
  induction k with
  | zero => exact ⟨by simp [coll], by simp [coll], ⟨by simp [coll], by simp [coll]⟩, fun i hi h0 => by omega, fun _ h0 => by omega⟩
  | succ k ih =>
    have h := ih (by omega)
    rw [coll_take (by omega)]
    have hcur : ∀ (b : Bool) (i : Nat), i < k → ((coll lim hv (needs.take k)).2 ++ [b])[i]? = (coll lim hv (needs.take k)).2[i]? := fun b i hi => List.getElem?_append_left (by rw [h.late]; exact hi)
    have hlast : ∀ b : Bool, ((coll lim hv (needs.take k)).2 ++ [b])[k]? = some b := fun b => by
      rw [List.getElem?_append_right (by rw [h.late]; exact Nat.le_refl _), h.late, Nat.sub_self]; rfl
    unfold collOne
    split
    · rename_i hlt
      refine ⟨h.le, by simp only [List.length_append, List.length_singleton, h.late], h.clean, ?_, ?_⟩
      · intro i hi hik hf x hx
        by_cases hik2 : i = k
        · subst hik2
          simp only [hlast] at hf
          cases hf
        · simp only [hcur true i (by omega)] at hf
          exact h.has i hi (by omega) hf x hx
      · intro h0 _ hl
        by_cases hk0 : k = 0
        · subst hk0
          have := addTo_length_le hv (coll lim hv (needs.take 0)).1 needs[0]
          have e : (coll lim hv (needs.take 0)).1.length = 0 := by simp [coll]
          omega
        · simp only [hcur true 0 (by omega)]
          exact h.first h0 (by omega) hl
    · rename_i hlt
      refine ⟨by simpa using hlt, by simp only [List.length_append, List.length_singleton, h.late], addTo_clean h.clean, ?_, ?_⟩
      · intro i hi hik hf x hx
        by_cases hik2 : i = k
        · subst hik2
          exact addTo_has hx
        · simp only [hcur false i (by omega)] at hf
          exact (h.has i hi (by omega) hf x hx).imp id addTo_mono
      · intro h0 _ hl
        by_cases hk0 : k = 0
        · subst hk0; exact hlast false
        · simp only [hcur false 0 (by omega)]
          exact h.first h0 (by omega) hl
/-- With room for all. -/
def wantOf (hv : List Int) (needs : List (List Int)) : List Int := needs.foldl (addTo hv) []
theorem wantOf_take {hv : List Int} {needs : List (List Int)} {k : Nat} (h : k < needs.length) : wantOf hv (needs.take (k + 1)) = addTo hv (wantOf hv (needs.take k)) needs[k] := by
  rw [List.take_add_one, List.getElem?_eq_getElem h, Option.toList_some]
  simp only [wantOf, List.foldl_append, List.foldl_cons, List.foldl_nil]
def sumLen (needs : List (List Int)) : Nat := (needs.map List.length).sum
theorem sumLen_take {needs : List (List Int)} {k : Nat} (h : k < needs.length) : sumLen (needs.take (k + 1)) = sumLen (needs.take k) + needs[k].length := by
  rw [List.take_add_one, List.getElem?_eq_getElem h, Option.toList_some]
  simp only [sumLen, List.map_append, List.sum_append, List.map_cons, List.map_nil, List.sum_cons, List.sum_nil, Nat.add_zero]
theorem sumLen_take_le (needs : List (List Int)) (k : Nat) (hk : k ≤ needs.length) : sumLen (needs.take k) ≤ sumLen needs := by
  have : sumLen needs = sumLen (needs.take k) + sumLen (needs.drop k) := by
    rw [sumLen, sumLen, sumLen, ← List.sum_append, ← List.map_append, List.take_append_drop]
  omega
theorem wantOf_length (hv : List Int) (needs : List (List Int)) (k : Nat) (hk : k ≤ needs.length) : (wantOf hv (needs.take k)).length ≤ sumLen (needs.take k) := by
  induction k with
  | zero => simp [wantOf]
  | succ k ih =>
    rw [wantOf_take (by omega), sumLen_take (by omega)]
    have := addTo_length_le hv (wantOf hv (needs.take k)) needs[k]
    have := ih (by omega)
    omega
theorem coll_room (lim : Nat) (hv : List Int) (needs : List (List Int)) (hs : sumLen needs ≤ lim) (k : Nat) (hk : k ≤ needs.length) : coll lim hv (needs.take k) = (wantOf hv (needs.take k), List.replicate k false) := by
  induction k with
  | zero => rfl
  | succ k ih =>
    rw [coll_take (by omega), ih (by omega)]
    unfold collOne
    have h1 := wantOf_length hv needs (k + 1) hk
    have h2 := sumLen_take_le needs (k + 1) hk
    rw [wantOf_take (by omega)] at h1 ⊢
    rw [if_neg (by simp only; omega), List.replicate_succ']
/-- With room for none. -/
def lacks (hv need : List Int) : Bool := need.any fun x => decide (x ∉ hv)
theorem addTo_nil (hv xs : List Int) : (0 < (addTo hv [] xs).length) ↔ lacks hv xs = true := by
  unfold lacks
  rw [List.any_eq_true]
  constructor
  · intro h
    have hc : Clean hv (addTo hv [] xs) := addTo_clean ⟨by simp, by simp⟩
    have hsub : ∀ (xs acc : List Int) (x : Int), x ∈ addTo hv acc xs → x ∈ acc ∨ x ∈ xs := by
      intro xs
      induction xs with
      | nil => exact fun acc x h => .inl h
      | cons y xs ih =>
        intro acc x h
        rcases ih _ x h with h | h
        · unfold addOne at h
          split at h
          · exact .inl h
          · rcases List.mem_append.1 h with h | h
            · exact .inl h
            · exact .inr (by rw [List.mem_singleton] at h; subst h; simp)
        · exact .inr (List.mem_cons_of_mem _ h)
    obtain ⟨x, hx⟩ := List.exists_mem_of_length_pos h
    refine ⟨x, (hsub _ _ x hx).resolve_left (by simp), ?_⟩
    simpa using hc.2 x hx
  · rintro ⟨x, hx, hn⟩
    have hn : x ∉ hv := by simpa using hn
    exact List.length_pos_of_mem ((addTo_has (acc := []) hx).resolve_left hn)
theorem coll_none (hv : List Int) (needs : List (List Int)) (k : Nat) (hk : k ≤ needs.length) : coll 0 hv (needs.take k) = ([], (needs.take k).map (lacks hv)) := by
  induction k with
  | zero => rfl
  | succ k ih =>
    rw [coll_take (by omega), ih (by omega)]
    unfold collOne
    have hm : (needs.take (k + 1)).map (lacks hv) = (needs.take k).map (lacks hv) ++ [lacks hv needs[k]] := by
      rw [List.take_add_one, List.getElem?_eq_getElem (show k < needs.length by omega), Option.toList_some, List.map_append]; rfl
    rw [hm]
    by_cases hl : lacks hv needs[k] = true
    · rw [if_pos ((addTo_nil hv needs[k]).2 hl), hl]
    · have h0 : ¬ 0 < (addTo hv [] needs[k]).length := fun h => hl ((addTo_nil hv needs[k]).1 h)
      rw [if_neg h0]
      have e : addTo hv [] needs[k] = [] := List.eq_nil_of_length_eq_zero (by omega)
      have hl : lacks hv needs[k] = false := by simpa using hl
      rw [hl]
      exact Prod.ext e rfl
end Go.Proofs.Sep
