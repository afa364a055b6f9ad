/- Numbers that are free, in plain lists. No project text; nothing here is trusted. -/
import Derived.WalkKit
namespace Go.Proofs.Sep
set_option linter.unusedVariables false
set_option linter.unusedSimpArgs false

/-- Which of the numbers below n are not among T. -/
def poolOf (n : Nat) (T : List Int) : List Bool := (List.range n).map fun i : Nat => decide ((i : Int) ∉ T)
def allI (n : Nat) : List Int := (List.range n).map fun i : Nat => (i : Int)
def freeOf (n : Nat) (T : List Int) : List Int := (allI n).filter fun x => decide (x ∉ T)
theorem poolOf_length (n : Nat) (T : List Int) : (poolOf n T).length = n := by simp [poolOf]
theorem poolOf_at {n : Nat} {T : List Int} {i : Nat} (h : i < (poolOf n T).length) : (poolOf n T)[i] = decide ((i : Int) ∉ T) := by simp [poolOf]
theorem mem_allI {n : Nat} {x : Int} : x ∈ allI n ↔ 0 ≤ x ∧ x < n := by
  unfold allI
  rw [List.mem_map]
  constructor
  · rintro ⟨i, hi, rfl⟩
    rw [List.mem_range] at hi
    omega
  · rintro ⟨h0, h1⟩
    exact ⟨x.toNat, List.mem_range.2 (by omega), by omega⟩
theorem mem_freeOf {n : Nat} {T : List Int} {x : Int} : x ∈ freeOf n T ↔ (0 ≤ x ∧ x < n) ∧ x ∉ T := by
  unfold freeOf
  rw [List.mem_filter, mem_allI]
  simp
theorem allI_succ (k : Nat) : allI (k + 1) = allI k ++ [(k : Int)] := by simp [allI, List.range_succ]
theorem freeOf_succ (k : Nat) (T : List Int) : freeOf (k + 1) T = freeOf k T ++ if (k : Int) ∉ T then [(k : Int)] else [] := by
  unfold freeOf
  rw [allI_succ, List.filter_append]
  congr 1
  by_cases h : (k : Int) ∈ T <;> simp [h]
theorem freeOf_in {k : Nat} {T : List Int} (h : (k : Int) ∈ T) : freeOf (k + 1) T = freeOf k T := by rw [freeOf_succ, if_neg (by simpa using h), List.append_nil]
theorem freeOf_out {k : Nat} {T : List Int} (h : (k : Int) ∉ T) : freeOf (k + 1) T = freeOf k T ++ [(k : Int)] := by rw [freeOf_succ, if_pos h]
theorem allI_length (n : Nat) : (allI n).length = n := by simp [allI]
theorem freeOf_length_le (n : Nat) (T : List Int) : (freeOf n T).length ≤ n := by
  have := List.length_filter_le (fun x => decide (x ∉ T)) (allI n)
  rw [allI_length] at this
  exact this
theorem allI_less (n : Nat) : (allI n).Pairwise (· < ·) := by
  unfold allI
  rw [List.pairwise_map]
  refine List.pairwise_lt_range.imp ?_
  intro a b h
  omega
theorem freeOf_less (n : Nat) (T : List Int) : (freeOf n T).Pairwise (· < ·) := (allI_less n).filter _
theorem allI_nodup (n : Nat) : (allI n).Nodup := (allI_less n).imp (by intro a b h; omega)
theorem freeOf_nodup (n : Nat) (T : List Int) : (freeOf n T).Nodup := (freeOf_less n T).imp (by intro a b h; omega)
theorem freeOf_congr {n : Nat} {T U : List Int} (h : ∀ x : Int, 0 ≤ x → x < n → (x ∈ T ↔ x ∈ U)) : freeOf n T = freeOf n U := by
  unfold freeOf
  apply List.filter_congr
  intro x hx
  rw [mem_allI] at hx
  simp [h x hx.1 hx.2]
/-- The least one is the first. -/
theorem freeOf_first {n k : Nat} {T : List Int} (h0 : freeOf k T = []) (hk : k < n) (hn : (k : Int) ∉ T) : freeOf n T = (k : Int) :: freeOf n (T ++ [(k : Int)]) := by
  have key : ∀ d, freeOf (k + 1 + d) T = (k : Int) :: freeOf (k + 1 + d) (T ++ [(k : Int)]) := by
    intro d
    induction d with
    | zero =>
      rw [Nat.add_zero, freeOf_out hn, freeOf_in (by simp), h0]
      have : freeOf k (T ++ [(k : Int)]) = [] := by
        apply List.eq_nil_iff_forall_not_mem.2
        intro x hx
        rw [mem_freeOf] at hx
        have : x ∈ freeOf k T := mem_freeOf.2 ⟨hx.1, fun h => hx.2 (by simp [h])⟩
        rw [h0] at this
        simp at this
      rw [this]; rfl
    | succ d ih =>
      have hne : ((k + 1 + d : Nat) : Int) ≠ (k : Int) := by omega
      rw [show k + 1 + (d + 1) = k + 1 + d + 1 by omega]
      by_cases hm : ((k + 1 + d : Nat) : Int) ∈ T
      · rw [freeOf_in hm, freeOf_in (by simp only [List.mem_append]; exact .inl hm), ih]
      · rw [freeOf_out hm, freeOf_out (by simp only [List.mem_append, List.mem_singleton]; exact fun h => h.elim hm hne), ih]; rfl
  have := key (n - (k + 1))
  rwa [show k + 1 + (n - (k + 1)) = n by omega] at this
theorem poolOf_take {n k : Nat} {T : List Int} : (poolOf n T).set k false = poolOf n (T ++ [(k : Int)]) := by
  apply List.ext_getElem
  · simp [poolOf]
  · intro i h1 h2
    rw [List.getElem_set, poolOf_at, poolOf_at]
    split
    · rename_i h; subst h; simp
    · rename_i h
      have : (i : Int) ≠ (k : Int) := by omega
      simp [this]
/-- T without the numbers of l. -/
def less (T l : List Int) : List Int := T.filter fun x => decide (x ∉ l)
theorem mem_less {T l : List Int} {x : Int} : x ∈ less T l ↔ x ∈ T ∧ x ∉ l := by simp [less]
theorem poolOf_give {n k : Nat} {T l : List Int} : (poolOf n (less T l)).set k true = poolOf n (less T (l ++ [(k : Int)])) := by
  apply List.ext_getElem
  · simp [poolOf]
  · intro i h1 h2
    rw [List.getElem_set, poolOf_at, poolOf_at]
    split
    · rename_i h
      subst h
      symm
      rw [decide_eq_true_eq, mem_less]
      simp
    · rename_i h
      have hne : (i : Int) ≠ (k : Int) := by omega
      rw [decide_eq_decide, mem_less, mem_less]
      simp [hne]
/-- May these come back? -/
def giveB (T l : List Int) : Bool := decide (l.Nodup ∧ ∀ x ∈ l, x ∈ T)
theorem giveB_snoc {T l : List Int} {x : Int} (h : giveB T l = true) (hx : x ∈ less T l) : giveB T (l ++ [x]) = true := by
  unfold giveB at h ⊢
  rw [decide_eq_true_eq] at h ⊢
  rw [mem_less] at hx
  refine ⟨?_, ?_⟩
  · rw [List.nodup_append]
    refine ⟨h.1, by simp, ?_⟩
    intro a ha b hb
    rw [List.mem_singleton] at hb
    subst hb
    rintro rfl
    exact hx.2 ha
  · intro y hy
    rcases List.mem_append.1 hy with hy | hy
    · exact h.2 y hy
    · rw [List.mem_singleton] at hy; subst hy; exact hx.1
theorem giveB_bad {T l : List Int} {k : Nat} (h : k < l.length) (hx : l[k] ∉ less T (l.take k)) : giveB T l = false := by
  unfold giveB
  rw [decide_eq_false_iff_not]
  rintro ⟨h1, h2⟩
  refine hx (mem_less.2 ⟨h2 _ (List.getElem_mem h), ?_⟩)
  intro hm
  have h3 : (l.take (k + 1)).Nodup := (List.take_sublist _ _).nodup h1
  rw [List.take_add_one, List.getElem?_eq_getElem h, Option.toList_some, List.nodup_append] at h3
  exact h3.2.2 _ hm _ (List.mem_singleton.2 rfl) rfl
theorem less_nil (T : List Int) : less T [] = T := by simp [less]
def inR (n : Nat) (T : List Int) : Prop := ∀ x ∈ T, 0 ≤ x ∧ x < (n : Int)
theorem inR_less {n : Nat} {T l : List Int} (h : inR n T) : inR n (less T l) := fun x hx => h x (mem_less.1 hx).1
theorem inR_snoc {n : Nat} {T : List Int} {x : Int} (h : inR n T) (h0 : 0 ≤ x) (h1 : x < n) : inR n (T ++ [x]) := by
  intro y hy
  rcases List.mem_append.1 hy with hy | hy
  · exact h y hy
  · rw [List.mem_singleton] at hy; subst hy; exact ⟨h0, h1⟩
/-- May a pool be made? -/
def mayPool (x : Int) (used : List Int) : Bool := decide (0 ≤ x ∧ x ≤ 64 ∧ used.Nodup ∧ ∀ y ∈ used, 0 ≤ y ∧ y < x)
theorem mayPool_give {n : Nat} (hn : n ≤ 64) (used : List Int) : mayPool n used = giveB (allI n) used := by
  unfold mayPool giveB
  rw [decide_eq_decide]
  constructor
  · rintro ⟨_, _, h1, h2⟩
    exact ⟨h1, fun x hx => mem_allI.2 (h2 x hx)⟩
  · rintro ⟨h1, h2⟩
    exact ⟨by omega, by omega, h1, fun x hx => mem_allI.1 (h2 x hx)⟩
theorem poolOf_all (n : Nat) : poolOf n (allI n) = List.replicate n false := by
  apply List.ext_getElem
  · simp [poolOf]
  · intro i h1 h2
    rw [poolOf_at, List.getElem_replicate, decide_eq_false_iff_not]
    simp only [poolOf_length] at h1
    have : (i : Int) ∈ allI n := mem_allI.2 (by omega)
    simpa using this
/-- Turned as far as k. -/
def mixB (n k : Nat) (used : List Int) : List Bool := (List.range n).map fun i : Nat => if i < k then decide ((i : Int) ∉ used) else decide ((i : Int) ∈ used)
theorem mixB_zero (n : Nat) (used : List Int) : mixB n 0 used = poolOf n (less (allI n) used) := by
  unfold mixB poolOf
  apply List.map_congr_left
  intro i hi
  rw [List.mem_range] at hi
  rw [if_neg (by omega), decide_eq_decide, mem_less]
  have : (i : Int) ∈ allI n := mem_allI.2 (by omega)
  simp [this]
theorem mixB_full (n : Nat) (used : List Int) : mixB n n used = poolOf n used := by
  unfold mixB poolOf
  apply List.map_congr_left
  intro i hi
  rw [List.mem_range] at hi
  rw [if_pos hi]
theorem mixB_length (n k : Nat) (used : List Int) : (mixB n k used).length = n := by simp [mixB]
theorem mixB_at {n k : Nat} {used : List Int} (h : k < (mixB n k used).length) : (mixB n k used)[k] = decide ((k : Int) ∈ used) := by simp [mixB]
theorem mixB_next {n k : Nat} {used : List Int} : (mixB n k used).set k (!decide ((k : Int) ∈ used)) = mixB n (k + 1) used := by
  apply List.ext_getElem
  · simp [mixB]
  · intro i h1 h2
    rw [List.getElem_set]
    simp only [mixB, List.getElem_map, List.getElem_range]
    split
    · rename_i h
      subst h
      rw [if_pos (by omega)]
      simp
    · rename_i h
      by_cases hi : i < k
      · rw [if_pos hi, if_pos (by omega)]
      · rw [if_neg hi, if_neg (by omega)]
theorem freeOf_count {n : Nat} {used : List Int} (h1 : used.Nodup) (h2 : inR n used) : (freeOf n used).length + used.length = n := by
  have hp : ((allI n).filter fun x => decide (x ∈ used)).Perm used := by
    rw [List.perm_ext_iff_of_nodup ((allI_nodup n).filter _) h1]
    intro a
    rw [List.mem_filter, mem_allI]
    constructor
    · rintro ⟨_, h⟩; simpa using h
    · intro h; exact ⟨h2 a h, by simpa using h⟩
  have hl := hp.length_eq
  have hc := List.length_eq_countP_add_countP (p := fun x : Int => decide (x ∈ used)) (l := allI n)
  rw [allI_length, List.countP_eq_length_filter, List.countP_eq_length_filter] at hc
  have he : ((allI n).filter fun a => decide ¬(decide (a ∈ used)) = true) = freeOf n used := by
    unfold freeOf
    apply List.filter_congr
    intro x _
    simp
  rw [he] at hc
  omega
end Go.Proofs.Sep
