import Derived.Test.YtobgfdongidaaaaDir45
import Derived.Test.YtobgfdongidaaaaDir29
namespace Go.Proofs.Ytobgfdongidaaaa
set_option linter.unusedVariables false
set_option linter.unusedSimpArgs false
open Go.RowKit Go.Proofs.Sep Go.Lib

/-! DirOrder, plain. -/
def Diff (l : List Ent) (k : Nat) : Prop := ∀ (i j : Nat) (hi : i < l.length) (hj : j < i), i < k → l[j].1 ≠ l[i].1
theorem rises_ext : ∀ {A B : List Ent}, Rises A → Rises B → (∀ x, x ∈ A ↔ x ∈ B) → A = B
  | [], [], _, _, _ => rfl
  | [], b :: B, _, _, h => by have := (h b).2 (by simp); simp at this
  | a :: A, [], _, _, h => by have := (h a).1 (by simp); simp at this
  | a :: A, b :: B, ha, hb, h => by
    have ha2 := List.pairwise_cons.1 ha
    have hb2 := List.pairwise_cons.1 hb
    have hab : a = b := by
      rcases List.mem_cons.1 ((h a).1 (by simp)) with h1 | h1
      · exact h1
      · rcases List.mem_cons.1 ((h b).2 (by simp)) with h2 | h2
        · exact h2.symm
        · exact absurd (klt_trans (hb2.1 a h1) (ha2.1 b h2)) (klt_irrefl _)
    subst hab
    have : A = B := rises_ext ha2.2 hb2.2 fun x => by
      constructor
      · intro hx
        rcases List.mem_cons.1 ((h x).1 (by simp [hx])) with rfl | h1
        · exact absurd (ha2.1 x hx) (klt_irrefl _)
        · exact h1
      · intro hx
        rcases List.mem_cons.1 ((h x).2 (by simp [hx])) with rfl | h1
        · exact absurd (hb2.1 x hx) (klt_irrefl _)
        · exact h1
    rw [this]
theorem insR_new {e : Ent} {L : List Ent} (hr : Rises L) (hk : hasKey e.1 L = false) (x : Ent) : x ∈ insR e L ↔ x = e ∨ x ∈ L := by
  rw [insR_leaf hr hk]
  unfold insAt
  have h := List.take_append_drop (ahead e.1 L) L
  constructor
  · intro hx
    simp only [List.mem_append, List.mem_cons, List.not_mem_nil, or_false] at hx
    rcases hx with (hx | hx) | hx
    · exact .inr (List.mem_of_mem_take hx)
    · exact .inl hx
    · exact .inr (List.mem_of_mem_drop hx)
  · rintro (rfl | hx)
    · simp
    · rw [← h, List.mem_append] at hx
      simp only [List.mem_append, List.mem_cons, List.not_mem_nil, or_false]
      rcases hx with hx | hx
      · exact .inl (.inl hx)
      · exact .inr hx
/-- Keys all different: what is put is what is there. -/
theorem insAll_diff {l : List Ent} (hd : Diff l l.length) : ∀ k, k ≤ l.length → (insAll (l.take k)).length = k ∧ ∀ x, x ∈ insAll (l.take k) ↔ x ∈ l.take k
  | 0, _ => by simp [insAll]
  | k + 1, hk => by
    obtain ⟨h1, h2⟩ := insAll_diff hd k (by omega)
    have hr := insAll_rises (l.take k)
    have hlt : k < l.length := by omega
    have hno : hasKey l[k].1 (insAll (l.take k)) = false := by
      simp only [hasKey, List.any_eq_false, decide_eq_true_eq]
      intro x hx hxe
      obtain ⟨j, hj, rfl⟩ := List.getElem_of_mem ((h2 x).1 hx)
      rw [List.length_take] at hj
      rw [List.getElem_take] at hxe
      exact hd k j hlt (by omega) hlt hxe
    rw [List.take_succ_eq_append_getElem hlt, insAll_snoc]
    refine ⟨?_, fun x => ?_⟩
    · rw [insR_length _ _ hr, hno, h1]; rfl
    · rw [insR_new hr hno, h2 x, List.mem_append]
      simp only [List.mem_cons, List.not_mem_nil, or_false]
      exact or_comm
theorem insAll_len {l : List Ent} (hd : Diff l l.length) : (insAll l).length = l.length ∧ ∀ x, x ∈ insAll l ↔ x ∈ l := by
  have := insAll_diff hd l.length (Nat.le_refl _)
  rwa [List.take_length] at this
/-- Turned round. -/
def rot (l : List Ent) (s k : Nat) : List Ent := (List.range k).map fun i => l.getD ((i + s) % l.length) (ByteArray.empty, 0)
theorem rot_succ (l : List Ent) (s k : Nat) (h : (k + s) % l.length < l.length) : rot l s (k + 1) = rot l s k ++ [l[(k + s) % l.length]] := by
  unfold rot
  rw [List.range_succ, List.map_append, List.map_cons, List.map_nil]
  congr 2
  simp [List.getD_eq_getElem?_getD, List.getElem?_eq_getElem h]
theorem rot_length (l : List Ent) (s k : Nat) : (rot l s k).length = k := by simp [rot]
theorem rot_at (l : List Ent) (s k i : Nat) (hi : i < (rot l s k).length) (h : (i + s) % l.length < l.length) : (rot l s k)[i] = l[(i + s) % l.length] := by
  unfold rot
  simp [List.getD_eq_getElem?_getD, List.getElem?_eq_getElem h]
theorem mod_inj {n i j s : Nat} (hi : i < n) (hj : j < n) (h : (i + s) % n = (j + s) % n) : i = j := by
  have h1 := Nat.div_add_mod (i + s) n
  have h2 := Nat.div_add_mod (j + s) n
  rcases Nat.lt_trichotomy ((i + s) / n) ((j + s) / n) with h3 | h3 | h3
  · exfalso
    have : n * ((i + s) / n) + n ≤ n * ((j + s) / n) := by
      rw [← Nat.mul_succ]
      exact Nat.mul_le_mul_left _ h3
    omega
  · rw [h3] at h1
    omega
  · exfalso
    have : n * ((j + s) / n) + n ≤ n * ((i + s) / n) := by
      rw [← Nat.mul_succ]
      exact Nat.mul_le_mul_left _ h3
    omega
theorem diff_ne {l : List Ent} (hd : Diff l l.length) {a b : Nat} (ha : a < l.length) (hb : b < l.length) (hab : a ≠ b) : l[a].1 ≠ l[b].1 := by
  rcases Nat.lt_or_gt_of_ne hab with h | h
  · exact hd b a hb h hb
  · exact fun e => hd a b ha h ha e.symm
theorem rot_diff {l : List Ent} (hd : Diff l l.length) (s : Nat) : Diff (rot l s l.length) (rot l s l.length).length := by
  intro i j hi hj _ h
  have hl := rot_length l s l.length
  have hn : 0 < l.length := by omega
  rw [rot_at l s _ i hi (Nat.mod_lt _ hn), rot_at l s _ j (by omega) (Nat.mod_lt _ hn)] at h
  refine diff_ne hd (Nat.mod_lt _ hn) (Nat.mod_lt _ hn) (fun e => ?_) h
  have := mod_inj (n := l.length) (by omega) (by omega) e
  omega
theorem rot_mem {l : List Ent} (s : Nat) (x : Ent) : x ∈ rot l s l.length ↔ x ∈ l := by
  constructor
  · intro hx
    obtain ⟨i, hi, rfl⟩ := List.getElem_of_mem hx
    have hl := rot_length l s l.length
    rw [rot_at l s _ i hi (Nat.mod_lt _ (by omega))]
    exact List.getElem_mem _
  · intro hx
    obtain ⟨i, hi, rfl⟩ := List.getElem_of_mem hx
    have hn : 0 < l.length := by omega
    have hl := rot_length l s l.length
    -- the place that is turned to i
    have hj : (i + (l.length - s % l.length)) % l.length < (rot l s l.length).length := by rw [hl]; exact Nat.mod_lt _ hn
    have he : ((i + (l.length - s % l.length)) % l.length + s) % l.length = i := by
      have h2 := Nat.mod_lt s hn
      rw [Nat.mod_add_mod]
      have h3 := Nat.div_add_mod s l.length
      have h4 : i + (l.length - s % l.length) + s = i + l.length * (s / l.length + 1) := by
        rw [Nat.mul_add, Nat.mul_one]
        omega
      rw [h4, Nat.add_mul_mod_self_left]
      exact Nat.mod_eq_of_lt hi
    have := rot_at l s _ _ hj (Nat.mod_lt _ hn)
    simp only [he] at this
    rw [← this]
    exact List.getElem_mem _
theorem insAll_rot {l : List Ent} (hd : Diff l l.length) (s : Nat) : insAll (rot l s l.length) = insAll l := by
  have h1 := insAll_len hd
  have h2 := insAll_len (rot_diff hd s)
  exact rises_ext (insAll_rises _) (insAll_rises _) fun x => by rw [h1.2, h2.2, rot_mem]
/-- What is left behind the first k deletions. -/
def leftR (l : List Ent) : Nat → List Ent
  | 0 => insAll l
  | k + 1 => delR (l.getD k (ByteArray.empty, 0)).1 (leftR l k)
theorem leftR_spec {l : List Ent} (hd : Diff l l.length) : ∀ k, k ≤ l.length → Rises (leftR l k) ∧ (leftR l k).length + k = l.length ∧ ∀ x, x ∈ leftR l k ↔ x ∈ l.drop k
  | 0, _ => ⟨insAll_rises l, (insAll_len hd).1, fun x => by rw [List.drop_zero]; exact (insAll_len hd).2 x⟩
  | k + 1, hk => by
    obtain ⟨h1, h2, h3⟩ := leftR_spec hd k (by omega)
    have hlt : k < l.length := by omega
    have hg : l.getD k (ByteArray.empty, 0) = l[k] := by simp [List.getD_eq_getElem?_getD, List.getElem?_eq_getElem hlt]
    have hs : leftR l (k + 1) = delR l[k].1 (leftR l k) := by rw [← hg]; rfl
    have hh : hasKey l[k].1 (leftR l k) = true := by
      simp only [hasKey, List.any_eq_true, decide_eq_true_eq]
      exact ⟨l[k], (h3 _).2 (by rw [List.drop_eq_getElem_cons hlt]; exact List.mem_cons_self), rfl⟩
    have hl := delR_length h1 hh
    rw [hs]
    refine ⟨delR_rises _ _ h1, by omega, fun x => ?_⟩
    unfold delR
    rw [List.mem_filter, h3 x, List.drop_eq_getElem_cons hlt]
    constructor
    · rintro ⟨hx, hne⟩
      rcases List.mem_cons.1 hx with rfl | hx
      · simp at hne
      · exact hx
    · intro hx
      refine ⟨List.mem_cons_of_mem _ hx, ?_⟩
      obtain ⟨j, hj, rfl⟩ := List.getElem_of_mem hx
      rw [List.length_drop] at hj
      rw [List.getElem_drop]
      simp only [Bool.not_eq_eq_eq_not, Bool.not_true, decide_eq_false_iff_not]
      exact diff_ne hd (by omega) hlt (by omega)
theorem leftR_has {l : List Ent} (hd : Diff l l.length) (k : Nat) (hk : k < l.length) : hasKey l[k].1 (leftR l k) = true ∧ leftR l (k + 1) = delR l[k].1 (leftR l k) ∧ hasKey l[k].1 (leftR l (k + 1)) = false := by
  have hg : l.getD k (ByteArray.empty, 0) = l[k] := by simp [List.getD_eq_getElem?_getD, List.getElem?_eq_getElem hk]
  have h3 := (leftR_spec hd k (by omega)).2.2
  have hs : leftR l (k + 1) = delR l[k].1 (leftR l k) := by rw [← hg]; rfl
  refine ⟨?_, hs, ?_⟩
  · simp only [hasKey, List.any_eq_true, decide_eq_true_eq]
    exact ⟨l[k], (h3 _).2 (by rw [List.drop_eq_getElem_cons hk]; exact List.mem_cons_self), rfl⟩
  · rw [hs]
    simp [hasKey, delR]
end Go.Proofs.Ytobgfdongidaaaa
