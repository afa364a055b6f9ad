import Derived.Test.YtacfaegljjgneaaCells10
namespace Go.Proofs.Ytacfaegljjgneaa
set_option linter.unusedVariables false
set_option linter.unusedSimpArgs false
open Go.RowKit Go.Proofs.Sep

/-- A store that falls at its a-th call, behind j calls. -/
structure AInv (σ : St) (j a : Nat) : Prop where
  size : σ.size = 2
  n : σ.n = 3
  fl : σ.fl.length ≤ j
  st : (j < a ∧ σ.down = false ∧ σ.ops = j ∧ σ.left = (a : Int) - j) ∨ (a ≤ j ∧ σ.down = true ∧ σ.ops = a ∧ σ.left = 0)
theorem AInv.start (a : Nat) (h : 1 ≤ a) : AInv { St.new 3 2 with left := a, keep := [] } 0 a :=
  ⟨rfl, rfl, by simp [St.new], .inl ⟨by omega, rfl, rfl, by show (a : Int) = (a : Int) - (0 : Nat); omega⟩⟩
theorem AInv.begins {σ : St} {j a : Nat} (h : AInv σ j a) : (begins σ).1 = decide (j + 1 < a) ∧ AInv (begins σ).2 (j + 1) a ∧ (begins σ).2.fl.length ≤ j := by
  rcases h.st with ⟨h1, h2, h3, h4⟩ | ⟨h1, h2, h3, h4⟩
  · by_cases hl : σ.left = 1
    · rw [begins_falls h2 hl, crash_up (by exact h2)]
      refine ⟨by simp; omega, ⟨h.size, h.n, by simp [lands], .inr ⟨by omega, rfl, ?_, rfl⟩⟩, by simp [lands]⟩
      show σ.ops + 1 = (a : Int)
      omega
    · rw [begins_on h2 hl]
      refine ⟨by simp; omega, ⟨h.size, h.n, Nat.le_succ_of_le h.fl, .inl ⟨by omega, h2, ?_, ?_⟩⟩, h.fl⟩
      · show σ.ops + 1 = ((j + 1 : Nat) : Int)
        omega
      · show max (σ.left - 1) 0 = (a : Int) - ((j + 1 : Nat) : Int)
        omega
  · rw [begins_down h2]
    exact ⟨by simp; omega, ⟨h.size, h.n, Nat.le_succ_of_le h.fl, .inr ⟨by omega, h2, h3, h4⟩⟩, h.fl⟩
theorem AInv.bounds {σ : St} {j a : Nat} (h : AInv σ j a) (ha : a ≤ 100) (hj : j ≤ 200) : 0 ≤ σ.ops ∧ σ.ops ≤ 1000000 ∧ 0 ≤ σ.left ∧ σ.left ≤ 9223372036854775807 := by
  rcases h.st with ⟨h1, h2, h3, h4⟩ | ⟨h1, h2, h3, h4⟩ <;> omega
theorem AInv.write {σ : St} {j a : Nat} (h : AInv σ j a) (x : Int) (b : List Int) : ((write σ x b).1 == 6) = decide (a ≤ j + 1) ∧ AInv (write σ x b).2 (j + 1) a := by
  obtain ⟨h1, h2, h3⟩ := h.begins
  unfold Go.Proofs.Ytacfaegljjgneaa.write
  by_cases hc : j + 1 < a
  · rw [decide_eq_true hc] at h1
    rw [if_neg (by simp [h1]), decide_eq_false (by omega : ¬ a ≤ j + 1)]
    split
    · exact ⟨rfl, h2⟩
    · split
      · exact ⟨rfl, h2⟩
      · exact ⟨rfl, h2.size, h2.n, by simp [addFl]; omega, h2.st⟩
  · rw [decide_eq_false hc] at h1
    rw [if_pos h1, decide_eq_true (by omega : a ≤ j + 1)]
    exact ⟨rfl, h2⟩
theorem AInv.read {σ : St} {j a : Nat} (h : AInv σ j a) (x : Int) : ((rd σ x).1 == 6) = decide (a ≤ j + 1) ∧ AInv (rd σ x).2.2 (j + 1) a := by
  obtain ⟨h1, h2, h3⟩ := h.begins
  unfold rd
  by_cases hc : j + 1 < a
  · rw [decide_eq_true hc] at h1
    rw [if_neg (by simp [h1]), decide_eq_false (by omega : ¬ a ≤ j + 1)]
    split
    · exact ⟨rfl, h2⟩
    · exact ⟨rfl, h2⟩
  · rw [decide_eq_false hc] at h1
    rw [if_pos h1, decide_eq_true (by omega : a ≤ j + 1)]
    exact ⟨rfl, h2⟩
theorem AInv.sync {σ : St} {j a : Nat} (h : AInv σ j a) : ((sync σ).1 == 6) = decide (a ≤ j + 1) ∧ AInv (sync σ).2 (j + 1) a := by
  obtain ⟨h1, h2, h3⟩ := h.begins
  unfold Go.Proofs.Ytacfaegljjgneaa.sync
  by_cases hc : j + 1 < a
  · rw [decide_eq_true hc] at h1
    rw [if_neg (by simp [h1]), decide_eq_false (by omega : ¬ a ≤ j + 1)]
    exact ⟨rfl, h2.size, h2.n, by simp [lands], h2.st⟩
  · rw [decide_eq_false hc] at h1
    rw [if_pos h1, decide_eq_true (by omega : a ≤ j + 1)]
    exact ⟨rfl, h2⟩
/-- Up or not, how many calls counted. -/
theorem AInv.says {σ : St} {j a : Nat} (h : AInv σ j a) : σ.down = decide (a ≤ j) ∧ σ.ops = if a ≤ j then (a : Int) else (j : Int) := by
  rcases h.st with ⟨h1, h2, h3, h4⟩ | ⟨h1, h2, h3, h4⟩
  · rw [h2, if_neg (by omega)]; exact ⟨by simp; omega, by omega⟩
  · rw [h2, if_pos h1]; exact ⟨by simp; omega, h3⟩
end Go.Proofs.Ytacfaegljjgneaa
