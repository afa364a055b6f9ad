import Derived.Test.YtedhcgeglmoacaaTape3
namespace Go.Proofs.Ytedhcgeglmoacaa
set_option linter.unusedVariables false
set_option linter.unusedSimpArgs false
open Go.RowKit Go.Proofs.Sep

theorem leaf_nonneg (ls : List Int) (d : Nat) (h : Int) : 0 ≤ leafAt ls d h := by
  unfold leafAt
  split
  · split
    · omega
    · exact Int.emod_nonneg _ (by have := Int.pow_pos (n := 2) (m := h.toNat) (by omega); omega)
  · omega
theorem leaf_lt (ls : List Int) (d : Nat) (h : Int) : leafAt ls d h < 2 ^ h.toNat := by
  have hp : (0 : Int) < 2 ^ h.toNat := Int.pow_pos (by omega)
  unfold leafAt
  split
  · split
    · exact hp
    · exact Int.emod_lt_of_pos _ hp
  · exact hp
theorem leaf_low (ls : List Int) (d : Nat) (l h : Int) (h0 : 0 ≤ l) (h1 : l ≤ h) : leafAt ls d l = leafAt ls d h % 2 ^ l.toNat := by
  unfold leafAt
  split
  · split
    · simp
    · rw [Int.emod_emod_of_dvd]
      exact ⟨2 ^ (h.toNat - l.toNat), by rw [← Int.pow_add]; congr 1; omega⟩
  · simp

end Go.Proofs.Ytedhcgeglmoacaa
