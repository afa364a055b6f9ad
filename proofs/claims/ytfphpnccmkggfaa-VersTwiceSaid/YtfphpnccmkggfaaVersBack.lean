import Derived.Test.YtfphpnccmkggfaaVersReads
namespace Go.Proofs.Ytfphpnccmkggfaa
set_option linter.unusedVariables false
set_option linter.unusedSimpArgs false
open Go.RowKit Go.Proofs.Sep

theorem or_u8 (a b : Nat) (ha : a < 256) (hb : b < 256) : bits .or .u8 (a : Int) (b : Int) = ((a ||| b : Nat) : Int) := by
  have hx : a ||| b < 2 ^ 8 := Nat.or_lt_two_pow (by omega) (by omega)
  have h1 : (BitVec.ofInt 8 (a : Int)).toNat = a := by
    rw [BitVec.ofInt_natCast, BitVec.toNat_ofNat]; exact Nat.mod_eq_of_lt (by omega)
  have h2 : (BitVec.ofInt 8 (b : Int)).toNat = b := by
    rw [BitVec.ofInt_natCast, BitVec.toNat_ofNat]; exact Nat.mod_eq_of_lt (by omega)
  show IntKind.u8.wrap ((BitVec.ofInt 8 (a : Int) ||| BitVec.ofInt 8 (b : Int)).toNat : Int) = _
  rw [BitVec.toNat_or, h1, h2, IntKind.wrap_u8]
  omega
theorem packTo_bits (ls : List Int) (h01 : Bits01 ls) (k : Nat) (hk : k ≤ ls.length) (j : Nat) :
    ∃ v : Nat, v < 256 ∧ (packTo ls k).getD j 0 = (v : Int) ∧ ∀ r, r < 8 → v.testBit r = (decide (8 * j + r < k) && decide (ls.getD (8 * j + r) 0 = 1)) := by
  induction k with
  | zero =>
    refine ⟨0, by omega, ?_, fun r _ => by simp⟩
    simp only [packTo]
    rw [List.getD_eq_getElem?_getD, List.getElem?_replicate]
    split <;> rfl
  | succ k ih =>
    obtain ⟨v, hv, he, hb⟩ := ih (by omega)
    simp only [packTo]
    have hpl := packTo_length ls k
    rw [List.getD_eq_getElem?_getD, List.getElem?_set]
    by_cases hkj : k / 8 = j
    · subst hkj
      have hlt : k / 8 < (packTo ls k).length := by omega
      rw [if_pos rfl, if_pos hlt, Option.getD_some, he]
      have h8 : k % 8 < 8 := by omega
      obtain ⟨y0, y1⟩ := bits_get h01 k
      rcases (show ls.getD k 0 = 0 ∨ ls.getD k 0 = 1 by omega) with hx | hx
      · rw [hx, Int.zero_mul]
        refine ⟨v, hv, ?_, fun r hr => ?_⟩
        · have := or_u8 v 0 hv (by omega)
          simpa using this
        · rw [hb r hr]
          by_cases hr2 : 8 * (k / 8) + r = k
          · rw [hr2, hx]; simp
          · rw [show decide (8 * (k / 8) + r < k + 1) = decide (8 * (k / 8) + r < k) from decide_eq_decide.2 (by omega)]
      · rw [hx, Int.one_mul]
        have hp : 2 ^ (k % 8) < 256 := Nat.lt_of_le_of_lt (Nat.pow_le_pow_right (by decide) (show k % 8 ≤ 7 by omega)) (by decide)
        refine ⟨v ||| 2 ^ (k % 8), ?_, ?_, fun r hr => ?_⟩
        · have := Nat.or_lt_two_pow (n := 8) (x := v) (y := 2 ^ (k % 8)) (by omega) (by omega)
          omega
        · have := or_u8 v (2 ^ (k % 8)) hv hp
          simpa using this
        · rw [Nat.testBit_or, hb r hr, Nat.testBit_two_pow]
          by_cases hr2 : k % 8 = r
          · subst hr2
            have e : 8 * (k / 8) + k % 8 = k := by omega
            rw [e, hx]; simp
          · rw [show decide (8 * (k / 8) + r < k + 1) = decide (8 * (k / 8) + r < k) from decide_eq_decide.2 (by omega)]
            simp [hr2]
    · rw [if_neg hkj, ← List.getD_eq_getElem?_getD]
      refine ⟨v, hv, he, fun r hr => ?_⟩
      rw [hb r hr]
      rw [show decide (8 * j + r < k + 1) = decide (8 * j + r < k) from decide_eq_decide.2 (by omega)]
theorem unp_pack (ls : List Int) (h01 : Bits01 ls) : unp (pack ls) ls.length = ls := by
  apply list_ext_getD
  · exact unpTo_length _ _ _
  · intro i hi
    have hi2 : i < ls.length := by rwa [show (unp (pack ls) ls.length).length = ls.length from unpTo_length _ _ _] at hi
    have := unpTo_get (pack ls) ls.length ls.length i hi2
    rw [if_pos hi2] at this
    rw [show (unp (pack ls) ls.length).getD i 0 = bitAt (pack ls) i from this]
    obtain ⟨v, hv, he, hb⟩ := packTo_bits ls h01 ls.length (Nat.le_refl _) (i / 8)
    have hbi := hb (i % 8) (by omega)
    rw [show 8 * (i / 8) + i % 8 = i by omega, Nat.testBit_eq_decide_div_mod_eq, decide_eq_true hi2, Bool.true_and] at hbi
    unfold bitAt
    rw [show (pack ls).getD (i / 8) 0 = (v : Int) from he, Int.toNat_natCast]
    obtain ⟨y0, y1⟩ := bits_get h01 i
    have hd := decide_eq_decide.1 hbi
    have hm : v / 2 ^ (i % 8) % 2 = 0 ∨ v / 2 ^ (i % 8) % 2 = 1 := by omega
    rcases hm with hm | hm
    · rw [hm]
      have : ¬ ls.getD i 0 = 1 := fun h => by have := hd.2 h; omega
      omega
    · rw [hm, hd.1 hm]; rfl
end Go.Proofs.Ytfphpnccmkggfaa
