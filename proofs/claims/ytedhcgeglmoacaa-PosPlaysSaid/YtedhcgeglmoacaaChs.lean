/- Rows of three numbers each. No project text; nothing here is trusted. -/
import Derived.Test.YtedhcgeglmoacaaSepClear
import Derived.Test.YtedhcgeglmoacaaSepArgs
namespace Go.Proofs.Sep
set_option linter.unusedVariables false
set_option linter.unusedSimpArgs false
open Go.RowKit

def chs (l : List (Int × Int × Int)) : List Value := l.flatMap fun p => [.int .i64 p.1, .int .i64 p.2.1, .int .i64 p.2.2]
theorem chs_length (l : List (Int × Int × Int)) : (chs l).length = l.length * 3 := by
  induction l with
  | nil => rfl
  | cons a l ih => simp only [chs, List.flatMap_cons, List.length_append, List.length_cons, List.length_nil] at ih ⊢; omega
theorem chs_append (l m : List (Int × Int × Int)) : chs (l ++ m) = chs l ++ chs m := by simp [chs]
theorem chs_one (l : List (Int × Int × Int)) : ∀ u ∈ chs l, u.oneCell' = true := by
  intro u hu
  simp only [chs, List.mem_flatMap, List.mem_cons, List.not_mem_nil, or_false] at hu
  obtain ⟨p, _, rfl | rfl | rfl⟩ := hu <;> rfl
theorem chs_at {l : List (Int × Int × Int)} {k : Nat} (h : k < l.length) :
    (chs l)[k * 3]? = some (.int .i64 l[k].1) ∧ (chs l)[k * 3 + 1]? = some (.int .i64 l[k].2.1) ∧ (chs l)[k * 3 + 2]? = some (.int .i64 l[k].2.2) := by
  induction l generalizing k with
  | nil => simp at h
  | cons a l ih =>
    cases k with
    | zero => simp [chs]
    | succ k =>
      obtain ⟨h1, h2, h3⟩ := ih (k := k) (by simpa using h)
      rw [show (k + 1) * 3 = k * 3 + 3 by omega]
      exact ⟨by simpa [chs] using h1, by simpa [chs] using h2, by simpa [chs] using h3⟩
theorem pairs_append (l m : List (Int × Int)) : pairs (l ++ m) = pairs l ++ pairs m := by simp [pairs]
theorem dec_chs {bytes : Nat} {w : World} {l : List (Int × Int × Int)} {cs : List Value} (h : (decSlice bytes (decPair (decInt .i64) (decPair (decInt .i64) (decInt .i64)))).rel w l cs) :
    ∃ A c, cs = [.slice A l.length c] ∧ l.length ≤ c ∧ c ≤ maxLen ∧ l.length * bytes ≤ 140737488351232 ∧ Reads w 3 A l.length (chs l) := by
  obtain ⟨A, c, css, h0, h1, h2, h3, h4, h5, h6⟩ := h
  have he : css.flatten = chs l := by
    have : css = l.map fun p => [Value.int .i64 p.1, Value.int .i64 p.2.1, Value.int .i64 p.2.2] := by
      apply List.ext_getElem
      · simpa using h4
      · intro i a b
        obtain ⟨c1, c2, e, r1, c3, c4, e2, r3, r4⟩ := h5 i (by simpa using b) a
        rw [e, e2, r1.1, r3.1, r4.1]; simp
    rw [this, chs, List.flatMap_def]
  exact ⟨A, c, h0, h1, h2, h3, he ▸ h6⟩
end Go.Proofs.Sep
