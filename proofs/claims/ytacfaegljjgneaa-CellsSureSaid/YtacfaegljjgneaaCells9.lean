import Derived.Test.YtacfaegljjgneaaCells8
import Derived.Test.YtacfaegljjgneaaSepArgs
namespace Go.Proofs.Ytacfaegljjgneaa
set_option linter.unusedVariables false
set_option linter.unusedSimpArgs false
open Go.RowKit Go.Proofs.Sep

theorem dec_bools {bytes : Nat} {w : World} {l : List Bool} {cs : List Value} (h : (decSlice bytes decBool).rel w l cs) :
    ∃ A c, cs = [.slice A l.length c] ∧ l.length ≤ c ∧ c ≤ maxLen ∧ l.length * bytes ≤ 140737488351232 ∧ Reads w 1 A l.length (bools l) := by
  obtain ⟨A, c, css, h0, h1, h2, h3, h4, h5, h6⟩ := h
  have he : css.flatten = bools l := by
    have : css = l.map fun x => [Value.bool x] := by
      apply List.ext_getElem
      · simpa using h4
      · intro i a b
        have := h5 i (by simpa using b) a
        simp only [List.getElem_map]
        exact this
    rw [this]
    clear this h0 h1 h2 h3 h4 h5 h6
    induction l with
    | nil => rfl
    | cons a l ih => simp [bools] at ih ⊢; exact ih
  exact ⟨A, c, h0, h1, h2, h3, he ▸ h6⟩

/-- A store of one byte behind k writes. -/
def tst (l : List Int) (k : Nat) : St := { St.new 1 1 with fl := (l.take k).map (fun x => (0, [x])), ops := k }
theorem tst_zero (l : List Int) : tst l 0 = St.new 1 1 := rfl
theorem tst_fl (l : List Int) (k : Nat) (h : k ≤ l.length) : (tst l k).fl.length = k := by simp [tst]; omega
theorem tst_begins (l : List Int) (k : Nat) : begins (tst l k) = (true, { tst l k with ops := (k : Int) + 1 }) := by
  rw [begins_on rfl (by show ¬ (0 : Int) = 1; omega)]
  rfl
theorem tst_write (l : List Int) (k : Nat) (h : k < l.length) : write (tst l k) 0 [l[k]] = (0, tst l (k + 1)) := by
  unfold write
  rw [tst_begins]
  simp only [if_neg (show ¬ true = false by simp)]
  rw [if_neg (by show ¬ inN 1 0 = false; decide), if_neg (by show ¬ ¬ [l[k]].length = 1; simp)]
  refine congrArg _ ?_
  simp only [addFl, tst, List.take_add_one, List.getElem?_eq_getElem h, List.map_append, Option.toList, List.map_cons, List.map_nil]
  rfl
theorem tst_peek (l : List Int) (k : Nat) (h : k < l.length) : peek (tst l (k + 1)) 0 = [l[k]] := by
  unfold peek
  rw [if_pos (by show inN 1 0 = true; decide), tst_fl l (k + 1) (by omega)]
  have hk : k < (tst l (k + 1)).fl.length := by rw [tst_fl l _ (by omega)]; omega
  have he : (tst l (k + 1)).fl[k] = (0, [l[k]]) := by simp [tst]
  rw [peekTo_succ hk, he]
  rfl
def wantTo (l : List Int) (ka : List Bool) : Nat → Int
  | 0 => 0
  | k + 1 => if ka.getD k false = true then l.getD k 0 else wantTo l ka k
theorem wantTo_out {l : List Int} {ka : List Bool} {k : Nat} (h : ¬ k < ka.length) : wantTo l ka (k + 1) = wantTo l ka k := by
  simp only [wantTo]
  rw [if_neg]
  rw [List.getD_eq_getElem?_getD, List.getElem?_eq_none (by omega)]; simp
theorem wantTo_off {l : List Int} {ka : List Bool} {k : Nat} (h : k < ka.length) (h1 : ka[k] = false) : wantTo l ka (k + 1) = wantTo l ka k := by
  simp only [wantTo]
  rw [if_neg]
  rw [List.getD_eq_getElem?_getD, List.getElem?_eq_getElem h, h1]; simp
theorem wantTo_on {l : List Int} {ka : List Bool} {k : Nat} (hl : k < l.length) (h : k < ka.length) (h1 : ka[k] = true) : wantTo l ka (k + 1) = l[k] := by
  simp only [wantTo]
  rw [if_pos, List.getD_eq_getElem?_getD, List.getElem?_eq_getElem hl]
  · rfl
  · rw [List.getD_eq_getElem?_getD, List.getElem?_eq_getElem h, h1]; rfl
theorem tst_lands (l : List Int) (ka : List Bool) (k : Nat) (h : k ≤ l.length) : landTo (keepFn ka) (tst l l.length) k = [[wantTo l ka k]] := by
  induction k with
  | zero => rfl
  | succ k ih =>
    simp only [landTo, wantTo]
    rw [ih (by omega)]
    have hk : k < (tst l l.length).fl.length := by rw [tst_fl l _ (by omega)]; omega
    have he : (tst l l.length).fl.getD k (0, []) = (0, [l[k]]) := by
      rw [List.getD_eq_getElem?_getD, List.getElem?_eq_getElem hk]; simp [tst]
    rw [he]
    have h2 : l.getD k 0 = l[k] := by rw [List.getD_eq_getElem?_getD, List.getElem?_eq_getElem (by omega)]; rfl
    rw [h2]
    unfold keepFn
    cases ka.getD k false <;> rfl
theorem tst_crash (l : List Int) (ka : List Bool) : ∃ τ : St, crash ka (tst l l.length) = τ ∧ crash ka τ = τ ∧ τ.down = true ∧ τ.fl.length = 0 ∧ τ.size = 1 ∧ peek τ 0 = [wantTo l ka l.length] := by
  have e := crash_up (ka := ka) (show (tst l l.length).down = false from rfl)
  refine ⟨_, e, crash_down rfl, rfl, rfl, rfl, ?_⟩
  unfold lands
  rw [tst_fl l _ (by omega), tst_lands l ka _ (by omega)]
  rfl
end Go.Proofs.Ytacfaegljjgneaa
