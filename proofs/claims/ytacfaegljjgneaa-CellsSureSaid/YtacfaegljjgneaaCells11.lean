import Derived.Test.YtacfaegljjgneaaCellsArm
namespace Go.Proofs.Ytacfaegljjgneaa
set_option linter.unusedVariables false
set_option linter.unusedSimpArgs false
open Go.RowKit Go.Proofs.Sep

/-- An operation: kind, address, bytes, what is kept. -/
abbrev SOp := Int × Int × List Int × List Bool
def SOpIn (w : World) (x : SOp) (hd : List Value) (i : Nat) : Prop := ∃ Ai ci Bi di, hd[i * 4]? = some (.int .i64 x.1) ∧ hd[i * 4 + 1]? = some (.int .i64 x.2.1) ∧ hd[i * 4 + 2]? = some (.slice Ai x.2.2.1.length ci) ∧ hd[i * 4 + 3]? = some (.slice Bi x.2.2.2.length di) ∧ Reads w 1 Ai x.2.2.1.length (nums .u8 x.2.2.1) ∧ Reads w 1 Bi x.2.2.2.length (bools x.2.2.2)
def SOpsIn (w : World) (l : List SOp) (hd : List Value) : Prop := ∀ i (hi : i < l.length), SOpIn w l[i] hd i
theorem SOpsIn.keep {w w' : World} {l : List SOp} {hd : List Value} (h : SOpsIn w l hd) (hk : ∀ k, k < w.heap.size → w'.heap[k]? = w.heap[k]?) : SOpsIn w' l hd := by
  intro i hi
  obtain ⟨Ai, ci, Bi, di, e0, e1, e2, e3, e4, e5⟩ := h i hi
  exact ⟨Ai, ci, Bi, di, e0, e1, e2, e3, e4.keep hk, e5.keep hk⟩
theorem dec_sops {b1 : Nat} {w : World} {l : List SOp} {cs : List Value} (h : (decSlice b1 (decPair (decInt .i64) (decPair (decInt .i64) (decPair (decSlice 1 (decInt .u8)) (decSlice 1 decBool))))).rel w l cs) :
    ∃ A c hd, cs = [.slice A l.length c] ∧ l.length ≤ c ∧ c ≤ maxLen ∧ Reads w 4 A l.length hd ∧ SOpsIn w l hd ∧ ∀ x ∈ l, ByteR x.2.2.1 := by
  obtain ⟨A, c, css, h0, h1, h2, h3, h4, h5, h6⟩ := h
  have key : ∀ i (hi : i < l.length) (hi' : i < css.length), ∃ B c D d, css[i] = [.int .i64 l[i].1, .int .i64 l[i].2.1, .slice B l[i].2.2.1.length c, .slice D l[i].2.2.2.length d] ∧ Reads w 1 B l[i].2.2.1.length (nums .u8 l[i].2.2.1) ∧ Reads w 1 D l[i].2.2.2.length (bools l[i].2.2.2) ∧ ByteR l[i].2.2.1 := by
    intro i hi hi'
    obtain ⟨c1, c2, e, r1, c3, c4, e2, r2, c5, c6, e3, r3, r4⟩ := h5 i hi hi'
    obtain ⟨B, d, e5, _, _, _, q, hw⟩ := dec_ints r3
    obtain ⟨D, d2, e6, _, _, _, q2⟩ := dec_bools r4
    exact ⟨B, d, D, d2, by rw [e, r1.1, e2, r2.1, e3, e5, e6]; rfl, q, q2, byteR_wf hw⟩
  refine ⟨A, c, css.flatten, h0, h1, h2, h6, ?_, fun x hx => ?_⟩
  · have hall : ∀ c ∈ css, c.length = 4 := by
      intro c hc
      obtain ⟨j, hj, rfl⟩ := List.getElem_of_mem hc
      obtain ⟨B, c, D, d, e, _⟩ := key j (by omega) hj
      rw [e]; rfl
    intro i hi
    obtain ⟨B, c, D, d, e, q, q2, _⟩ := key i hi (by omega)
    have f := fun j hj => flatten_at hall i j (by omega) hj
    have f0 := f 0 (by omega)
    have f1 := f 1 (by omega)
    have f2 := f 2 (by omega)
    have f3 := f 3 (by omega)
    rw [e] at f0 f1 f2 f3
    exact ⟨B, c, D, d, f0, f1, f2, f3, q, q2⟩
  · obtain ⟨i, hi, rfl⟩ := List.getElem_of_mem hx
    obtain ⟨_, _, _, _, _, _, _, hb⟩ := key i hi (by omega)
    exact hb
end Go.Proofs.Ytacfaegljjgneaa
