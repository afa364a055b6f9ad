import Derived.Test.YtobgfdongidaaaaDir22
namespace Go.Proofs.Ytobgfdongidaaaa
set_option linter.unusedVariables false
set_option linter.unusedSimpArgs false
open Go.RowKit Go.Proofs.Sep Go.Lib

/-- Nothing lies between a key and the key with a zero byte behind it. -/
theorem cb_next : ∀ x m : List UInt8, compareBytes x (m ++ [0]) < 0 ↔ ¬ compareBytes m x < 0
  | [], [] => by simp [compareBytes]
  | [], _ :: _ => by simp [compareBytes]
  | a :: x, [] => by
    simp only [List.nil_append, compareBytes]
    have h1 : ¬ a < 0 := UInt8.not_lt.2 (UInt8.zero_le ..)
    rw [if_neg h1]
    split
    · simp
    · cases x <;> simp [compareBytes]
  | a :: x, b :: m => by
    have ih := cb_next x m
    simp only [List.cons_append, compareBytes]
    by_cases h1 : a < b
    · have h2 : ¬ b < a := UInt8.not_lt.2 (UInt8.le_of_lt h1)
      simp [h1, h2]
    · by_cases h2 : b < a
      · simp [h1, h2]
      · simp only [h1, h2, ↓reduceIte]
        exact ih
/-- Two ranges one behind the other are the whole. -/
theorem within_two {lo mid hi nxt : ByteArray} {L : List Ent} (hr : Rises L) (h1 : ¬ klt mid lo) (h2 : ¬ klt hi mid) (hn : ∀ x, klt x nxt ↔ ¬ klt mid x) : within lo mid L ++ within nxt hi L = within lo hi L := by
  induction L with
  | nil => rfl
  | cons a L ih =>
    have hp := List.pairwise_cons.1 hr
    have ih := ih hp.2
    unfold within at ih ⊢
    by_cases hm : klt mid a.1
    · have e1 : (a :: L).filter (fun x => !decide (klt x.1 lo) && !decide (klt mid x.1)) = [] := by
        rw [List.filter_eq_nil_iff]
        intro x hx
        rcases List.mem_cons.1 hx with rfl | hx
        · simp [hm]
        · have := klt_trans hm (hp.1 x hx)
          simp [this]
      rw [e1, List.nil_append]
      refine List.filter_congr fun x hx => ?_
      have hx1 : klt mid x.1 := by
        rcases List.mem_cons.1 hx with rfl | hx
        · exact hm
        · exact klt_trans hm (hp.1 x hx)
      have g1 : ¬ klt x.1 nxt := fun h => (hn _).1 h hx1
      have g2 : ¬ klt x.1 lo := fun h => h1 (klt_trans hx1 h)
      simp [g1, g2]
    · have g1 : klt a.1 nxt := (hn _).2 hm
      have g3 : ¬ klt hi a.1 := fun h => by
        rcases klt_or mid hi with e | e | e
        · exact hm (klt_trans e h)
        · rw [e] at hm; exact hm h
        · exact h2 e
      by_cases hl : klt a.1 lo
      · simp only [List.filter_cons, g1, hl, decide_true, Bool.not_true, Bool.false_and, Bool.false_eq_true, ↓reduceIte]
        exact ih
      · simp only [List.filter_cons, g1, hl, hm, g3, decide_true, decide_false, Bool.not_true, Bool.not_false, Bool.and_self, Bool.false_and, Bool.false_eq_true, ↓reduceIte, List.cons_append]
        rw [ih]
end Go.Proofs.Ytobgfdongidaaaa
