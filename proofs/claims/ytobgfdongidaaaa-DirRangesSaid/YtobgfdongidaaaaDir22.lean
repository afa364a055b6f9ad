import Derived.Test.YtobgfdongidaaaaDir21
namespace Go.Proofs.Ytobgfdongidaaaa
set_option linter.unusedVariables false
set_option linter.unusedSimpArgs false
open Go.RowKit Go.Proofs.Sep Go.Lib

def within (lo hi : ByteArray) (L : List Ent) : List Ent := L.filter fun x => !decide (klt x.1 lo) && !decide (klt hi x.1)
theorem fromK_filter (lo : ByteArray) : ∀ (L : List Ent), Rises L → fromK lo L = L.filter fun x => !decide (klt x.1 lo)
  | [], _ => rfl
  | a :: L, hr => by
    have h2 := List.pairwise_cons.1 hr
    by_cases ha : klt a.1 lo
    · have ih := fromK_filter lo L h2.2
      simp only [fromK, List.dropWhile_cons, ha, decide_true, ↓reduceIte, List.filter_cons, Bool.not_true, Bool.false_eq_true] at ih ⊢
      exact ih
    · rw [fromK_keep]
      · rw [List.filter_eq_self.2]
        intro x hx
        rcases List.mem_cons.1 hx with rfl | hx
        · simp [ha]
        · have : ¬ klt x.1 lo := fun h => ha (klt_trans (h2.1 x hx) h)
          simp [this]
      · intro x hx
        rcases List.mem_cons.1 hx with rfl | hx
        · exact ha
        · exact fun h => ha (klt_trans (h2.1 x hx) h)
theorem runs_range (hi : ByteArray) (lim : Int) : ∀ (l s : List Ent), Rises l → (s.length : Int) < lim → (runs (stpR hi lim) l s).1 = s ++ (l.filter fun x => !decide (klt hi x.1)).take (lim.toNat - s.length)
  | [], s, _, _ => by simp [runs]
  | e :: l, s, hr, hs => by
    have h2 := List.pairwise_cons.1 hr
    by_cases he : klt hi e.1
    · have hf : (e :: l).filter (fun x => !decide (klt hi x.1)) = [] := by
        rw [List.filter_eq_nil_iff]
        intro x hx
        rcases List.mem_cons.1 hx with rfl | hx
        · simp [he]
        · have := klt_trans he (h2.1 x hx)
          simp [this]
      rw [hf]
      simp [runs, stpR, he]
    · have hf : (e :: l).filter (fun x => !decide (klt hi x.1)) = e :: l.filter fun x => !decide (klt hi x.1) := by simp [List.filter_cons, he]
      rw [hf]
      obtain ⟨n, hn⟩ : ∃ n, lim.toNat - s.length = n + 1 := ⟨lim.toNat - s.length - 1, by omega⟩
      rw [hn, List.take_succ_cons]
      by_cases hc : (s.length : Int) + 1 < lim
      · have ih := runs_range hi lim l (s ++ [e]) h2.2 (by simp only [List.length_append, List.length_cons, List.length_nil]; omega)
        simp only [runs, stpR, he, ↓reduceIte, hc, decide_true]
        rw [ih, show lim.toNat - (s ++ [e]).length = n by simp only [List.length_append, List.length_cons, List.length_nil]; omega]
        simp
      · obtain rfl : n = 0 := by omega
        simp only [runs, stpR, he, ↓reduceIte, hc, decide_false, Bool.false_eq_true]
        simp
/-- Range: the first so many of what lies between. -/
theorem rangeR_eq (lo hi : ByteArray) (lim : Int) (L : List Ent) (hr : Rises L) : rangeR lo hi lim L = (within lo hi L).take lim.toNat := by
  unfold rangeR
  by_cases hl : 0 < lim
  · rw [if_pos hl, runs_range hi lim _ [] ?_ (by simpa using hl), fromK_filter lo L hr, List.filter_filter]
    · simp only [List.nil_append, List.length_nil, Nat.sub_zero]
      unfold within
      congr 1
      congr 1
      funext x
      rw [Bool.and_comm]
    · rw [fromK_filter lo L hr]
      exact List.Pairwise.sublist List.filter_sublist hr
  · rw [if_neg hl, show lim.toNat = 0 by omega]
    rfl
end Go.Proofs.Ytobgfdongidaaaa
