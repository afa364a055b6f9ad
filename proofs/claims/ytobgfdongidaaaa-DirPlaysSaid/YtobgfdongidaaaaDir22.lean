import Derived.Test.YtobgfdongidaaaaDir19
namespace Go.Proofs.Ytobgfdongidaaaa
set_option linter.unusedVariables false
set_option linter.unusedSimpArgs false
open Go.RowKit Go.Proofs.Sep Go.Lib

def within (lo hi : ByteArray) (L : List Ent) : List Ent := L.filter fun x => !decide (klt x.1 lo) && !decide (klt hi x.1)
theorem fromK_filter (lo : ByteArray) : ∀ (L : List Ent), Rises L → fromK lo L = L.filter fun x => !decide (klt x.1 lo)
  | [], _ => rfl
  | a :: L, hr => by
    have h2 := List.pairwise_cons.1 hr
    by_cases ha : klt a.1 lo
    · have ih := fromK_filter lo L h2.2
      simp only [fromK, List.dropWhile_cons, ha, decide_true, ↓reduceIte, List.filter_cons, Bool.not_true, Bool.false_eq_true] at ih ⊢
      exact ih
    · rw [fromK_keep]
      · rw [List.filter_eq_self.2]
        intro x hx
        rcases List.mem_cons.1 hx with rfl | hx
        · simp [ha]
        · have : ¬ klt x.1 lo := fun h => ha (klt_trans (h2.1 x hx) h)
          simp [this]
      · intro x hx
        rcases List.mem_cons.1 hx with rfl | hx
        · exact ha
        · exact fun h => ha (klt_trans (h2.1 x hx) h)
theorem runs_range (hi : ByteArray) (lim : Int) : ∀ (l s : List Ent), Rises l → (s.length : Int) < lim → (runs (stpR hi lim) l s).1 = s ++ (l.filter fun x => !decide (klt hi x.1)).take (lim.toNat - s.length)
  | [], s, _, _ => by simp [runs]
  | e :: l, s, hr, hs => by
    have h2 := List.pairwise_cons.1 hr
    by_cases he : klt hi e.1
    · have hf : (e :: l).filter (fun x => !decide (klt hi x.1)) = [] := by
        rw [List.filter_eq_nil_iff]
        intro x hx
        rcases List.mem_cons.1 hx with rfl | hx
        · simp [he]
        · have := klt_trans he (h2.1 x hx)
          simp [this]
      rw [hf]
      simp [runs, stpR, he]
    · have hf : (e :: l).filter (fun x => !decide (klt hi x.1)) = e :: l.filter fun x => !decide (klt hi x.1) := by simp [List.filter_cons, he]
      rw [hf]
      obtain ⟨n, hn⟩ : ∃ n, lim.toNat - s.length = n + 1 := ⟨lim.toNat - s.length - 1, by omega⟩
      rw [hn, List.take_succ_cons]
      by_cases hc : (s.length : Int) + 1 < lim
      · have ih := runs_range hi lim l (s ++ [e]) h2.2 (by simp only [List.length_append, List.length_cons, List.length_nil]; omega)
        simp only [runs, stpR, he, ↓reduceIte, hc, decide_true]
        rw [ih, show lim.toNat - (s ++ [e]).length = n by simp only [List.length_append, List.length_cons, List.length_nil]; omega]
        simp
      · obtain rfl : n = 0 := by omega
        simp only [runs, stpR, he, ↓reduceIte, hc, decide_false, Bool.false_eq_true]
        simp
/-- Range: the first so many of what lies between. -/
theorem rangeR_eq (lo hi : ByteArray) (lim : Int) (L : List Ent) (hr : Rises L) : rangeR lo hi lim L = (within lo hi L).take lim.toNat := by
  unfold rangeR
  by_cases hl : 0 < lim
  · rw [if_pos hl, runs_range hi lim _ [] ?_ (by simpa using hl), fromK_filter lo L hr, List.filter_filter]
    · simp only [List.nil_append, List.length_nil, Nat.sub_zero]
      unfold within
      congr 1
      congr 1
      funext x
      rw [Bool.and_comm]
    · rw [fromK_filter lo L hr]
      exact List.Pairwise.sublist List.filter_sublist hr
  · rw [if_neg hl, show lim.toNat = 0 by omega]
    rfl
end Go.Proofs.Ytobgfdongidaaaa

namespace Go.Proofs.Ytobgfdongidaaaa
set_option linter.unusedVariables false
set_option linter.unusedSimpArgs false
open Go.RowKit Go.Proofs.Sep Go.Lib

/-- Nothing lies between a key and the key with a zero byte behind it. -/
theorem cb_next : ∀ x m : List UInt8, compareBytes x (m ++ [0]) < 0 ↔ ¬ compareBytes m x < 0
  | [], [] => by simp [compareBytes]
  | [], _ :: _ => by simp [compareBytes]
  | a :: x, [] => by
    simp only [List.nil_append, compareBytes]
    have h1 : ¬ a < 0 := UInt8.not_lt.2 (UInt8.zero_le ..)
    rw [if_neg h1]
    split
    · simp
    · cases x <;> simp [compareBytes]
  | a :: x, b :: m => by
    have ih := cb_next x m
    simp only [List.cons_append, compareBytes]
    by_cases h1 : a < b
    · have h2 : ¬ b < a := UInt8.not_lt.2 (UInt8.le_of_lt h1)
      simp [h1, h2]
    · by_cases h2 : b < a
      · simp [h1, h2]
      · simp only [h1, h2, ↓reduceIte]
        exact ih
/-- Two ranges one behind the other are the whole. -/
theorem within_two {lo mid hi nxt : ByteArray} {L : List Ent} (hr : Rises L) (h1 : ¬ klt mid lo) (h2 : ¬ klt hi mid) (hn : ∀ x, klt x nxt ↔ ¬ klt mid x) : within lo mid L ++ within nxt hi L = within lo hi L := by
  induction L with
  | nil => rfl
  | cons a L ih =>
    have hp := List.pairwise_cons.1 hr
    have ih := ih hp.2
    unfold within at ih ⊢
    by_cases hm : klt mid a.1
    · have e1 : (a :: L).filter (fun x => !decide (klt x.1 lo) && !decide (klt mid x.1)) = [] := by
        rw [List.filter_eq_nil_iff]
        intro x hx
        rcases List.mem_cons.1 hx with rfl | hx
        · simp [hm]
        · have := klt_trans hm (hp.1 x hx)
          simp [this]
      rw [e1, List.nil_append]
      refine List.filter_congr fun x hx => ?_
      have hx1 : klt mid x.1 := by
        rcases List.mem_cons.1 hx with rfl | hx
        · exact hm
        · exact klt_trans hm (hp.1 x hx)
      have g1 : ¬ klt x.1 nxt := fun h => (hn _).1 h hx1
      have g2 : ¬ klt x.1 lo := fun h => h1 (klt_trans hx1 h)
      simp [g1, g2]
    · have g1 : klt a.1 nxt := (hn _).2 hm
      have g3 : ¬ klt hi a.1 := fun h => by
        rcases klt_or mid hi with e | e | e
        · exact hm (klt_trans e h)
        · rw [e] at hm; exact hm h
        · exact h2 e
      by_cases hl : klt a.1 lo
      · simp only [List.filter_cons, g1, hl, decide_true, Bool.not_true, Bool.false_and, Bool.false_eq_true, ↓reduceIte]
        exact ih
      · simp only [List.filter_cons, g1, hl, hm, g3, decide_true, decide_false, Bool.not_true, Bool.not_false, Bool.and_self, Bool.false_and, Bool.false_eq_true, ↓reduceIte, List.cons_append]
        rw [ih]
end Go.Proofs.Ytobgfdongidaaaa

namespace Go.Proofs.Ytobgfdongidaaaa
set_option linter.unusedVariables false
set_option linter.unusedSimpArgs false
open Go.RowKit Go.Proofs.Sep Go.Lib

theorem deep_pow {lo hi : Nat} (h1 : 1 ≤ lo) : ∀ (h : Nat) (t : Tr h), okT lo hi h t → 1 ≤ (ownE h t).length → 2 ^ (h + 1) ≤ (inord h t).length + 1
  | 0, t, _, ho => by
    have : 1 ≤ (inord 0 t).length := ho
    omega
  | h + 1, (es, ks), hok, ho => by
    obtain ⟨o1, o2⟩ := hok
    have ho2 : 1 ≤ es.length := ho
    clear ho
    cases ks with
    | nil => simp at o1
    | cons k K2 =>
      have hk := o2 k (by simp)
      have ih := deep_pow h1 h k hk.2.2 (Nat.le_trans h1 hk.1)
      have hw := weave_mid (K1 := []) (K2 := K2) (es := es) k (by simp only [List.length_nil, List.length_cons] at o1 ⊢; omega)
      have hw : inord (h + 1) (es, k :: K2) = wpre (es.take 0) [] ++ (inord h k ++ wpost (es.drop 0) (K2.map (inord h))) := hw
      rw [hw]
      cases es with
      | nil => exact absurd ho2 (by simp)
      | cons e es =>
        cases K2 with
        | nil => exact absurd o1 (by simp only [List.length_cons, List.length_nil]; omega)
        | cons k2 K2 =>
          have hk2 := o2 k2 (by simp)
          have ih2 := deep_pow h1 h k2 hk2.2.2 (Nat.le_trans h1 hk2.1)
          simp only [List.length_append, List.drop_zero, List.map_cons, wpost, List.length_cons]
          rw [Nat.pow_succ]
          omega
/-- Three keys at order 3: two levels. -/
theorem shape_three {h : Nat} {t : Tr h} {L : List Ent} (hs : Shape 3 h t L) (hl : L.length = 3) : h = 1 := by
  have h0 := hs.ord
  have hm := hs.most
  cases h with
  | zero =>
    exfalso
    have : (ownE 0 t).length = 3 := by rw [← hl, ← h0]; rfl
    omega
  | succ h =>
    have hp := deep_pow (by decide) (h + 1) t hs.ok (hs.least (by omega))
    rw [h0, hl] at hp
    cases h with
    | zero => rfl
    | succ h =>
      exfalso
      have : 2 ^ 3 ≤ 2 ^ (h + 1 + 1 + 1) := Nat.pow_le_pow_right (by omega) (by omega)
      omega
end Go.Proofs.Ytobgfdongidaaaa
