import Derived.Test.YtobgfdongidaaaaSepStep
import Derived.Test.YtobgfdongidaaaaProg
import Derived.Lib.Bytealg
namespace Go.Proofs.Ytobgfdongidaaaa
set_option linter.unusedVariables false
set_option linter.unusedSimpArgs false
open Go.RowKit Go.Proofs.Sep Go.Lib

/-! ### The order of keys -/
theorem cb_refl : ∀ a : List UInt8, compareBytes a a = 0
  | [] => rfl
  | a :: xs => by simp [compareBytes, cb_refl xs]
theorem cb_eq : ∀ {a b : List UInt8}, compareBytes a b = 0 → a = b
  | [], [], _ => rfl
  | [], _ :: _, h => by simp [compareBytes] at h
  | _ :: _, [], h => by simp [compareBytes] at h
  | a :: xs, b :: ys, h => by
    simp only [compareBytes] at h
    split at h
    · omega
    · split at h
      · omega
      · rename_i h1 h2
        have : a = b := UInt8.le_antisymm (UInt8.not_lt.1 h2) (UInt8.not_lt.1 h1)
        rw [this, cb_eq h]
theorem cb_anti : ∀ a b : List UInt8, compareBytes b a = - compareBytes a b
  | [], [] => rfl
  | [], _ :: _ => rfl
  | _ :: _, [] => rfl
  | a :: xs, b :: ys => by
    simp only [compareBytes]
    by_cases h1 : a < b
    · have h2 : ¬ b < a := UInt8.not_lt.2 (UInt8.le_of_lt h1)
      simp [h1, h2]
    · by_cases h2 : b < a
      · simp [h1, h2]
      · simp [h1, h2, cb_anti xs ys]
theorem cb_trans : ∀ {a b c : List UInt8}, compareBytes a b < 0 → compareBytes b c < 0 → compareBytes a c < 0
  | [], [], _, h, _ => by simp [compareBytes] at h
  | [], _ :: _, [], _, h => by simp [compareBytes] at h
  | [], _ :: _, _ :: _, _, _ => by simp [compareBytes]
  | _ :: _, [], _, h, _ => by simp [compareBytes] at h
  | _ :: _, _ :: _, [], _, h => by simp [compareBytes] at h
  | a :: xs, b :: ys, c :: zs, h1, h2 => by
    simp only [compareBytes] at h1 h2 ⊢
    by_cases ab : a < b
    · by_cases bc : b < c
      · simp [UInt8.lt_trans ab bc]
      · by_cases cb : c < b
        · simp [bc, cb] at h2
        · have e : b = c := UInt8.le_antisymm (UInt8.not_lt.1 cb) (UInt8.not_lt.1 bc)
          subst e
          simp [ab]
    · by_cases ba : b < a
      · simp [ab, ba] at h1
      · have e : a = b := UInt8.le_antisymm (UInt8.not_lt.1 ba) (UInt8.not_lt.1 ab)
        subst e
        simp [ab] at h1
        by_cases bc : a < c
        · simp [bc]
        · by_cases cb : c < a
          · simp [bc, cb] at h2
          · simp [bc, cb] at h2 ⊢
            exact cb_trans h1 h2
def kcmp (a b : ByteArray) : Int := compareBytes a.data.toList b.data.toList
def klt (a b : ByteArray) : Prop := kcmp a b < 0
instance (a b : ByteArray) : Decidable (klt a b) := inferInstanceAs (Decidable (kcmp a b < 0))
theorem kcmp_refl (a : ByteArray) : kcmp a a = 0 := cb_refl _
theorem kcmp_eq {a b : ByteArray} (h : kcmp a b = 0) : a = b := by
  have := cb_eq h
  cases a with | mk a => cases b with | mk b =>
  exact congrArg ByteArray.mk (Array.toList_inj.1 this)
theorem kcmp_anti (a b : ByteArray) : kcmp b a = - kcmp a b := cb_anti _ _
theorem klt_trans {a b c : ByteArray} (h1 : klt a b) (h2 : klt b c) : klt a c := cb_trans h1 h2
theorem klt_irrefl (a : ByteArray) : ¬ klt a a := by unfold klt; rw [kcmp_refl]; omega
theorem klt_asymm {a b : ByteArray} (h : klt a b) : ¬ klt b a := fun h2 => klt_irrefl a (klt_trans h h2)
theorem klt_or (a b : ByteArray) : klt a b ∨ a = b ∨ klt b a := by
  unfold klt
  have h := kcmp_anti a b
  rcases Int.lt_trichotomy (kcmp a b) 0 with h1 | h1 | h1
  · exact .inl h1
  · exact .inr (.inl (kcmp_eq h1))
  · exact .inr (.inr (by omega))

/-! ### Entries in order -/
abbrev Ent := ByteArray × Int
def Rises (L : List Ent) : Prop := L.Pairwise fun x y => klt x.1 y.1
/-- How many stand ahead of a key. -/
def ahead (key : ByteArray) (L : List Ent) : Nat := (L.takeWhile fun x => decide (klt x.1 key)).length
theorem ahead_le (key : ByteArray) (L : List Ent) : ahead key L ≤ L.length := (List.takeWhile_sublist _).length_le
theorem Rises.lt {L : List Ent} (h : Rises L) {i j : Nat} (hij : i < j) (hj : j < L.length) : klt (L[i]'(by omega)).1 L[j].1 := List.pairwise_iff_getElem.1 h i j (by omega) hj hij
theorem ahead_spec {key : ByteArray} {L : List Ent} (h : Rises L) (i : Nat) (hi : i < L.length) : klt L[i].1 key ↔ i < ahead key L := by
  induction L generalizing i with
  | nil => simp at hi
  | cons x L ih =>
    have hr : Rises L := (List.pairwise_cons.1 h).2
    unfold ahead at ih ⊢
    by_cases hx : klt x.1 key
    · rw [List.takeWhile_cons_of_pos (by simpa using hx)]
      cases i with
      | zero => simp [hx]
      | succ i =>
        have := ih hr i (by simpa using hi)
        simp only [List.getElem_cons_succ, List.length_cons]
        rw [this]; omega
    · rw [List.takeWhile_cons_of_neg (by simpa using hx)]
      cases i with
      | zero => simp [hx]
      | succ i =>
        simp only [List.getElem_cons_succ, List.length_nil, Nat.not_lt_zero, iff_false]
        intro h2
        exact hx (klt_trans ((List.pairwise_cons.1 h).1 _ (List.getElem_mem _)) h2)
def hasKey (key : ByteArray) (L : List Ent) : Bool := L.any fun x => decide (x.1 = key)
theorem has_spec {key : ByteArray} {L : List Ent} (h : Rises L) : hasKey key L = true ↔ ∃ hi : ahead key L < L.length, L[ahead key L].1 = key := by
  unfold hasKey
  rw [List.any_eq_true]
  constructor
  · rintro ⟨x, hx, he⟩
    have he : x.1 = key := of_decide_eq_true he
    obtain ⟨i, hi, rfl⟩ := List.getElem_of_mem hx
    have h1 : ¬ i < ahead key L := fun hlt => by
      have := (ahead_spec h i hi).2 hlt
      rw [he] at this
      exact klt_irrefl _ this
    have h2 : ¬ ahead key L < i := fun hlt => by
      have h3 := h.lt hlt hi
      rw [he] at h3
      have := (ahead_spec h (ahead key L) (by omega)).1 h3
      omega
    have e : ahead key L = i := by omega
    exact ⟨by omega, by simp only [e]; exact he⟩
  · rintro ⟨hi, he⟩
    exact ⟨_, List.getElem_mem hi, decide_eq_true he⟩
end Go.Proofs.Ytobgfdongidaaaa
