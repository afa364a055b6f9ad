import Derived.Test.YtobgfdongidaaaaDir23
namespace Go.Proofs.Ytobgfdongidaaaa
set_option linter.unusedVariables false
set_option linter.unusedSimpArgs false
open Go.RowKit Go.Proofs.Sep Go.Lib

theorem deep_pow {lo hi : Nat} (h1 : 1 ≤ lo) : ∀ (h : Nat) (t : Tr h), okT lo hi h t → 1 ≤ (ownE h t).length → 2 ^ (h + 1) ≤ (inord h t).length + 1
  | 0, t, _, ho => by
    have : 1 ≤ (inord 0 t).length := ho
    omega
  | h + 1, (es, ks), hok, ho => by
    obtain ⟨o1, o2⟩ := hok
    have ho2 : 1 ≤ es.length := ho
    clear ho
    cases ks with
    | nil => simp at o1
    | cons k K2 =>
      have hk := o2 k (by simp)
      have ih := deep_pow h1 h k hk.2.2 (Nat.le_trans h1 hk.1)
      have hw := weave_mid (K1 := []) (K2 := K2) (es := es) k (by simp only [List.length_nil, List.length_cons] at o1 ⊢; omega)
      have hw : inord (h + 1) (es, k :: K2) = wpre (es.take 0) [] ++ (inord h k ++ wpost (es.drop 0) (K2.map (inord h))) := hw
      rw [hw]
      cases es with
      | nil => exact absurd ho2 (by simp)
      | cons e es =>
        cases K2 with
        | nil => exact absurd o1 (by simp only [List.length_cons, List.length_nil]; omega)
        | cons k2 K2 =>
          have hk2 := o2 k2 (by simp)
          have ih2 := deep_pow h1 h k2 hk2.2.2 (Nat.le_trans h1 hk2.1)
          simp only [List.length_append, List.drop_zero, List.map_cons, wpost, List.length_cons]
          rw [Nat.pow_succ]
          omega
/-- Three keys at order 3: two levels. -/
theorem shape_three {h : Nat} {t : Tr h} {L : List Ent} (hs : Shape 3 h t L) (hl : L.length = 3) : h = 1 := by
  have h0 := hs.ord
  have hm := hs.most
  cases h with
  | zero =>
    exfalso
    have : (ownE 0 t).length = 3 := by rw [← hl, ← h0]; rfl
    omega
  | succ h =>
    have hp := deep_pow (by decide) (h + 1) t hs.ok (hs.least (by omega))
    rw [h0, hl] at hp
    cases h with
    | zero => rfl
    | succ h =>
      exfalso
      have : 2 ^ 3 ≤ 2 ^ (h + 1 + 1 + 1) := Nat.pow_le_pow_right (by omega) (by omega)
      omega
end Go.Proofs.Ytobgfdongidaaaa
