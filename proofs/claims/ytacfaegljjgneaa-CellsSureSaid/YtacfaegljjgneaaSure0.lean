import Derived.Test.YtacfaegljjgneaaPlay1
namespace Go.Proofs.Ytacfaegljjgneaa
set_option linter.unusedVariables false
set_option linter.unusedSimpArgs false
open Go.RowKit Go.Proofs.Sep

theorem landTo_congr {p : Nat → Bool} {σ τ : St} (h1 : σ.cs = τ.cs) (h2 : σ.fl = τ.fl) (k : Nat) : landTo p σ k = landTo p τ k := by
  induction k with
  | zero => exact h1
  | succ k ih => simp only [landTo, ih, h2]
theorem landTo_pre {p : Nat → Bool} {σ : St} {a : Int} {b : List Int} (k : Nat) (hk : k ≤ σ.fl.length) : landTo p (addFl σ a b) k = landTo p σ k := by
  induction k with
  | zero => rfl
  | succ k ih =>
    have e : (addFl σ a b).fl.getD k (0, []) = σ.fl.getD k (0, []) := by
      simp only [addFl, List.getD_eq_getElem?_getD]
      rw [List.getElem?_append_left (by omega)]
    simp only [landTo, ih (by omega), e]
theorem landTo_add {p : Nat → Bool} {σ : St} {a : Int} {b : List Int} : landTo p (addFl σ a b) (addFl σ a b).fl.length = if p σ.fl.length = true then (landTo p σ σ.fl.length).set a.toNat b else landTo p σ σ.fl.length := by
  have hl : (addFl σ a b).fl.length = σ.fl.length + 1 := by simp [addFl]
  have e : (addFl σ a b).fl.getD σ.fl.length (0, []) = (a, b) := by simp [addFl, List.getD_eq_getElem?_getD]
  rw [hl]
  simp only [landTo, landTo_pre _ (Nat.le_refl _), e]
/-- A store that is up, none of whose operations will fall. -/
structure SInv (N K : Nat) (σ : St) : Prop where
  wf : Wf N 4 K σ
  up : σ.down = false
  left : σ.left = 0
def opsUp (σ : St) : St := { σ with ops := σ.ops + 1 }
theorem begins_sure {N K : Nat} {σ : St} (h : SInv N K σ) : begins σ = (true, opsUp σ) := by
  rw [begins_on h.up (by rw [h.left]; omega)]
  have h1 := h.left
  obtain ⟨n, size, cs, fl, left, keep, ops, down⟩ := σ
  simp only at h1
  subst h1
  rfl
theorem SInv.opsUp {N K : Nat} {σ : St} (h : SInv N K σ) : SInv N (K + 1) (opsUp σ) := by
  have h1 := h.wf.begins.1
  rw [begins_sure h] at h1
  exact ⟨h1, h.up, h.left⟩
theorem sure_write {N K : Nat} {σ : St} (h : SInv N K σ) (a : Int) (b : List Int) (hb : ByteR b) :
    (0 ≤ a ∧ a < N ∧ b.length = 4 ∧ write σ a b = (0, addFl (opsUp σ) a b) ∧ SInv N (K + 1) (addFl (opsUp σ) a b)) ∨ (∃ c : Int, (c == 0) = false ∧ write σ a b = (c, opsUp σ)) := by
  have hw := h.wf.write a b hb
  unfold write at hw ⊢
  rw [begins_sure h] at hw ⊢
  simp only [if_neg (show ¬ true = false by simp)] at hw ⊢
  have hn : (Go.Proofs.Ytacfaegljjgneaa.opsUp σ).n = N := h.wf.n
  have hs : (Go.Proofs.Ytacfaegljjgneaa.opsUp σ).size = 4 := h.wf.size
  rcases Bool.eq_false_or_eq_true (inN (Go.Proofs.Ytacfaegljjgneaa.opsUp σ).n a) with hin | hin
  · rw [hin] at hw ⊢
    simp only [if_neg (show ¬ true = false by simp)] at hw ⊢
    by_cases hl : b.length = (Go.Proofs.Ytacfaegljjgneaa.opsUp σ).size
    · rw [if_neg (by simpa using hl)] at hw ⊢
      refine .inl ?_
      unfold inN at hin
      have := of_decide_eq_true hin
      exact ⟨this.1, by omega, by omega, rfl, hw, h.up, h.left⟩
    · rw [if_pos hl]
      exact .inr ⟨2, rfl, rfl⟩
  · rw [hin]
    exact .inr ⟨1, rfl, rfl⟩
theorem sure_sync {N K : Nat} {σ : St} (h : SInv N K σ) : sync σ = (0, lands (fun _ => true) (opsUp σ)) ∧ SInv N (K + 1) (lands (fun _ => true) (opsUp σ)) := by
  have hw := h.wf.sync
  unfold sync at hw ⊢
  rw [begins_sure h] at hw ⊢
  exact ⟨rfl, hw, h.up, h.left⟩
theorem sure_read {N K : Nat} {σ : St} (h : SInv N K σ) (hf : σ.fl = []) (i : Nat) (hi : i < σ.cs.length) : rd σ i = (0, σ.cs[i], opsUp σ) := by
  unfold rd
  rw [begins_sure h]
  have hin : inN (Go.Proofs.Ytacfaegljjgneaa.opsUp σ).n i = true := by
    unfold inN
    have h1 : (Go.Proofs.Ytacfaegljjgneaa.opsUp σ).n = N := h.wf.n
    have h2 := h.wf.csl
    exact decide_eq_true (by omega)
  simp only [if_neg (show ¬ true = false by simp), hin]
  have hp : peek (Go.Proofs.Ytacfaegljjgneaa.opsUp σ) i = σ.cs[i] := by
    unfold peek
    rw [if_pos hin, Int.toNat_natCast]
    unfold peekTo
    have hf' : (Go.Proofs.Ytacfaegljjgneaa.opsUp σ).fl = [] := hf
    rw [hf']
    simp only [List.take_nil, List.foldl_nil]
    show σ.cs.getD i [] = _
    rw [List.getD_eq_getElem?_getD, List.getElem?_eq_getElem hi]; rfl
  rw [hp]
theorem sure_crash {N K : Nat} {σ : St} (h : SInv N K σ) (ka : List Bool) : SInv N K { crash ka σ with down := false } ∧ (crash ka σ).down = true ∧ ({ crash ka σ with down := false } : St).fl = [] ∧ ({ crash ka σ with down := false } : St).cs = landTo (keepFn ka) σ σ.fl.length := by
  have hw := h.wf.crash ka
  rw [crash_up h.up] at hw ⊢
  exact ⟨⟨hw.reboot, rfl, rfl⟩, rfl, rfl, rfl⟩
/-- A value that reads as these bytes, wherever G holds. -/
def VV (E : World) (G : Asn) (v : Value) (b : List Int) : Prop := ∃ A c, v = .slice A b.length c ∧ ∀ w, Sat E G w → Reads w 1 A b.length (nums .u8 b)
end Go.Proofs.Ytacfaegljjgneaa
