import Derived.Test.YtacfaegljjgneaaSure0
import Derived.Test.YtacfaegljjgneaaTrc10
namespace Go.Proofs.Ytacfaegljjgneaa
set_option linter.unusedVariables false
set_option linter.unusedSimpArgs false
open Go.RowKit Go.Proofs.Sep

abbrev Snap := List (List Int) × List (Int × List Int)
/-- A store of these cells and writes in flight. -/
def ofS (n : Nat) (S : Snap) : St := ⟨n, 4, S.1, S.2, 0, [], 0, false⟩
def rep1 (n : Nat) (S : Snap) (x : TOp) : Snap := if x.1 = 2 then (S.1, S.2 ++ [(x.2.1, x.2.2)]) else if x.1 = 3 then (landTo (fun _ => true) (ofS n S) S.2.length, []) else S
def replF (n : Nat) (tr : List TOp) : Snap := tr.foldl (rep1 n) (List.replicate n (List.replicate 4 0), [])
theorem replF_snoc (n : Nat) (tr : List TOp) (x : TOp) : replF n (tr ++ [x]) = rep1 n (replF n tr) x := by
  unfold replF; rw [List.foldl_append]; rfl
def OkAt (n : Nat) (S : Snap) (x : TOp) : Prop := (∃ a d, x = (1, a, d) ∧ 0 ≤ a ∧ a < n ∧ d = peek (ofS n S) a) ∨ (∃ a b, x = (2, a, b) ∧ 0 ≤ a ∧ a < n ∧ b.length = 4) ∨ x = (3, 0, [])
def OkTr (n : Nat) (tr : List TOp) : Prop := ∀ j (h : j < tr.length), OkAt n (replF n (tr.take j)) tr[j]
theorem OkTr.snoc {n : Nat} {tr : List TOp} {x : TOp} (h : OkTr n tr) (hx : OkAt n (replF n tr) x) : OkTr n (tr ++ [x]) := by
  intro j hj
  by_cases h1 : j < tr.length
  · rw [List.getElem_append_left h1, List.take_append_of_le_length (by omega)]
    exact h j h1
  · have e : j = tr.length := by simp at hj; omega
    subst e
    rw [List.take_left', List.getElem_append_right (by omega)]
    · simpa using hx
    · rfl
theorem peek_congr {σ τ : St} (h1 : σ.n = τ.n) (h2 : σ.cs = τ.cs) (h3 : σ.fl = τ.fl) (a : Int) : peek σ a = peek τ a := by
  unfold peek peekTo
  rw [h1, h2, h3]
/-- A recorder that read, wrote and synced alone. -/
structure Ag (n k : Nat) (σ : St) (tr : List TOp) : Prop where
  si : SInv n k σ
  trl : tr.length ≤ k
  trb : ∀ x ∈ tr, x.2.2.length ≤ 20000 ∧ ByteR x.2.2
  st : (σ.cs, σ.fl) = replF n tr
  ok : OkTr n tr
theorem Ag.new (n : Nat) : Ag n 0 (St.new n 4) [] :=
  ⟨⟨Wf.new n 4, rfl, rfl⟩, by simp, by simp, rfl, fun j h => by simp at h⟩
theorem Ag.same {n k : Nat} {σ : St} {tr : List TOp} (h : Ag n k σ tr) : Ag n (k + 1) (opsUp σ) tr :=
  ⟨h.si.opsUp, Nat.le_succ_of_le h.trl, h.trb, h.st, h.ok⟩
theorem Ag.peekS {n k : Nat} {σ : St} {tr : List TOp} (h : Ag n k σ tr) (a : Int) : peek (ofS n (replF n tr)) a = peek σ a := by
  refine peek_congr h.si.wf.n.symm ?_ ?_ a
  · rw [← h.st]; rfl
  · rw [← h.st]; rfl
theorem sure_rd {n k : Nat} {σ : St} (h : SInv n k σ) (a : Int) : (0 ≤ a ∧ a < n ∧ rd σ a = (0, peek σ a, opsUp σ)) ∨ (∃ c : Int, (c == 0) = false ∧ ¬ (0 ≤ a ∧ a < n) ∧ rd σ a = (c, [], opsUp σ)) := by
  unfold rd
  rw [begins_sure h]
  simp only [if_neg (show ¬ true = false by simp)]
  have hn : (opsUp σ).n = n := h.wf.n
  rcases Bool.eq_false_or_eq_true (inN (opsUp σ).n a) with hin | hin
  · rw [hin]
    unfold inN at hin
    have := of_decide_eq_true hin
    exact .inl ⟨this.1, by omega, rfl⟩
  · rw [hin]
    unfold inN at hin
    have := of_decide_eq_false hin
    exact .inr ⟨1, rfl, by omega, rfl⟩
theorem noted_on {x : TOp} {tr : List TOp} : noted 0 x tr = tr ++ [x] := rfl
theorem noted_off {c : Int} (h : (c == 0) = false) {x : TOp} {tr : List TOp} : noted c x tr = tr := if_neg (fun e => by rw [e] at h; cases h)
theorem Ag.rd {n k : Nat} {σ : St} {tr : List TOp} (h : Ag n k σ tr) (a : Int) : Ag n (k + 1) (rd σ a).2.2 (noted (rd σ a).1 (1, a, (rd σ a).2.1) tr) := by
  have hw := h.si.wf.rd a
  rcases sure_rd h.si a with ⟨h0, h1, e⟩ | ⟨c, hc, _, e⟩
  · rw [e] at hw ⊢
    simp only [noted_on] at hw ⊢
    refine ⟨h.si.opsUp, by have := h.trl; simp; omega, fun x hx => ?_, ?_, h.ok.snoc (.inl ⟨a, _, rfl, h0, h1, (h.peekS a).symm⟩)⟩
    · rw [List.mem_append, List.mem_singleton] at hx
      rcases hx with hx | rfl
      · exact h.trb x hx
      · exact ⟨by have := hw.2.1; simp only; omega, hw.2.2⟩
    · rw [replF_snoc, ← h.st]; rfl
  · rw [e]
    simp only [noted_off hc]
    exact h.same
theorem Ag.write {n k : Nat} {σ : St} {tr : List TOp} (h : Ag n k σ tr) (a : Int) (b : List Int) (hb : ByteR b) (hl : b.length ≤ 20000) : Ag n (k + 1) (write σ a b).2 (noted (write σ a b).1 (2, a, b) tr) := by
  rcases sure_write h.si a b hb with ⟨h0, h1, h4, e, hs⟩ | ⟨c, hc, e⟩
  · rw [e]
    simp only [noted_on]
    refine ⟨hs, by have := h.trl; simp; omega, fun x hx => ?_, ?_, h.ok.snoc (.inr (.inl ⟨a, b, rfl, h0, h1, h4⟩))⟩
    · rw [List.mem_append, List.mem_singleton] at hx
      rcases hx with hx | rfl
      · exact h.trb x hx
      · exact ⟨hl, hb⟩
    · rw [replF_snoc, ← h.st]; rfl
  · rw [e]
    simp only [noted_off hc]
    exact h.same
theorem Ag.sync {n k : Nat} {σ : St} {tr : List TOp} (h : Ag n k σ tr) : Ag n (k + 1) (sync σ).2 (noted (sync σ).1 (3, 0, []) tr) := by
  obtain ⟨e, hs⟩ := sure_sync h.si
  rw [e]
  simp only [noted_on]
  refine ⟨hs, by have := h.trl; simp; omega, fun x hx => ?_, ?_, h.ok.snoc (.inr (.inr rfl))⟩
  · rw [List.mem_append, List.mem_singleton] at hx
    rcases hx with hx | rfl
    · exact h.trb x hx
    · exact ⟨by simp, fun y hy => by simp at hy⟩
  · rw [replF_snoc, ← h.st]
    show (landTo (fun _ => true) (opsUp σ) (opsUp σ).fl.length, []) = (landTo (fun _ => true) (ofS n (σ.cs, σ.fl)) σ.fl.length, [])
    rw [landTo_congr (σ := opsUp σ) (τ := ofS n (σ.cs, σ.fl)) rfl rfl]
    rfl
/-- What the j-th operation does on the other store. -/
theorem Ag.next {n j : Nat} {σ : St} {T : List TOp} (h : Ag n j σ (T.take j)) (hT : OkTr n T) (hj : j < T.length) :
    (∃ a d, T[j] = (1, a, d) ∧ Go.Proofs.Ytacfaegljjgneaa.rd σ a = (0, d, Go.Proofs.Ytacfaegljjgneaa.opsUp σ)) ∨ (∃ a b, T[j] = (2, a, b) ∧ ∃ τ, (ByteR b → Go.Proofs.Ytacfaegljjgneaa.write σ a b = (0, τ))) ∨ (T[j] = (3, 0, []) ∧ ∃ τ, Go.Proofs.Ytacfaegljjgneaa.sync σ = (0, τ)) := by
  rcases hT j hj with ⟨a, d, e, h0, h1, hd⟩ | ⟨a, b, e, h0, h1, h4⟩ | e
  · refine .inl ⟨a, d, e, ?_⟩
    rw [h.peekS] at hd
    rcases sure_rd h.si a with ⟨_, _, e2⟩ | ⟨c, hc, hno, _⟩
    · rw [e2, hd]
    · exact absurd ⟨h0, h1⟩ hno
  · refine .inr (.inl ⟨a, b, e, (Go.Proofs.Ytacfaegljjgneaa.addFl (Go.Proofs.Ytacfaegljjgneaa.opsUp σ) a b), fun hb => ?_⟩)
    unfold Go.Proofs.Ytacfaegljjgneaa.write
    rw [begins_sure h.si]
    have hn : (Go.Proofs.Ytacfaegljjgneaa.opsUp σ).n = n := h.si.wf.n
    have hs : (Go.Proofs.Ytacfaegljjgneaa.opsUp σ).size = 4 := h.si.wf.size
    have hin : inN (Go.Proofs.Ytacfaegljjgneaa.opsUp σ).n a = true := by unfold inN; exact decide_eq_true (by omega)
    simp only [if_neg (show ¬ true = false by simp), hin]
    rw [if_neg (by omega)]
  · exact .inr (.inr ⟨e, _, (sure_sync h.si).1⟩)
theorem take_next {T : List TOp} {j : Nat} (hj : j < T.length) : T.take j ++ [T[j]] = T.take (j + 1) := by
  rw [List.take_add_one, List.getElem?_eq_getElem hj]; rfl
end Go.Proofs.Ytacfaegljjgneaa
