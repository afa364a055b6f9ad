import Derived.Test.YtacfaegljjgneaaRef7
namespace Go.Proofs.Ytacfaegljjgneaa
set_option linter.unusedVariables false
set_option linter.unusedSimpArgs false
open Go.RowKit Go.Proofs.Sep

/-- A store behind k operations. -/
structure Wf (N Z K : Nat) (σ : St) : Prop where
  n : σ.n = N
  size : σ.size = Z
  csl : σ.cs.length = N
  cs : ∀ c ∈ σ.cs, c.length = Z ∧ ByteR c
  fl : ∀ f ∈ σ.fl, f.2.length = Z ∧ ByteR f.2
  fll : σ.fl.length ≤ K
  o1 : 0 ≤ σ.ops
  o2 : σ.ops ≤ K
  l1 : 0 ≤ σ.left
  l2 : σ.left ≤ 9223372036854775807
theorem Wf.new (n size : Nat) : Wf n size 0 (St.new n size) := by
  refine ⟨rfl, rfl, by simp [St.new], fun c hc => ?_, fun f hf => by simp [St.new] at hf, by simp [St.new], by simp [St.new], by simp [St.new], by simp [St.new], by simp [St.new]⟩
  simp only [St.new, List.mem_replicate] at hc
  rw [hc.2]
  refine ⟨by simp, fun x hx => ?_⟩
  rw [List.mem_replicate] at hx
  omega
theorem Wf.step {n size k : Nat} {σ : St} (h : Wf n size k σ) : Wf n size (k + 1) σ :=
  ⟨h.n, h.size, h.csl, h.cs, h.fl, Nat.le_succ_of_le h.fll, h.o1, by have := h.o2; omega, h.l1, h.l2⟩
theorem landTo_all {n size k : Nat} {σ : St} (h : Wf n size k σ) (p : Nat → Bool) (j : Nat) (hj : j ≤ σ.fl.length) : ∀ c ∈ landTo p σ j, c.length = size ∧ ByteR c := by
  induction j with
  | zero => exact h.cs
  | succ j ih =>
    simp only [landTo]
    split
    · intro c hc
      rcases List.mem_or_eq_of_mem_set hc with hc | rfl
      · exact ih (by omega) c hc
      · rw [List.getD_eq_getElem?_getD, List.getElem?_eq_getElem (by omega)]
        exact h.fl _ (List.getElem_mem _)
    · exact ih (by omega)
theorem Wf.lands {n size k : Nat} {σ : St} (h : Wf n size k σ) (p : Nat → Bool) : Wf n size k (lands p σ) :=
  ⟨h.n, h.size, (landTo_length p σ _).trans h.csl, landTo_all h p _ (Nat.le_refl _), fun f hf => by simp [Go.Proofs.Ytacfaegljjgneaa.lands] at hf, by simp [Go.Proofs.Ytacfaegljjgneaa.lands], h.o1, h.o2, h.l1, h.l2⟩
theorem Wf.crash {n size k : Nat} {σ : St} (h : Wf n size k σ) (ka : List Bool) : Wf n size k (crash ka σ) := by
  unfold Go.Proofs.Ytacfaegljjgneaa.crash
  split
  · exact h
  · have := h.lands (keepFn ka)
    exact ⟨this.n, this.size, this.csl, this.cs, this.fl, this.fll, this.o1, this.o2, by show (0 : Int) ≤ 0; omega, by show (0 : Int) ≤ _; omega⟩
theorem Wf.begins {n size k : Nat} {σ : St} (h : Wf n size k σ) : Wf n size (k + 1) (begins σ).2 ∧ (begins σ).2.fl.length ≤ k := by
  have h1 : Wf n size (k + 1) { σ with ops := σ.ops + 1 } := ⟨h.n, h.size, h.csl, h.cs, h.fl, Nat.le_succ_of_le h.fll, by have := h.o1; show 0 ≤ σ.ops + 1; omega, by have := h.o2; show σ.ops + 1 ≤ ((k + 1 : Nat) : Int); omega, h.l1, h.l2⟩
  unfold Go.Proofs.Ytacfaegljjgneaa.begins
  split
  · exact ⟨h.step, h.fll⟩
  · split
    · refine ⟨h1.crash _, ?_⟩
      unfold Go.Proofs.Ytacfaegljjgneaa.crash
      split
      · exact h.fll
      · simp [Go.Proofs.Ytacfaegljjgneaa.lands]
    · refine ⟨⟨h1.n, h1.size, h1.csl, h1.cs, h1.fl, h1.fll, h1.o1, h1.o2, ?_, ?_⟩, h.fll⟩
      · show 0 ≤ max (σ.left - 1) 0; omega
      · have := h.l2; show max (σ.left - 1) 0 ≤ _; omega
theorem Wf.sok {n size k : Nat} {σ : St} (h : Wf n size k σ) (hk : k ≤ 1000000) (hs : size ≤ 4096) : SOk σ :=
  ⟨h.o1, by have := h.o2; omega, h.l1, h.l2, by rw [h.begins.1.size]; exact hs, by have := h.begins.2; omega⟩
theorem peekTo_ok {n size k : Nat} {σ : St} (h : Wf n size k σ) (a : Nat) (ha : a < n) (j : Nat) (hj : j ≤ σ.fl.length) : (peekTo σ a j).length = size ∧ ByteR (peekTo σ a j) := by
  induction j with
  | zero =>
    unfold peekTo
    rw [List.take_zero, List.foldl_nil, List.getD_eq_getElem?_getD, List.getElem?_eq_getElem (by rw [h.csl]; exact ha)]
    exact h.cs _ (List.getElem_mem _)
  | succ j ih =>
    rw [peekTo_succ (by omega)]
    split
    · exact h.fl _ (List.getElem_mem _)
    · exact ih (by omega)
theorem Wf.peek {n size k : Nat} {σ : St} (h : Wf n size k σ) (a : Int) : (peek σ a).length ≤ size ∧ ByteR (peek σ a) := by
  unfold Go.Proofs.Ytacfaegljjgneaa.peek
  split
  · rename_i hin
    unfold inN at hin
    have := of_decide_eq_true hin
    have hn := h.n
    obtain ⟨h1, h2⟩ := peekTo_ok h a.toNat (by omega) σ.fl.length (Nat.le_refl _)
    exact ⟨by omega, h2⟩
  · exact ⟨by simp, fun x hx => by simp at hx⟩
theorem Wf.rd {n size k : Nat} {σ : St} (h : Wf n size k σ) (a : Int) : Wf n size (k + 1) (rd σ a).2.2 ∧ (rd σ a).2.1.length ≤ size ∧ ByteR (rd σ a).2.1 := by
  have hb := h.begins.1
  unfold Go.Proofs.Ytacfaegljjgneaa.rd
  split
  · exact ⟨hb, by simp, fun x hx => by simp at hx⟩
  · split
    · exact ⟨hb, by simp, fun x hx => by simp at hx⟩
    · exact ⟨hb, hb.peek a⟩
theorem Wf.write {n size k : Nat} {σ : St} (h : Wf n size k σ) (a : Int) (b : List Int) (hB : ByteR b) : Wf n size (k + 1) (write σ a b).2 := by
  obtain ⟨hb, hf⟩ := h.begins
  unfold Go.Proofs.Ytacfaegljjgneaa.write
  split
  · exact hb
  · split
    · exact hb
    · split
      · exact hb
      · rename_i hl
        refine ⟨hb.n, hb.size, hb.csl, hb.cs, fun f hf => ?_, by simp [addFl]; omega, hb.o1, hb.o2, hb.l1, hb.l2⟩
        simp only [addFl, List.mem_append, List.mem_singleton] at hf
        rcases hf with hf | rfl
        · exact hb.fl f hf
        · have := hb.size
          exact ⟨by simp only; omega, hB⟩
theorem Wf.sync {n size k : Nat} {σ : St} (h : Wf n size k σ) : Wf n size (k + 1) (sync σ).2 := by
  have hb := h.begins.1
  unfold Go.Proofs.Ytacfaegljjgneaa.sync
  split
  · exact hb
  · exact hb.lands _
theorem Wf.arm {n size k : Nat} {σ : St} (h : Wf n size k σ) (a : Int) (ka : List Bool) (ha : a ≤ 9223372036854775807) : Wf n size k (arm σ a ka).2 := by
  unfold Go.Proofs.Ytacfaegljjgneaa.arm
  split
  · exact h
  · exact ⟨h.n, h.size, h.csl, h.cs, h.fl, h.fll, h.o1, h.o2, by show 0 ≤ a; omega, ha⟩
theorem Wf.reboot {n size k : Nat} {σ : St} (h : Wf n size k σ) : Wf n size k { σ with down := false } :=
  ⟨h.n, h.size, h.csl, h.cs, h.fl, h.fll, h.o1, h.o2, h.l1, h.l2⟩
theorem noted_le (e : Int) (x : TOp) (tr : List TOp) : (noted e x tr).length ≤ tr.length + 1 := by
  unfold noted
  split <;> simp
end Go.Proofs.Ytacfaegljjgneaa
