import Derived.Test.YtacfaegljjgneaaPlay1
import Derived.Test.YtacfaegljjgneaaTrc9
namespace Go.Proofs.Ytacfaegljjgneaa
set_option linter.unusedVariables false
set_option linter.unusedSimpArgs false
open Go.RowKit Go.Proofs.Sep

section
variable {E w : World} {F : Asn} {r s : Nat} {σ : St} {tr : List TOp}
theorem recd_ptr (hS : Sat E (recd r s σ tr * F) w) : w.cell? ⟨r, 0, none⟩ = some (.pointer (some ⟨s, 0, none⟩)) := by
  obtain ⟨v, h⟩ := recd_split hS
  exact rcore_ptr h
theorem xarm (after : Int) (A : Option Addr) (n c : Nat) (ka : List Bool) (hn : n ≤ 1000000) (hS : Sat E (recd r s σ tr * F) w) (hK : ∀ w, Sat E F w → Reads w 1 A n (bools ka)) :
    Calls Try.prog 26 #[.pointer (some ⟨s, 0, none⟩), .int .i64 after, .slice A n c] w fun e w' => e = .returned (.bool (arm σ after ka).1) ∧ Sat E (recd r s (arm σ after ka).2 tr * F) w' := by
  obtain ⟨v, h⟩ := recd_split hS
  exact (arm_calls s σ after A n c ka hn h (fun w h => hK w h.right)).mono fun e w' ⟨a, b⟩ => ⟨a, recd_join b⟩
theorem xcrash (A : Option Addr) (n c : Nat) (ka : List Bool) (hS : Sat E (recd r s σ tr * F) w) (hK : ∀ w, Sat E F w → Reads w 1 A n (bools ka)) :
    Calls Try.prog 18 #[.pointer (some ⟨s, 0, none⟩), .slice A n c] w fun e w' => e = .returned (.bool (!σ.down)) ∧ Sat E (recd r s (crash ka σ) tr * F) w' := by
  obtain ⟨v, h⟩ := recd_split hS
  exact (crash_calls s σ A n c ka h (fun w h => hK w h.right)).mono fun e w' ⟨a, b⟩ => ⟨a, recd_join b⟩
theorem xreboot (hS : Sat E (recd r s σ tr * F) w) :
    Calls Try.prog 25 #[.pointer (some ⟨s, 0, none⟩)] w fun e w' => e = .returned (.bool σ.down) ∧ Sat E (recd r s { σ with down := false } tr * F) w' := by
  obtain ⟨v, h⟩ := recd_split hS
  exact (reboot_calls s σ h).mono fun e w' ⟨a, b⟩ => ⟨a, recd_join b⟩
theorem xup (hS : Sat E (recd r s σ tr * F) w) : Calls Try.prog 19 #[.pointer (some ⟨s, 0, none⟩)] w fun e w' => e = .returned (.bool (!σ.down)) ∧ w' = w := by
  obtain ⟨v, h⟩ := recd_split hS
  exact up_calls s σ h
theorem xops (hS : Sat E (recd r s σ tr * F) w) : Calls Try.prog 27 #[.pointer (some ⟨s, 0, none⟩)] w fun e w' => e = .returned (.int .i64 σ.ops) ∧ w' = w := by
  obtain ⟨v, h⟩ := recd_split hS
  exact ops_calls s σ h
theorem xpeek (a : Int) (hs : σ.size ≤ 4096) (hS : Sat E (recd r s σ tr * F) w) :
    Calls Try.prog 16 #[.pointer (some ⟨s, 0, none⟩), .int .i64 a] w fun e w' => ∃ v, e = .returned v ∧ Sat E (row 5 1 v (peek σ a).length (nums .u8 (peek σ a)) * (recd r s σ tr * F)) w' := by
  obtain ⟨v, h⟩ := recd_split hS
  refine (peek_calls s σ a hs h).mono fun e w' ⟨v1, a, b⟩ => ⟨v1, a, ?_⟩
  have h2 := recd_join (b.eq (show _ = store s σ * (rcore r s v tr * (row 5 1 v1 (peek σ _).length (nums .u8 (peek σ _)) * F)) by ac_rfl))
  exact h2.eq (star_left_comm _ _ _)
end
theorem noted_len (e : Int) (x : TOp) (tr : List TOp) : ((e == 0) = true ∧ (noted e x tr).length = tr.length + 1) ∨ ((e == 0) = false ∧ (noted e x tr).length = tr.length) := by
  unfold noted
  by_cases h : e = 0
  · subst h; exact .inl ⟨rfl, by simp⟩
  · rw [if_neg h]; exact .inr ⟨beq_eq_false_iff_ne.2 h, rfl⟩
theorem noted_all {P : TOp → Prop} {e : Int} {x : TOp} {tr : List TOp} (h : ∀ y ∈ tr, P y) (hx : P x) : ∀ y ∈ noted e x tr, P y := by
  unfold noted
  split
  · intro y hy
    rw [List.mem_append, List.mem_singleton] at hy
    rcases hy with hy | rfl
    · exact h y hy
    · exact hx
  · exact h
theorem crash_ops (ka : List Bool) (σ : St) : (crash ka σ).ops = σ.ops := by
  unfold crash
  split <;> rfl
theorem begins_ops (σ : St) : σ.ops ≤ (begins σ).2.ops ∧ ((begins σ).1 = true → (begins σ).2.ops = σ.ops + 1) := by
  unfold begins
  split
  · exact ⟨by simp, fun h => by simp at h⟩
  · split
    · refine ⟨?_, fun h => by simp at h⟩
      simp only [crash_ops]
      omega
    · exact ⟨by show σ.ops ≤ σ.ops + 1; omega, fun _ => rfl⟩
theorem write_ops (σ : St) (a : Int) (b : List Int) : σ.ops ≤ (write σ a b).2.ops ∧ (((write σ a b).1 == 0) = true → (write σ a b).2.ops = σ.ops + 1) := by
  obtain ⟨h1, h2⟩ := begins_ops σ
  unfold write
  split
  · exact ⟨h1, fun h => by simp at h⟩
  · rename_i hb
    have hb' : (begins σ).1 = true := by simpa using hb
    split
    · exact ⟨h1, fun h => by simp at h⟩
    · split
      · exact ⟨h1, fun h => by simp at h⟩
      · exact ⟨h1, fun _ => h2 hb'⟩
theorem rd_ops (σ : St) (a : Int) : σ.ops ≤ (rd σ a).2.2.ops ∧ (((rd σ a).1 == 0) = true → (rd σ a).2.2.ops = σ.ops + 1) := by
  obtain ⟨h1, h2⟩ := begins_ops σ
  unfold rd
  split
  · exact ⟨h1, fun h => by simp at h⟩
  · rename_i hb
    have hb' : (begins σ).1 = true := by simpa using hb
    split
    · exact ⟨h1, fun h => by simp at h⟩
    · exact ⟨h1, fun _ => h2 hb'⟩
theorem sync_ops (σ : St) : σ.ops ≤ (sync σ).2.ops ∧ (((sync σ).1 == 0) = true → (sync σ).2.ops = σ.ops + 1) := by
  obtain ⟨h1, h2⟩ := begins_ops σ
  unfold sync
  split
  · exact ⟨h1, fun h => by simp at h⟩
  · rename_i hb
    have hb' : (begins σ).1 = true := by simpa using hb
    exact ⟨h1, fun _ => h2 hb'⟩
theorem arm_ops (σ : St) (a : Int) (ka : List Bool) : (arm σ a ka).2.ops = σ.ops := by
  unfold arm
  split <;> rfl
/-- A recorder behind k operations. -/
structure Rf (n size k : Nat) (σ : St) (tr : List TOp) : Prop where
  wf : Wf n size k σ
  trl : tr.length ≤ k
  trb : ∀ x ∈ tr, x.2.2.length ≤ 20000
  ops : (tr.length : Int) ≤ σ.ops
theorem Rf.noted {n size k : Nat} {σ τ : St} {tr : List TOp} {e : Int} {x : TOp} (h : Rf n size k σ tr) (hw : Wf n size (k + 1) τ) (hx : x.2.2.length ≤ 20000) (ho : σ.ops ≤ τ.ops ∧ ((e == 0) = true → τ.ops = σ.ops + 1)) :
    Rf n size (k + 1) τ (noted e x tr) := by
  refine ⟨hw, Nat.le_trans (noted_le e x tr) (by have := h.trl; omega), noted_all h.trb hx, ?_⟩
  have h1 := h.ops
  rcases noted_len e x tr with ⟨a, b⟩ | ⟨a, b⟩
  · have := ho.2 a; omega
  · have := ho.1; omega
theorem Rf.other {n size k : Nat} {σ τ : St} {tr : List TOp} (h : Rf n size k σ tr) (hw : Wf n size (k + 1) τ) (ho : τ.ops = σ.ops) : Rf n size (k + 1) τ tr :=
  ⟨hw, Nat.le_succ_of_le h.trl, h.trb, by have := h.ops; omega⟩
end Go.Proofs.Ytacfaegljjgneaa
