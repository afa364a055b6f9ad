import Derived.Test.YtacfaegljjgneaaCells1
namespace Go.Proofs.Ytacfaegljjgneaa
set_option linter.unusedVariables false
set_option linter.unusedSimpArgs false
open Go.RowKit Go.Proofs.Sep

/-- Is there such a cell? -/
def inN (n : Nat) (a : Int) : Bool := decide (0 ≤ a ∧ a < n)
set_option maxRecDepth 100000 in
set_option maxHeartbeats 400000 in
theorem is_calls {w : World} (s : Nat) (A : Option Addr) (n c : Nat) (a : Int) (hc : w.cell? ⟨s, 0, none⟩ = some (.slice A n c)) :
    Calls Try.prog 57 #[.pointer (some ⟨s, 0, none⟩), .int .i64 a] w fun e w' => e = .returned (.bool (inN n a)) ∧ w' = w := by
  by_cases h0 : 0 ≤ a
  · by_cases h1 : a < n
    · have hv : inN n a = true := by unfold inN; exact decide_eq_true ⟨h0, h1⟩
      rw [hv]
      clear hv
      go_enter Try.func57, Try.ntmps57
      go_wp2
      go_ret
      exact ⟨ret_bool (by first | (simp; done) | (simp; omega)), rfl⟩
    · have hv : inN n a = false := by unfold inN; exact decide_eq_false (fun h => h1 h.2)
      rw [hv]
      clear hv
      go_enter Try.func57, Try.ntmps57
      go_wp2
      go_ret
      exact ⟨ret_bool (by first | (simp; done) | (simp; omega)), rfl⟩
  · have hv : inN n a = false := by unfold inN; exact decide_eq_false (fun h => h0 h.1)
    rw [hv]
    clear hv
    go_enter Try.func57, Try.ntmps57
    go_wp2
    go_ret
    exact ⟨ret_bool (by first | (simp; done) | (simp; omega)), rfl⟩

/-- The slices of an opened store. -/
theorem store_slices {E w : World} {F : Asn} {s : Nat} {σ : St} {r : Rep} (h : Sat E (stBlk s σ r * (row 22 1 r.cv σ.n r.cvals * (row 87 2 r.fv σ.fl.length (flat r.fl) * (row 4 1 r.kv σ.keep.length (bools σ.keep) * (bag r.P * F))))) w) :
    ∃ A1 c1 A2 c2 A3 c3, r.cv = .slice A1 σ.n c1 ∧ r.fv = .slice A2 σ.fl.length c2 ∧ r.kv = .slice A3 σ.keep.length c3 ∧ Reads w 1 A1 σ.n r.cvals ∧ Reads w 2 A2 σ.fl.length (flat r.fl) ∧ Reads w 1 A3 σ.keep.length (bools σ.keep) ∧ σ.fl.length ≤ c2 := by
  obtain ⟨A1, c1, e1, _, _, r1⟩ := h.right.reads
  obtain ⟨A2, c2, e2, q2, _, r2⟩ := h.right.right.reads
  obtain ⟨A3, c3, e3, _, _, r3⟩ := h.right.right.right.reads
  exact ⟨A1, c1, A2, c2, A3, c3, e1, e2, e3, r1, r2, r3, q2⟩

set_option maxRecDepth 100000 in
set_option maxHeartbeats 400000 in
theorem flight_calls {E w : World} {F : Asn} (s : Nat) (σ : St) (hS : Sat E (store s σ * F) w) :
    Calls Try.prog 17 #[.pointer (some ⟨s, 0, none⟩)] w fun e w' => e = .returned (.int .i64 σ.fl.length) ∧ w' = w := by
  obtain ⟨r, hr, h⟩ := store_open hS
  obtain ⟨A1, c1, A2, c2, A3, c3, e1, e2, e3, _, _, _, _⟩ := store_slices h
  obtain ⟨d0, d1, d2, d3, d4, d5, d6⟩ := store_cells h
  rw [e2] at d2
  clear e1 e2 e3
  go_enter Try.func17, Try.ntmps17
  go_wp2
  go_ret
  exact ⟨rfl, rfl⟩

set_option maxRecDepth 100000 in
set_option maxHeartbeats 400000 in
theorem up_calls {E w : World} {F : Asn} (s : Nat) (σ : St) (hS : Sat E (store s σ * F) w) :
    Calls Try.prog 19 #[.pointer (some ⟨s, 0, none⟩)] w fun e w' => e = .returned (.bool (!σ.down)) ∧ w' = w := by
  obtain ⟨r, hr, h⟩ := store_open hS
  obtain ⟨d0, d1, d2, d3, d4, d5, d6⟩ := store_cells h
  go_enter Try.func19, Try.ntmps19
  go_wp2
  go_ret
  exact ⟨rfl, rfl⟩

set_option maxRecDepth 100000 in
set_option maxHeartbeats 400000 in
theorem reboot_calls {E w : World} {F : Asn} (s : Nat) (σ : St) (hS : Sat E (store s σ * F) w) :
    Calls Try.prog 25 #[.pointer (some ⟨s, 0, none⟩)] w fun e w' => e = .returned (.bool σ.down) ∧ Sat E (store s { σ with down := false } * F) w' := by
  obtain ⟨r, hr, h⟩ := store_open hS
  obtain ⟨d0, d1, d2, d3, d4, d5, d6⟩ := store_cells h
  have f6 := h.free_blk (i := 6)
  have lt := h.lt_blk
  have h2 := h.setCell (i := 6) (.bool false)
  have hok : r.Ok { σ with down := false } := ⟨hr.n1, hr.n2, hr.cells, hr.f1, hr.fly⟩
  have h3 := store_shut (s := s) (σ := { σ with down := false }) (r := r) hok h2
  have H3 := hid h3
  clear h2 h3 hok h hr
  go_enter Try.func25, Try.ntmps25
  go_wp2
  go_ret
  exact ⟨rfl, H3.out⟩
end Go.Proofs.Ytacfaegljjgneaa
