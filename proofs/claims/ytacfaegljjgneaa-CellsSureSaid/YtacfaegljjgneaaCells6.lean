import Derived.Test.YtacfaegljjgneaaCells5
namespace Go.Proofs.Ytacfaegljjgneaa
set_option linter.unusedVariables false
set_option linter.unusedSimpArgs false
open Go.RowKit Go.Proofs.Sep

theorem crash_calls {E w : World} {F : Asn} (s : Nat) (σ : St) (A : Option Addr) (n c : Nat) (ka : List Bool) (hS : Sat E (store s σ * F) w) (hK : ∀ w, Sat E F w → Reads w 1 A n (bools ka)) :
    Calls Try.prog 18 #[.pointer (some ⟨s, 0, none⟩), .slice A n c] w fun e w' => e = .returned (.bool (!σ.down)) ∧ Sat E (store s (crash ka σ) * F) w' := by
  obtain ⟨r, hr, h⟩ := store_open hS
  exact crash_open s σ A n c ka r hr h (fun w hw => hK w hw.right)

/-- An operation begins, or does not come to it. -/
def begins (σ : St) : Bool × St := if σ.down = true then (false, σ) else if σ.left = 1 then (false, crash σ.keep { σ with ops := σ.ops + 1 }) else (true, { σ with ops := σ.ops + 1, left := max (σ.left - 1) 0 })
theorem begins_down {σ : St} (h : σ.down = true) : begins σ = (false, σ) := if_pos h
theorem begins_falls {σ : St} (h : σ.down = false) (h1 : σ.left = 1) : begins σ = (false, crash σ.keep { σ with ops := σ.ops + 1 }) := by unfold begins; rw [if_neg (by simp [h]), if_pos h1]
theorem begins_on {σ : St} (h : σ.down = false) (h1 : ¬ σ.left = 1) : begins σ = (true, { σ with ops := σ.ops + 1, left := max (σ.left - 1) 0 }) := by unfold begins; rw [if_neg (by simp [h]), if_neg h1]

set_option maxRecDepth 100000 in
set_option maxHeartbeats 2000000 in
theorem begins_calls {E w : World} {F : Asn} (s : Nat) (σ : St) (ho : 0 ≤ σ.ops) (ho2 : σ.ops ≤ 1000000) (hl : 0 ≤ σ.left) (hl2 : σ.left ≤ 9223372036854775807) (hS : Sat E (store s σ * F) w) :
    Calls Try.prog 56 #[.pointer (some ⟨s, 0, none⟩)] w fun e w' => e = .returned (.bool (begins σ).1) ∧ Sat E (store s (begins σ).2 * F) w' := by
  rcases Bool.eq_false_or_eq_true σ.down with hd | hd
  · rw [begins_down hd]
    obtain ⟨r, hr, h⟩ := store_open hS
    obtain ⟨d0, d1, d2, d3, d4, d5, d6⟩ := store_cells h
    rw [hd] at d6
    clear hd
    go_enter Try.func56, Try.ntmps56
    go_wp2
    go_ret
    exact ⟨rfl, hS⟩
  · obtain ⟨r, hr, h⟩ := store_open hS
    obtain ⟨d0, d1, d2, d3, d4, d5, d6⟩ := store_cells h
    have f5 := h.free_blk (i := 5)
    have lt := h.lt_blk
    have wo := i64_wrap (x := σ.ops + 1) (by omega) (by omega)
    have h2 := h.setCell (i := 5) (.int .i64 (σ.ops + 1))
    have hok : r.Ok { σ with ops := σ.ops + 1 } := ⟨hr.n1, hr.n2, hr.cells, hr.f1, hr.fly⟩
    have h3 : Sat E (stBlk s { σ with ops := σ.ops + 1 } r * (row 22 1 r.cv σ.n r.cvals * (row 87 2 r.fv σ.fl.length (flat r.fl) * (row 4 1 r.kv σ.keep.length (bools σ.keep) * (bag r.P * F))))) _ := h2
    obtain ⟨z0, z1, z2, z3, z4, z5, z6⟩ := store_cells h3
    simp only at z0 z1 z2 z3 z4 z5 z6
    by_cases h1 : σ.left = 1
    · rw [begins_falls hd h1]
      obtain ⟨A1, c1, A2, c2, A3, c3, e1, e2, e3, _, _, _, _⟩ := store_slices h3
      simp only at e1 e2 e3
      have hc := crash_open s { σ with ops := σ.ops + 1 } A3 σ.keep.length c3 σ.keep r hok h3 (fun w hw => by rw [e3] at hw; exact hw.reads_at)
      rw [e3] at z4
      rw [h1] at z3 d3
      rw [hd] at d6
      have HC := hid hc
      clear hc e1 e2 e3 h2 h3 h hok hr hS hd h1 hl hl2
      go_enter Try.func56, Try.ntmps56
      go_wp2_with fail
      refine HC.out.mono ?_
      rintro e w2 ⟨rfl, g⟩
      go_wp2
      go_ret
      exact ⟨rfl, g⟩
    · rw [begins_on hd h1]
      have f3 := h3.free_blk (i := 3)
      have lt3 := h3.lt_blk
      obtain ⟨m, hm⟩ : ∃ m, m = max (σ.left - 1) 0 := ⟨_, rfl⟩
      have h4 := h3.setCell (i := 3) (.int .i64 m)
      have hok2 : r.Ok { σ with ops := σ.ops + 1, left := m } := ⟨hr.n1, hr.n2, hr.cells, hr.f1, hr.fly⟩
      have H5 := hid (store_shut (s := s) (σ := { σ with ops := σ.ops + 1, left := m }) hok2 h4)
      rw [← hm]
      rw [hd] at d6
      have b1 : (σ.left == 1) = false := by rw [beq_eq_false_iff_ne]; exact h1
      have wl := i64_wrap (x := σ.left - 1) (by omega) (by omega)
      rcases Int.lt_or_le (σ.left - 1) 0 with hlt | hge
      · have q1 : ¬ 0 ≤ σ.left - 1 := by omega
        have q2 : ¬ 0 < σ.left - 1 := by omega
        have hm0 : m = 0 := by omega
        subst hm0
        clear h4 h3 h2 h hr hok hok2 hS hm hd
        go_enter Try.func56, Try.ntmps56
        go_wp2
        go_ret
        exact ⟨rfl, H5.out⟩
      · have hm1 : m = σ.left - 1 := by omega
        have q1 : ¬ σ.left - 1 < 0 := by omega
        subst hm1
        clear h4 h3 h2 h hr hok hok2 hS hm hd
        go_enter Try.func56, Try.ntmps56
        go_wp2
        go_ret
        exact ⟨rfl, H5.out⟩
end Go.Proofs.Ytacfaegljjgneaa
