import Derived.Test.YtedhcgeglmoacaaBase
import Derived.Test.YtedhcgeglmoacaaSepArgs
import Derived.Test.YtedhcgeglmoacaaSepQuiet
namespace Go.Proofs.Ytedhcgeglmoacaa
set_option linter.unusedVariables false
set_option linter.unusedSimpArgs false
open Go.RowKit Go.Proofs.Sep

/-- A map of places at block m. -/
def pmap (m : Nat) (l : List (Int × Int)) (c : List Bool) : Asn := ex fun va => ex fun vb => blk m (.cells #[va, vb] 114) * (row 39 2 va l.length (pairs l) * row 4 1 vb l.length (bools c))
theorem pmap_open {E w : World} {F : Asn} {m : Nat} {l : List (Int × Int)} {c : List Bool} (h : Sat E (pmap m l c * F) w) : ∃ A ca B cb, l.length ≤ ca ∧ ca ≤ maxLen ∧ l.length ≤ cb ∧ cb ≤ maxLen ∧ c.length = l.length ∧
    Sat E (blk m (.cells #[.slice A l.length ca, .slice B l.length cb] 114) * (row 39 2 (.slice A l.length ca) l.length (pairs l) * (row 4 1 (.slice B l.length cb) l.length (bools c) * F))) w ∧
    Reads w 2 A l.length (pairs l) ∧ Reads w 1 B l.length (bools c) := by
  obtain ⟨va, h⟩ := h.ex_left
  obtain ⟨vb, h⟩ := h.ex_left
  have h1 : Sat E (row 39 2 va l.length (pairs l) * (row 4 1 vb l.length (bools c) * (blk m (.cells #[va, vb] 114) * F))) w := h.eq (by ac_rfl)
  obtain ⟨A, ca, rfl, h2, h3, h4⟩ := h1.reads
  obtain ⟨B, cb, rfl, h5, h6, h7⟩ := h1.right.reads
  have hl := h1.right.row_len
  exact ⟨A, ca, B, cb, h2, h3, h5, h6, by simpa [bools_length] using hl, h.eq (by ac_rfl), h4, h7⟩
theorem pmap_shut {E w : World} {F : Asn} {m : Nat} {l : List (Int × Int)} {c : List Bool} {va vb : Value}
    (h : Sat E (blk m (.cells #[va, vb] 114) * (row 39 2 va l.length (pairs l) * (row 4 1 vb l.length (bools c) * F))) w) : Sat E (pmap m l c * F) w :=
  Sat.intro_left va (Sat.intro_left vb (h.eq (by ac_rfl)))
/-- What reads need of a map: its two headers. -/
theorem pmap_cells {E w : World} {F : Asn} {m : Nat} {l : List (Int × Int)} {c : List Bool} (h : Sat E (pmap m l c * F) w) : ∃ A ca B cb, c.length = l.length ∧
    w.cell? ⟨m, 0, none⟩ = some (.slice A l.length ca) ∧ w.cell? ⟨m, 1, none⟩ = some (.slice B l.length cb) ∧ Reads w 2 A l.length (pairs l) ∧ Reads w 1 B l.length (bools c) := by
  obtain ⟨A, ca, B, cb, _, _, _, _, hl, hs, r1, r2⟩ := pmap_open h
  exact ⟨A, ca, B, cb, hl, hs.cell_blk, hs.cell_blk, r1, r2⟩

/-- Is it a number of the map? -/
def inP (n : Nat) (k : Int) : Bool := decide (0 ≤ k ∧ k < n)
def mayP (n : Nat) (k : Int) (p : Int × Int) : Bool := inP n k && decide (0 ≤ p.1) && decide (0 ≤ p.2)
set_option maxRecDepth 100000 in
set_option maxHeartbeats 400000 in
theorem isP_calls {w : World} (m : Nat) (A : Option Addr) (n c : Nat) (k : Int) (hc : w.cell? ⟨m, 0, none⟩ = some (.slice A n c)) :
    Calls Try.prog 61 #[.pointer (some ⟨m, 0, none⟩), .int .i64 k] w fun e w' => e = .returned (.bool (inP n k)) ∧ w = w' := by
  by_cases h0 : 0 ≤ k
  · by_cases h1 : k < n
    · have hv : inP n k = true := by unfold inP; exact decide_eq_true ⟨h0, h1⟩
      rw [hv]
      clear hv
      go_enter Try.func61, Try.ntmps61
      go_wp2
      go_ret
      exact ⟨ret_bool (by first | (simp; done) | (simp; omega)), rfl⟩
    · have hv : inP n k = false := by unfold inP; exact decide_eq_false (fun h => h1 h.2)
      rw [hv]
      clear hv
      go_enter Try.func61, Try.ntmps61
      go_wp2
      go_ret
      exact ⟨ret_bool (by first | (simp; done) | (simp; omega)), rfl⟩
  · have hv : inP n k = false := by unfold inP; exact decide_eq_false (fun h => h0 h.1)
    rw [hv]
    clear hv
    go_enter Try.func61, Try.ntmps61
    go_wp2
    go_ret
    exact ⟨ret_bool (by first | (simp; done) | (simp; omega)), rfl⟩
/-- A place as a value. -/
def plc (p : Int × Int) : Value := .agg #[.int .i64 p.1, .int .i64 p.2]
set_option maxRecDepth 100000 in
set_option maxHeartbeats 400000 in
theorem may_calls {E w : World} {F : Asn} (m : Nat) (l : List (Int × Int)) (c : List Bool) (k : Int) (p : Int × Int) (hS : Sat E (pmap m l c * F) w) :
    Calls Try.prog 60 #[.pointer (some ⟨m, 0, none⟩), .int .i64 k, plc p] w fun e w' => e = .returned (.bool (mayP l.length k p)) ∧ Sat E (pmap m l c * F) w' := by
  obtain ⟨p0, p1⟩ := p
  unfold plc mayP
  simp only
  have hS1 := hS.alloc_drop (.cells #[.int .i64 p0, .int .i64 p1] 39)
  obtain ⟨A, ca, B, cb, hl, hc0, _, _, _⟩ := pmap_cells hS1
  have hb := isP_calls m A l.length ca k hc0
  have hin : inP l.length k = true ∨ inP l.length k = false := by cases inP l.length k <;> simp
  rcases hin with hin | hin
  · by_cases h0 : 0 ≤ p0
    · have e0 : decide (0 ≤ p0) = true := decide_eq_true h0
      by_cases h1 : 0 ≤ p1
      · have e1 : decide (0 ≤ p1) = true := decide_eq_true h1
        rw [hin] at hb ⊢
        go_enter Try.func60, Try.ntmps60
        go_wp2_with (go_at_call 61; refine hb.mono ?_; rintro e w1 ⟨rfl, rfl⟩)
        go_ret
        exact ⟨ret_bool (by simp [h0, h1]), hS1⟩
      · have e1 : decide (0 ≤ p1) = false := decide_eq_false h1
        rw [hin] at hb ⊢
        go_enter Try.func60, Try.ntmps60
        go_wp2_with (go_at_call 61; refine hb.mono ?_; rintro e w1 ⟨rfl, rfl⟩)
        go_ret
        exact ⟨ret_bool (by simp [h0, h1]), hS1⟩
    · have e0 : decide (0 ≤ p0) = false := decide_eq_false h0
      rw [hin] at hb ⊢
      go_enter Try.func60, Try.ntmps60
      go_wp2_with (go_at_call 61; refine hb.mono ?_; rintro e w1 ⟨rfl, rfl⟩)
      go_ret
      exact ⟨ret_bool (by rw [e0]; simp), hS1⟩
  · rw [hin] at hb ⊢
    go_enter Try.func60, Try.ntmps60
    go_wp2_with (go_at_call 61; refine hb.mono ?_; rintro e w1 ⟨rfl, rfl⟩)
    go_ret
    exact ⟨ret_bool (by simp), hS1⟩
end Go.Proofs.Ytedhcgeglmoacaa
