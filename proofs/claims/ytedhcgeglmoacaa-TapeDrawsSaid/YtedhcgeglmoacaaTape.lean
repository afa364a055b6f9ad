import Derived.Test.YtedhcgeglmoacaaBase
namespace Go.Proofs.Ytedhcgeglmoacaa
set_option linter.unusedVariables false
set_option linter.unusedSimpArgs false
open Go.RowKit Go.Proofs.Sep

/-- A tape of leaves at block b: d drawn, s of them at first, the leaves ls. -/
def leaves (b : Nat) (d s : Nat) (ls : List Int) : Asn := ex fun v => blk b (.cells #[.int .i64 d, .int .i64 s, v] 33) * row 3 1 v ls.length (nums .i64 ls)

theorem leaves_open {E w : World} {F : Asn} {b d s : Nat} {ls : List Int} (h : Sat E (leaves b d s ls * F) w) : ∃ A c, ls.length ≤ c ∧ c ≤ maxLen ∧
    Sat E (blk b (.cells #[.int .i64 d, .int .i64 s, .slice A ls.length c] 33) * (row 3 1 (.slice A ls.length c) ls.length (nums .i64 ls) * F)) w ∧ Reads w 1 A ls.length (nums .i64 ls) := by
  obtain ⟨v, h⟩ := h.ex_left
  have h1 : Sat E (row 3 1 v ls.length (nums .i64 ls) * (blk b (.cells #[.int .i64 d, .int .i64 s, v] 33) * F)) w := h.eq (by ac_rfl)
  obtain ⟨A, c, rfl, h2, h3, h4⟩ := h1.reads
  exact ⟨A, c, h2, h3, h.eq (by ac_rfl), h4⟩
theorem leaves_shut {E w : World} {F : Asn} {b d s : Nat} {ls : List Int} {v : Value}
    (h : Sat E (blk b (.cells #[.int .i64 d, .int .i64 s, v] 33) * (row 3 1 v ls.length (nums .i64 ls) * F)) w) : Sat E (leaves b d s ls * F) w :=
  Sat.intro_left v (h.eq (by ac_rfl))

set_option maxRecDepth 100000 in
set_option maxHeartbeats 400000 in
theorem newLeaves {E w : World} {F : Asn} (A : Option Addr) (n c : Nat) (ls : List Int) (hS : Sat E F w) (hR : Reads w 1 A n (nums .i64 ls)) (hn : n * 8 ≤ 140737488351232) :
    Calls Try.prog 16 #[.slice A n c] w fun e w' => ∃ b, e = .returned (.pointer (some ⟨b, 0, none⟩)) ∧ Sat E (leaves b 0 n ls * F) w' := by
  obtain rfl : ls.length = n := by have := hR.1; simpa [nums] using this
  go_enter Try.func16, Try.ntmps16
  go_wp2_with (go_at_call 58; refine (cloneInts _ _ _ (nums .i64 ls) hS hR (nums_one _ _) hn).mono ?_; rintro e w1 ⟨v, rfl, h1⟩; obtain ⟨A1, c1, rfl, _⟩ := h1.reads)
  go_ret
  exact ⟨_, rfl, leaves_shut (h1.alloc _)⟩
end Go.Proofs.Ytedhcgeglmoacaa
