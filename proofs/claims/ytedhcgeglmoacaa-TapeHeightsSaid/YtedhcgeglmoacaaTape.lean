import Derived.Test.YtedhcgeglmoacaaSepLaws
import Derived.Test.YtedhcgeglmoacaaProg
namespace Go.Proofs.Ytedhcgeglmoacaa
open Go.RowKit Go.Proofs.Sep

theorem Try.info3 : (Try.prog.info? 3).map (fun i => (i.zero, i.size, i.bytes)) = some (some (.int .i64 0), 1, 8) := by kernel_rfl

set_option maxRecDepth 100000 in
set_option maxHeartbeats 400000 in
theorem cloneInts {E w : World} {F : Asn} (A : Option Addr) (n c : Nat) (xs : List Int) (hS : Sat E F w) (hR : Reads w 1 A n (nums .i64 xs)) (hn : n * 8 ≤ 140737488351232) :
    Calls Try.prog 58 #[.slice A n c] w fun e w' => ∃ v, e = .returned v ∧ Sat E (row 3 1 v n (nums .i64 xs) * F) w' := by
  cases A with
  | none =>
    obtain rfl : n = 0 := hR.2.2.1 rfl
    obtain rfl : xs = [] := List.eq_nil_of_length_eq_zero (by have := hR.1; simpa [nums] using this)
    have heq := fun w => Lib.run_eql_slice_nil (P := Try.prog) w 22 3 none 0 c 0 0 Try.underlying22
    go_enter Try.func58, Try.ntmps58
    go_wp2
    go_ret
    exact ⟨_, rfl, hS.row_nil⟩
  | some ad =>
    have heq := fun w => Lib.run_eql_slice_nil (P := Try.prog) w 22 3 (some ad) n c 0 0 Try.underlying22
    have hS0 : Sat E (row 3 1 (.slice (some ⟨w.heap.size, 0, none⟩) 0 0) 0 [] * F) (w.alloc (.cells #[] 3)) := (hS.alloc _).blk_row (n := 0) (cap := 0) (by omega) (by simp [maxLen]) rfl
    go_enter Try.func58, Try.ntmps58
    go_wp2_with (at_builtin; refine wpList_append_sat rfl _ _ 22 3 (.int .i64 0) 1 8 rfl Try.underlying22 Try.info3 rfl (by decide) _ 0 [] (some ad) n c (nums .i64 xs) rfl rfl hS0 (hR.alloc _) (nums_one _ _) (by unfold maxLen; omega) (by omega) ?_; intro v1 w1 hS1)
    go_ret
    exact ⟨v1, rfl, by simpa using hS1⟩

/-- A tape of leaves at block b: d drawn, s of them at first, the leaves ls. -/
def leaves (b : Nat) (d s : Nat) (ls : List Int) : Asn := ex fun v => blk b (.cells #[.int .i64 d, .int .i64 s, v] 33) * row 3 1 v ls.length (nums .i64 ls)

theorem leaves_open {E w : World} {F : Asn} {b d s : Nat} {ls : List Int} (h : Sat E (leaves b d s ls * F) w) : ∃ A c, ls.length ≤ c ∧ c ≤ maxLen ∧
    Sat E (blk b (.cells #[.int .i64 d, .int .i64 s, .slice A ls.length c] 33) * (row 3 1 (.slice A ls.length c) ls.length (nums .i64 ls) * F)) w ∧ Reads w 1 A ls.length (nums .i64 ls) := by
  obtain ⟨v, h⟩ := h.ex_left
  have h1 : Sat E (row 3 1 v ls.length (nums .i64 ls) * (blk b (.cells #[.int .i64 d, .int .i64 s, v] 33) * F)) w := h.eq (by ac_rfl)
  obtain ⟨A, c, rfl, h2, h3, h4⟩ := h1.reads
  exact ⟨A, c, h2, h3, h.eq (by ac_rfl), h4⟩
theorem leaves_shut {E w : World} {F : Asn} {b d s : Nat} {ls : List Int} {v : Value}
    (h : Sat E (blk b (.cells #[.int .i64 d, .int .i64 s, v] 33) * (row 3 1 v ls.length (nums .i64 ls) * F)) w) : Sat E (leaves b d s ls * F) w :=
  Sat.intro_left v (h.eq (by ac_rfl))

set_option maxRecDepth 100000 in
set_option maxHeartbeats 400000 in
theorem newLeaves {E w : World} {F : Asn} (A : Option Addr) (n c : Nat) (ls : List Int) (hS : Sat E F w) (hR : Reads w 1 A n (nums .i64 ls)) (hn : n * 8 ≤ 140737488351232) :
    Calls Try.prog 16 #[.slice A n c] w fun e w' => ∃ b, e = .returned (.pointer (some ⟨b, 0, none⟩)) ∧ Sat E (leaves b 0 n ls * F) w' := by
  obtain rfl : ls.length = n := by have := hR.1; simpa [nums] using this
  go_enter Try.func16, Try.ntmps16
  go_wp2_with (go_at_call 58; refine (cloneInts _ _ _ ls hS hR hn).mono ?_; rintro e w1 ⟨v, rfl, h1⟩; obtain ⟨A1, c1, rfl, _⟩ := h1.reads)
  go_ret
  exact ⟨_, rfl, leaves_shut (h1.alloc _)⟩
end Go.Proofs.Ytedhcgeglmoacaa
