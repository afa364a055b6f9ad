import Derived.Test.YtedhcgeglmoacaaSepLaws
import Derived.Test.YtedhcgeglmoacaaProg
namespace Go.Proofs.Ytedhcgeglmoacaa
set_option linter.unusedVariables false
set_option linter.unusedSimpArgs false
open Go.RowKit Go.Proofs.Sep

theorem Try.info3 : (Try.prog.info? 3).map (fun i => (i.zero, i.size, i.bytes)) = some (some (.int .i64 0), 1, 8) := by kernel_rfl

theorem Try.info5 : (Try.prog.info? 5).map (fun i => (i.zero, i.size, i.bytes)) = some (some (.int .u8 0), 1, 1) := by kernel_rfl

theorem Try.info39 : (Try.prog.info? 39).map (fun i => (i.zero, i.size, i.bytes)) = some (some (.agg #[.int .i64 0, .int .i64 0]), 2, 16) := by kernel_rfl

theorem Try.info4 : (Try.prog.info? 4).map (fun i => (i.zero, i.size, i.bytes)) = some (some (.bool false), 1, 1) := by kernel_rfl


set_option maxRecDepth 100000 in
set_option maxHeartbeats 400000 in
theorem cloneInts {E w : World} {F : Asn} (A : Option Addr) (n c : Nat) (cs : List Value) (hS : Sat E F w) (hR : Reads w 1 A n cs) (h1 : ∀ u ∈ cs, u.oneCell' = true) (hn : n * 8 ≤ 140737488351232) :
    Calls Try.prog 58 #[.slice A n c] w fun e w' => ∃ v, e = .returned v ∧ Sat E (row 3 1 v n cs * F) w' := by
  cases A with
  | none =>
    obtain rfl : n = 0 := hR.2.2.1 rfl
    obtain rfl : cs = [] := List.eq_nil_of_length_eq_zero (by have := hR.1; simpa using this)
    have heq := fun w => Lib.run_eql_slice_nil (P := Try.prog) w 22 3 none 0 c 0 0 Try.underlying22
    go_enter Try.func58, Try.ntmps58
    go_wp2
    go_ret
    exact ⟨_, rfl, hS.row_nil⟩
  | some ad =>
    have heq := fun w => Lib.run_eql_slice_nil (P := Try.prog) w 22 3 (some ad) n c 0 0 Try.underlying22
    have hS0 : Sat E (row 3 1 (.slice (some ⟨w.heap.size, 0, none⟩) 0 0) 0 [] * F) (w.alloc (.cells #[] 3)) := (hS.alloc _).blk_row (n := 0) (cap := 0) (by omega) (by simp [maxLen]) rfl
    go_enter Try.func58, Try.ntmps58
    go_wp2_with (at_builtin; refine wpList_append_sat rfl _ _ 22 3 (.int .i64 0) 1 8 rfl Try.underlying22 Try.info3 rfl (by decide) _ 0 [] (some ad) n c cs rfl rfl hS0 (hR.alloc _) h1 (by unfold maxLen; omega) (by omega) ?_; intro v1 w1 hS1)
    go_ret
    exact ⟨v1, rfl, by simpa using hS1⟩


set_option maxRecDepth 100000 in
set_option maxHeartbeats 400000 in
theorem cloneBytes {E w : World} {F : Asn} (A : Option Addr) (n c : Nat) (cs : List Value) (hS : Sat E F w) (hR : Reads w 1 A n cs) (h1 : ∀ u ∈ cs, u.oneCell' = true) (hn : n * 1 ≤ 140737488351232) :
    Calls Try.prog 62 #[.slice A n c] w fun e w' => ∃ v, e = .returned v ∧ Sat E (row 5 1 v n cs * F) w' := by
  cases A with
  | none =>
    obtain rfl : n = 0 := hR.2.2.1 rfl
    obtain rfl : cs = [] := List.eq_nil_of_length_eq_zero (by have := hR.1; simpa using this)
    have heq := fun w => Lib.run_eql_slice_nil (P := Try.prog) w 48 5 none 0 c 0 0 Try.underlying48
    go_enter Try.func62, Try.ntmps62
    go_wp2
    go_ret
    exact ⟨_, rfl, hS.row_nil⟩
  | some ad =>
    have heq := fun w => Lib.run_eql_slice_nil (P := Try.prog) w 48 5 (some ad) n c 0 0 Try.underlying48
    have hS0 : Sat E (row 5 1 (.slice (some ⟨w.heap.size, 0, none⟩) 0 0) 0 [] * F) (w.alloc (.cells #[] 5)) := (hS.alloc _).blk_row (n := 0) (cap := 0) (by omega) (by simp [maxLen]) rfl
    go_enter Try.func62, Try.ntmps62
    go_wp2_with (at_builtin; refine wpList_append_sat rfl _ _ 48 5 (.int .u8 0) 1 1 rfl Try.underlying48 Try.info5 rfl (by decide) _ 0 [] (some ad) n c cs rfl rfl hS0 (hR.alloc _) h1 (by unfold maxLen; omega) (by omega) ?_; intro v1 w1 hS1)
    go_ret
    exact ⟨v1, rfl, by simpa using hS1⟩


set_option maxRecDepth 100000 in
set_option maxHeartbeats 400000 in
theorem clonePlaces {E w : World} {F : Asn} (A : Option Addr) (n c : Nat) (cs : List Value) (hS : Sat E F w) (hR : Reads w 2 A n cs) (h1 : ∀ u ∈ cs, u.oneCell' = true) (hn : n * 16 ≤ 140737488351232) :
    Calls Try.prog 59 #[.slice A n c] w fun e w' => ∃ v, e = .returned v ∧ Sat E (row 39 2 v n cs * F) w' := by
  cases A with
  | none =>
    obtain rfl : n = 0 := hR.2.2.1 rfl
    obtain rfl : cs = [] := List.eq_nil_of_length_eq_zero (by have := hR.1; simpa using this)
    have heq := fun w => Lib.run_eql_slice_nil (P := Try.prog) w 35 39 none 0 c 0 0 Try.underlying35
    go_enter Try.func59, Try.ntmps59
    go_wp2
    go_ret
    exact ⟨_, rfl, hS.row_nil⟩
  | some ad =>
    have heq := fun w => Lib.run_eql_slice_nil (P := Try.prog) w 35 39 (some ad) n c 0 0 Try.underlying35
    have hS0 : Sat E (row 39 2 (.slice (some ⟨w.heap.size, 0, none⟩) 0 0) 0 [] * F) (w.alloc (.cells #[] 39)) := (hS.alloc _).blk_row (n := 0) (cap := 0) (by omega) (by simp [maxLen]) rfl
    go_enter Try.func59, Try.ntmps59
    go_wp2_with (at_builtin; refine wpList_append_sat rfl _ _ 35 39 (.agg #[.int .i64 0, .int .i64 0]) 2 16 rfl Try.underlying35 Try.info39 rfl (by decide) _ 0 [] (some ad) n c cs rfl rfl hS0 (hR.alloc _) h1 (by unfold maxLen; omega) (by omega) ?_; intro v1 w1 hS1)
    go_ret
    exact ⟨v1, rfl, by simpa using hS1⟩


set_option maxRecDepth 100000 in
set_option maxHeartbeats 400000 in
theorem copyInts {E w : World} {F : Asn} (A : Option Addr) (n c : Nat) (cs : List Value) (hS : Sat E F w) (hR : Reads w 1 A n cs) (h1 : ∀ u ∈ cs, u.oneCell' = true) (hn : n * 8 ≤ 140737488351232) :
    Calls Try.prog 26 #[.slice A n c] w fun e w' => ∃ v, e = .returned v ∧ Sat E (row 3 1 v n cs * F) w' := by
  have hS0 : Sat E (row 3 1 (.slice (some ⟨w.heap.size, 0, none⟩) 0 0) 0 [] * F) (w.alloc (.cells #[] 3)) := (hS.alloc _).blk_row (n := 0) (cap := 0) (by omega) (by simp [maxLen]) rfl
  go_enter Try.func26, Try.ntmps26
  go_wp2_with (at_builtin; refine wpList_append_sat rfl _ _ 22 3 (.int .i64 0) 1 8 rfl Try.underlying22 Try.info3 rfl (by decide) _ 0 [] A n c cs rfl rfl hS0 (hR.alloc _) h1 (by unfold maxLen; omega) (by omega) ?_; intro v1 w1 hS1)
  go_ret
  exact ⟨v1, rfl, by simpa using hS1⟩


set_option maxRecDepth 100000 in
set_option maxHeartbeats 400000 in
theorem copyBytes {E w : World} {F : Asn} (A : Option Addr) (n c : Nat) (cs : List Value) (hS : Sat E F w) (hR : Reads w 1 A n cs) (h1 : ∀ u ∈ cs, u.oneCell' = true) (hn : n * 1 ≤ 140737488351232) :
    Calls Try.prog 27 #[.slice A n c] w fun e w' => ∃ v, e = .returned v ∧ Sat E (row 5 1 v n cs * F) w' := by
  have hS0 : Sat E (row 5 1 (.slice (some ⟨w.heap.size, 0, none⟩) 0 0) 0 [] * F) (w.alloc (.cells #[] 5)) := (hS.alloc _).blk_row (n := 0) (cap := 0) (by omega) (by simp [maxLen]) rfl
  go_enter Try.func27, Try.ntmps27
  go_wp2_with (at_builtin; refine wpList_append_sat rfl _ _ 48 5 (.int .u8 0) 1 1 rfl Try.underlying48 Try.info5 rfl (by decide) _ 0 [] A n c cs rfl rfl hS0 (hR.alloc _) h1 (by unfold maxLen; omega) (by omega) ?_; intro v1 w1 hS1)
  go_ret
  exact ⟨v1, rfl, by simpa using hS1⟩


set_option maxRecDepth 100000 in
set_option maxHeartbeats 400000 in
theorem bytesEq {w : World} (A B : Option Addr) (n m c d : Nat) (xs ys : List Int) (hA : Reads w 1 A n (nums .u8 xs)) (hB : Reads w 1 B m (nums .u8 ys)) (hx : ByteR xs) (hy : ByteR ys) :
    Calls Try.prog 30 #[.slice A n c, .slice B m d] w fun e w' => e = .returned (.bool (decide (xs = ys))) ∧ w = w' := by
  have ka : (convert 48 9 (.slice A n c)).run Try.prog w = .ok (.string (strOfNums xs)) w := run_bytes_string 48 5 9 Try.underlying48 Try.underlying5 Try.underlying9 hA
  have kb : (convert 48 9 (.slice B m d)).run Try.prog w = .ok (.string (strOfNums ys)) w := run_bytes_string 48 5 9 Try.underlying48 Try.underlying5 Try.underlying9 hB
  rw [← strOfNums_beq hx hy]
  go_enter Try.func30, Try.ntmps30
  go_wp2
  go_ret
  exact ⟨rfl, rfl⟩

end Go.Proofs.Ytedhcgeglmoacaa
