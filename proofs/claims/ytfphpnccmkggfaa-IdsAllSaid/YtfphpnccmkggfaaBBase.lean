import Derived.Test.YtfphpnccmkggfaaSepQuiet
import Derived.Test.YtfphpnccmkggfaaProg
namespace Go.Proofs.Ytfphpnccmkggfaa
set_option linter.unusedVariables false
set_option linter.unusedSimpArgs false
open Go.RowKit Go.Proofs.Sep

theorem Try.info3 : (Try.prog.info? 3).map (fun i => (i.zero, i.size, i.bytes)) = some (some (.int .i64 0), 1, 8) := by kernel_rfl

theorem Try.info5 : (Try.prog.info? 5).map (fun i => (i.zero, i.size, i.bytes)) = some (some (.int .u8 0), 1, 1) := by kernel_rfl

theorem Try.info4 : (Try.prog.info? 4).map (fun i => (i.zero, i.size, i.bytes)) = some (some (.bool false), 1, 1) := by kernel_rfl


set_option maxRecDepth 100000 in
set_option maxHeartbeats 400000 in
theorem cloneInts {E w : World} {F : Asn} (A : Option Addr) (n c : Nat) (cs : List Value) (hS : Sat E F w) (hR : Reads w 1 A n cs) (h1 : ∀ u ∈ cs, u.oneCell' = true) (hn : n * 8 ≤ 140737488351232) :
    Calls Try.prog 41 #[.slice A n c] w fun e w' => ∃ v, e = .returned v ∧ Sat E (row 3 1 v n cs * F) w' := by
  cases A with
  | none =>
    obtain rfl : n = 0 := hR.2.2.1 rfl
    obtain rfl : cs = [] := List.eq_nil_of_length_eq_zero (by have := hR.1; simpa using this)
    have heq := fun w => Lib.run_eql_slice_nil (P := Try.prog) w 22 3 none 0 c 0 0 Try.underlying22
    go_enter Try.func41, Try.ntmps41
    go_wp2
    go_ret
    exact ⟨_, rfl, hS.row_nil⟩
  | some ad =>
    have heq := fun w => Lib.run_eql_slice_nil (P := Try.prog) w 22 3 (some ad) n c 0 0 Try.underlying22
    have hS0 : Sat E (row 3 1 (.slice (some ⟨w.heap.size, 0, none⟩) 0 0) 0 [] * F) (w.alloc (.cells #[] 3)) := (hS.alloc _).blk_row (n := 0) (cap := 0) (by omega) (by simp [maxLen]) rfl
    go_enter Try.func41, Try.ntmps41
    go_wp2_with (at_builtin; refine wpList_append_sat rfl _ _ 22 3 (.int .i64 0) 1 8 rfl Try.underlying22 Try.info3 rfl (by decide) _ 0 [] (some ad) n c cs rfl rfl hS0 (hR.alloc _) h1 (by unfold maxLen; omega) (by omega) ?_; intro v1 w1 hS1)
    go_ret
    exact ⟨v1, rfl, by simpa using hS1⟩


set_option maxRecDepth 100000 in
set_option maxHeartbeats 400000 in
theorem copyInts {E w : World} {F : Asn} (A : Option Addr) (n c : Nat) (cs : List Value) (hS : Sat E F w) (hR : Reads w 1 A n cs) (h1 : ∀ u ∈ cs, u.oneCell' = true) (hn : n * 8 ≤ 140737488351232) :
    Calls Try.prog 32 #[.slice A n c] w fun e w' => ∃ v, e = .returned v ∧ Sat E (row 3 1 v n cs * F) w' := by
  have hS0 : Sat E (row 3 1 (.slice (some ⟨w.heap.size, 0, none⟩) 0 0) 0 [] * F) (w.alloc (.cells #[] 3)) := (hS.alloc _).blk_row (n := 0) (cap := 0) (by omega) (by simp [maxLen]) rfl
  go_enter Try.func32, Try.ntmps32
  go_wp2_with (at_builtin; refine wpList_append_sat rfl _ _ 22 3 (.int .i64 0) 1 8 rfl Try.underlying22 Try.info3 rfl (by decide) _ 0 [] A n c cs rfl rfl hS0 (hR.alloc _) h1 (by unfold maxLen; omega) (by omega) ?_; intro v1 w1 hS1)
  go_ret
  exact ⟨v1, rfl, by simpa using hS1⟩


set_option maxRecDepth 100000 in
set_option maxHeartbeats 400000 in
theorem bytesEq {w : World} (A B : Option Addr) (n m c d : Nat) (xs ys : List Int) (hA : Reads w 1 A n (nums .u8 xs)) (hB : Reads w 1 B m (nums .u8 ys)) (hx : ByteR xs) (hy : ByteR ys) :
    Calls Try.prog 18 #[.slice A n c, .slice B m d] w fun e w' => e = .returned (.bool (decide (xs = ys))) ∧ w = w' := by
  have ka : (convert 31 9 (.slice A n c)).run Try.prog w = .ok (.string (strOfNums xs)) w := run_bytes_string 31 5 9 Try.underlying31 Try.underlying5 Try.underlying9 hA
  have kb : (convert 31 9 (.slice B m d)).run Try.prog w = .ok (.string (strOfNums ys)) w := run_bytes_string 31 5 9 Try.underlying31 Try.underlying5 Try.underlying9 hB
  rw [← strOfNums_beq hx hy]
  go_enter Try.func18, Try.ntmps18
  go_wp2
  go_ret
  exact ⟨rfl, rfl⟩


set_option maxRecDepth 100000 in
set_option maxHeartbeats 1000000 in
theorem intsEq {w : World} (Aa Ab : Option Addr) (n m c d : Nat) (xs ys : List Int) (hA : Reads w 1 Aa n (nums .i64 xs)) (hB : Reads w 1 Ab m (nums .i64 ys)) :
    Calls Try.prog 16 #[.slice Aa n c, .slice Ab m d] w fun e w' => e = .returned (.bool (decide (xs = ys))) ∧ ∃ q, w' = w.drewN q := by
  have hxl : xs.length = n := by have := hA.1; rw [nums_length] at this; omega
  have hyl : ys.length = m := by have := hB.1; rw [nums_length] at this; omega
  have hn := hA.2.1
  by_cases hnm : n = m
  · subst hnm
    have hfin : ∀ b, b = decide (xs = ys) → Ending.returned (.bool b) = .returned (.bool (decide (xs = ys))) := fun b h => by rw [h]
    have HF := hid hfin
    clear hfin
    go_enter Try.func16, Try.ntmps16
    go_wp2_with fail
    go_loopw [5] (fun i wr => ∃ k : Nat, k ≤ n ∧ i = .int .i64 k ∧ Hid (xs.take k = ys.take k) ∧ ∃ q, wr = w.drewN q) (fun i _ => n - (intOf i).toNat)
    case atStart => exact ⟨0, by omega, rfl, rfl, 0, rfl⟩
    case round =>
      obtain ⟨k, hk, rfl, he, q, rfl⟩ := hrel
      by_cases hlt : k < n
      · obtain ⟨ad, rfl, hc⟩ := hA.at (by omega)
        obtain ⟨bd, rfl, hd⟩ := hB.at (by omega)
        have hca := hc k _ (nums_at (by omega))
        have hcb := hd k _ (nums_at (by omega))
        clear hc hd
        by_cases hxy : xs[k] = ys[k]
        · have h0 : (xs[k] != ys[k]) = false := by simpa using hxy
          have hn1 : xs.take (k + 1) = ys.take (k + 1) := by
            rw [List.take_add_one, List.take_add_one, he.out, List.getElem?_eq_getElem (by omega), List.getElem?_eq_getElem (by omega), hxy]
          have HN := hid hn1
          rw [hxy] at hca
          clear hxy hn1 h0
          go_wp2_with fail
          go_quiet (fail)
          go_wp2_with fail
          go_roundw
          case rel => exact ⟨k + 1, by omega, by go_num, HN, _, rfl⟩
          case measure => simp [intOf]; omega
        · have h0 : (xs[k] != ys[k]) = true := by simpa using hxy
          have hne : xs ≠ ys := fun h => hxy (by subst h; rfl)
          clear hxy
          go_wp2_with fail
          go_quiet (fail)
          go_wp2
          go_ret
          exact ⟨HF.out _ (decide_eq_false hne).symm, _, World.drewN_drewN ..⟩
      · have hfe : xs = ys := by
          have := he.out
          rwa [List.take_of_length_le (by omega), List.take_of_length_le (by omega)] at this
        have HE := hid hfe
        clear hfe
        go_wp2
        go_ret
        exact ⟨HF.out _ (decide_eq_true HE.out).symm, q, rfl⟩
  · have h0 : ((n : Int) == (m : Int)) = false := by simp; omega
    have hne : xs ≠ ys := fun h => hnm (by subst h; omega)
    have HF := hid (decide_eq_false hne)
    clear hne
    go_enter Try.func16, Try.ntmps16
    go_wp2
    go_ret
    exact ⟨ret_bool HF.out.symm, 0, rfl⟩


set_option maxRecDepth 100000 in
set_option maxHeartbeats 1000000 in
theorem hasInt {w : World} (Aa : Option Addr) (n c : Nat) (xs : List Int) (x : Int) (hA : Reads w 1 Aa n (nums .i64 xs)) :
    Calls Try.prog 35 #[.slice Aa n c, .int .i64 x] w fun e w' => e = .returned (.bool (decide (x ∈ xs))) ∧ w = w' := by
  have hxl : xs.length = n := by have := hA.1; rw [nums_length] at this; omega
  have hn := hA.2.1
  go_enter Try.func35, Try.ntmps35
  go_wp2_with fail
  go_loop [5] (fun i => ∃ k : Nat, k ≤ n ∧ i = .int .i64 k ∧ Hid (x ∉ xs.take k)) (fun i => n - (intOf i).toNat)
  case atStart => exact ⟨0, by omega, rfl, by simp [Hid]⟩
  case round =>
    obtain ⟨k, hk, rfl, he⟩ := hrel
    by_cases hlt : k < n
    · obtain ⟨ad, rfl, hc⟩ := hA.at (by omega)
      have hca := hc k _ (nums_at (by omega))
      clear hc
      by_cases hxy : xs[k] = x
      · have h0 : (xs[k] == x) = true := by simpa using hxy
        have hm : x ∈ xs := hxy ▸ List.getElem_mem _
        have HM := hid hm
        clear hxy hm
        go_wp2
        go_ret
        exact ⟨ret_bool (decide_eq_true HM.out).symm, rfl⟩
      · have h0 : (xs[k] == x) = false := by simpa using hxy
        have hm : x ∉ xs.take (k + 1) := by
          rw [List.take_add_one, List.getElem?_eq_getElem (by omega), List.mem_append]
          rintro (h | h)
          · exact he.out h
          · simp at h; exact hxy h.symm
        have HM := hid hm
        clear hxy hm
        go_wp2
        go_round
        case rel => exact ⟨k + 1, by omega, by go_num, HM⟩
        case measure => simp [intOf]; omega
    · have hm : x ∉ xs := by
        have := he.out
        rwa [List.take_of_length_le (by omega)] at this
      have HM := hid hm
      clear hm
      go_wp2
      go_ret
      exact ⟨ret_bool (decide_eq_false HM.out).symm, rfl⟩

end Go.Proofs.Ytfphpnccmkggfaa
