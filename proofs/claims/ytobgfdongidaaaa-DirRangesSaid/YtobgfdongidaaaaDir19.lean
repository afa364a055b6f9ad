import Derived.Test.YtobgfdongidaaaaDir18
import Derived.Deep.RegionLaw
namespace Go.Proofs.Ytobgfdongidaaaa
set_option linter.unusedVariables false
set_option linter.unusedSimpArgs false
open Go.RowKit Go.Proofs.Sep Go.Lib

theorem Try.info32 : (Try.prog.info? 32).map (fun i => (i.zero, i.size, i.bytes)) = some (some (.agg #[.string ByteArray.empty, .int .i64 0]), 2, 24) := by kernel_rfl
theorem len15 {E w : World} {F : Asn} (T m : Nat) (L : List Ent) (hS : Sat E (dir T m L * F) w) : Calls Try.prog 15 #[ptrv T] w fun r w' => r = .returned (.int .i64 L.length) ∧ w' = w := by
  obtain ⟨h, r, t, _, s1⟩ := hS.dir_open
  obtain ⟨_, _, t2, _, _⟩ := three_cells (s1.eq (show _ = blk T (.cells #[.int .i64 m, ptrv r, .int .i64 L.length] 61) * (tree h r t * F) by unfold top; ac_rfl))
  unfold ptrv
  go_enter Try.func15, Try.ntmps15
  go_wp2
  go_ret
  exact ⟨rfl, rfl⟩

set_option maxRecDepth 100000 in
set_option maxHeartbeats 4000000 in
theorem entries11 {E w : World} {F : Asn} (A : Option Addr) (c : Nat) (L : List Ent) (hl : L.length ≤ 900000) (hS : Sat E F w) (hA : ∀ w, Sat E F w → Reads w 2 A L.length (ents L)) :
    Calls Try.prog 11 #[.slice A L.length c] w fun r w' => ∃ v, r = .returned v ∧ Sat E (row 32 2 v L.length (ents L) * F) w' := by
  go_enter Try.func11, Try.ntmps11
  go_wp2_with fail
  go_loopw [3, 4] (fun o iv wr => ∃ k : Nat, k ≤ L.length ∧ iv = .int .i64 k ∧ Sat E (row 32 2 o k (ents (L.take k)) * F) wr) (fun _ iv _ => L.length - (intOf iv).toNat)
  case atStart => exact ⟨0, by omega, rfl, hS.row_nil⟩
  case round =>
    obtain ⟨k, hk, rfl, hq⟩ := hrel
    by_cases hlt : k < L.length
    · have hkd : (k : Int) < (L.length : Int) := by omega
      have wk := i64_wrap (x := (k : Int) + 1) (by omega) (by omega)
      obtain ⟨ad, hAd, q⟩ := ent_at hA hlt hq.right
      obtain ⟨x0, x1⟩ := q _ hq.right
      subst hAd
      have hnx : ents (L.take (k + 1)) = ents (L.take k) ++ [.string L[k].1, .int .i64 L[k].2] := by
        rw [List.take_succ_eq_append_getElem hlt, ents_append]
        rfl
      clear q hS
      generalize L[k] = X at *
      obtain ⟨X1, X2⟩ := X
      simp only at x0 x1 hnx
      have HN := hid hnx
      clear hnx
      go_wp2_with fail
      have hq2 := (hq.alloc_drop (.cells #[.string X1, .int .i64 X2] 32)).drew
      have hR : Reads (wr.alloc (.cells [.string X1, .int .i64 X2].toArray 32)).drew 2 (some ⟨wr.heap.size, 0, none⟩) 1 [.string X1, .int .i64 X2] := (Reads.new 2 1 [.string X1, .int .i64 X2] 32 rfl (by omega)).drew
      have hq3 : Sat E _ (wr.drew.alloc (.cells #[.string X1, .int .i64 X2] 32)) := hq2
      have hR3 : Reads (wr.drew.alloc (.cells [.string X1, .int .i64 X2].toArray 32)) 2 (some ⟨wr.heap.size, 0, none⟩) 1 [.string X1, .int .i64 X2] := hR
      go_region_law ((first | (refine step_append_sat rfl _ _ 30 32 (.agg #[.string ByteArray.empty, .int .i64 0]) 2 24 rfl Try.underlying30 Try.info32 rfl (by decide) _ k (ents (L.take k)) _ 1 1 [.string X1, .int .i64 X2] rfl rfl hq2 hR (by simp [Value.oneCell']) (by unfold maxLen; omega) (by omega) ?_) | (refine step_append_sat rfl _ _ 30 32 (.agg #[.string ByteArray.empty, .int .i64 0]) 2 24 rfl Try.underlying30 Try.info32 rfl (by decide) _ k (ents (L.take k)) _ 1 1 [.string X1, .int .i64 X2] rfl rfl hq3 hR3 (by simp [Value.oneCell']) (by unfold maxLen; omega) (by omega) ?_)); intro v1 w1 hS1)
      all_goals
        rw [← HN.out] at hS1
        go_wp2_with fail
        go_roundw
        case rel => exact ⟨k + 1, by omega, by go_num, hS1⟩
        case measure => simp [intOf]; omega
    · obtain rfl : k = L.length := by omega
      have hkd : ¬ (L.length : Int) < (L.length : Int) := by omega
      clear hlt
      rw [List.take_length] at hq
      go_wp2_with fail
      go_ret
      exact ⟨_, rfl, hq⟩
end Go.Proofs.Ytobgfdongidaaaa
