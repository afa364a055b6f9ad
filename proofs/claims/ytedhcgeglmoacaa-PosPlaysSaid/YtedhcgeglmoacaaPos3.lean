import Derived.Test.YtedhcgeglmoacaaPos2
import Derived.Test.YtedhcgeglmoacaaSepClear
import Derived.Deep.RegionHeld3
namespace Go.Proofs.Ytedhcgeglmoacaa
set_option linter.unusedVariables false
set_option linter.unusedSimpArgs false
open Go.RowKit Go.Proofs.Sep

def getP (l : List (Int × Int)) (k : Int) : Int × Int := if inP l.length k = true then l.getD k.toNat (0, 0) else (0, 0)
set_option maxRecDepth 100000 in
set_option maxHeartbeats 1000000 in
theorem get_calls {E w : World} {F : Asn} (m : Nat) (l : List (Int × Int)) (c : List Bool) (k : Int) (hS : Sat E (pmap m l c * F) w) :
    Calls Try.prog 23 #[.pointer (some ⟨m, 0, none⟩), .int .i64 k] w fun e w' => e = .returned (.tuple #[.agg #[.int .i64 (getP l k).1, .int .i64 (getP l k).2], .bool (inP l.length k)]) ∧ Sat E (pmap m l c * F) w' := by
  have hS0 := hS.alloc_drop (.cells #[.int .i64 0, .int .i64 0] 39)
  have Hp := hS.alloc (.cells #[.int .i64 0, .int .i64 0] 39)
  obtain ⟨A, ca, B, cb, hl, hc0, hc1, hRa, _⟩ := pmap_cells hS0
  have hb := isP_calls m A l.length ca k hc0
  have hin : inP l.length k = true ∨ inP l.length k = false := by cases inP l.length k <;> simp
  rcases hin with hin | hin
  · have HIN := hid hin
    rw [hin] at hb
    obtain ⟨j, rfl, hj⟩ : ∃ j : Nat, k = j ∧ j < l.length := by
      unfold inP at hin
      simp only [decide_eq_true_eq] at hin
      exact ⟨k.toNat, by omega, by omega⟩
    clear hin
    have hg : getP l j = l[j] := by unfold getP; rw [if_pos HIN.out, Int.toNat_natCast, List.getD_eq_getElem?_getD, List.getElem?_eq_getElem hj, Option.getD_some]
    rw [hg, HIN.out]
    clear hg
    obtain ⟨ad, rfl, hc⟩ := hRa.at (by omega)
    have ca0 := hc (j * 2) _ (pairs_at0 hj)
    have ca1 := cell_two (hc (j * 2 + 1) _ (pairs_at1 hj))
    clear hc
    go_enter Try.func23, Try.ntmps23
    go_wp2_with (go_at_call 61; refine hb.mono ?_; rintro e w1 ⟨rfl, rfl⟩)
    have Hq := hS.alloc (.cells #[.int .i64 l[j].1, .int .i64 l[j].2] 39)
    refine bodyPost_ret (results_cell_row_tmp rfl _ _ w.heap.size 39 #[.int .i64 l[j].1, .int .i64 l[j].2] (0, 0) _ rfl ?_ Try.underlying39 rfl (by kernel_rfl)) rfl ?_
    · exact Hq.at_blk
    · exact ⟨rfl, Hq.right⟩
  · rw [show getP l k = (0, 0) by unfold getP; rw [hin]; rfl, hin]
    rw [hin] at hb
    go_enter Try.func23, Try.ntmps23
    go_wp2_with (go_at_call 61; refine hb.mono ?_; rintro e w1 ⟨rfl, rfl⟩)
    have Hq := Hp
    refine bodyPost_ret (results_cell_row_tmp rfl _ _ w.heap.size 39 #[.int .i64 0, .int .i64 0] (0, 0) _ rfl ?_ Try.underlying39 rfl (by kernel_rfl)) rfl ?_
    · exact Hq.at_blk
    · exact ⟨rfl, Hq.right⟩

set_option maxRecDepth 100000 in
set_option maxHeartbeats 1000000 in
theorem plen_calls {E w : World} {F : Asn} (m : Nat) (l : List (Int × Int)) (c : List Bool) (hS : Sat E (pmap m l c * F) w) :
    Calls Try.prog 44 #[.pointer (some ⟨m, 0, none⟩)] w fun e w' => e = .returned (.int .i64 l.length) ∧ w = w' := by
  obtain ⟨A, ca, B, cb, hl, hc0, hc1, hRa, _⟩ := pmap_cells hS
  go_enter Try.func44, Try.ntmps44
  go_wp2
  go_ret
  exact ⟨rfl, rfl⟩

set_option maxRecDepth 100000 in
set_option maxHeartbeats 1000000 in
theorem all_calls {E w : World} {F : Asn} (m : Nat) (l : List (Int × Int)) (c : List Bool) (hS : Sat E (pmap m l c * F) w) (hn : l.length ≤ 1000000) :
    Calls Try.prog 34 #[.pointer (some ⟨m, 0, none⟩)] w fun e w' => ∃ v, e = .returned v ∧ Sat E (row 39 2 v l.length (pairs l) * (pmap m l c * F)) w' := by
  obtain ⟨A, ca, B, cb, hl, hc0, hc1, hRa, _⟩ := pmap_cells hS
  go_enter Try.func34, Try.ntmps34
  go_wp2_with (go_at_call 59; refine (clonePlaces _ _ _ _ hS hRa (pairs_one l) (by omega)).mono ?_; rintro e w1 ⟨v, rfl, h1⟩)
  go_ret
  exact ⟨v, rfl, h1⟩

set_option maxRecDepth 100000 in
set_option maxHeartbeats 1000000 in
theorem new_calls {E w : World} {F : Asn} (A : Option Addr) (ca : Nat) (l : List (Int × Int)) (hS : Sat E F w) (hR : ∀ w, Sat E F w → Reads w 2 A l.length (pairs l)) (hn : l.length ≤ 1000000) :
    Calls Try.prog 21 #[.slice A l.length ca] w fun e w' => ∃ m, e = .returned (.pointer (some ⟨m, 0, none⟩)) ∧ Sat E (pmap m l (List.replicate l.length false) * F) w' := by
  have hS1 := hS.row_made (.bool false) 4 l.length (by omega)
  rw [show List.replicate l.length (Value.bool false) = bools (List.replicate l.length false) by simp [bools]] at hS1
  have hmk := fun w => run_make_row' (P := Try.prog) 88 4 (.bool false) 1 Try.underlying88 Try.info4 rfl .i64 .i64 l.length (by omega) (by omega) w
  have e1 : List.replicate l.length (Value.bool false) = bools (List.replicate l.length false) := by simp [bools]
  go_enter Try.func21, Try.ntmps21
  go_wp2_with fail
  have hd := hS.drew
  have hd1 := hS1.drew
  go_region_held3 (fun w' => Sat E F w') (first | assumption | exact Sat.alloc_drop (by assumption) _ | exact Sat.drew (by assumption) | exact Sat.right (by assumption))
    (first
      | (go_at_call 59; refine (clonePlaces _ _ _ _ hd (hR _ hd) (pairs_one l) (by omega)).mono ?_; rintro e w1 ⟨v, rfl, h1⟩; obtain ⟨Av, cv, rfl, _, _, _⟩ := h1.reads; have hr1 := h1.right; first | done | have hr2 := hr1.right | skip)
      | (go_at_call 59; refine (clonePlaces _ _ _ _ hd1 (hR _ hd1.right) (pairs_one l) (by omega)).mono ?_; rintro e w1 ⟨v, rfl, h1⟩; obtain ⟨Av, cv, rfl, _, _, _⟩ := h1.reads; have hr1 := h1.right; first | done | have hr2 := hr1.right | skip))
  · have q1 := h1.row_made (.bool false) 4 l.length (by omega)
    rw [e1] at q1
    have q2 := (q1.eq (star_left_comm _ _ _)).alloc (.cells #[.slice Av l.length cv, .slice (some ⟨w1.heap.size, 0, none⟩) l.length l.length] 114)
    have q3 := pmap_shut q2
    have Q3 := hid q3
    clear q1 q2 q3
    go_wp2
    go_ret
    exact ⟨_, rfl, by have := Q3.out; simpa using this⟩
  · have q2 := h1.alloc (.cells #[.slice Av l.length cv, .slice (some ⟨w.heap.size, 0, none⟩) l.length l.length] 114)
    have q3 := pmap_shut q2
    have Q3 := hid q3
    clear q2 q3
    go_wp2
    go_ret
    exact ⟨_, rfl, Q3.out⟩

set_option maxRecDepth 100000 in
set_option maxHeartbeats 1000000 in
theorem settle_calls {E w : World} {F : Asn} (m : Nat) (l : List (Int × Int)) (c : List Bool) (hS : Sat E (pmap m l c * F) w) :
    Calls Try.prog 25 #[.pointer (some ⟨m, 0, none⟩)] w fun e w' => e = .returned (.tuple #[]) ∧ Sat E (pmap m l (List.replicate l.length false) * F) w' := by
  obtain ⟨A, ca, B, cb, _, _, _, _, _, h2, _, _⟩ := pmap_open hS
  have h3 : Sat E (row 4 1 (.slice B l.length cb) l.length (bools c) * (blk m (.cells #[.slice A l.length ca, .slice B l.length cb] 114) * (row 39 2 (.slice A l.length ca) l.length (pairs l) * F))) w := h2.eq (by ac_rfl)
  obtain ⟨w1, hr, h4⟩ := h3.row_clear (P := Try.prog) 88 0 (.bool false) Try.underlying88 (fun w => by simp [zeroValue, run_underlying Try.underlying4]; rfl) rfl rfl
  have c1 := h2.cell_blk (i := 1)
  simp only [List.getElem?_toArray, List.getElem?_cons_zero, List.getElem?_cons_succ] at c1
  rw [show List.replicate l.length (Value.bool false) = bools (List.replicate l.length false) by simp [bools]] at h4
  have H4 := hid h4
  clear h4 h3 h2
  go_enter Try.func25, Try.ntmps25
  go_wp2
  go_end0
  have H5 : Sat E (row 4 1 (.slice B l.length cb) l.length (bools (List.replicate l.length false)) * (blk m (.cells #[.slice A l.length ca, .slice B l.length cb] 114) * (row 39 2 (.slice A l.length ca) l.length (pairs l) * F))) w1 := H4.out
  have Q4 := H5.eq (show _ = blk m (.cells #[.slice A l.length ca, .slice B l.length cb] 114) * (row 39 2 (.slice A l.length ca) l.length (pairs l) * (row 4 1 (.slice B l.length cb) l.length (bools (List.replicate l.length false)) * F)) by ac_rfl)
  exact ⟨rfl, pmap_shut Q4⟩
end Go.Proofs.Ytedhcgeglmoacaa
