import Derived.Test.YtacfaegljjgneaaTrc6
namespace Go.Proofs.Ytacfaegljjgneaa
set_option linter.unusedVariables false
set_option linter.unusedSimpArgs false
open Go.RowKit Go.Proofs.Sep

/-- What a store must be for its calls. -/
structure SOk (σ : St) : Prop where
  o1 : 0 ≤ σ.ops
  o2 : σ.ops ≤ 1000000
  l1 : 0 ≤ σ.left
  l2 : σ.left ≤ 9223372036854775807
  sz : (begins σ).2.size ≤ 4096
  fl : (begins σ).2.fl.length ≤ 1000000

set_option maxRecDepth 100000 in
set_option maxHeartbeats 1000000 in
theorem rwrite_calls {E w : World} {F : Asn} (r s : Nat) (σ : St) (tr : List TOp) (a : Int) (A : Option Addr) (c : Nat) (b : List Int) (ho : SOk σ) (hl : tr.length ≤ 1000000) (hbl : b.length ≤ 1000000) (hS : Sat E (recd r s σ tr * F) w) (hR : ∀ w, Sat E F w → Reads w 1 A b.length (nums .u8 b)) :
    Calls Try.prog 52 #[.pointer (some ⟨r, 0, none⟩), .int .i64 a, .slice A b.length c] w fun e w' => e = .returned (.int .i64 (write σ a b).1) ∧ Sat E (recd r s (write σ a b).2 (noted (write σ a b).1 (2, a, b) tr) * F) w' := by
  obtain ⟨v, h⟩ := recd_split hS
  have d0 := rcore_ptr h
  have hw := write_calls s σ a A b.length c b ho.o1 ho.o2 ho.l1 ho.l2 ho.fl hbl h (fun w h => hR w h.right)
  generalize write σ a b = q at *
  obtain ⟨code, τ⟩ := q
  simp only at hw ⊢
  clear h hS
  go_enter Try.func52, Try.ntmps52
  go_wp2_with fail
  refine hw.mono ?_
  rintro e w1 ⟨rfl, g1⟩
  have g2 := recd_join g1
  clear g1 hw
  go_wp2_with fail
  refine (notes_calls r s τ tr code 2 a A c b hl hbl g2 hR).mono ?_
  rintro e w2 ⟨rfl, g3⟩
  go_wp2
  go_ret
  exact ⟨rfl, g3⟩
set_option maxRecDepth 100000 in
set_option maxHeartbeats 1000000 in
theorem rsync_calls {E w : World} {F : Asn} (r s : Nat) (σ : St) (tr : List TOp) (ho : SOk σ) (hl : tr.length ≤ 1000000) (hS : Sat E (recd r s σ tr * F) w) :
    Calls Try.prog 53 #[.pointer (some ⟨r, 0, none⟩)] w fun e w' => e = .returned (.int .i64 (sync σ).1) ∧ Sat E (recd r s (sync σ).2 (noted (sync σ).1 (3, 0, []) tr) * F) w' := by
  obtain ⟨v, h⟩ := recd_split hS
  have d0 := rcore_ptr h
  have hw := sync_calls s σ ho.o1 ho.o2 ho.l1 ho.l2 h
  generalize sync σ = q at *
  obtain ⟨code, τ⟩ := q
  simp only at hw ⊢
  clear h hS
  go_enter Try.func53, Try.ntmps53
  go_wp2_with fail
  refine hw.mono ?_
  rintro e w1 ⟨rfl, g1⟩
  have g2 := recd_join g1
  clear g1 hw
  go_wp2_with fail
  refine (notes_calls r s τ tr code 3 0 none 0 [] hl (by simp) g2 (fun w _ => nil_reads w _ 1 rfl)).mono ?_
  rintro e w2 ⟨rfl, g3⟩
  go_wp2
  go_ret
  exact ⟨rfl, g3⟩
set_option maxRecDepth 100000 in
set_option maxHeartbeats 1000000 in
theorem rread_calls {E w : World} {F : Asn} (r s : Nat) (σ : St) (tr : List TOp) (a : Int) (ho : SOk σ) (hl : tr.length ≤ 1000000) (hbl : (rd σ a).2.1.length ≤ 1000000) (hS : Sat E (recd r s σ tr * F) w) :
    Calls Try.prog 51 #[.pointer (some ⟨r, 0, none⟩), .int .i64 a] w fun e w' => ∃ v, e = .returned (.tuple #[v, .int .i64 (rd σ a).1]) ∧ Sat E (row 5 1 v (rd σ a).2.1.length (nums .u8 (rd σ a).2.1) * (recd r s (rd σ a).2.2 (noted (rd σ a).1 (1, a, (rd σ a).2.1) tr) * F)) w' := by
  obtain ⟨v, h⟩ := recd_split hS
  have d0 := rcore_ptr h
  have hw := read_calls s σ a ho.o1 ho.o2 ho.l1 ho.l2 ho.sz h
  generalize rd σ a = q at *
  obtain ⟨code, bs, τ⟩ := q
  simp only at hw hbl ⊢
  clear h hS
  go_enter Try.func51, Try.ntmps51
  go_wp2_with fail
  refine hw.mono ?_
  rintro e w1 ⟨v1, rfl, g1⟩
  obtain ⟨A1, c1, rfl, _, _, _⟩ := g1.reads
  have g2 := recd_join ((g1.eq (star_left_comm _ _ _)).eq (show _ = store s τ * (rcore r s v tr * (row 5 1 (.slice A1 bs.length c1) bs.length (nums .u8 bs) * F)) by ac_rfl))
  clear g1 hw
  go_wp2_with fail
  refine (notes_calls r s τ tr code 1 a A1 c1 bs hl hbl g2 (fun w h => h.reads_at)).mono ?_
  rintro e w2 ⟨rfl, g3⟩
  have g4 := g3.eq (star_left_comm _ _ _)
  clear g2 g3
  go_wp2
  go_ret2
  exact ⟨_, rfl, g4⟩
set_option maxRecDepth 100000 in
set_option maxHeartbeats 1000000 in
theorem mark_calls {E w : World} {F : Asn} (r s : Nat) (σ : St) (tr : List TOp) (hS : Sat E (recd r s σ tr * F) w) :
    Calls Try.prog 54 #[.pointer (some ⟨r, 0, none⟩)] w fun e w' => e = .returned (.int .i64 tr.length) ∧ w' = w := by
  obtain ⟨A1, c1, t, ht, hc1, h⟩ := recd_open hS
  have d1 := h.cell_blk (i := 1)
  simp only [List.getElem?_toArray, List.getElem?_cons_zero, List.getElem?_cons_succ] at d1
  go_enter Try.func54, Try.ntmps54
  go_wp2
  go_ret
  exact ⟨rfl, rfl⟩
set_option maxRecDepth 100000 in
set_option maxHeartbeats 1000000 in
theorem over_calls {E w : World} {F : Asn} (s : Nat) (σ : St) (hS : Sat E (store s σ * F) w) :
    Calls Try.prog 68 #[.pointer (some ⟨s, 0, none⟩)] w fun e w' => ∃ r, e = .returned (.pointer (some ⟨r, 0, none⟩)) ∧ Sat E (recd r s σ [] * F) w' := by
  have a1 := hS.alloc (.cells #[.pointer (some ⟨s, 0, none⟩), .slice none 0 0] 77)
  have a2 : Sat E (row 61 3 (.slice none 0 0) 0 (tf []) * _) _ := a1.row_nil
  have H := hid (recd_shut (t := ⟨[], []⟩) (tr := []) (v := .slice none 0 0) (r := w.heap.size) (s := s) (σ := σ) (F := F) ⟨rfl, by simp⟩ (a2.eq (show _ = _ by simp only [bag, List.length_nil, emp_star]; exact star_left_comm _ _ _)))
  clear a1 a2
  go_enter Try.func68, Try.ntmps68
  go_wp2
  go_ret
  exact ⟨_, rfl, H.out⟩
set_option maxRecDepth 100000 in
set_option maxHeartbeats 1000000 in
theorem made_calls {E w : World} {F : Asn} (n size : Nat) (h1 : 1 ≤ n) (h2 : n ≤ 65536) (h3 : 1 ≤ size) (h4 : size ≤ 4096) (hS : Sat E F w) :
    Calls Try.prog 50 #[.int .i64 n, .int .i64 size] w fun e w' => ∃ r s, e = .returned (.pointer (some ⟨r, 0, none⟩)) ∧ Sat E (recd r s (St.new n size) [] * F) w' := by
  go_enter Try.func50, Try.ntmps50
  go_wp2_with fail
  refine (cellsNew n size h1 h2 h3 h4 hS).mono ?_
  rintro e w1 ⟨s, rfl, g1⟩
  go_wp2_with fail
  refine (over_calls s _ g1).mono ?_
  rintro e w2 ⟨r, rfl, g2⟩
  go_wp2
  go_ret
  exact ⟨r, s, rfl, g2⟩
set_option maxRecDepth 100000 in
set_option maxHeartbeats 1000000 in
theorem made_bad {w : World} (n size : Int) (h : n < 1 ∨ 65536 < n ∨ size < 1 ∨ 4096 < size) :
    Calls Try.prog 50 #[.int .i64 n, .int .i64 size] w fun e w' => e = .returned (.pointer none) ∧ w' = w := by
  go_enter Try.func50, Try.ntmps50
  go_wp2_with fail
  refine (cellsNew_bad n size h).mono ?_
  rintro e w1 ⟨rfl, rfl⟩
  go_wp2
  go_ret
  exact ⟨rfl, rfl⟩
end Go.Proofs.Ytacfaegljjgneaa
