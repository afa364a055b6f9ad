import Derived.Test.YtobgfdongidaaaaDir55
import Derived.Deep.RegionLaw
import Derived.Deep.DeepCutAuto
import Derived.Deep.CutBlock
namespace Go.Proofs.Ytobgfdongidaaaa
set_option linter.unusedVariables false
set_option linter.unusedSimpArgs false
open Go.RowKit Go.Proofs.Sep Go.Lib

theorem insR_at {e : Ent} {L : List Ent} (hr : Rises L) {k : Nat} (hk : k < L.length) (he : L[k].1 = e.1) : insR e L = L.set k e ∧ hasKey e.1 L = true := by
  refine ⟨?_, has_mem.2 ⟨L[k], List.getElem_mem _, he⟩⟩
  have h := List.take_append_drop k L
  rw [List.drop_eq_getElem_cons hk] at h
  have hr2 := hr
  rw [← h] at hr2
  have := insR_hit hr2 he
  rw [h] at this
  rw [this, List.set_eq_take_append_cons_drop, if_pos hk]
theorem delR_at_k {key : ByteArray} {L : List Ent} (hr : Rises L) {k : Nat} (hk : k < L.length) (he : L[k].1 = key) : delR key L = L.take k ++ L.drop (k + 1) := by
  have h := List.take_append_drop k L
  rw [List.drop_eq_getElem_cons hk] at h
  have hr2 := hr
  rw [← h] at hr2
  have := delR_at hr2 he
  rw [h] at this
  exact this
set_option maxRecDepth 100000 in
set_option maxHeartbeats 4000000 in
theorem refDelete23 {E w : World} {F : Asn} (A : Option Addr) (c : Nat) (L : List Ent) (key : ByteArray) (hr : Rises L) (hl : L.length ≤ 900) (hc : L.length ≤ c) {R : Asn} (hS0 : Sat E (R * F) w) (hA0 : ∀ w, Sat E R w → Reads w 2 A L.length (ents L)) :
    Calls Try.prog 23 #[.slice A L.length c, .string key] w fun r w' => ∃ (A2 : Option Addr) (c2 : Nat) (G : Asn), r = .returned (.tuple #[.slice A2 (delR key L).length c2, .bool (hasKey key L)]) ∧ (delR key L).length ≤ c2 ∧ Sat E (G * (R * F)) w' ∧ ∀ w, Sat E (G * R) w → Reads w 2 A2 (delR key L).length (ents (delR key L)) := by
  have hA : ∀ w, Sat E (R * F) w → Reads w 2 A L.length (ents L) := fun w h => hA0 w h.left
  have HA0 := hid hA0
  obtain ⟨D, hD⟩ : ∃ D, D = R * F := ⟨_, rfl⟩
  have hS : Sat E D w := by rw [hD]; exact hS0
  rw [← hD] at hA
  rw [← hD]
  have HD2 := hid hD
  clear hS0 hA0 hD
  have hfind := find25 A c L key (by omega) (hA w hS)
  go_enter Try.func23, Try.ntmps23
  go_wp2_with fail
  refine hfind.mono ?_
  clear hfind
  rintro e w1 ⟨⟨i, rfl, hi⟩, rfl⟩
  rcases hi with ⟨kk, hkk, rfl, hkey⟩ | ⟨rfl, hno⟩
  · have i1 : ¬ (kk : Int) < 0 := by omega
    obtain ⟨j, hj⟩ : ∃ j, j = kk + 1 := ⟨_, rfl⟩
    have ej : (kk : Int) + 1 = (j : Int) := by omega
    have wj := i64_wrap (x := (j : Int)) (by omega) (by omega)
    have hd := delR_at_k hr hkk hkey
    have hhas : hasKey key L = true := has_mem.2 ⟨L[kk], List.getElem_mem _, hkey⟩
    have hdl : (delR key L).length = kk + (L.length - j) := by rw [hd, List.length_append, List.length_take, List.length_drop]; omega
    have hde : ents (delR key L) = (ents L).take (kk * 2) ++ (ents L).drop (j * 2) := by rw [hd, ents_append, ents_take, ents_drop, hj]
    have hcut1 := fun W => cut_hi (P := Try.prog) 30 32 Try.underlying30 2 (by kernel_rfl) A L.length c kk (by omega) W
    obtain ⟨A', hcut2, hread⟩ := cut_from (P := Try.prog) (size := 2) 30 32 .i64 Try.underlying30 (by kernel_rfl) A L.length c j (by omega) hc
    have hq1 : Sat E (row 32 2 (.slice (some ⟨w1.heap.size, 0, none⟩) 0 0) 0 [] * D) (w1.alloc (.cells #[] 32)).drew := ((hS.alloc (.cells #[] 32)).blk_row (n := 0) (cap := 0) (by omega) (by simp [maxLen]) rfl).drew
    have hq2 : Sat E _ (w1.drew.alloc (.cells #[] 32)) := hq1
    have hRa := (hA _ hq1.right).take kk (by omega)
    have hRb : Reads (w1.drew.alloc (.cells #[] 32)) 2 _ kk _ := hRa
    have h1t : ∀ u ∈ (ents L).take (kk * 2), u.oneCell' = true := fun u hu => ents_one L u (List.mem_of_mem_take hu)
    have h1d : ∀ u ∈ (ents L).drop (j * 2), u.oneCell' = true := fun u hu => ents_one L u (List.mem_of_mem_drop hu)
    have HRD := hid (fun w h => hread w (ents L) h)
    have H1T := hid h1t
    have H1D := hid h1d
    have HH := hid (And.intro hhas (And.intro hdl hde))
    have HJ := hid hj
    have HA := hid hA
    have hk9 : kk ≤ 900 := by omega
    have HKK := hid hkk
    clear hread h1t h1d hS hA hr hhas hdl hde hj hd hkey hkk
    go_upto_region 4 with fail
    go_cut [4, 5] (fun v b wc => b = .bool true ∧ Sat E (row 32 2 v (delR key L).length (ents (delR key L)) * D) wc)
    case first =>
      go_region_law (first
        | ((first | (refine step_append_sat rfl _ _ 30 32 (.agg #[.string ByteArray.empty, .int .i64 0]) 2 24 rfl Try.underlying30 Try.info32 rfl (by decide) _ 0 [] _ kk c _ rfl rfl hq1 hRa H1T.out (by unfold maxLen; omega) (by omega) ?_) | (refine step_append_sat rfl _ _ 30 32 (.agg #[.string ByteArray.empty, .int .i64 0]) 2 24 rfl Try.underlying30 Try.info32 rfl (by decide) _ 0 [] _ kk c _ rfl rfl hq2 hRb H1T.out (by unfold maxLen; omega) (by omega) ?_)); intro v8 w8 q1; rw [Nat.zero_add, List.nil_append] at q1; obtain ⟨A8, c8, rfl, _, _, _⟩ := q1.reads; have d3 := HRD.out _ (HA.out _ q1.right))
        | ((first | (refine step_append_sat rfl _ _ 30 32 (.agg #[.string ByteArray.empty, .int .i64 0]) 2 24 rfl Try.underlying30 Try.info32 rfl (by decide) _ kk _ _ (L.length - j) (c - j) _ rfl rfl q1 d3 H1D.out (by unfold maxLen; omega) (by omega) ?_) | (refine step_append_sat rfl _ _ 30 32 (.agg #[.string ByteArray.empty, .int .i64 0]) 2 24 rfl Try.underlying30 Try.info32 rfl (by decide) _ kk _ _ (L.length - j) (c - j) _ rfl rfl q1.drew d3.drew H1D.out (by unfold maxLen; omega) (by omega) ?_)); intro v9 w9 q2))
      all_goals
        have Q := hid q2
        clear q1 q2 hq1 hq2 hRa hRb
        go_wp2
        go_meet
        refine ⟨rfl, ?_⟩
        rw [HH.out.2.1, HH.out.2.2]
        exact Q.out
    case rest =>
      obtain ⟨hb, h9⟩ := hcut
      subst hb
      obtain ⟨A9, c9, h10, h11, _, _⟩ := h9.reads
      subst h10
      clear hq1 hq2 hRa hRb
      go_wp2_with fail
      go_ret2
      exact ⟨A9, c9, _, by rw [HH.out.1]; rfl, h11, h9, fun w h => h.reads_at⟩
  · have hd := delR_no hno
    have HN := hid hno
    have HD := hid hd
    clear hno hd
    go_wp2_with fail
    go_ret2
    refine ⟨A, c, emp, ?_, ?_, by rw [emp_star]; exact hS, fun w h => ?_⟩
    · rw [HD.out, HN.out]
      rfl
    · rw [HD.out]; exact hc
    · rw [HD.out]; exact HA0.out w h.right
end Go.Proofs.Ytobgfdongidaaaa
