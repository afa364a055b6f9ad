import Derived.Test.YtacfaegljjgneaaTrc7
namespace Go.Proofs.Ytacfaegljjgneaa
set_option linter.unusedVariables false
set_option linter.unusedSimpArgs false
open Go.RowKit Go.Proofs.Sep

theorem tf_take_succ {L : List (TOp × Value)} {k : Nat} (h : k < L.length) : tf (L.take k) ++ [.int .i64 L[k].1.1, .int .i64 L[k].1.2.1, L[k].2] = tf (L.take (k + 1)) := by
  rw [List.take_add_one, List.getElem?_eq_getElem h, Option.toList_some, tf_append]; rfl
set_option maxRecDepth 100000 in
set_option maxHeartbeats 2000000 in
theorem plain_calls {E w : World} {F : Asn} (A : Option Addr) (c : Nat) (L : List (TOp × Value)) (hl : L.length ≤ 1000000) (hS : Sat E F w) (hA : ∀ w, Sat E F w → TIn w A L) :
    Calls Try.prog 41 #[.slice A L.length c] w fun e w' => ∃ B d, e = .returned (.slice B L.length d) ∧ Sat E (row 65 3 (.slice B L.length d) L.length (tf L) * F) w' := by
  have h0 : Sat E (row 65 3 (.slice none 0 0) 0 (tf (L.take 0)) * F) w := hS.row_nil
  go_enter Try.func41, Try.ntmps41
  go_wp2_with fail
  go_loopw [3, 4] (fun v i wr => ∃ k : Nat, k ≤ L.length ∧ i = .int .i64 k ∧ Sat E (row 65 3 v k (tf (L.take k)) * F) wr) (fun _ i _ => L.length - (intOf i).toNat)
  case atStart => exact ⟨0, by omega, rfl, h0⟩
  case round =>
    clear h0 hS
    obtain ⟨k, hk, rfl, hr⟩ := hrel
    by_cases hlt : k < L.length
    · have hkd : (k : Int) < (L.length : Int) := by omega
      have wk := i64_wrap (x := (k : Int) + 1) (by omega) (by omega)
      obtain ⟨ad, Ai, ci, hA1, hA2, _, q⟩ := top_at hA hlt hr.right
      subst hA1
      obtain ⟨x0, x1, x2, _⟩ := q _ hr.right.drew
      have hnx := tf_take_succ hlt
      rw [hA2] at hnx
      have HNX := hid hnx
      clear q hA2 hnx
      generalize L[k].1 = X at *
      obtain ⟨X1, X2, X3⟩ := X
      simp only at x0 x1 x2 HNX
      have h6 := hr.drew.alloc_drop (.cells #[.int .i64 X1, .int .i64 X2, .slice Ai X3.length ci] 65)
      go_wp2_with fail
      go_region_law (first
        | (refine step_append_sat rfl _ _ 54 65 (.agg #[.int .i64 0, .int .i64 0, .slice none 0 0]) 3 40 rfl Try.underlying54 Try.info65 rfl (by decide) _ k _ _ 1 1 [.int .i64 X1, .int .i64 X2, .slice Ai X3.length ci] rfl rfl h6 (Reads.new 3 1 [.int .i64 X1, .int .i64 X2, .slice Ai X3.length ci] 65 rfl (by omega)) (by simp [Value.oneCell']) (by unfold maxLen; omega) (by omega) ?_; intro v1 w7 h7; rw [HNX.out] at h7))
      all_goals
        go_wp2
        go_roundw
        case rel => exact ⟨k + 1, by omega, by go_num, h7⟩
        case measure => simp [intOf]; omega
    · obtain rfl : k = L.length := by omega
      have hkd : ¬ (L.length : Int) < (L.length : Int) := by omega
      rw [List.take_of_length_le (by omega)] at hr
      obtain ⟨B, d, rfl, _, _, _⟩ := hr.reads
      go_wp2
      go_ret
      exact ⟨B, d, rfl, hr⟩
set_option maxRecDepth 100000 in
set_option maxHeartbeats 2000000 in
theorem trace_calls {E w : World} {F : Asn} (r s : Nat) (σ : St) (tr : List TOp) (hl : tr.length ≤ 1000000) (hbl : ∀ x ∈ tr, x.2.2.length ≤ 1000000) (hS : Sat E (recd r s σ tr * F) w) :
    Calls Try.prog 55 #[.pointer (some ⟨r, 0, none⟩)] w fun e w' => ∃ B d, e = .returned (.slice B tr.length d) ∧ Sat E (tlist 61 (.slice B tr.length d) tr * (recd r s σ tr * F)) w' := by
  obtain ⟨A1, c1, t, ht, hc1, h⟩ := recd_open hS
  obtain ⟨G, hG⟩ : ∃ G, blk r (.cells #[.pointer (some ⟨s, 0, none⟩), .slice A1 tr.length c1] 77) * (row 61 3 (.slice A1 tr.length c1) tr.length (tf t.L) * (bag t.P * (store s σ * F))) = G := ⟨_, rfl⟩
  have hGS : ∀ {w}, Sat E G w → Sat E (recd r s σ tr * F) w := fun h => by rw [← hG] at h; exact recd_shut ht h
  have hA : ∀ w, Sat E G w → TIn w A1 t.L := fun w h => by
    rw [← hG] at h
    refine ⟨?_, fun x hx => ?_⟩
    · rw [ht.len]; exact h.right.reads_at
    · obtain ⟨B, d, e2, r2⟩ := bag_at h.right.right (x.2, x.1.2.2) (ht.mem x hx)
      exact ⟨B, d, e2, r2⟩
  have d1 := h.cell_blk (i := 1)
  simp only [List.getElem?_toArray, List.getElem?_cons_zero, List.getElem?_cons_succ] at d1
  rw [hG] at h
  have hmap := ht.map
  have hlen := ht.len
  have hbl2 : ∀ x ∈ t.L, x.1.2.2.length ≤ 1000000 := fun x hx => hbl x.1 (by rw [← hmap]; exact List.mem_map_of_mem hx)
  have HM := hid hmap
  have HG := hid hG
  have HT := hid ht
  clear hG hS hmap ht hbl hGS
  have h0 : Sat E (row 61 3 (.slice none 0 0) 0 (tf []) * (bag [] * G)) w := h.row_nil.eq (show _ = _ by simp only [bag, emp_star]; rfl)
  rw [← hlen] at hl d1 ⊢
  clear h
  go_enter Try.func55, Try.ntmps55
  go_wp2_with fail
  go_loopw [3, 11] (fun v i wr => ∃ (k : Nat) (t2 : TRep), k ≤ t.L.length ∧ i = .int .i64 k ∧ Hid (t2.Ok (tr.take k)) ∧ Sat E (row 61 3 v k (tf t2.L) * (bag t2.P * G)) wr) (fun _ i _ => t.L.length - (intOf i).toNat)
  case atStart => exact ⟨0, ⟨[], []⟩, by omega, rfl, ⟨rfl, by simp⟩, h0⟩
  case round =>
    clear h0
    obtain ⟨k, t2, hk, rfl, hok, hr⟩ := hrel
    by_cases hlt : k < t.L.length
    · have hkd : (k : Int) < (t.L.length : Int) := by omega
      have wk := i64_wrap (x := (k : Int) + 1) (by omega) (by omega)
      obtain ⟨ad, Ai, ci, hA1, hA2, _, q⟩ := top_at hA hlt hr.right.right
      subst hA1
      obtain ⟨x0, x1, x2, _⟩ := q _ hr.right.right
      have rA : ∀ w, Sat E G w → Reads w 1 Ai t.L[k].1.2.2.length (nums .u8 t.L[k].1.2.2) := fun w h => (q w h).2.2.2
      have hb := hbl2 _ (List.getElem_mem hlt)
      have hadd := fun v => hok.out.add t.L[k].1.1 t.L[k].1.2.1 t.L[k].1.2.2 v
      have htk : tr.take k ++ [(t.L[k].1.1, t.L[k].1.2.1, t.L[k].1.2.2)] = tr.take (k + 1) := by
        rw [List.take_add_one]
        have : tr[k]? = some t.L[k].1 := by rw [← HM.out, List.getElem?_map, List.getElem?_eq_getElem hlt]; rfl
        rw [this]; rfl
      rw [htk] at hadd
      have HA := hid hadd
      have hr2 := hr.alloc_drop (.cells #[.int .i64 t.L[k].1.1, .int .i64 t.L[k].1.2.1, .slice Ai t.L[k].1.2.2.length ci] 61)
      clear q hA2 hadd htk
      generalize t.L[k].1 = X at *
      obtain ⟨X1, X2, X3⟩ := X
      simp only at x0 x1 x2 rA hb HA hr2
      go_wp2_with fail
      refine (copied_calls X1 X2 Ai X3.length ci (nums .u8 X3) hr2 (fun w h => rA w h.right.right) (nums_one _ _) (by omega)).mono ?_
      rintro e w5 ⟨A5, c5, rfl, g5⟩
      have h6 := (g5.alloc_drop (.cells #[.int .i64 X1, .int .i64 X2, .slice A5 X3.length c5] 61)).eq (star_left_comm _ _ _)
      clear g5 hr2
      go_wp2_with (at_builtin; refine wpList_append_sat rfl _ _ 58 61 (.agg #[.int .i64 0, .int .i64 0, .slice none 0 0]) 3 40 rfl Try.underlying58 Try.info61 rfl (by decide) _ k _ _ 1 1 [.int .i64 X1, .int .i64 X2, .slice A5 X3.length c5] rfl rfl h6 (Reads.new 3 1 [.int .i64 X1, .int .i64 X2, .slice A5 X3.length c5] 61 rfl (by omega)) (by simp [Value.oneCell']) (by unfold maxLen; omega) (by omega) ?_; intro v1 w7 h7)
      have hfl2 : tf t2.L ++ [.int .i64 X1, .int .i64 X2, .slice A5 X3.length c5] = tf (t2.L ++ [((X1, X2, X3), .slice A5 X3.length c5)]) := by rw [tf_append]; rfl
      rw [hfl2] at h7
      have h8 : Sat E (row 61 3 v1 (k + 1) (tf (t2.L ++ [((X1, X2, X3), .slice A5 X3.length c5)])) * (bag ((.slice A5 X3.length c5, X3) :: t2.P) * G)) w7 := h7.eq (by simp only [bag]; ac_rfl)
      go_roundw
      case rel => exact ⟨k + 1, ⟨t2.L ++ [((X1, X2, X3), .slice A5 X3.length c5)], (.slice A5 X3.length c5, X3) :: t2.P⟩, by omega, by go_num, hid (HA.out (.slice A5 X3.length c5)), h8⟩
      case measure => simp [intOf]; omega
    · obtain rfl : k = t.L.length := by omega
      have hkd : ¬ (t.L.length : Int) < (t.L.length : Int) := by omega
      have hok2 := hok.out
      rw [hlen, List.take_of_length_le (by omega)] at hok2
      obtain ⟨B, d, rfl, _, _, _⟩ := hr.reads
      have hr3 : Sat E (row 61 3 (.slice B t.L.length d) tr.length (tf t2.L) * (bag t2.P * G)) wr := by rw [← hlen]; exact hr
      have h4 := tlist_shut hok2 hr3
      rw [← HG.out] at h4
      have h5 := (recd_shut HT.out (h4.eq (show _ = blk r (.cells #[.pointer (some ⟨s, 0, none⟩), .slice A1 tr.length c1] 77) * (row 61 3 (.slice A1 tr.length c1) tr.length (tf t.L) * (bag t.P * (store s σ * (tlist 61 (.slice B t.L.length d) tr * F)))) by ac_rfl))).eq (star_left_comm _ _ _)
      rw [hlen] at h5
      have H5 := hid h5
      have hlen2 := hlen
      clear h5 h4 hr3 hok2 hr
      go_wp2
      go_ret
      exact ⟨B, d, by first | rfl | rw [hlen2], H5.out⟩
end Go.Proofs.Ytacfaegljjgneaa
