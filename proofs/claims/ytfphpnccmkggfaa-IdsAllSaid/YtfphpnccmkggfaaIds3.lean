import Derived.Test.YtfphpnccmkggfaaIds2
namespace Go.Proofs.Ytfphpnccmkggfaa
set_option linter.unusedVariables false
set_option linter.unusedSimpArgs false
open Go.RowKit Go.Proofs.Sep

theorem reads_take {w : World} {A : Option Addr} {n : Nat} {l : List Int} (h : Reads w 1 A n (nums .i64 l)) (k : Nat) (hk : k ≤ n) : Reads w 1 A k (nums .i64 (l.take k)) := by
  have := h.take k hk
  rwa [Nat.mul_one, show (nums .i64 l).take k = nums .i64 (l.take k) by simp [nums, List.map_take]] at this

def dup (xs : List Int) : Bool := !decide xs.Nodup
theorem has_sat {E w : World} {F : Asn} (A : Option Addr) (n c : Nat) (xs : List Int) (x : Int) (hS : Sat E F w) (hA : Reads w 1 A n (nums .i64 xs)) :
    Calls Try.prog 35 #[.slice A n c, .int .i64 x] w fun e w' => e = .returned (.bool (decide (x ∈ xs))) ∧ Sat E F w' :=
  (hasInt A n c xs x hA).mono fun _ _ ⟨h1, h2⟩ => ⟨h1, h2 ▸ hS⟩
set_option maxRecDepth 100000 in
set_option maxHeartbeats 1000000 in
theorem twice_calls {E w : World} {F : Asn} (A : Option Addr) (c : Nat) (xs : List Int) (hS : Sat E F w) (hn : xs.length ≤ c) (hR : ∀ w, Sat E F w → Reads w 1 A xs.length (nums .i64 xs)) :
    Calls Try.prog 13 #[.slice A xs.length c] w fun e w' => e = .returned (.bool (dup xs)) ∧ Sat E F w' := by
  have hmm := (hR w hS).2.1
  go_enter Try.func13, Try.ntmps13
  go_wp2_with fail
  go_loopw [3] (fun i wr => ∃ k : Nat, k ≤ xs.length ∧ i = .int .i64 k ∧ Hid ((xs.take k).Nodup) ∧ Sat E F wr) (fun i _ => xs.length - (intOf i).toNat)
  case atStart => exact ⟨0, by omega, rfl, by simp [Hid], hS⟩
  case round =>
    obtain ⟨k, hk, rfl, hnd, hr⟩ := hrel
    by_cases hlt : k < xs.length
    · have hRr := hR _ hr
      have hRt := hRr.take k (by omega)
      rw [Nat.mul_one, show (nums .i64 xs).take k = nums .i64 (xs.take k) by simp [nums, List.map_take]] at hRt
      obtain ⟨ad, rfl, hc⟩ := hRr.at (by omega)
      have hca := hc k _ (nums_at hlt)
      have hct : ∀ s : SW E F, s.w.cell? (ad.add k) = some (.int .i64 xs[k]) := fun s => by
        obtain ⟨ad', h1, h2⟩ := (hR _ s.h).at (by omega)
        injection h1 with h1
        subst h1
        exact h2 k _ (nums_at hlt)
      clear hc hca
      have hkc : (k : Int) ≤ (c : Int) := by omega
      have hRs : ∀ s : SW E F, Reads s.w 1 (some ad) k (nums .i64 (xs.take k)) := fun s => by
        have := (hR _ s.h).take k (by omega)
        rwa [Nat.mul_one, show (nums .i64 xs).take k = nums .i64 (xs.take k) by simp [nums, List.map_take]] at this
      have hnx : (xs.take (k + 1)) = xs.take k ++ [xs[k]] := by rw [List.take_add_one, List.getElem?_eq_getElem hlt]; rfl
      by_cases hm : xs[k] ∈ xs.take k
      · have hdu : dup xs = true := by
          unfold dup
          have : ¬ xs.Nodup := fun h => by
            have h2 : (xs.take (k + 1)).Nodup := (List.take_sublist _ _).nodup h
            rw [hnx, List.nodup_append] at h2
            exact h2.2.2 _ hm _ (List.mem_singleton.2 rfl) rfl
          simp [this]
        have hd := decide_eq_true hm
        have HD := hid hd
        have HU := hid hdu
        clear hm hdu hd hnx
        go_wp2_with fail
        refine wp_region_quietS _ (by kernel_rfl) (by kernel_rfl) hr ?_
        intro hne
        repeat (go_big_quiet_step (first | (go_at_call 35; exact quietS (has_sat _ _ _ _ _ (SW.h _) (hRs _)))))
        refine wpQuiet_nil ?_
        intro w12 hw'
        have h12 := SW.out hw'
        clear hw' hne
        rw [HD.out]
        go_wp2
        go_ret
        exact ⟨ret_bool HU.out.symm, h12⟩
      · have hnd2 : (xs.take (k + 1)).Nodup := by
          rw [hnx, List.nodup_append]
          refine ⟨hnd.out, by simp, ?_⟩
          intro a ha b hb
          rw [List.mem_singleton] at hb
          subst hb
          exact fun h => hm (h ▸ ha)
        have hd := decide_eq_false hm
        have HD := hid hd
        have HU := hid hnd2
        clear hm hnd2 hd hnx
        go_wp2_with fail
        refine wp_region_quietS _ (by kernel_rfl) (by kernel_rfl) hr ?_
        intro hne
        repeat (go_big_quiet_step (first | (go_at_call 35; exact quietS (has_sat _ _ _ _ _ (SW.h _) (hRs _)))))
        refine wpQuiet_nil ?_
        intro w12 hw'
        have h12 := SW.out hw'
        clear hw' hne
        rw [HD.out]
        go_wp2
        go_roundw
        case rel => exact ⟨k + 1, by omega, by go_num, HU, h12⟩
        case measure => simp [intOf]; omega
    · have hall : dup xs = false := by
        have := hnd.out
        rw [List.take_of_length_le (by omega)] at this
        unfold dup
        simpa using this
      have HA := hid hall
      clear hall
      go_wp2
      go_ret
      exact ⟨ret_bool HA.out.symm, hr⟩


set_option maxRecDepth 100000 in
set_option maxHeartbeats 1000000 in
theorem mayPool_calls {E w : World} {F : Asn} (x : Int) (A : Option Addr) (c : Nat) (used : List Int) (hS : Sat E F w) (hc : used.length ≤ c) (hR : ∀ w, Sat E F w → Reads w 1 A used.length (nums .i64 used)) :
    Calls Try.prog 31 #[.int .i64 x, .slice A used.length c] w fun e w' => e = .returned (.bool (mayPool x used)) ∧ Sat E F w' := by
  have hmm := (hR w hS).2.1
  by_cases h0 : 0 ≤ x
  · by_cases h1 : x ≤ 64
    · have hnx : ¬ (64 : Int) < x := by omega
      by_cases hd : used.Nodup
      · have HD := hid (show dup used = false by unfold dup; simp [hd])
        have hfin : ∀ b, (b = true ↔ ∀ y ∈ used, 0 ≤ y ∧ y < x) → mayPool x used = b := fun b hb => by
          unfold mayPool
          cases b with
          | true => exact decide_eq_true ⟨h0, h1, hd, hb.1 rfl⟩
          | false => exact decide_eq_false (fun h => by have := hb.2 h.2.2.2; cases this)
        have HF := hid hfin
        clear hfin hd
        go_enter Try.func31, Try.ntmps31
        go_wp2_with fail
        refine (twice_calls A c used hS hc hR).mono ?_
        rw [HD.out]
        rintro e w1 ⟨rfl, g1⟩
        go_wp2_with fail
        go_loopw [5] (fun i wr => ∃ k : Nat, k ≤ used.length ∧ i = .int .i64 k ∧ Hid (∀ y ∈ used.take k, 0 ≤ y ∧ y < x) ∧ Sat E F wr) (fun i _ => used.length - (intOf i).toNat)
        case atStart => exact ⟨0, by omega, rfl, by simp [Hid], g1⟩
        case round =>
          clear g1
          obtain ⟨k, hk, rfl, hall, hr⟩ := hrel
          by_cases hlt : k < used.length
          · obtain ⟨ad, rfl, hc⟩ := (hR _ hr).at (by omega)
            have hca := hc k _ (nums_at hlt)
            clear hc
            by_cases g0 : 0 ≤ used[k]
            · by_cases g1 : used[k] < x
              · have hn1 : ∀ y ∈ used.take (k + 1), 0 ≤ y ∧ y < x := by
                  rw [List.take_add_one, List.getElem?_eq_getElem hlt, Option.toList_some]
                  intro y hy
                  rcases List.mem_append.1 hy with hy | hy
                  · exact hall.out y hy
                  · rw [List.mem_singleton] at hy; subst hy; exact ⟨g0, g1⟩
                have HN := hid hn1
                clear hn1
                go_wp2
                go_roundw
                case rel => exact ⟨k + 1, by omega, by go_num, HN, hr⟩
                case measure => simp [intOf]; omega
              · have HX := hid (HF.out false ⟨fun h => (by cases h), fun h => absurd (h _ (List.getElem_mem hlt)).2 g1⟩)
                go_wp2
                go_ret
                exact ⟨ret_bool HX.out.symm, hr⟩
            · have HX := hid (HF.out false ⟨fun h => (by cases h), fun h => absurd (h _ (List.getElem_mem hlt)).1 g0⟩)
              go_wp2
              go_ret
              exact ⟨ret_bool HX.out.symm, hr⟩
          · have hal := hall.out
            rw [List.take_of_length_le (by omega)] at hal
            have HX := hid (HF.out true ⟨fun _ => hal, fun _ => rfl⟩)
            clear hal
            go_wp2
            go_ret
            exact ⟨ret_bool HX.out.symm, hr⟩
      · have HD := hid (show dup used = true by unfold dup; simp [hd])
        have HX := hid (show mayPool x used = false from decide_eq_false (fun h => hd h.2.2.1))
        clear hd
        go_enter Try.func31, Try.ntmps31
        go_wp2_with fail
        refine (twice_calls A c used hS hc hR).mono ?_
        rw [HD.out]
        rintro e w1 ⟨rfl, g1⟩
        go_wp2
        go_ret
        exact ⟨ret_bool HX.out.symm, g1⟩
    · have HX := hid (show mayPool x used = false from decide_eq_false (fun h => h1 h.2.1))
      go_enter Try.func31, Try.ntmps31
      go_wp2
      go_ret
      exact ⟨ret_bool HX.out.symm, hS⟩
  · have HX := hid (show mayPool x used = false from decide_eq_false (fun h => h0 h.1))
    go_enter Try.func31, Try.ntmps31
    go_wp2
    go_ret
    exact ⟨ret_bool HX.out.symm, hS⟩

set_option maxRecDepth 100000 in
set_option maxHeartbeats 1000000 in
theorem newBad {w : World} (x : Int) (A : Option Addr) (m c : Nat) (hx : x < 0 ∨ 64 < x) : Calls Try.prog 30 #[.int .i64 x, .slice A m c] w fun e w' => e = .returned (.tuple #[.pointer none, .int .i64 1]) ∧ w' = w := by
  rcases hx with hx | hx
  · go_enter Try.func30, Try.ntmps30
    go_wp2
    go_ret2
    exact ⟨rfl, rfl⟩
  · go_enter Try.func30, Try.ntmps30
    go_wp2
    go_ret2
    exact ⟨rfl, rfl⟩

set_option maxRecDepth 100000 in
set_option maxHeartbeats 1000000 in
theorem new_nat {E w : World} {F : Asn} (n : Nat) (A : Option Addr) (m c : Nat) (used : List Int) (hn : n ≤ 64) (hS : Sat E F w) (hR : ∀ w, Sat E F w → Reads w 1 A m (nums .i64 used)) :
    Calls Try.prog 30 #[.int .i64 n, .slice A m c] w fun e w' => (mayPool n used = true ∧ ∃ p, e = .returned (.tuple #[.pointer (some ⟨p, 0, none⟩), .int .i64 0]) ∧ Sat E (bp p n (poolOf n used) * F) w') ∨
      (mayPool n used = false ∧ e = .returned (.tuple #[.pointer none, .int .i64 1]) ∧ Sat E F w') := by
  have hmk := fun w => run_make_row' (P := Try.prog) 69 4 (.bool false) 1 Try.underlying69 Try.info4 rfl .i64 .i64 n (by omega) (by omega) w
  have hS1 := hS.row_made (.bool false) 4 n (by omega)
  rw [show List.replicate n (Value.bool false) = bools (poolOf n (allI n)) by rw [poolOf_all]; simp [bools]] at hS1
  have h2 := hS1.alloc (.cells #[.slice (some ⟨w.heap.size, 0, none⟩) n n] 71)
  have h3 := bp_shut h2
  rw [show (w.alloc (.cells (madeCells #[.bool false] n) 4)).heap.size = w.heap.size + 1 by simp] at h3
  have H3 := hid h3
  have hmg := hid (mayPool_give hn used)
  clear h3 h2 hS1
  have hn0 : ¬ (64 : Int) < (n : Int) := by omega
  have hn1 : ¬ (n : Int) < 0 := by omega
  rcases Bool.eq_false_or_eq_true (giveB (allI n) used) with hg | hg
  · have HG := hid hg
    clear hg
    go_enter Try.func30, Try.ntmps30
    go_wp2_with fail
    refine (give_calls (w.heap.size + 1) n (allI n) A m c used (fun x hx => mem_allI.1 hx) (by omega) H3.out hR).mono ?_
    rw [HG.out, gave_true HG.out, ← mixB_zero]
    rintro e w1 ⟨rfl, g1⟩
    obtain ⟨A1, c1, _, _, g2, hR1⟩ := bp_open g1
    have d0 := g2.cell_blk (i := 0)
    simp only [List.getElem?_toArray, List.getElem?_cons_zero, List.getElem?_cons_succ] at d0
    have g3 : Sat E (row 4 1 (.slice A1 n c1) n (bools (mixB n 0 used)) * (blk (w.heap.size + 1) (.cells #[.slice A1 n c1] 71) * F)) w1 := g2.eq (by ac_rfl)
    clear H3 g1 g2
    go_wp2_with fail
    go_loopw [28] (fun i wr => ∃ k : Nat, k ≤ n ∧ i = .int .i64 k ∧ Sat E (row 4 1 (.slice A1 n c1) n (bools (mixB n k used)) * (blk (w.heap.size + 1) (.cells #[.slice A1 n c1] 71) * F)) wr) (fun i _ => n - (intOf i).toNat)
    case atStart => exact ⟨0, by omega, rfl, g3⟩
    case round =>
      clear g3 d0 hR1
      obtain ⟨k, hk, rfl, hr⟩ := hrel
      have d0 := hr.right.cell_blk (i := 0)
      simp only [List.getElem?_toArray, List.getElem?_cons_zero, List.getElem?_cons_succ] at d0
      by_cases hlt : k < n
      · have hkd : (k : Int) < (n : Int) := by omega
        obtain ⟨g, cg, e1, _, _⟩ := hr.row_head (by omega)
        injection e1 with e1 e2 e3
        subst e1
        clear e2 e3
        have lt1 := hr.row_lt
        have f1 := hr.row_free k
        have d1 := (hr.row_cell k (by omega)).trans (bools_at (by rw [mixB_length]; exact hlt))
        rw [mixB_at] at d1
        have h4 := hr.row_store k (.bool (!decide ((k : Int) ∈ used)))
        rw [show (bools (mixB n k used)).set k (.bool (!decide ((k : Int) ∈ used))) = bools (mixB n (k + 1) used) by rw [← mixB_next]; simp [bools, List.map_set]] at h4
        have H4 := hid h4
        clear h4 hr
        generalize decide ((k : Int) ∈ used) = b at *
        go_wp2
        go_roundw
        case rel => exact ⟨k + 1, by omega, by go_num, H4.out⟩
        case measure => simp [intOf]; omega
      · obtain rfl : k = n := by omega
        rw [mixB_full] at hr
        have hs := bp_shut (hr.eq (star_left_comm _ _ _))
        clear hr
        go_wp2
        go_ret2
        exact .inl ⟨hmg.out.trans HG.out, _, rfl, hs⟩
  · have HG := hid hg
    clear hg
    go_enter Try.func30, Try.ntmps30
    go_wp2_with fail
    refine (give_calls (w.heap.size + 1) n (allI n) A m c used (fun x hx => mem_allI.1 hx) (by omega) H3.out hR).mono ?_
    rw [HG.out]
    rintro e w1 ⟨rfl, g1⟩
    have g2 := g1.right
    clear g1 H3
    go_wp2
    go_ret2
    exact .inr ⟨hmg.out.trans HG.out, rfl, g2⟩
end Go.Proofs.Ytfphpnccmkggfaa
