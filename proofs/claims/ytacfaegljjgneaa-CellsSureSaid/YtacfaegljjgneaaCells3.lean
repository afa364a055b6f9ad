import Derived.Test.YtacfaegljjgneaaCells2
namespace Go.Proofs.Ytacfaegljjgneaa
set_option linter.unusedVariables false
set_option linter.unusedSimpArgs false
open Go.RowKit Go.Proofs.Sep

/-- What a cell reads as, with the first k writes in flight. -/
def peekTo (σ : St) (a : Nat) (k : Nat) : List Int := (σ.fl.take k).foldl (fun b x => if x.1 = (a : Int) then x.2 else b) (σ.cs.getD a [])
theorem peekTo_succ {σ : St} {a k : Nat} (h : k < σ.fl.length) : peekTo σ a (k + 1) = if σ.fl[k].1 = (a : Int) then σ.fl[k].2 else peekTo σ a k := by
  unfold peekTo
  rw [List.take_add_one, List.getElem?_eq_getElem h, Option.toList_some, List.foldl_append]
  rfl
def peek (σ : St) (a : Int) : List Int := if inN σ.n a = true then peekTo σ a.toNat σ.fl.length else []
/-- What is copied over so many zeros, or over as many bytes. -/
theorem copy_all {b xs : List Value} {n : Nat} (h1 : b.length = n) (h2 : xs.length = n) : b.take n ++ xs.drop n = b := by
  rw [List.take_of_length_le (by omega), List.drop_of_length_le (by omega), List.append_nil]

set_option maxRecDepth 100000 in
set_option maxHeartbeats 2000000 in
theorem peek_calls {E w : World} {F : Asn} (s : Nat) (σ : St) (a : Int) (hs : σ.size ≤ 4096) (hS : Sat E (store s σ * F) w) :
    Calls Try.prog 16 #[.pointer (some ⟨s, 0, none⟩), .int .i64 a] w fun e w' => ∃ v, e = .returned v ∧ Sat E (row 5 1 v (peek σ a).length (nums .u8 (peek σ a)) * (store s σ * F)) w' := by
  obtain ⟨r, hr, h⟩ := store_open hS
  obtain ⟨A1, c1, A2, c2, A3, c3, e1, e2, e3, R1, R2, R3, hc2⟩ := store_slices h
  obtain ⟨d0, d1, d2, d3, d4, d5, d6⟩ := store_cells h
  rw [e1] at d0
  rw [e2] at d2
  have hisc := is_calls s A1 σ.n c1 a d0
  rcases Bool.eq_false_or_eq_true (inN σ.n a) with hin | hin
  · obtain ⟨j, rfl, hj⟩ : ∃ j : Nat, a = j ∧ j < σ.n := by
      unfold inN at hin
      simp only [decide_eq_true_eq] at hin
      exact ⟨a.toNat, by omega, by omega⟩
    have hpk : peek σ (j : Int) = peekTo σ j σ.fl.length := by unfold peek; rw [if_pos hin, Int.toNat_natCast]
    rw [hpk]
    rw [hin] at hisc
    clear hpk hin
    have hmk := fun w => run_make_row' (P := Try.prog) 22 5 (.int .u8 0) 1 Try.underlying22 Try.info5 rfl .i64 .i64 σ.size (by omega) (by omega) w
    obtain ⟨G, hG⟩ : ∃ G, stBlk s σ r * (row 22 1 r.cv σ.n r.cvals * (row 87 2 r.fv σ.fl.length (flat r.fl) * (row 4 1 r.kv σ.keep.length (bools σ.keep) * (bag r.P * F)))) = G := ⟨_, rfl⟩
    have hGS : ∀ {w}, Sat E G w → Sat E (store s σ * F) w := fun h => by rw [← hG] at h; exact store_shut hr h
    have hGd : ∀ {w}, Sat E G w → w.cell? ⟨s, 0, none⟩ = some (.slice A1 σ.n c1) ∧ w.cell? ⟨s, 2, none⟩ = some (.slice A2 σ.fl.length c2) ∧ w.cell? ⟨s, 1, none⟩ = some (.int .i64 σ.size) ∧ Reads w 1 A1 σ.n r.cvals ∧ Reads w 2 A2 σ.fl.length (flat r.fl) := fun h => by
      rw [← hG] at h
      obtain ⟨q0, q1, q2, _⟩ := store_cells h
      rw [e1] at q0 h
      rw [e2] at q2 h
      exact ⟨q0, q2, q1, h.right.reads_at, h.right.right.reads_at⟩
    have hGb : ∀ {w}, Sat E G w → ∀ x ∈ r.P, ∃ A c, x.1 = .slice A x.2.length c ∧ Reads w 1 A x.2.length (nums .u8 x.2) := fun h => by
      rw [← hG] at h
      exact bag_at h.right.right.right.right
    rw [hG] at h
    have hV := hr.cells j (by rw [hr.n1]; exact hj) (by rw [hr.n2]; exact hj)
    have hcvj : r.cvals[j]? = some (r.cvals[j]'(by rw [hr.n1]; exact hj)) := List.getElem?_eq_getElem _
    generalize r.cvals[j]'(by rw [hr.n1]; exact hj) = cv at hV hcvj
    have hp0 : peekTo σ j 0 = σ.cs[j]'(by rw [hr.n2]; exact hj) := by
      unfold peekTo
      rw [List.take_zero, List.foldl_nil, List.getD_eq_getElem?_getD, List.getElem?_eq_getElem (by rw [hr.n2]; exact hj)]; rfl
    generalize σ.cs[j]'(by rw [hr.n2]; exact hj) = b0 at hV hp0
    obtain ⟨A4, l4, c4, rfl, hR4, hres⟩ : ∃ A4 l4 c4, cv = .slice A4 l4 c4 ∧ (∀ {w}, Sat E G w → ∃ cs4, Reads w 1 A4 l4 cs4 ∧ (∀ u ∈ cs4, u.oneCell' = true) ∧ cs4.take σ.size ++ (List.replicate σ.size (Value.int .u8 0)).drop l4 = nums .u8 b0) ∧ b0.length = σ.size := by
      rcases hV with ⟨rfl, rfl⟩ | ⟨hm, hl⟩
      · exact ⟨none, 0, 0, rfl, fun _ => ⟨[], ⟨by simp, by omega, fun _ => rfl, fun _ h => by cases h⟩, by simp, by simp [nums]⟩, by simp⟩
      · obtain ⟨A, c, e, _⟩ := hGb h _ hm
        simp only at e
        subst e
        refine ⟨A, _, c, rfl, fun hw => ?_, hl⟩
        obtain ⟨A', c', e', hr'⟩ := hGb hw _ hm
        simp only at e' hr'
        injection e' with e' _ _
        subst e'
        refine ⟨_, hr', nums_one _ _, ?_⟩
        rw [hl]
        exact copy_all (by rw [nums_length, hl]) (by simp)
    clear hV
    have h1 := h.row_made (.int .u8 0) 5 σ.size (by omega)
    have hd0 := hGd h1.right
    obtain ⟨y0, y2, y1, yR, _⟩ := hd0
    obtain ⟨ac, hac, hcc⟩ := yR.at (by omega)
    have yc := hcc j _ hcvj
    obtain ⟨cs4, hq1, hq2, hq3⟩ := hR4 h1.right
    subst hac
    have HQ3 := hid hq3
    have HP0 := hid hp0
    have hjn : (j : Int) < (σ.n : Int) := by omega
    clear hcc yR hq3 hp0 R1 R2 R3 hcvj hR4 e1 e2 e3
    go_enter Try.func16, Try.ntmps16
    go_wp2_with fail
    refine hisc.mono ?_
    rintro e w1 ⟨rfl, rfl⟩
    clear hisc
    go_wp2_with (first | (refine wpList_copy_sat rfl _ _ 22 22 rfl 5 Try.underlying22 (by kernel_rfl) _ _ _ _ _ _ rfl rfl _ _ h1 hq1 hq2 ?_; intro w2 h2; rw [HQ3.out] at h2; have hd2 := hGd h2.right; obtain ⟨z0, z2, z1, _, _⟩ := hd2))
    have HB0 := hid hres
    clear hres h1 hq1 hq2 h y0 y1 y2 yc
    go_loopw [31] (fun i wr => ∃ (k : Nat) (b : List Int), k ≤ σ.fl.length ∧ i = .int .i64 k ∧ Hid (peekTo σ j k = b) ∧ Hid (b.length = σ.size) ∧ Sat E (row 5 1 (.slice (some ⟨w1.heap.size, 0, none⟩) σ.size σ.size) σ.size (nums .u8 b) * G) wr) (fun i _ => σ.fl.length - (intOf i).toNat)
    case atStart => exact ⟨0, b0, by omega, rfl, HP0, HB0, h2⟩
    case round =>
      clear h2 HP0 HB0 z0 z1 z2
      obtain ⟨k, b, hk, rfl, hpb, hbl, hr2⟩ := hrel
      obtain ⟨z0, z2, z1, _, zR⟩ := hGd hr2.right
      have hmm := zR.2.1
      by_cases hlt : k < σ.fl.length
      · have hrl := hr.f1
        obtain ⟨af, haf, hcf⟩ := zR.at (by omega)
        obtain ⟨x0, x1⟩ := flat_at (l := r.fl) (k := k) (by omega)
        have t0 := hcf _ _ x0
        have t1 := cell_two (hcf _ _ x1)
        obtain ⟨y1, y2, y3, y4, y5⟩ := hr.fly k (by omega) hlt
        obtain ⟨A5, c5, e5, hR5⟩ := hGb hr2.right _ y2
        simp only at e5 hR5
        rw [y1] at t0
        rw [e5] at t1
        have HST := hid (peekTo_succ (a := j) hlt)
        have HY3 := hid y3
        have hkd : (k : Int) < (σ.fl.length : Int) := by omega
        subst haf
        clear hcf x0 x1 y1 y2 y3 y4 y5 e5 hrl
        obtain ⟨fa, hfa0⟩ : ∃ fa, fa = σ.fl[k].1 := ⟨_, rfl⟩
        obtain ⟨fb, hfb0⟩ : ∃ fb, fb = σ.fl[k].2 := ⟨_, rfl⟩
        rw [← hfa0] at t0 HST
        rw [← hfb0] at t1 hR5 HST HY3
        clear hfa0 hfb0
        by_cases hfa : fa = (j : Int)
        · have z9 : (fa == (j : Int)) = true := by rw [hfa]; simp
          have HN : Hid (peekTo σ j (k + 1) = fb) := HST.out.trans (if_pos hfa)
          have hcop : (nums .u8 fb).take σ.size ++ (nums .u8 b).drop fb.length = nums .u8 fb := by
            rw [show fb.length = σ.size from HY3.out]
            exact copy_all (by rw [nums_length]; exact HY3.out) (by rw [nums_length]; exact hbl.out)
          have HC := hid hcop
          clear hcop hfa
          go_wp2_with (first | (refine wpList_copy_sat rfl _ _ 22 22 rfl 5 Try.underlying22 (by kernel_rfl) _ _ _ _ _ _ rfl rfl _ _ (hr2.alloc_drop _) (hR5.alloc _) (nums_one _ _) ?_; intro w3 h3; rw [HC.out] at h3))
          go_roundw
          case rel => exact ⟨k + 1, fb, by omega, by go_num, HN, HY3, h3⟩
          case measure => simp [intOf]; omega
        · have z9 : (fa == (j : Int)) = false := by rw [beq_eq_false_iff_ne]; exact hfa
          have HN : Hid (peekTo σ j (k + 1) = b) := HST.out.trans ((if_neg hfa).trans hpb.out)
          clear hfa
          go_wp2
          go_roundw
          case rel => exact ⟨k + 1, b, by omega, by go_num, HN, hbl, hr2.alloc_drop _⟩
          case measure => simp [intOf]; omega
      · obtain rfl : k = σ.fl.length := by omega
        rw [← hG] at hr2
        have h5 : Sat E (stBlk s σ r * (row 22 1 r.cv σ.n r.cvals * (row 87 2 r.fv σ.fl.length (flat r.fl) * (row 4 1 r.kv σ.keep.length (bools σ.keep) * (bag r.P * (row 5 1 (.slice (some ⟨w1.heap.size, 0, none⟩) σ.size σ.size) σ.size (nums .u8 b) * F)))))) wr := hr2.eq (by ac_rfl)
        have hfin := (store_shut hr h5).eq (star_left_comm _ _ _)
        go_wp2
        go_ret
        refine ⟨_, rfl, ?_⟩
        rw [hpb.out, hbl.out]
        exact hfin
  · have hpk : peek σ a = [] := by unfold peek; rw [hin]; rfl
    rw [hpk]
    rw [hin] at hisc
    clear hpk hin
    go_enter Try.func16, Try.ntmps16
    go_wp2_with fail
    refine hisc.mono ?_
    rintro e w1 ⟨rfl, rfl⟩
    go_wp2
    go_ret
    exact ⟨_, rfl, hS.row_nil⟩
end Go.Proofs.Ytacfaegljjgneaa
