import Derived.Test.YtobgfdongidaaaaDir57
namespace Go.Proofs.Ytobgfdongidaaaa
set_option linter.unusedVariables false
set_option linter.unusedSimpArgs false
open Go.RowKit Go.Proofs.Sep Go.Lib

theorem ents_set_at {M : List Ent} {k : Nat} (hk : k < M.length) (id : Int) : (ents M).set (k * 2 + 1) (.int .i64 id) = ents (M.set k (M[k].1, id)) := by
  rw [ents_set (M[k].1, id) hk]
  congr 1
  have h1 := (ents_at hk).1
  obtain ⟨hi, h2⟩ := List.getElem?_eq_some_iff.1 h1
  simp only
  rw [← h2]
  exact (List.set_getElem_self hi).symm
set_option maxRecDepth 100000 in
set_option maxHeartbeats 8000000 in
theorem refPut22 {E w : World} {F : Asn} (A : Option Addr) (c : Nat) (L : List Ent) (key : ByteArray) (id : Int) (hr : Rises L) (hl : L.length ≤ 900) (hc : L.length ≤ c) (hS : Sat E F w) (hA : ∀ w, Sat E F w → Reads w 2 A L.length (ents L)) :
    Calls Try.prog 22 #[.slice A L.length c, .string key, .int .i64 id] w fun r w' => ∃ (v : Value), r = .returned (.tuple #[v, .bool (!hasKey key L)]) ∧ Sat E (row 32 2 v (insR (key, id) L).length (ents (insR (key, id) L)) * F) w' := by
  have hfind := find25 A c L key (by omega) (hA w hS)
  go_enter Try.func22, Try.ntmps22
  go_wp2_with fail
  refine hfind.mono ?_
  clear hfind
  rintro e w1 ⟨⟨i, rfl, hi⟩, rfl⟩
  rcases hi with ⟨kk, hkk, rfl, hkey⟩ | ⟨rfl, hno⟩
  · have i1 : (0 : Int) ≤ (kk : Int) := by omega
    have i2 : (kk : Int) < (L.length : Int) := by omega
    obtain ⟨hins, hhas⟩ := insR_at (e := (key, id)) hr hkk hkey
    have hq1 : Sat E (row 32 2 (.slice (some ⟨w1.heap.size, 0, none⟩) 0 0) 0 [] * F) (w1.alloc (.cells #[] 32)) := (hS.alloc (.cells #[] 32)).blk_row (n := 0) (cap := 0) (by omega) (by simp [maxLen]) rfl
    have hRa := hA _ hq1.right
    have HI := hid hins
    have HH := hid hhas
    have HKK := hid hkk
    have HKEY := hid hkey
    clear hS hA hr hins hhas hkey
    go_wp2_with (at_builtin; refine wpList_append_sat rfl _ _ 30 32 (.agg #[.string ByteArray.empty, .int .i64 0]) 2 24 rfl Try.underlying30 Try.info32 rfl (by decide) _ 0 [] _ L.length c (ents L) rfl rfl hq1 hRa (ents_one L) (by unfold maxLen; omega) (by omega) ?_; intro v3 w3 q1; rw [Nat.zero_add, List.nil_append] at q1; obtain ⟨gO, co, hv, _, _⟩ := q1.row_head (by omega); subst hv; have fz := q1.row_free (kk * 2 + 1); have a1 := q1.row_cell (kk * 2 + 1) (by have := HKK.out; omega); rw [(ents_at HKK.out).2] at a1; have q2 := q1.row_store (kk * 2 + 1) (.int .i64 id); rw [ents_set_at HKK.out, HKEY.out, ← HI.out] at q2)
    go_ret2
    exact ⟨_, by rw [show hasKey key L = true from HH.out]; rfl, by rw [show (insR (key, id) L).length = L.length by rw [HI.out, List.length_set]]; exact q2⟩
  · have hal := ahead_le key L
    go_wp2_with fail
    go_loopw [10] (fun iv wr => wr = w1 ∧ ∃ k : Nat, k ≤ ahead key L ∧ iv = .int .i64 k) (fun iv _ => L.length + 1 - (intOf iv).toNat)
    case atStart => exact ⟨rfl, 0, by omega, rfl⟩
    case round =>
      obtain ⟨rfl, k, hk, rfl⟩ := hrel
      by_cases hlt : k < ahead key L
      · have hkL : k < L.length := by omega
        have hkd : (k : Int) < (L.length : Int) := by omega
        have wk := i64_wrap (x := (k : Int) + 1) (by omega) (by omega)
        obtain ⟨ad, hAd, x0, _⟩ := cells_at (hA _ hS) hkL
        subst hAd
        have hlt2 := (ahead_spec hr k hkL).2 hlt
        have z1 : Op.bytesLess L[k].1.toList key.toList = true := by rw [key_lss]; exact decide_eq_true hlt2
        generalize L[k].1 = X at *
        clear hlt2
        go_wp2_with fail
        go_roundw
        case rel => exact ⟨by first | rfl | trivial, k + 1, by omega, by go_num⟩
        case measure => simp [intOf]; omega
      · obtain rfl : k = ahead key L := by omega
        have hfin : ((ahead key L : Nat) : Int) < (L.length : Int) → ∃ ad, A = some ad ∧ ∃ X : ByteArray, wr.cell? (ad.add (ahead key L * 2)) = some (.string X) ∧ Op.bytesLess X.toList key.toList = false := fun h => by
          have hkL : ahead key L < L.length := by omega
          obtain ⟨ad, hAd, x0, _⟩ := cells_at (hA _ hS) hkL
          refine ⟨ad, hAd, _, x0, ?_⟩
          rw [key_lss]
          exact decide_eq_false fun h2 => by have := (ahead_spec hr _ hkL).1 h2; omega
        have hins := insR_leaf (e := (key, id)) hr hno
        have hHN := hid hno
        simp only at hins
        generalize ahead key L = kk at *
        have HINS := hid hins
        have hil := insAt_length L (key, id) kk (by omega)
        have hie := ents_ins L (key, id) kk
        simp only at hie
        have HE := hid (And.intro hil hie)
        have hcut1 := fun W => cut_hi (P := Try.prog) 30 32 Try.underlying30 2 (by kernel_rfl) A L.length c kk (by omega) W
        obtain ⟨A', hcut2, hread⟩ := cut_from (P := Try.prog) (size := 2) 30 32 .i64 Try.underlying30 (by kernel_rfl) A L.length c kk (by omega) hc
        have h1t : ∀ u ∈ (ents L).take (kk * 2), u.oneCell' = true := fun u hu => ents_one L u (List.mem_of_mem_take hu)
        have h1d : ∀ u ∈ (ents L).drop (kk * 2), u.oneCell' = true := fun u hu => ents_one L u (List.mem_of_mem_drop hu)
        have p1 : Sat E (row 32 2 (.slice (some ⟨wr.heap.size, 0, none⟩) 0 0) 0 [] * F) (wr.alloc (.cells #[] 32)) := (hS.alloc (.cells #[] 32)).blk_row (n := 0) (cap := 0) (by omega) (by simp [maxLen]) rfl
        have HP := hid p1
        have HB := hid (hS.alloc (.cells #[.string key, .int .i64 id] 32))
        have H1T := hid h1t
        have H1D := hid h1d
        have HRD := hid (fun w h => hread w (ents L) h)
        have HA := hid hA
        have HS := hid hS
        clear hlt hins hno hil hie hread h1t h1d p1 hA hS hr
        have h900 : kk ≤ 900 := by omega
        have h901 : L.length - kk ≤ 900 := by omega
        have hn1 := hid (show (wr.alloc (.cells #[] 32)).heap.size = wr.heap.size + 1 from Array.size_push ..)
        have hn2 := hid (show (wr.alloc (.cells #[.string key, .int .i64 id] 32)).heap.size = wr.heap.size + 1 from Array.size_push ..)
        have pA := HP.out.drew
        have rA := HA.out _ pA.right
        have pB : Sat E (row 32 2 (.slice (some ⟨wr.heap.size, 0, none⟩) 0 0) 0 [] * (blk (wr.alloc (.cells #[] 32)).heap.size (.cells #[.string key, .int .i64 id] 32) * F)) (((wr.alloc (.cells #[] 32)).alloc (.cells #[.string key, .int .i64 id] 32)).drew) := ((HP.out.alloc _).eq (star_left_comm _ _ _)).drew
        have rB := HA.out _ pB.right.right
        have pC : Sat E (row 32 2 (.slice (some ⟨(wr.alloc (.cells #[.string key, .int .i64 id] 32)).heap.size, 0, none⟩) 0 0) 0 [] * (blk wr.heap.size (.cells #[.string key, .int .i64 id] 32) * F)) (((wr.alloc (.cells #[.string key, .int .i64 id] 32)).alloc (.cells #[] 32)).drew) := ((HB.out.alloc (.cells #[] 32)).blk_row (n := 0) (cap := 0) (by omega) (by simp [maxLen]) rfl).drew
        have rC := HA.out _ pC.right.right
        have pC' := pC
        rw [hn2.out] at pC'
        by_cases hend : kk < L.length
        · have hkd : (kk : Int) < (L.length : Int) := by omega
          obtain ⟨ad, hAd, X, x0, z1⟩ := hfin hkd
          subst hAd
          clear hfin
          go_upto_region 9 with fail
          clear x0 z1 hkd hend hk
          go_region_law (first
            | (refine step_append_sat rfl _ _ 30 32 (.agg #[.string ByteArray.empty, .int .i64 0]) 2 24 rfl Try.underlying30 Try.info32 rfl (by decide) _ 0 [] _ kk c _ rfl rfl pA (rA.take kk (by omega)) H1T.out (by unfold maxLen; omega) (by omega) ?_; intro v8 w8 q1; rw [Nat.zero_add, List.nil_append] at q1; obtain ⟨A8, c8, rfl, _, _, _⟩ := q1.reads; have q1 := q1.alloc_drop (.cells #[.string key, .int .i64 id] 32); have r1 : Reads (w8.alloc (.cells [.string key, .int .i64 id].toArray 32)) 2 (some ⟨w8.heap.size, 0, none⟩) 1 [.string key, .int .i64 id] := Reads.new 2 1 [.string key, .int .i64 id] 32 rfl (by omega); have r1' := r1)
            | (refine step_append_sat rfl _ _ 30 32 (.agg #[.string ByteArray.empty, .int .i64 0]) 2 24 rfl Try.underlying30 Try.info32 rfl (by decide) _ 0 [] _ kk c _ rfl rfl pB (rB.take kk (by omega)) H1T.out (by unfold maxLen; omega) (by omega) ?_; intro v8 w8 q1; rw [Nat.zero_add, List.nil_append] at q1; obtain ⟨A8, c8, rfl, _, _, _⟩ := q1.reads; have r1 := q1.right.blk_reads (n := 1) (size := 2) (cs := [.string key, .int .i64 id]) rfl (by omega); have r1' := r1; rw [hn1.out] at r1'; have q1 := q1.drop_mid)
            | (refine step_append_sat rfl _ _ 30 32 (.agg #[.string ByteArray.empty, .int .i64 0]) 2 24 rfl Try.underlying30 Try.info32 rfl (by decide) _ 0 [] _ kk c _ rfl rfl (by first | exact pC | exact pC') (rC.take kk (by omega)) H1T.out (by unfold maxLen; omega) (by omega) ?_; intro v8 w8 q1; rw [Nat.zero_add, List.nil_append] at q1; obtain ⟨A8, c8, rfl, _, _, _⟩ := q1.reads; have r1 := q1.right.blk_reads (n := 1) (size := 2) (cs := [.string key, .int .i64 id]) rfl (by omega); have r1' := r1; have q1 := q1.drop_mid)
            | (refine step_append_sat rfl _ _ 30 32 (.agg #[.string ByteArray.empty, .int .i64 0]) 2 24 rfl Try.underlying30 Try.info32 rfl (by decide) _ kk _ _ 1 1 _ rfl rfl q1 (by first | exact r1 | exact r1') (by simp [Value.oneCell']) (by unfold maxLen; omega) (by omega) ?_; intro v9 w9 q2; obtain ⟨A9, c9, rfl, _, _, _⟩ := q2.reads; have r2 := HRD.out _ (HA.out _ q2.right))
            | (refine step_append_sat rfl _ _ 30 32 (.agg #[.string ByteArray.empty, .int .i64 0]) 2 24 rfl Try.underlying30 Try.info32 rfl (by decide) _ (kk + 1) _ _ (L.length - kk) (c - kk) _ rfl rfl q2 r2 H1D.out (by unfold maxLen; omega) (by omega) ?_; intro v10 w10 q3))
          all_goals
            have Q := hid q3
            clear q1 q2 q3 pA pB pC pC' rA rB rC r1 r1' r2
            go_wp2_with fail
            go_ret2
            refine ⟨_, by rw [show hasKey key L = false from hHN.out]; rfl, ?_⟩
            rw [HINS.out, HE.out.1, HE.out.2]
            have Q2 := Q.out
            rw [show kk + 1 + (L.length - kk) = L.length + 1 by omega] at Q2
            exact Q2
        · have hkd : ¬ (kk : Int) < (L.length : Int) := by omega
          clear hfin
          go_upto_region 9 with fail
          clear hkd hend hk
          go_region_law (first
            | (refine step_append_sat rfl _ _ 30 32 (.agg #[.string ByteArray.empty, .int .i64 0]) 2 24 rfl Try.underlying30 Try.info32 rfl (by decide) _ 0 [] _ kk c _ rfl rfl pA (rA.take kk (by omega)) H1T.out (by unfold maxLen; omega) (by omega) ?_; intro v8 w8 q1; rw [Nat.zero_add, List.nil_append] at q1; obtain ⟨A8, c8, rfl, _, _, _⟩ := q1.reads; have q1 := q1.alloc_drop (.cells #[.string key, .int .i64 id] 32); have r1 : Reads (w8.alloc (.cells [.string key, .int .i64 id].toArray 32)) 2 (some ⟨w8.heap.size, 0, none⟩) 1 [.string key, .int .i64 id] := Reads.new 2 1 [.string key, .int .i64 id] 32 rfl (by omega); have r1' := r1)
            | (refine step_append_sat rfl _ _ 30 32 (.agg #[.string ByteArray.empty, .int .i64 0]) 2 24 rfl Try.underlying30 Try.info32 rfl (by decide) _ 0 [] _ kk c _ rfl rfl pB (rB.take kk (by omega)) H1T.out (by unfold maxLen; omega) (by omega) ?_; intro v8 w8 q1; rw [Nat.zero_add, List.nil_append] at q1; obtain ⟨A8, c8, rfl, _, _, _⟩ := q1.reads; have r1 := q1.right.blk_reads (n := 1) (size := 2) (cs := [.string key, .int .i64 id]) rfl (by omega); have r1' := r1; rw [hn1.out] at r1'; have q1 := q1.drop_mid)
            | (refine step_append_sat rfl _ _ 30 32 (.agg #[.string ByteArray.empty, .int .i64 0]) 2 24 rfl Try.underlying30 Try.info32 rfl (by decide) _ 0 [] _ kk c _ rfl rfl (by first | exact pC | exact pC') (rC.take kk (by omega)) H1T.out (by unfold maxLen; omega) (by omega) ?_; intro v8 w8 q1; rw [Nat.zero_add, List.nil_append] at q1; obtain ⟨A8, c8, rfl, _, _, _⟩ := q1.reads; have r1 := q1.right.blk_reads (n := 1) (size := 2) (cs := [.string key, .int .i64 id]) rfl (by omega); have r1' := r1; have q1 := q1.drop_mid)
            | (refine step_append_sat rfl _ _ 30 32 (.agg #[.string ByteArray.empty, .int .i64 0]) 2 24 rfl Try.underlying30 Try.info32 rfl (by decide) _ kk _ _ 1 1 _ rfl rfl q1 (by first | exact r1 | exact r1') (by simp [Value.oneCell']) (by unfold maxLen; omega) (by omega) ?_; intro v9 w9 q2; obtain ⟨A9, c9, rfl, _, _, _⟩ := q2.reads; have r2 := HRD.out _ (HA.out _ q2.right))
            | (refine step_append_sat rfl _ _ 30 32 (.agg #[.string ByteArray.empty, .int .i64 0]) 2 24 rfl Try.underlying30 Try.info32 rfl (by decide) _ (kk + 1) _ _ (L.length - kk) (c - kk) _ rfl rfl q2 r2 H1D.out (by unfold maxLen; omega) (by omega) ?_; intro v10 w10 q3))
          all_goals
            have Q := hid q3
            clear q1 q2 q3 pA pB pC pC' rA rB rC r1 r1' r2
            go_wp2_with fail
            go_ret2
            refine ⟨_, by rw [show hasKey key L = false from hHN.out]; rfl, ?_⟩
            rw [HINS.out, HE.out.1, HE.out.2]
            have Q2 := Q.out
            rw [show kk + 1 + (L.length - kk) = L.length + 1 by omega] at Q2
            exact Q2
end Go.Proofs.Ytobgfdongidaaaa
