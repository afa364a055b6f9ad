import Derived.Test.YtacfaegljjgneaaRef5
namespace Go.Proofs.Ytacfaegljjgneaa
set_option linter.unusedVariables false
set_option linter.unusedSimpArgs false
open Go.RowKit Go.Proofs.Sep

set_option maxRecDepth 100000 in
set_option maxHeartbeats 4000000 in
theorem rfwrite_calls {E w : World} {F : Asn} (s : Nat) (σ : St) (tr : List TOp) (a : Int) (A : Option Addr) (c : Nat) (b : List Int) (ho : SOk σ) (hl : tr.length ≤ 1000000) (hbl : b.length ≤ 1000000) (hS : Sat E (rstore s σ tr * F) w) (hR : ∀ w, Sat E F w → Reads w 1 A b.length (nums .u8 b)) :
    Calls Try.prog 30 #[.pointer (some ⟨s, 0, none⟩), .int .i64 a, .slice A b.length c] w fun e w' => e = .returned (.int .i64 (write σ a b).1) ∧ Sat E (rstore s (write σ a b).2 (noted (write σ a b).1 (2, a, b) tr) * F) w' := by
  have hbg := rbegin_calls s σ tr ho.o1 ho.o2 ho.l1 ho.l2 hS
  have hfl := ho.fl
  unfold write noted
  generalize hq : begins σ = q at *
  obtain ⟨ok, σ1⟩ := q
  simp only at hbg hfl ⊢
  clear hq hS ho
  cases ok with
  | false =>
    rw [if_pos rfl]
    go_enter Try.func30, Try.ntmps30
    go_wp2_with fail
    refine hbg.mono ?_
    rintro e w1 ⟨rfl, g1⟩
    go_wp2
    go_ret
    exact ⟨rfl, g1⟩
  | true =>
    rw [if_neg (by simp)]
    rcases Bool.eq_false_or_eq_true (inN σ1.n a) with hin | hin
    · obtain ⟨z1, z2⟩ := inN_true hin
      have HIN := hid hin
      rw [hin, if_neg (by simp)]
      clear hin
      by_cases hsz : b.length = σ1.size
      · rw [if_neg (by simp [hsz])]
        have HSZ := hid hsz
        have z3 : ((b.length : Int) != (σ1.size : Int)) = false := by rw [hsz]; simp
        clear hsz
        go_enter Try.func30, Try.ntmps30
        go_wp2_with fail
        refine hbg.mono ?_
        clear hbg
        rintro e w1 ⟨rfl, g1⟩
        obtain ⟨r, x, hr, hx, h⟩ := rstore_open g1
        obtain ⟨A1, c1, A2, c2, A3, c3, A4, c4, e1, e2, e3, e4, _, _, _, _, _⟩ := rstore_slices h
        obtain ⟨d0, d1, d2, d3, d4, d5, d6, d7, d8⟩ := rstore_cells h
        rw [e1] at d6
        have dfv := (rstore_cells h.drew).2.2.2.2.2.2.2.1
        have ltx := h.drew.lt_blk
        have hRF : ∀ {w : World}, Sat E (ROP s σ1 tr r x F) w → Reads w 1 A b.length (nums .u8 b) := fun h => hR _ h.right.right.right.right.right.right.right
        clear g1 e1 e2 e3 e4
        go_upto_region 7 with fail
        go_cut [] (fun wc => Sat E (rstore s (addFl σ1 a b) tr * F) wc)
        case first =>
          clear d0 d1 d2 d3 d4 d5 d6 d8
          go_region_law (first
            | (refine step_append_sat rfl _ _ 53 91 (.agg #[.int .i64 0, .slice none 0 0]) 2 32 rfl Try.underlying53 Try.info91 rfl (by decide) _ σ1.fl.length _ _ 1 1 [.int .i64 a, .slice A5 b.length c5] rfl rfl h6 (Reads.new 2 1 [.int .i64 a, .slice A5 b.length c5] 91 rfl (by omega)) (by simp [Value.oneCell']) (by unfold maxLen; omega) (by omega) ?_; intro v1 w7 h7; obtain ⟨A7, c7, rfl, _, _, _⟩ := h7.reads; have d7x := (rstore_cells h7.right).2.2.2.2.2.2.2.1; have f7x := h7.right.free_blk (i := 7); have l7x := h7.right.lt_blk)
            | (go_simp; go_at_call 20; refine (copyBytes A b.length c (nums .u8 b) h.drew (hRF h.drew) (nums_one _ _) (by omega)).mono ?_; rintro e w5 ⟨v5, rfl, h5⟩; obtain ⟨A5, c5, rfl, _, _, _⟩ := h5.reads; have d5x := (rstore_cells h5.right).2.2.2.2.2.2.2.1; have h6 : Sat E (row 91 2 r.fv σ1.fl.length (flat r.fl) * (rsBlk s σ1 r x * (row 5 1 (.slice A5 b.length c5) b.length (nums .u8 b) * (row 22 1 r.cv σ1.n r.cvals * (row 4 1 r.kv x.kb.length (bools x.kb) * (row 65 3 x.tv tr.length (tf x.t.L) * (bag x.t.P * (bag r.P * F)))))))) (w5.alloc (.cells #[.int .i64 a, .slice A5 b.length c5] 91)) := ((h5.alloc_drop _).eq (by unfold ROP; ac_rfl)); have d6x := (rstore_cells h6.right).2.2.2.2.2.2.2.1))
          all_goals
            have Q2 := hid (rfly_shut hr hx HIN.out HSZ.out h7)
            clear h7 h6 h5 d7x
            go_wp2
            go_meet
            exact Q2.out
        case rest =>
          clear h hr hx d0 d1 d2 d3 d4 d5 d6 d7 d8 hRF dfv ltx
          obtain ⟨r, x, hr, hx, h⟩ := rstore_open hcut
          have hRF : ∀ {w : World}, Sat E (ROP s (addFl σ1 a b) tr r x F) w → Reads w 1 A b.length (nums .u8 b) := fun h => hR _ h.right.right.right.right.right.right.right
          obtain ⟨τ, hτ⟩ : ∃ τ, addFl σ1 a b = τ := ⟨_, rfl⟩
          rw [hτ] at h hr hx hRF
          have HT := hid hτ
          clear hcut hτ
          go_wp2_with fail
          have dtv := (rstore_cells h).2.2.2.2.2.2.2.2
          have ltx := h.lt_blk
          go_region_law (first
            | (refine step_append_sat rfl _ _ 54 65 (.agg #[.int .i64 0, .int .i64 0, .slice none 0 0]) 3 40 rfl Try.underlying54 Try.info65 rfl (by decide) _ tr.length _ _ 1 1 [.int .i64 2, .int .i64 a, .slice A5 b.length c5] rfl rfl h6 (Reads.new 3 1 [.int .i64 2, .int .i64 a, .slice A5 b.length c5] 65 rfl (by omega)) (by simp [Value.oneCell']) (by unfold maxLen; omega) (by omega) ?_; intro v1 w7 h7; obtain ⟨A7, c7, rfl, _, _, _⟩ := h7.reads; have d7x := (rstore_cells h7.right).2.2.2.2.2.2.2.2; have f7x := h7.right.free_blk (i := 8); have l7x := h7.right.lt_blk)
            | (go_simp; go_at_call 20; refine (copyBytes A b.length c (nums .u8 b) h.drew (hRF h.drew) (nums_one _ _) (by omega)).mono ?_; rintro e w5 ⟨v5, rfl, h5⟩; obtain ⟨A5, c5, rfl, _, _, _⟩ := h5.reads; have d5x := (rstore_cells h5.right).2.2.2.2.2.2.2.2; have h6 : Sat E (row 65 3 x.tv tr.length (tf x.t.L) * (rsBlk s τ r x * (row 5 1 (.slice A5 b.length c5) b.length (nums .u8 b) * (row 22 1 r.cv τ.n r.cvals * (row 91 2 r.fv τ.fl.length (flat r.fl) * (row 4 1 r.kv x.kb.length (bools x.kb) * (bag x.t.P * (bag r.P * F)))))))) (w5.alloc (.cells #[.int .i64 2, .int .i64 a, .slice A5 b.length c5] 65)) := ((h5.alloc_drop _).eq (by unfold ROP; ac_rfl)); have d6x := (rstore_cells h6.right).2.2.2.2.2.2.2.2))
          all_goals
            have Q2 := hid (rnote_shut hr hx h7)
            clear h7 h6 h5 d7x
            go_wp2
            go_ret
            rw [HT.out]
            exact ⟨rfl, Q2.out⟩
      · rw [if_pos hsz]
        have z3 : ((b.length : Int) != (σ1.size : Int)) = true := by simp; omega
        clear hsz
        go_enter Try.func30, Try.ntmps30
        go_wp2_with fail
        refine hbg.mono ?_
        clear hbg
        rintro e w1 ⟨rfl, g1⟩
        obtain ⟨r, x, hr, hx, h⟩ := rstore_open g1
        obtain ⟨A1, c1, A2, c2, A3, c3, A4, c4, e1, e2, e3, e4, _, _, _, _, _⟩ := rstore_slices h
        obtain ⟨d0, d1, d2, d3, d4, d5, d6, d7, d8⟩ := rstore_cells h
        rw [e1] at d6
        clear h hr hx e1 e2 e3 e4
        go_wp2
        go_ret
        exact ⟨rfl, g1⟩
    · rw [hin, if_pos rfl]
      have hor := inN_false hin
      clear hin
      go_enter Try.func30, Try.ntmps30
      go_wp2_with fail
      refine hbg.mono ?_
      clear hbg
      rintro e w1 ⟨rfl, g1⟩
      obtain ⟨r, x, hr, hx, h⟩ := rstore_open g1
      obtain ⟨A1, c1, A2, c2, A3, c3, A4, c4, e1, e2, e3, e4, _, _, _, _, _⟩ := rstore_slices h
      obtain ⟨d0, d1, d2, d3, d4, d5, d6, d7, d8⟩ := rstore_cells h
      rw [e1] at d6
      clear h hr hx e1 e2 e3 e4
      rcases hor with h0 | ⟨h0, h1⟩
      · go_wp2
        go_ret
        exact ⟨rfl, g1⟩
      · go_wp2
        go_ret
        exact ⟨rfl, g1⟩
end Go.Proofs.Ytacfaegljjgneaa
