import Derived.Test.YtacfaegljjgneaaRef4
import Derived.Deep.RegionLaw
import Derived.Deep.DeepCutAuto
import Derived.Deep.CutBlock
namespace Go.Proofs.Ytacfaegljjgneaa
set_option linter.unusedVariables false
set_option linter.unusedSimpArgs false
open Go.RowKit Go.Proofs.Sep

theorem rnote_shut {E w : World} {F : Asn} {s : Nat} {σ : St} {tr : List TOp} {r : Rep} {x : RExt} {k a : Int} {b : List Int} {A5 : Option Addr} {c5 : Nat} {v1 : Value} (hr : r.Ok σ) (hx : x.Ok σ tr)
    (h : Sat E (row 65 3 v1 (tr.length + 1) (tf x.t.L ++ [.int .i64 k, .int .i64 a, .slice A5 b.length c5]) * (rsBlk s σ r x * (row 5 1 (.slice A5 b.length c5) b.length (nums .u8 b) * (row 22 1 r.cv σ.n r.cvals * (row 91 2 r.fv σ.fl.length (flat r.fl) * (row 4 1 r.kv x.kb.length (bools x.kb) * (bag x.t.P * (bag r.P * F)))))))) w) :
    Sat E (rstore s σ (tr ++ [(k, a, b)]) * F) (w.setCell ⟨s, 8, none⟩ v1) := by
  have hfl2 : tf x.t.L ++ [.int .i64 k, .int .i64 a, .slice A5 b.length c5] = tf (x.t.L ++ [((k, a, b), .slice A5 b.length c5)]) := by rw [tf_append]; rfl
  have hln : tr.length + 1 = (tr ++ [(k, a, b)]).length := by simp
  rw [hfl2, hln] at h
  have q1 := (h.eq (star_left_comm _ _ _)).setCell (i := 8) v1
  simp only [List.setIfInBounds_toArray, List.set_cons_succ, List.set_cons_zero] at q1
  refine rstore_shut (r := r) (x := { x with tv := v1, t := ⟨x.t.L ++ [((k, a, b), .slice A5 b.length c5)], (.slice A5 b.length c5, b) :: x.t.P⟩ }) hr ⟨hx.ar, hx.on, hx.t.add k a b _⟩ ?_
  refine q1.eq ?_
  unfold ROP rsBlk
  simp only [bag]
  ac_rfl
theorem rfly_shut {E w : World} {F : Asn} {s : Nat} {σ : St} {tr : List TOp} {r : Rep} {x : RExt} {a : Int} {b : List Int} {A5 : Option Addr} {c5 : Nat} {v1 : Value} (hr : r.Ok σ) (hx : x.Ok σ tr) (ha : inN σ.n a = true) (hb : b.length = σ.size)
    (h : Sat E (row 91 2 v1 (σ.fl.length + 1) (flat r.fl ++ [.int .i64 a, .slice A5 b.length c5]) * (rsBlk s σ r x * (row 5 1 (.slice A5 b.length c5) b.length (nums .u8 b) * (row 22 1 r.cv σ.n r.cvals * (row 4 1 r.kv x.kb.length (bools x.kb) * (row 65 3 x.tv tr.length (tf x.t.L) * (bag x.t.P * (bag r.P * F)))))))) w) :
    Sat E (rstore s (addFl σ a b) tr * F) (w.setCell ⟨s, 7, none⟩ v1) := by
  have hfl2 : flat r.fl ++ [.int .i64 a, .slice A5 b.length c5] = flat (r.fl ++ [(a, .slice A5 b.length c5)]) := by rw [flat_append]; rfl
  have hln : σ.fl.length + 1 = (addFl σ a b).fl.length := by simp [addFl]
  rw [hfl2, hln] at h
  have q1 := (h.eq (star_left_comm _ _ _)).setCell (i := 7) v1
  simp only [List.setIfInBounds_toArray, List.set_cons_succ, List.set_cons_zero] at q1
  refine rstore_shut (r := { r with P := (.slice A5 b.length c5, b) :: r.P, fv := v1, fl := r.fl ++ [(a, .slice A5 b.length c5)] }) (x := x) (addFl_ok hr ha hb) ⟨hx.ar, hx.on, hx.t⟩ ?_
  refine q1.eq ?_
  unfold ROP rsBlk addFl
  simp only [bag]
  ac_rfl
theorem inN_true {n : Nat} {a : Int} (h : inN n a = true) : ¬ a < 0 ∧ ¬ (n : Int) ≤ a := by
  unfold inN at h; have := of_decide_eq_true h; omega
theorem inN_false {n : Nat} {a : Int} (h : inN n a = false) : a < 0 ∨ (¬ a < 0 ∧ (n : Int) ≤ a) := by
  unfold inN at h; have := of_decide_eq_false h; omega
set_option maxRecDepth 100000 in
set_option maxHeartbeats 2000000 in
theorem rfread_calls {E w : World} {F : Asn} (s : Nat) (σ : St) (tr : List TOp) (a : Int) (ho : SOk σ) (hl : tr.length ≤ 1000000) (hbl : (peek (begins σ).2 a).length ≤ 1000000) (hS : Sat E (rstore s σ tr * F) w) :
    Calls Try.prog 29 #[.pointer (some ⟨s, 0, none⟩), .int .i64 a] w fun e w' => ∃ v, e = .returned (.tuple #[v, .int .i64 (rd σ a).1]) ∧ Sat E (row 5 1 v (rd σ a).2.1.length (nums .u8 (rd σ a).2.1) * (rstore s (rd σ a).2.2 (noted (rd σ a).1 (1, a, (rd σ a).2.1) tr) * F)) w' := by
  have hbg := rbegin_calls s σ tr ho.o1 ho.o2 ho.l1 ho.l2 hS
  have hsz := ho.sz
  unfold rd noted
  generalize hq : begins σ = q at *
  obtain ⟨ok, σ1⟩ := q
  simp only at hbg hsz hbl ⊢
  clear hq hS ho
  cases ok with
  | false =>
    rw [if_pos rfl]
    go_enter Try.func29, Try.ntmps29
    go_wp2_with fail
    refine hbg.mono ?_
    rintro e w1 ⟨rfl, g1⟩
    go_wp2
    go_ret2
    exact ⟨_, rfl, g1.row_nil⟩
  | true =>
    rw [if_neg (by simp)]
    rcases Bool.eq_false_or_eq_true (inN σ1.n a) with hin | hin
    · rw [hin, if_neg (by simp)]
      obtain ⟨z1, z2⟩ := inN_true hin
      have hpc := fun w1 (g1 : Sat E (rstore s σ1 tr * F) w1) => rpeek_calls s σ1 tr a hsz g1
      generalize peek σ1 a = b at *
      have HPC := hid hpc
      clear hin hpc
      go_enter Try.func29, Try.ntmps29
      go_wp2_with fail
      refine hbg.mono ?_
      clear hbg
      rintro e w1 ⟨rfl, g1⟩
      have hcv : ∃ A1 c1, w1.cell? ⟨s, 6, none⟩ = some (.slice A1 σ1.n c1) := by
        obtain ⟨r, x, hr, hx, h⟩ := rstore_open g1
        obtain ⟨A1, c1, _, _, _, _, _, _, e1, _⟩ := rstore_slices h
        have := (rstore_cells h).2.2.2.2.2.2.1
        rw [e1] at this
        exact ⟨A1, c1, this⟩
      obtain ⟨A1, c1, d6⟩ := hcv
      go_wp2_with fail
      refine (HPC.out _ g1).mono ?_
      rintro e w3 ⟨v3, rfl, g3⟩
      obtain ⟨A, c, rfl, _, _, _⟩ := g3.reads
      obtain ⟨r, x, hr, hx, h⟩ := rstore_open (F := row 5 1 (.slice A b.length c) b.length (nums .u8 b) * F) (g3.eq (star_left_comm _ _ _))
      clear g3 g1 d6
      have hRF : ∀ {w : World}, Sat E (ROP s σ1 tr r x (row 5 1 (.slice A b.length c) b.length (nums .u8 b) * F)) w → Reads w 1 A b.length (nums .u8 b) := fun h => h.right.right.right.right.right.right.right.reads_at
      go_wp2_with fail
      have dtv := (rstore_cells h).2.2.2.2.2.2.2.2
      have ltx := h.lt_blk
      go_region_law (first
        | (refine step_append_sat rfl _ _ 54 65 (.agg #[.int .i64 0, .int .i64 0, .slice none 0 0]) 3 40 rfl Try.underlying54 Try.info65 rfl (by decide) _ tr.length _ _ 1 1 [.int .i64 1, .int .i64 a, .slice A5 b.length c5] rfl rfl h6 (Reads.new 3 1 [.int .i64 1, .int .i64 a, .slice A5 b.length c5] 65 rfl (by omega)) (by simp [Value.oneCell']) (by unfold maxLen; omega) (by omega) ?_; intro v1 w7 h7; obtain ⟨A7, c7, rfl, _, _, _⟩ := h7.reads; have d7x := (rstore_cells h7.right).2.2.2.2.2.2.2.2; have f7x := h7.right.free_blk (i := 8); have l7x := h7.right.lt_blk)
        | (go_simp; go_at_call 20; refine (copyBytes A b.length c (nums .u8 b) h.drew (hRF h.drew) (nums_one _ _) (by omega)).mono ?_; rintro e w5 ⟨v5, rfl, h5⟩; obtain ⟨A5, c5, rfl, _, _, _⟩ := h5.reads; have d5x := (rstore_cells h5.right).2.2.2.2.2.2.2.2; have h6 : Sat E (row 65 3 x.tv tr.length (tf x.t.L) * (rsBlk s σ1 r x * (row 5 1 (.slice A5 b.length c5) b.length (nums .u8 b) * (row 22 1 r.cv σ1.n r.cvals * (row 91 2 r.fv σ1.fl.length (flat r.fl) * (row 4 1 r.kv x.kb.length (bools x.kb) * (bag x.t.P * (bag r.P * (row 5 1 (.slice A b.length c) b.length (nums .u8 b) * F))))))))) (w5.alloc (.cells #[.int .i64 1, .int .i64 a, .slice A5 b.length c5] 65)) := ((h5.alloc_drop _).eq (by unfold ROP; ac_rfl)); have d6x := (rstore_cells h6.right).2.2.2.2.2.2.2.2))
      all_goals
        have Q2 := hid (rnote_shut hr hx h7)
        clear h7 h6 h5 d7x
        go_wp2
        go_ret2
        exact ⟨_, rfl, Q2.out.eq (star_left_comm _ _ _)⟩
    · rw [hin, if_pos rfl]
      have hor := inN_false hin
      clear hin
      go_enter Try.func29, Try.ntmps29
      go_wp2_with fail
      refine hbg.mono ?_
      clear hbg
      rintro e w1 ⟨rfl, g1⟩
      have hcv : ∃ A1 c1, w1.cell? ⟨s, 6, none⟩ = some (.slice A1 σ1.n c1) := by
        obtain ⟨r, x, hr, hx, h⟩ := rstore_open g1
        obtain ⟨A1, c1, _, _, _, _, _, _, e1, _⟩ := rstore_slices h
        have := (rstore_cells h).2.2.2.2.2.2.1
        rw [e1] at this
        exact ⟨A1, c1, this⟩
      obtain ⟨A1, c1, d6⟩ := hcv
      rcases hor with h0 | ⟨h0, h1⟩
      · go_wp2
        go_ret2
        exact ⟨_, rfl, g1.row_nil⟩
      · go_wp2
        go_ret2
        exact ⟨_, rfl, g1.row_nil⟩
end Go.Proofs.Ytacfaegljjgneaa
