import Derived.Test.YtacfaegljjgneaaCells6
import Derived.Deep.RegionLaw
namespace Go.Proofs.Ytacfaegljjgneaa
set_option linter.unusedVariables false
set_option linter.unusedSimpArgs false
open Go.RowKit Go.Proofs.Sep

theorem permW (B R V C K G F : Asn) : B * (R * (V * (C * (K * (G * F))))) = B * (C * (R * (K * ((V * G) * F)))) := by ac_rfl
def addFl (σ : St) (a : Int) (b : List Int) : St := { σ with fl := σ.fl ++ [(a, b)] }
def write (σ : St) (a : Int) (b : List Int) : Int × St :=
  if (begins σ).1 = false then (6, (begins σ).2) else if inN (begins σ).2.n a = false then (1, (begins σ).2) else if b.length ≠ (begins σ).2.size then (2, (begins σ).2) else (0, addFl (begins σ).2 a b)
theorem addFl_ok {σ : St} {r : Rep} {a : Int} {b : List Int} {v v1 : Value} (hr : r.Ok σ) (ha : inN σ.n a = true) (hb : b.length = σ.size) :
    ({ r with P := (v, b) :: r.P, fv := v1, fl := r.fl ++ [(a, v)] } : Rep).Ok (addFl σ a b) := by
  unfold inN at ha
  rw [decide_eq_true_eq] at ha
  refine ⟨hr.n1, hr.n2, ?_, by simp [addFl, hr.f1], ?_⟩
  · intro i h1 h2
    rcases hr.cells i h1 h2 with h | h
    · exact .inl h
    · exact .inr ⟨List.mem_cons_of_mem _ h.1, h.2⟩
  · intro i h1 h2
    simp only [addFl] at h1 h2 ⊢
    by_cases hi : i < r.fl.length
    · have hi2 : i < σ.fl.length := by rw [← hr.f1]; exact hi
      have := hr.fly i hi hi2
      simp only [List.getElem_append_left hi, List.getElem_append_left hi2]
      exact ⟨this.1, List.mem_cons_of_mem _ this.2.1, this.2.2⟩
    · have e1 : i = r.fl.length := by simp at h1; omega
      have q1 : (r.fl ++ [(a, v)])[i] = (a, v) := by subst e1; simp
      have q2 : (σ.fl ++ [(a, b)])[i] = (a, b) := by
        have e3 : i = σ.fl.length := e1.trans hr.f1
        clear e1 q1
        subst e3
        simp
      rw [q1, q2]
      exact ⟨rfl, by simp, hb, ha⟩

set_option maxRecDepth 100000 in
set_option maxHeartbeats 2000000 in
theorem write_calls {E w : World} {F : Asn} (s : Nat) (σ : St) (a : Int) (A : Option Addr) (m c : Nat) (b : List Int) (ho : 0 ≤ σ.ops) (ho2 : σ.ops ≤ 1000000) (hl : 0 ≤ σ.left) (hl2 : σ.left ≤ 9223372036854775807) (hfl : (begins σ).2.fl.length ≤ 1000000) (hbl : b.length ≤ 1000000) (hS : Sat E (store s σ * F) w) (hR : ∀ w, Sat E F w → Reads w 1 A m (nums .u8 b)) :
    Calls Try.prog 15 #[.pointer (some ⟨s, 0, none⟩), .int .i64 a, .slice A m c] w fun e w' => e = .returned (.int .i64 (write σ a b).1) ∧ Sat E (store s (write σ a b).2 * F) w' := by
  have hml : b.length = m := by have := (hR w hS.right).1; simpa [nums] using this
  subst hml
  have hbg := begins_calls s σ ho ho2 hl hl2 hS
  unfold write
  generalize hq : begins σ = q at *
  obtain ⟨ok, σ1⟩ := q
  simp only at hbg hfl ⊢
  clear hq hS ho ho2 hl hl2
  cases ok with
  | false =>
    rw [if_pos rfl]
    go_enter Try.func15, Try.ntmps15
    go_wp2_with fail
    refine hbg.mono ?_
    rintro e w1 ⟨rfl, g1⟩
    go_wp2
    go_ret
    exact ⟨rfl, g1⟩
  | true =>
    rw [if_neg (by simp)]
    rcases Bool.eq_false_or_eq_true (inN σ1.n a) with hin | hin
    · rw [hin, if_neg (by simp)]
      by_cases hsz : b.length = σ1.size
      · rw [if_neg (by simp [hsz])]
        have HIN := hid hin
        have HSZ := hid hsz
        have z1 : ((b.length : Int) == (σ1.size : Int)) = true := by rw [hsz]; simp
        have z2 : ((b.length : Int) != (σ1.size : Int)) = false := by rw [hsz]; simp
        clear hsz
        go_enter Try.func15, Try.ntmps15
        go_wp2_with fail
        refine hbg.mono ?_
        clear hbg
        rintro e w1 ⟨rfl, g1⟩
        obtain ⟨r, hr, h⟩ := store_open g1
        obtain ⟨A1, c1, A2, c2, A3, c3, e1, e2, e3, _, _, _, _⟩ := store_slices h
        obtain ⟨d0, d1, d2, d3, d4, d5, d6⟩ := store_cells h
        rw [e1] at d0
        rw [e2] at d2
        go_wp2_with fail
        refine (is_calls s A1 σ1.n c1 a d0).mono ?_
        rw [HIN.out]
        rintro e w2 ⟨rfl, rfl⟩
        have hRF : ∀ {w : World}, Sat E (stBlk s σ1 r * (row 22 1 r.cv σ1.n r.cvals * (row 87 2 r.fv σ1.fl.length (flat r.fl) * (row 4 1 r.kv σ1.keep.length (bools σ1.keep) * (bag r.P * F))))) w → Reads w 1 A b.length (nums .u8 b) := fun h => hR _ h.right.right.right.right.right
        have dd : w2.drew.cell? ⟨s, 2, none⟩ = some (.slice A2 σ1.fl.length c2) := d2
        have hrl := hr.f1
        have hnx : flat r.fl ++ [.int .i64 a, .slice none 0 0] = flat r.fl ++ [.int .i64 a, .slice none 0 0] := rfl
        clear hnx d0 d3 d4 d5 d6 g1
        go_wp2_with fail
        go_region_law (first
          | (refine step_append_sat rfl _ _ 80 87 (.agg #[.int .i64 0, .slice none 0 0]) 2 32 rfl Try.underlying80 Try.info87 rfl (by decide) _ σ1.fl.length _ _ 1 1 [.int .i64 a, .slice A5 b.length c5] rfl rfl h6 (Reads.new 2 1 [.int .i64 a, .slice A5 b.length c5] 87 rfl (by omega)) (by simp [Value.oneCell']) (by unfold maxLen; omega) (by omega) ?_; intro v1 w7 h7; obtain ⟨A7, c7, rfl, _, _, _⟩ := h7.reads; have d7 := h7.right.cell_blk (i := 2); have f7 := h7.right.free_blk (i := 2); simp only [List.getElem?_toArray, List.getElem?_cons_zero, List.getElem?_cons_succ] at d7)
          | (go_simp; go_at_call 58; refine (cloneBytes A b.length c (nums .u8 b) h.drew (hRF h.drew) (nums_one _ _) (by omega)).mono ?_; rintro e w5 ⟨v5, rfl, h5⟩; obtain ⟨A5, c5, rfl, _, _, _⟩ := h5.reads; have d52 := (store_cells h5.right).2.2.1; rw [e2] at d52; have h6 : Sat E (row 87 2 (.slice A2 σ1.fl.length c2) σ1.fl.length (flat r.fl) * (stBlk s σ1 r * (row 5 1 (.slice A5 b.length c5) b.length (nums .u8 b) * (row 22 1 r.cv σ1.n r.cvals * (row 4 1 r.kv σ1.keep.length (bools σ1.keep) * (bag r.P * F)))))) (w5.alloc (.cells #[.int .i64 a, .slice A5 b.length c5] 87)) := (by rw [e2] at h5; exact (h5.alloc_drop _).eq (by ac_rfl)); have d62 := (store_cells h6.right).2.2.1; rw [e2] at d62))
        all_goals
          have hfl2 : flat r.fl ++ [.int .i64 a, .slice A5 b.length c5] = flat (r.fl ++ [(a, .slice A5 b.length c5)]) := by rw [flat_append]; rfl
          have hln : σ1.fl.length + 1 = (addFl σ1 a b).fl.length := by simp [addFl]
          have q1 := (h7.eq (star_left_comm _ _ _)).setCell (i := 2) (.slice A7 (σ1.fl.length + 1) c7)
          rw [hfl2] at q1
          have q2 := store_shut (s := s) (σ := addFl σ1 a b) (r := { r with P := (.slice A5 b.length c5, b) :: r.P, fv := .slice A7 (σ1.fl.length + 1) c7, fl := r.fl ++ [(a, .slice A5 b.length c5)] }) (F := F) (addFl_ok hr HIN.out HSZ.out) (by rw [← hln]; exact q1.eq (permW _ _ _ _ _ _ _))
          have Q2 := hid q2
          clear q1 q2 hfl2 hln
          go_wp2
          go_ret
          exact ⟨rfl, Q2.out⟩
      · rw [if_pos hsz]
        have z1 : ((b.length : Int) == (σ1.size : Int)) = false := by rw [beq_eq_false_iff_ne]; omega
        clear hsz
        go_enter Try.func15, Try.ntmps15
        go_wp2_with fail
        refine hbg.mono ?_
        clear hbg
        rintro e w1 ⟨rfl, g1⟩
        obtain ⟨r, hr, h⟩ := store_open g1
        obtain ⟨A1, c1, A2, c2, A3, c3, e1, e2, e3, _, _, _, _⟩ := store_slices h
        obtain ⟨d0, d1, d2, d3, d4, d5, d6⟩ := store_cells h
        rw [e1] at d0
        clear h hr
        go_wp2_with fail
        refine (is_calls s A1 σ1.n c1 a d0).mono ?_
        rw [hin]
        rintro e w2 ⟨rfl, rfl⟩
        go_wp2
        go_ret
        exact ⟨rfl, g1⟩
    · rw [hin, if_pos rfl]
      go_enter Try.func15, Try.ntmps15
      go_wp2_with fail
      refine hbg.mono ?_
      clear hbg
      rintro e w1 ⟨rfl, g1⟩
      obtain ⟨r, hr, h⟩ := store_open g1
      obtain ⟨A1, c1, A2, c2, A3, c3, e1, e2, e3, _, _, _, _⟩ := store_slices h
      obtain ⟨d0, _⟩ := store_cells h
      rw [e1] at d0
      clear h hr
      go_wp2_with fail
      refine (is_calls s A1 σ1.n c1 a d0).mono ?_
      rw [hin]
      rintro e w2 ⟨rfl, rfl⟩
      go_wp2
      go_ret
      exact ⟨rfl, g1⟩
end Go.Proofs.Ytacfaegljjgneaa
