import Derived.Test.YtacfaegljjgneaaTrc5
namespace Go.Proofs.Ytacfaegljjgneaa
set_option linter.unusedVariables false
set_option linter.unusedSimpArgs false
open Go.RowKit Go.Proofs.Sep

/-- A recorder at r over the store at s. -/
def rcore (r s : Nat) (v : Value) (tr : List TOp) : Asn := blk r (.cells #[.pointer (some ⟨s, 0, none⟩), v] 77) * tlist 61 v tr
def recd (r s : Nat) (σ : St) (tr : List TOp) : Asn := ex fun v : Value => rcore r s v tr * store s σ
theorem recd_split {E w : World} {F : Asn} {r s : Nat} {σ : St} {tr : List TOp} (h : Sat E (recd r s σ tr * F) w) : ∃ v, Sat E (store s σ * (rcore r s v tr * F)) w := by
  obtain ⟨v, h⟩ := h.ex_left
  exact ⟨v, h.eq (by ac_rfl)⟩
theorem recd_join {E w : World} {F : Asn} {r s : Nat} {σ : St} {tr : List TOp} {v : Value} (h : Sat E (store s σ * (rcore r s v tr * F)) w) : Sat E (recd r s σ tr * F) w :=
  Sat.intro_left v (h.eq (by ac_rfl))
theorem rcore_ptr {E w : World} {F : Asn} {r s : Nat} {σ : St} {tr : List TOp} {v : Value} (h : Sat E (store s σ * (rcore r s v tr * F)) w) : w.cell? ⟨r, 0, none⟩ = some (.pointer (some ⟨s, 0, none⟩)) := by
  have h1 : Sat E (blk r (.cells #[.pointer (some ⟨s, 0, none⟩), v] 77) * (tlist 61 v tr * F)) w := h.right.eq (by unfold rcore; ac_rfl)
  exact h1.cell_blk (i := 0)
def noted (e : Int) (x : TOp) (tr : List TOp) : List TOp := if e = 0 then tr ++ [x] else tr
theorem permN (V B G X F : Asn) : V * (B * (G * (X * F))) = B * (G * ((V * X) * F)) := by ac_rfl
theorem permN2 (B G X S F : Asn) : S * ((B * X) * F) = B * (X * (S * F)) := by ac_rfl
theorem recd_open {E w : World} {F : Asn} {r s : Nat} {σ : St} {tr : List TOp} (h : Sat E (recd r s σ tr * F) w) : ∃ (A : Option Addr) (c : Nat) (t : TRep), t.Ok tr ∧ tr.length ≤ c ∧ Sat E (blk r (.cells #[.pointer (some ⟨s, 0, none⟩), .slice A tr.length c] 77) * (row 61 3 (.slice A tr.length c) tr.length (tf t.L) * (bag t.P * (store s σ * F)))) w := by
  obtain ⟨v, h⟩ := h.ex_left
  have h1 : Sat E (tlist 61 v tr * (blk r (.cells #[.pointer (some ⟨s, 0, none⟩), v] 77) * (store s σ * F))) w := h.eq (by unfold rcore; ac_rfl)
  obtain ⟨t, ht, h2⟩ := tlist_open h1
  obtain ⟨A, c, rfl, hc, _⟩ := tlist_in ht h2
  exact ⟨A, c, t, ht, hc, h2.eq (by ac_rfl)⟩
theorem recd_shut {E w : World} {F : Asn} {r s : Nat} {σ : St} {tr : List TOp} {v : Value} {t : TRep} (ht : t.Ok tr) (h : Sat E (blk r (.cells #[.pointer (some ⟨s, 0, none⟩), v] 77) * (row 61 3 v tr.length (tf t.L) * (bag t.P * (store s σ * F)))) w) : Sat E (recd r s σ tr * F) w := by
  have h1 : Sat E (row 61 3 v tr.length (tf t.L) * (bag t.P * (blk r (.cells #[.pointer (some ⟨s, 0, none⟩), v] 77) * (store s σ * F)))) w := h.eq (by ac_rfl)
  have h2 := tlist_shut ht h1
  exact Sat.intro_left v (h2.eq (by unfold rcore; ac_rfl))

set_option maxRecDepth 100000 in
set_option maxHeartbeats 2000000 in
theorem notes_calls {E w : World} {F : Asn} (r s : Nat) (σ : St) (tr : List TOp) (e k a : Int) (A : Option Addr) (c : Nat) (b : List Int) (hl : tr.length ≤ 1000000) (hbl : b.length ≤ 1000000) (hS : Sat E (recd r s σ tr * F) w) (hR : ∀ w, Sat E F w → Reads w 1 A b.length (nums .u8 b)) :
    Calls Try.prog 69 #[.pointer (some ⟨r, 0, none⟩), .int .i64 e, .agg #[.int .i64 k, .int .i64 a, .slice A b.length c]] w fun e' w' => e' = .returned (.tuple #[]) ∧ Sat E (recd r s σ (noted e (k, a, b) tr) * F) w' := by
  unfold noted
  by_cases he : e = 0
  · rw [if_pos he]
    subst he
    have a1 := hS.alloc_drop (.cells #[.int .i64 k, .int .i64 a, .slice A b.length c] 61)
    have a0 := (hS.alloc (.cells #[.int .i64 k, .int .i64 a, .slice A b.length c] 61))
    have x0 := a0.cell_blk (i := 0)
    have x1 := a0.cell_blk (i := 1)
    have x2 := a0.cell_blk (i := 2)
    simp only [List.getElem?_toArray, List.getElem?_cons_zero, List.getElem?_cons_succ] at x0 x1 x2
    obtain ⟨A1, c1, t, ht, hc1, h⟩ := recd_open a1
    have d0 := h.cell_blk (i := 0)
    have d1 := h.cell_blk (i := 1)
    simp only [List.getElem?_toArray, List.getElem?_cons_zero, List.getElem?_cons_succ] at d0 d1
    have hRF : ∀ {w : World}, Sat E (blk r (.cells #[.pointer (some ⟨s, 0, none⟩), .slice A1 tr.length c1] 77) * (row 61 3 (.slice A1 tr.length c1) tr.length (tf t.L) * (bag t.P * (store s σ * F)))) w → Reads w 1 A b.length (nums .u8 b) := fun h => hR _ h.right.right.right.right
    clear a0 a1 hS
    have lt := h.lt_blk
    go_enter Try.func69, Try.ntmps69
    go_wp2_with fail
    go_region_law (first
      | (refine step_append_sat rfl _ _ 58 61 (.agg #[.int .i64 0, .int .i64 0, .slice none 0 0]) 3 40 rfl Try.underlying58 Try.info61 rfl (by decide) _ tr.length _ _ 1 1 [.int .i64 k, .int .i64 a, .slice A5 b.length c5] rfl rfl h6 (Reads.new 3 1 [.int .i64 k, .int .i64 a, .slice A5 b.length c5] 61 rfl (by omega)) (by simp [Value.oneCell']) (by unfold maxLen; omega) (by omega) ?_; intro v1 w7 h7; obtain ⟨A7, c7, rfl, _, _, _⟩ := h7.reads; have d7 := h7.right.cell_blk (i := 1); have f7 := h7.right.free_blk (i := 1); simp only [List.getElem?_toArray, List.getElem?_cons_zero, List.getElem?_cons_succ] at d7)
      | (go_simp; go_at_call 70; refine (copied_calls k a A b.length c (nums .u8 b) h.drew (fun w h => hRF h) (nums_one _ _) (by omega)).mono ?_; rintro e w5 ⟨A5, c5, rfl, h5⟩; have d52 := h5.right.cell_blk (i := 1); simp only [List.getElem?_toArray, List.getElem?_cons_zero, List.getElem?_cons_succ] at d52; have h6 : Sat E (row 61 3 (.slice A1 tr.length c1) tr.length (tf t.L) * (blk r (.cells #[.pointer (some ⟨s, 0, none⟩), .slice A1 tr.length c1] 77) * (row 5 1 (.slice A5 b.length c5) b.length (nums .u8 b) * (bag t.P * (store s σ * F))))) (w5.alloc (.cells #[.int .i64 k, .int .i64 a, .slice A5 b.length c5] 61)) := ((h5.alloc_drop _).eq (by ac_rfl)); have d62 := h6.right.cell_blk (i := 1); simp only [List.getElem?_toArray, List.getElem?_cons_zero, List.getElem?_cons_succ] at d62))
    all_goals
      have hfl2 : tf t.L ++ [.int .i64 k, .int .i64 a, .slice A5 b.length c5] = tf (t.L ++ [((k, a, b), .slice A5 b.length c5)]) := by rw [tf_append]; rfl
      have hln : tr.length + 1 = (tr ++ [(k, a, b)]).length := by simp
      have q1 := (h7.eq (star_left_comm _ _ _)).setCell (i := 1) (.slice A7 (tr.length + 1) c7)
      rw [hfl2, hln] at q1
      simp only [List.setIfInBounds_toArray, List.set_cons_succ, List.set_cons_zero] at q1
      have q2 := recd_shut (s := s) (σ := σ) (F := F) (ht.add k a b (.slice A5 b.length c5)) (q1.eq (show _ = blk r (.cells #[.pointer (some ⟨s, 0, none⟩), .slice A7 (tr ++ [(k, a, b)]).length c7] 77) * (row 61 3 (.slice A7 (tr ++ [(k, a, b)]).length c7) (tr ++ [(k, a, b)]).length (tf (t.L ++ [((k, a, b), .slice A5 b.length c5)])) * (bag ((.slice A5 b.length c5, b) :: t.P) * (store s σ * F))) by simp only [bag]; ac_rfl))
      have Q2 := hid q2
      clear q1 q2 hfl2
      rw [← hln] at Q2
      clear hln
      go_wp2
      go_end0
      exact ⟨rfl, Q2.out⟩
  · rw [if_neg he]
    have z1 : (e == 0) = false := beq_eq_false_iff_ne.2 he
    have a1 := hS.alloc_drop (.cells #[.int .i64 k, .int .i64 a, .slice A b.length c] 61)
    clear he
    go_enter Try.func69, Try.ntmps69
    go_wp2
    go_end0
    exact ⟨rfl, a1⟩
end Go.Proofs.Ytacfaegljjgneaa
