import Derived.Test.YtfphpnccmkggfaaBBase
import Derived.Test.YtfphpnccmkggfaaSepClear
import Derived.Test.YtfphpnccmkggfaaIdsLaw
namespace Go.Proofs.Ytfphpnccmkggfaa
set_option linter.unusedVariables false
set_option linter.unusedSimpArgs false
open Go.RowKit Go.Proofs.Sep

/-- What is taken behind a Give. -/
def gave (T l : List Int) : List Int := if giveB T l = true then less T l else T
theorem gave_true {T l : List Int} (h : giveB T l = true) : gave T l = less T l := if_pos h
theorem gave_false {T l : List Int} (h : giveB T l = false) : gave T l = T := if_neg (by simp [h])
/-- A pool at block p, with these marks. -/
def bp (p n : Nat) (bs : List Bool) : Asn := ex fun v => blk p (.cells #[v] 71) * row 4 1 v n (bools bs)
theorem bp_open {E w : World} {F : Asn} {p n : Nat} {bs : List Bool} (h : Sat E (bp p n bs * F) w) : ∃ A c, n ≤ c ∧ c ≤ maxLen ∧
    Sat E (blk p (.cells #[.slice A n c] 71) * (row 4 1 (.slice A n c) n (bools bs) * F)) w ∧ Reads w 1 A n (bools bs) := by
  obtain ⟨v, h⟩ := h.ex_left
  have h1 : Sat E (row 4 1 v n (bools bs) * (blk p (.cells #[v] 71) * F)) w := h.eq (by ac_rfl)
  obtain ⟨A, c, rfl, h2, h3, h4⟩ := h1.reads
  exact ⟨A, c, h2, h3, h.eq (by ac_rfl), h4⟩
theorem bp_shut {E w : World} {F : Asn} {p n : Nat} {bs : List Bool} {v : Value}
    (h : Sat E (blk p (.cells #[v] 71) * (row 4 1 v n (bools bs) * F)) w) : Sat E (bp p n bs * F) w :=
  Sat.intro_left v (h.eq (by ac_rfl))

set_option maxRecDepth 100000 in
set_option maxHeartbeats 400000 in
theorem cloneBools {E w : World} {F : Asn} (A : Option Addr) (n c : Nat) (cs : List Value) (hS : Sat E F w) (hR : Reads w 1 A n cs) (h1 : ∀ u ∈ cs, u.oneCell' = true) (hn : n * 1 ≤ 140737488351232) :
    Calls Try.prog 45 #[.slice A n c] w fun e w' => ∃ v, e = .returned v ∧ Sat E (row 4 1 v n cs * F) w' := by
  cases A with
  | none =>
    obtain rfl : n = 0 := hR.2.2.1 rfl
    obtain rfl : cs = [] := List.eq_nil_of_length_eq_zero (by have := hR.1; simpa using this)
    have heq := fun w => Lib.run_eql_slice_nil (P := Try.prog) w 69 4 none 0 c 0 0 Try.underlying69
    go_enter Try.func45, Try.ntmps45
    go_wp2
    go_ret
    exact ⟨_, rfl, hS.row_nil⟩
  | some ad =>
    have heq := fun w => Lib.run_eql_slice_nil (P := Try.prog) w 69 4 (some ad) n c 0 0 Try.underlying69
    have hS0 : Sat E (row 4 1 (.slice (some ⟨w.heap.size, 0, none⟩) 0 0) 0 [] * F) (w.alloc (.cells #[] 4)) := (hS.alloc _).blk_row (n := 0) (cap := 0) (by omega) (by simp [maxLen]) rfl
    go_enter Try.func45, Try.ntmps45
    go_wp2_with (at_builtin; refine wpList_append_sat rfl _ _ 69 4 (.bool false) 1 1 rfl Try.underlying69 Try.info4 rfl (by decide) _ 0 [] (some ad) n c cs rfl rfl hS0 (hR.alloc _) h1 (by unfold maxLen; omega) (by omega) ?_; intro v1 w1 hS1)
    go_ret
    exact ⟨v1, rfl, by simpa using hS1⟩

theorem pool_cell {w : World} {A : Option Addr} {n k : Nat} {T : List Int} (hR : Reads w 1 A n (bools (poolOf n T))) (hk : k < n) : ∃ ad, A = some ad ∧ w.cell? (ad.add k) = some (.bool (decide ((k : Int) ∉ T))) := by
  obtain ⟨ad, hA, hc⟩ := hR.at (by omega)
  refine ⟨ad, hA, ?_⟩
  have := hc k _ (bools_at (by rw [poolOf_length]; exact hk))
  rwa [poolOf_at] at this

set_option maxRecDepth 100000 in
set_option maxHeartbeats 400000 in
theorem indexB {w : World} (A : Option Addr) (n c : Nat) (T : List Int) (hR : Reads w 1 A n (bools (poolOf n T))) :
    Calls Try.prog 44 #[.slice A n c, .bool true] w fun e w' => ((e = .returned (.int .i64 (-1)) ∧ freeOf n T = []) ∨ ∃ k : Nat, e = .returned (.int .i64 k) ∧ k < n ∧ (k : Int) ∉ T ∧ freeOf k T = []) ∧ w' = w := by
  have hmm := hR.2.1
  go_enter Try.func44, Try.ntmps44
  go_wp2_with fail
  go_loopw [8] (fun i wr => ∃ k : Nat, k ≤ n ∧ i = .int .i64 k ∧ Hid (freeOf k T = []) ∧ wr = w) (fun i _ => n - (intOf i).toNat)
  case atStart => exact ⟨0, by omega, rfl, rfl, rfl⟩
  case round =>
    obtain ⟨k, hk, rfl, hno, rfl⟩ := hrel
    by_cases hlt : k < n
    · obtain ⟨ad, rfl, hca⟩ := pool_cell hR hlt
      have hkd : (k : Int) < (n : Int) := by omega
      by_cases hx : (k : Int) ∈ T
      · have HN := hid ((freeOf_in hx).trans hno.out)
        rw [decide_eq_false (by simpa using hx)] at hca
        clear hx
        go_wp2
        go_roundw
        case rel => exact ⟨k + 1, by omega, by go_num, HN, by first | rfl | trivial⟩
        case measure => simp [intOf]; omega
      · rw [decide_eq_true hx] at hca
        have HX := hid hx
        clear hx
        go_wp2
        go_ret
        exact ⟨.inr ⟨k, rfl, hlt, HX.out, hno.out⟩, rfl⟩
    · obtain rfl : k = n := by omega
      go_wp2
      go_ret
      exact ⟨.inl ⟨rfl, hno.out⟩, rfl⟩

set_option maxRecDepth 100000 in
set_option maxHeartbeats 1000000 in
theorem take_calls {E w : World} {F : Asn} (p n : Nat) (T : List Int) (hS : Sat E (bp p n (poolOf n T) * F) w) :
    Calls Try.prog 34 #[.pointer (some ⟨p, 0, none⟩)] w fun e w' => (e = .returned (.tuple #[.int .i64 (-1), .bool false]) ∧ freeOf n T = [] ∧ Sat E (bp p n (poolOf n T) * F) w') ∨
      ∃ k : Nat, e = .returned (.tuple #[.int .i64 k, .bool true]) ∧ k < n ∧ freeOf n T = (k : Int) :: freeOf n (T ++ [(k : Int)]) ∧ Sat E (bp p n (poolOf n (T ++ [(k : Int)])) * F) w' := by
  obtain ⟨A, c, _, _, h2, hR⟩ := bp_open hS
  have c0 := h2.cell_blk (i := 0)
  simp only [List.getElem?_toArray, List.getElem?_cons_zero, List.getElem?_cons_succ] at c0
  have hmm := hR.2.1
  go_enter Try.func34, Try.ntmps34
  go_wp2_with fail
  refine (indexB A n c T hR).mono ?_
  rintro e w1 ⟨⟨rfl, h0⟩ | ⟨k, rfl, hk, hx, h0⟩, rfl⟩
  · have H0 := hid h0
    clear h0
    go_wp2
    go_ret2
    exact .inl ⟨rfl, H0.out, hS⟩
  · have HF := hid (freeOf_first h0 hk hx)
    clear h0
    have h3 : Sat E (row 4 1 (.slice A n c) n (bools (poolOf n T)) * (blk p (.cells #[.slice A n c] 71) * F)) w1 := h2.eq (by ac_rfl)
    obtain ⟨g, cg, e1, _, _⟩ := h3.row_head (by omega)
    injection e1 with e1 e2 e3
    subst e1
    clear e2 e3
    have lt1 := h3.row_lt
    have f1 := h3.row_free k
    obtain ⟨uv, d1⟩ : ∃ uv, w1.cell? ⟨g, k, none⟩ = some (.bool uv) := ⟨_, (h3.row_cell k (by omega)).trans (bools_at (by rw [poolOf_length]; exact hk))⟩
    have h4 := h3.row_store k (.bool false)
    rw [show (bools (poolOf n T)).set k (.bool false) = bools (poolOf n (T ++ [(k : Int)])) by rw [← poolOf_take]; simp [bools, List.map_set]] at h4
    have H4 := hid (h4.eq (star_left_comm _ _ _))
    have hkd : ¬ (k : Int) < 0 := by omega
    clear h4 hx h2 h3 hS
    go_wp2
    go_ret2
    exact .inr ⟨k, rfl, hk, HF.out, bp_shut H4.out⟩

set_option maxRecDepth 100000 in
set_option maxHeartbeats 1000000 in
theorem give_calls {E w : World} {F : Asn} (p n : Nat) (T : List Int) (A : Option Addr) (m c : Nat) (l : List Int) (hT : inR n T) (hn : n ≤ 1000000) (hS : Sat E (bp p n (poolOf n T) * F) w) (hR : ∀ w, Sat E F w → Reads w 1 A m (nums .i64 l)) :
    Calls Try.prog 36 #[.pointer (some ⟨p, 0, none⟩), .slice A m c] w fun e w' => e = .returned (.bool (giveB T l)) ∧ Sat E (bp p n (poolOf n (gave T l)) * F) w' := by
  have hml : l.length = m := by have := (hR w hS.right).1; simpa [nums] using this
  have hmm := (hR w hS.right).2.1
  subst hml
  obtain ⟨A0, c0, _, _, h2, hR0⟩ := bp_open hS
  have d0 := h2.cell_blk (i := 0)
  simp only [List.getElem?_toArray, List.getElem?_cons_zero, List.getElem?_cons_succ] at d0
  go_enter Try.func36, Try.ntmps36
  go_wp2_with fail
  refine (cloneBools A0 n c0 _ h2 hR0 (bools_one _) (by omega)).mono ?_
  rintro e w1 ⟨v, rfl, h3⟩
  obtain ⟨Av, cv, rfl, _, _, _⟩ := h3.reads
  go_wp2_with fail
  go_loopw [15] (fun i wr => ∃ k : Nat, k ≤ l.length ∧ i = .int .i64 k ∧ Hid (giveB T (l.take k) = true) ∧ Sat E (row 4 1 (.slice Av n cv) n (bools (poolOf n (less T (l.take k)))) * (blk p (.cells #[.slice A0 n c0] 71) * (row 4 1 (.slice A0 n c0) n (bools (poolOf n T)) * F))) wr) (fun i _ => l.length - (intOf i).toNat)
  case atStart => exact ⟨0, by omega, rfl, (by simp [giveB] : giveB T (l.take 0) = true), by rw [List.take_zero, less_nil]; exact h3⟩
  case round =>
    clear h3 d0 hR0 h2 hS
    obtain ⟨k, hk, rfl, hg, hr⟩ := hrel
    by_cases hlt : k < l.length
    · obtain ⟨ad, rfl, hc⟩ := (hR _ hr.right.right.right).at (by omega)
      have hca := hc k _ (nums_at hlt)
      have hkd : (k : Int) < (l.length : Int) := by omega
      clear hc
      have hnext : l.take (k + 1) = l.take k ++ [l[k]] := by rw [List.take_add_one, List.getElem?_eq_getElem hlt, Option.toList_some]
      have HNX := hid hnext
      have HB := hid (fun h => giveB_bad (T := T) hlt h)
      clear hnext
      have hin : ∀ x ∈ less T (l.take k), 0 ≤ x ∧ x < (n : Int) := inR_less hT
      generalize hy : l[k] = y at *
      clear hy
      by_cases h0 : 0 ≤ y
      · by_cases h1 : y < (n : Int)
        · obtain ⟨j, rfl⟩ := Int.eq_ofNat_of_zero_le h0
          have hjn : j < n := by omega
          obtain ⟨g, cg, e1, _, _⟩ := hr.row_head (by omega)
          injection e1 with e1 e2 e3
          subst e1
          clear e2 e3
          have lt1 := hr.row_lt
          have f1 := hr.row_free j
          have d1 := (hr.row_cell j (by omega)).trans (bools_at (by rw [poolOf_length]; exact hjn))
          rw [poolOf_at] at d1
          by_cases hx : (j : Int) ∈ less T (l.take k)
          · rw [decide_eq_false (by simpa using hx)] at d1
            have h4 := hr.row_store j (.bool true)
            rw [show (bools (poolOf n (less T (l.take k)))).set j (.bool true) = bools (poolOf n (less T (l.take (k + 1)))) by rw [HNX.out, ← poolOf_give]; simp [bools, List.map_set]] at h4
            have H4 := hid h4
            have HG : Hid (giveB T (l.take (k + 1)) = true) := by rw [HNX.out]; exact giveB_snoc hg.out hx
            clear h4 hx hin hr
            go_wp2
            go_roundw
            case rel => exact ⟨k + 1, by omega, by go_num, HG, H4.out⟩
            case measure => simp [intOf]; omega
          · rw [decide_eq_true hx] at d1
            have HF := hid (HB.out hx)
            have hs := bp_shut hr.right
            clear hx hin hr
            go_wp2
            go_ret
            rw [HF.out, gave_false HF.out]
            exact ⟨rfl, hs⟩
        · have HF := hid (HB.out (fun h => h1 (hin _ h).2))
          have hs := bp_shut hr.right
          clear hin hr
          go_wp2
          go_ret
          rw [HF.out, gave_false HF.out]
          exact ⟨rfl, hs⟩
      · have HF := hid (HB.out (fun h => h0 (hin _ h).1))
        have hs := bp_shut hr.right
        clear hin hr
        go_wp2
        go_ret
        rw [HF.out, gave_false HF.out]
        exact ⟨rfl, hs⟩
    · obtain rfl : k = l.length := by omega
      have hg2 := hg.out
      rw [List.take_of_length_le (Nat.le_refl _)] at hg2 hr
      have HG := hid hg2
      clear hg2 hg
      have h4 : Sat E (blk p (.cells #[.slice A0 n c0] 71) * (row 4 1 (.slice Av n cv) n (bools (poolOf n (less T l))) * (row 4 1 (.slice A0 n c0) n (bools (poolOf n T)) * F))) wr := hr.eq (by ac_rfl)
      have d0 := h4.cell_blk (i := 0)
      simp only [List.getElem?_toArray, List.getElem?_cons_zero, List.getElem?_cons_succ] at d0
      have f0 := h4.free_blk (i := 0)
      have lt1 := h4.lt_blk
      have h5 : Sat E (blk p (.cells #[.slice Av n cv] 71) * (row 4 1 (.slice Av n cv) n (bools (poolOf n (less T l))) * (row 4 1 (.slice A0 n c0) n (bools (poolOf n T)) * F))) _ := h4.setCell (i := 0) (.slice Av n cv)
      have H5 := hid h5
      clear h5 h4 hr
      go_wp2
      go_ret
      rw [HG.out, gave_true HG.out]
      refine ⟨rfl, ?_⟩
      exact ((bp_shut H5.out).drop_mid)
end Go.Proofs.Ytfphpnccmkggfaa
