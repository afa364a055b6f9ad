import Derived.Test.YtedhcgeglmoacaaPos5
import Derived.Deep.QuietTactic
import Derived.BigQuiet
namespace Go.Proofs.Ytedhcgeglmoacaa
set_option linter.unusedVariables false
set_option linter.unusedSimpArgs false
open Go.RowKit Go.Proofs.Sep

theorem made_two (v : Value) (n : Nat) : madeCells #[v, v] n = (List.replicate n v).toArray := by
  unfold madeCells
  apply Array.ext
  · simp
  · intro i h1 h2
    have h3 : i % 2 = 0 ∨ i % 2 = 1 := by omega
    rcases h3 with h3 | h3 <;> simp [h3]
theorem pairs_zero (n : Nat) : pairs (List.replicate n (0, 0)) = List.replicate (n * 2) (.int .i64 0) := by
  induction n with
  | zero => rfl
  | succ n ih => rw [List.replicate_succ, show (n + 1) * 2 = n * 2 + 1 + 1 by omega, List.replicate_succ, List.replicate_succ, ← ih]; simp [pairs]
theorem make_places (n : Nat) (hn : n ≤ 1000000) (w : World) : (Instr.makeSlice 35 (.int .i64 n) (.int .i64 n)).run Try.prog w = .ok (.slice (some ⟨w.heap.size, 0, none⟩) n n) (w.alloc (.cells (pairs (List.replicate n (0, 0))).toArray 39)) := by
  obtain ⟨i, hi, hzz⟩ := Option.map_eq_some_iff.1 Try.info39
  simp only [Prod.mk.injEq] at hzz
  obtain ⟨hz, hs, hb⟩ := hzz
  have hr := run_make (P := Try.prog) w 35 39 i _ Try.underlying35 hi hz .i64 .i64 n n (by omega) (by omega) (by rw [hb]; omega) (by omega)
  rw [hr, hs, Int.toNat_natCast, pairs_zero, ← made_two]
  rfl

def okP (p : Int × Int) : Bool := decide (0 ≤ p.1) && decide (0 ≤ p.2)
theorem mayP_ok (n j : Nat) (h : j < n) (p : Int × Int) : mayP n j p = okP p := by
  unfold mayP okP inP
  rw [decide_eq_true (show 0 ≤ (j : Int) ∧ (j : Int) < n by omega)]
  simp
/-- The last of those that may be set; has one been set? -/
def lastP (l : List (Int × Int)) : Int × Int := l.foldl (fun acc p => if okP p = true then p else acc) (0, 0)
def anyP (l : List (Int × Int)) : Bool := l.any okP
theorem lastP_snoc (l : List (Int × Int)) (p : Int × Int) : lastP (l ++ [p]) = if okP p = true then p else lastP l := by unfold lastP; rw [List.foldl_append]; rfl
theorem anyP_snoc (l : List (Int × Int)) (p : Int × Int) : anyP (l ++ [p]) = (anyP l || okP p) := by unfold anyP; simp
theorem lastP_ok (l : List (Int × Int)) : okP (lastP l) = true := by
  have key : ∀ (l : List (Int × Int)) (a : Int × Int), okP a = true → okP (l.foldl (fun acc p => if okP p = true then p else acc) a) = true := by
    intro l
    induction l with
    | nil => intro a h; exact h
    | cons p l ih => intro a h; rw [List.foldl_cons]; refine ih _ ?_; split <;> assumption
  exact key l _ (by decide)
/-- The map once only number j was set. -/
def oneL (n j : Nat) (p : Int × Int) : List (Int × Int) := (List.replicate n (0, 0)).set j p
def oneC (n j : Nat) (b : Bool) : List Bool := (List.replicate n false).set j b
theorem oneL_length (n j : Nat) (p : Int × Int) : (oneL n j p).length = n := by simp [oneL]
theorem oneL_zero (n j : Nat) : oneL n j (0, 0) = List.replicate n (0, 0) := by
  apply List.ext_getElem
  · simp [oneL]
  · intro i h1 h2; simp [oneL, List.getElem_set]
theorem oneC_false (n j : Nat) : oneC n j false = List.replicate n false := by
  apply List.ext_getElem
  · simp [oneC]
  · intro i h1 h2; simp [oneC, List.getElem_set]
theorem set_one (n j : Nat) (h : j < n) (p q : Int × Int) (b : Bool) : setL (oneL n j p) j q = oneL n j (if okP q = true then q else p) ∧ setC n (oneC n j b) j q = oneC n j (b || okP q) := by
  unfold setL setC
  rw [oneL_length, mayP_ok n j h]
  by_cases hq : okP q = true
  · simp [hq, oneL, oneC]
  · have : okP q = false := by simpa using hq
    simp [this]
theorem chTo_one (n j : Nat) (h : j < n) (p : Int × Int) (b : Bool) (k : Nat) (hk : k ≤ n) : chTo (oneL n j p) (oneC n j b) k = if b = true ∧ j < k then [((j : Int), p)] else [] := by
  induction k with
  | zero => simp [chTo]
  | succ k ih =>
    simp only [chTo]
    rw [ih (by omega)]
    have hc : (oneC n j b).getD k false = (decide (j = k) && b) := by
      unfold oneC
      rw [List.getD_eq_getElem?_getD, List.getElem?_set]
      by_cases hjk : j = k
      · subst hjk; simp [h]
      · simp [hjk, List.getElem?_replicate]; split <;> rfl
    have hl : j = k → (oneL n j p).getD k (0, 0) = p := by
      rintro rfl
      unfold oneL
      rw [List.getD_eq_getElem?_getD, List.getElem?_set]
      simp [h]
    rw [hc]
    by_cases hjk : j = k
    · subst hjk
      rw [hl rfl]
      cases b <;> simp
    · cases b
      · simp
      · by_cases hlt : j < k
        · simp [hjk, hlt, show j < k + 1 by omega]
        · simp [hjk, hlt, show ¬ j < k + 1 by omega]
theorem chgs_one (n j : Nat) (h : j < n) (p : Int × Int) (b : Bool) : chgs (oneL n j p) (oneC n j b) = if b = true then [((j : Int), p)] else [] := by
  unfold chgs
  rw [oneL_length, chTo_one n j h p b n (Nat.le_refl _)]
  simp [h]
theorem getP_one (n j : Nat) (h : j < n) (p : Int × Int) : getP (oneL n j p) j = p ∧ inP n j = true := by
  have hi : inP n j = true := by unfold inP; exact decide_eq_true ⟨by omega, by omega⟩
  refine ⟨?_, hi⟩
  unfold getP
  rw [oneL_length, if_pos hi, Int.toNat_natCast, List.getD_eq_getElem?_getD]
  unfold oneL
  rw [List.getElem?_set]
  simp [h]

theorem set1 {E w : World} {F : Asn} (m n j : Nat) (hj : j < n) (p : Int × Int) (b : Bool) (q0 q1 : Int) (hS : Sat E (pmap m (oneL n j p) (oneC n j b) * F) w) :
    Calls Try.prog 22 #[.pointer (some ⟨m, 0, none⟩), .int .i64 j, .agg #[.int .i64 q0, .int .i64 q1]] w fun e w' => e = .returned (.bool (okP (q0, q1))) ∧ Sat E (pmap m (oneL n j (if okP (q0, q1) = true then (q0, q1) else p)) (oneC n j (b || okP (q0, q1))) * F) w' := by
  obtain ⟨h1, h2⟩ := set_one n j hj p (q0, q1) b
  have := set_calls m _ _ j q0 q1 hS
  rw [oneL_length, mayP_ok n j hj, h1, h2] at this
  exact this

set_option maxRecDepth 100000 in
set_option maxHeartbeats 1000000 in
theorem posLast_ok {E w : World} {F : Asn} (n j : Nat) (A : Option Addr) (ca : Nat) (l : List (Int × Int)) (hn : 1 ≤ n) (hn2 : n ≤ 60) (hj : j < n) (hl : l.length ≤ 100) (hS : Sat E F w) (hR : ∀ w, Sat E F w → Reads w 2 A l.length (pairs l)) :
    Calls Try.prog 4 #[.int .i64 n, .int .i64 j, .slice A l.length ca] w fun e w' => e = .returned (.bool true) ∧ Sat E F w' := by
  have hmk := make_places n (by omega)
  have hzl : (List.replicate n ((0 : Int), (0 : Int))).length = n := by simp
  have HZ := hid hzl
  have hjn : (j : Int) < (n : Int) := by omega
  clear hzl
  go_enter Try.func4, Try.ntmps4
  go_wp2_with fail
  refine (first8 hS).mono ?_
  rintro e w1 ⟨rfl, g1⟩
  go_wp2_with fail
  have g2 := g1.alloc (.cells (pairs (List.replicate n (0, 0))).toArray 39)
  have hnew := new_calls (some ⟨w1.heap.size, 0, none⟩) n (List.replicate n (0, 0)) g2 (fun w hw => hw.blk_reads (by rw [pairs_length]) (by rw [HZ.out]; omega)) (by rw [HZ.out]; omega)
  rw [HZ.out] at hnew
  refine hnew.mono ?_
  rintro e w2 ⟨m, rfl, g3⟩
  clear hnew hmk
  rw [← oneL_zero n j, ← oneC_false n j] at g3
  have g4 : Sat E (blk w2.heap.size (.cells #[.int .i64 0, .int .i64 0] 39) * (pmap m (oneL n j (0, 0)) (oneC n j false) * F)) (w2.alloc (.cells #[.int .i64 0, .int .i64 0] 39)) := (g3.eq (star_left_comm _ _ _)).right.alloc (.cells #[.int .i64 0, .int .i64 0] 39)
  go_wp2_with fail
  go_loopw [9, 10] (fun b i wr => ∃ k : Nat, k ≤ l.length ∧ i = .int .i64 k ∧ b = .bool (anyP (l.take k)) ∧ Sat E (blk w2.heap.size (.cells #[.int .i64 (lastP (l.take k)).1, .int .i64 (lastP (l.take k)).2] 39) * (pmap m (oneL n j (lastP (l.take k))) (oneC n j (anyP (l.take k))) * F)) wr) (fun _ i _ => l.length - (intOf i).toNat)
  case atStart => exact ⟨0, by omega, rfl, rfl, g4⟩
  case round =>
    obtain ⟨k, hk, rfl, rfl, hr⟩ := hrel
    by_cases hlt : k < l.length
    · obtain ⟨ad, rfl, hc⟩ := (hR _ hr.right.right).at (by omega)
      have d0 := hc _ _ (pairs_at0 hlt)
      have d1 := cell_two (hc _ _ (pairs_at1 hlt))
      clear hc
      have hr2 := hr.eq (star_left_comm _ _ _)
      have hs := set1 m n j hj _ _ l[k].1 l[k].2 hr2
      have x1 := lastP_snoc (l.take k) l[k]
      have x2 := anyP_snoc (l.take k) l[k]
      rw [show l.take k ++ [l[k]] = l.take (k + 1) by rw [List.take_add_one, List.getElem?_eq_getElem hlt]; rfl] at x1 x2
      have X1 := hid x1
      have X2 := hid x2
      clear x1 x2
      by_cases h0 : 0 ≤ l[k].1
      · by_cases h1 : 0 ≤ l[k].2
        · have hok : okP l[k] = true := by unfold okP; simp [h0, h1]
          have HO := hid hok
          rw [show (l[k].1, l[k].2) = l[k] from rfl, hok] at hs
          clear hok
          go_wp2_with fail
          refine hs.mono ?_
          rintro e w5 ⟨rfl, h5⟩
          have h6 := (((h5.eq (star_left_comm _ _ _)).setCell (i := 0) (.int .i64 l[k].1)).setCell (i := 1) (.int .i64 l[k].2))
          have f0 := h6.free_blk (i := 0)
          have c0 := (h5.eq (star_left_comm _ _ _)).cell_blk (i := 0)
          have c1 := (h5.eq (star_left_comm _ _ _)).cell_blk (i := 1)
          have f0 := (h5.eq (star_left_comm _ _ _)).free_blk (i := 0)
          have f1 := (h5.eq (star_left_comm _ _ _)).free_blk (i := 1)
          obtain ⟨ad, hade, hc⟩ := (hR _ h5.right.right).at (by omega)
          injection hade with hade
          subst hade
          have d0' := hc _ _ (pairs_at0 hlt)
          have d1' := cell_two (hc _ _ (pairs_at1 hlt))
          simp only [List.getElem?_toArray, List.getElem?_cons_zero, List.getElem?_cons_succ] at c0 c1
          clear hc
          go_wp2
          go_roundw
          case rel =>
            refine ⟨k + 1, by omega, by go_num, by rw [X2.out, HO.out, Bool.or_true], ?_⟩
            rw [X1.out, X2.out, HO.out, Bool.or_true, if_pos rfl]
            simpa [HO.out] using h6
          case measure => simp [intOf]; omega
        · have hok : okP l[k] = false := by unfold okP; simp [h1]
          have HO := hid hok
          rw [show (l[k].1, l[k].2) = l[k] from rfl, hok] at hs
          clear hok
          go_wp2_with fail
          refine hs.mono ?_
          rintro e w5 ⟨rfl, h5⟩
          have h6 := h5.eq (star_left_comm _ _ _)
          rw [Bool.or_false, if_neg (by simp)] at h6
          go_wp2
          go_roundw
          case rel =>
            refine ⟨k + 1, by omega, by go_num, by rw [X2.out, HO.out, Bool.or_false], ?_⟩
            rw [X1.out, X2.out, HO.out, Bool.or_false, if_neg (by simp)]
            exact h6
          case measure => simp [intOf]; omega
      · have hok : okP l[k] = false := by unfold okP; simp [h0]
        have HO := hid hok
        rw [show (l[k].1, l[k].2) = l[k] from rfl, hok] at hs
        clear hok
        go_wp2_with fail
        refine hs.mono ?_
        rintro e w5 ⟨rfl, h5⟩
        have h6 := h5.eq (star_left_comm _ _ _)
        rw [Bool.or_false, if_neg (by simp)] at h6
        go_wp2
        go_roundw
        case rel =>
          refine ⟨k + 1, by omega, by go_num, by rw [X2.out, HO.out, Bool.or_false], ?_⟩
          rw [X1.out, X2.out, HO.out, Bool.or_false, if_neg (by simp)]
          exact h6
        case measure => simp [intOf]; omega
    · have hte : l.take k = l := List.take_of_length_le (by omega)
      rw [hte] at hr ⊢
      clear hte
      have hlo := lastP_ok l
      have HLO := hid hlo
      clear hlo hR
      generalize lastP l = q at *
      obtain ⟨q0, q1⟩ := q
      obtain ⟨gp, gi⟩ := getP_one n j hj (q0, q1)
      have GP := hid gp
      have GI := hid gi
      have hget := get_calls m _ _ j (hr.eq (star_left_comm _ _ _))
      rw [oneL_length, GP.out, GI.out] at hget
      have hch := chgs_one n j hj (q0, q1) (anyP l)
      have HC := hid hch
      clear gp gi hch
      generalize anyP l = b at hget HC hr ⊢
      go_wp2_with fail
      refine hget.mono ?_
      rintro e w5 ⟨rfl, h5⟩
      clear hget
      have h6 := (h5.alloc (.cells #[.int .i64 q0, .int .i64 q1] 39)).eq (star_left_comm _ _ _)
      go_wp2_with fail
      refine (changes_calls m _ _ h6 (by rw [oneL_length]; omega)).mono ?_
      rw [HC.out]
      rintro e w6 ⟨v, rfl, h7⟩
      have c0 := h7.right.right.cell_blk (i := 0)
      have c1 := h7.right.right.cell_blk (i := 1)
      have d0 := h7.right.right.right.cell_blk (i := 0)
      have d1 := h7.right.right.right.cell_blk (i := 1)
      simp only [List.getElem?_toArray, List.getElem?_cons_zero, List.getElem?_cons_succ] at c0 c1 d0 d1
      have h8 : Sat E (pmap m (oneL n j (q0, q1)) (oneC n j b) * (blk w2.heap.size (.cells #[.int .i64 q0, .int .i64 q1] 39) * F)) w6 := (h7.right.eq (show _ = blk w5.heap.size (.cells #[.int .i64 q0, .int .i64 q1] 39) * (pmap m (oneL n j (q0, q1)) (oneC n j b) * (blk w2.heap.size (.cells #[.int .i64 q0, .int .i64 q1] 39) * F)) by ac_rfl)).right
      have hc1 : chgs (oneL n j (q0, q1)) (oneC n j false) = [] := by rw [chgs_one n j hj]; rfl
      have hc2 : chgs (oneL n j (q0, q1)) (oneC n j true) = [((j : Int), q0, q1)] := by rw [chgs_one n j hj]; rfl
      have HC1 := hid hc1
      have HC2 := hid hc2
      clear hc1 hc2
      cases b
      case' false =>
        simp only [Bool.false_eq_true, if_false, List.length_nil] at h7
        obtain ⟨Av, cv, rfl, _, _, _⟩ := h7.reads
        go_wp2_with fail
        go_quiet (fail)
        have h9 := h8.drewN nq
        clear h7 h8 c0 c1 d0 d1
      case' true =>
        simp only [if_true] at h7
        obtain ⟨g, cg, rfl, _, _⟩ := h7.row_head (by simp)
        have e0 := h7.row_cell 0 (by simp)
        have e1 := h7.row_cell 1 (by simp)
        have e2 := h7.row_cell 2 (by simp)
        simp only [chs, List.flatMap_cons, List.flatMap_nil, List.append_nil, List.cons_append, List.nil_append, List.getElem?_cons_zero, List.getElem?_cons_succ] at e0 e1 e2
        go_wp2_with fail
        go_quiet (fail)
        have h9 := h8.drewN nq
        clear h7 h8 c0 c1 d0 d1 e0 e1 e2
      all_goals
        go_wp2_with fail
        refine (settle_calls m _ _ h9).mono ?_
        rintro e w7 ⟨rfl, h10⟩
        rw [oneL_length, ← oneC_false n j] at h10
        go_wp2_with fail
        refine (first8 h10).mono ?_
        rintro e w8 ⟨rfl, h11⟩
        go_wp2_with fail
        refine (changes_calls m _ _ h11 (by rw [oneL_length]; omega)).mono ?_
        rw [HC1.out]
        rintro e w9 ⟨v9, rfl, h12⟩
        obtain ⟨A9, c9, rfl, _, _, _⟩ := h12.reads
        have h13 := h12.right
        have c0 := h13.right.cell_blk (i := 0)
        have c1 := h13.right.cell_blk (i := 1)
        simp only [List.getElem?_toArray, List.getElem?_cons_zero, List.getElem?_cons_succ] at c0 c1
        have hs := set1 m n j hj (q0, q1) false q0 q1 h13
        rw [HLO.out, if_pos rfl, Bool.or_true] at hs
        clear h12
        go_wp2_with fail
        refine hs.mono ?_
        rintro e w10 ⟨rfl, h14⟩
        go_wp2_with fail
        refine (changes_calls m _ _ h14 (by rw [oneL_length]; omega)).mono ?_
        rw [HC2.out]
        rintro e w11 ⟨v11, rfl, h15⟩
        obtain ⟨A11, c11, rfl, _, _, _⟩ := h15.reads
        have h16 := h15.right.right.right
        clear h15 hs h14 h13
        go_wp2
        go_ret
        exact ⟨rfl, h16⟩
set_option maxRecDepth 100000 in
set_option maxHeartbeats 1000000 in
theorem posLast {E w : World} {F : Asn} (n j : Int) (A : Option Addr) (ca : Nat) (l : List (Int × Int)) (hS : Sat E F w) (hR : ∀ w, Sat E F w → Reads w 2 A l.length (pairs l)) :
    Calls Try.prog 4 #[.int .i64 n, .int .i64 j, .slice A l.length ca] w fun e w' => e = .returned (.bool true) ∧ Sat E F w' := by
  by_cases hok : (1 ≤ n ∧ n ≤ 60) ∧ (0 ≤ j ∧ j < n) ∧ l.length ≤ 100
  · obtain ⟨⟨x1, x2⟩, ⟨x3, x4⟩, x5⟩ := hok
    obtain ⟨n', rfl⟩ := Int.eq_ofNat_of_zero_le (show 0 ≤ n by omega)
    obtain ⟨j', rfl⟩ := Int.eq_ofNat_of_zero_le (show 0 ≤ j by omega)
    exact posLast_ok n' j' A ca l (by omega) (by omega) (by omega) x5 hS hR
  · go_enter Try.func4, Try.ntmps4
    go_wp2_with fail
    refine (first8 hS).mono ?_
    rintro e w1 ⟨rfl, g1⟩
    go_wp2_with (go_at_call 20; refine (first8 (E := E) (F := F) (by assumption)).mono ?_; rintro e w2 ⟨rfl, h1⟩)
    all_goals first
      | (go_ret; exact ⟨rfl, by assumption⟩)
      | (exfalso; omega)

theorem PosLast_walk (W : World) (a0 : Int) (w0 : (Lit.int .i64 a0).wf = true) (a1 : Int) (w1 : (Lit.int .i64 a1).wf = true) (a2 : Option Addr) (len2 cap2 : Nat) (l2 : (List (Int × Int))) (h2 : (decSlice 16 (decPair (decInt .i64) (decInt .i64))).rel W l2 [.slice a2 len2 cap2]) :
    Calls Try.prog 4 #[.int .i64 a0, .int .i64 a1, .slice a2 len2 cap2] W fun e w' => e = .returned (.bool true) ∧ Below W.heap.size W w' := by
  obtain ⟨A, c, he, h1, h2, h3, hR, hw⟩ := dec_pairs h2
  simp at he
  obtain ⟨rfl, rfl, rfl⟩ := he
  exact (posLast a0 a1 _ _ l2 (Sat.start W) (fun w hs => hR.keep fun k hk => hs.old1 hk)).mono fun e w' ⟨he, hs⟩ => ⟨he, hs.finish1⟩
end Go.Proofs.Ytedhcgeglmoacaa
