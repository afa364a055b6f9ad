import Derived.Test.YtedhcgeglmoacaaRound4
namespace Go.Proofs.Ytedhcgeglmoacaa
set_option linter.unusedVariables false
set_option linter.unusedSimpArgs false
open Go.RowKit Go.Proofs.Sep

theorem ints_sat {E w : World} {F : Asn} (A B : Option Addr) (n m c d : Nat) (xs ys : List Int) (hS : Sat E F w) (hA : Reads w 1 A n (nums .i64 xs)) (hB : Reads w 1 B m (nums .i64 ys)) :
    Calls Try.prog 51 #[.slice A n c, .slice B m d] w fun e w' => e = .returned (.bool (decide (xs = ys))) ∧ Sat E F w' :=
  (ints_calls A B n m c d xs ys hA hB).mono fun _ _ ⟨h1, q, h2⟩ => ⟨h1, h2 ▸ hS.drewN q⟩
theorem yes_sat {E w : World} {F : Asn} (A B : Option Addr) (n m c d : Nat) (xs ys : List Bool) (hS : Sat E F w) (hA : Reads w 1 A n (bools xs)) (hB : Reads w 1 B m (bools ys)) :
    Calls Try.prog 52 #[.slice A n c, .slice B m d] w fun e w' => e = .returned (.bool (decide (xs = ys))) ∧ Sat E F w' :=
  (yes_calls A B n m c d xs ys hA hB).mono fun _ _ ⟨h1, q, h2⟩ => ⟨h1, h2 ▸ hS.drewN q⟩
theorem real_sat {E w : World} {F : Asn} (A : Option Addr) (n c : Nat) (xs : List Int) (hS : Sat E F w) (hA : Reads w 1 A n (nums .i64 xs)) :
    Calls Try.prog 55 #[.slice A n c] w fun e w' => e = .returned (.int .i64 (real xs)) ∧ Sat E F w' :=
  (real_calls A n c xs hA).mono fun _ _ ⟨h1, h2⟩ => ⟨h1, h2 ▸ hS⟩

set_option maxRecDepth 100000 in
set_option maxHeartbeats 2000000 in
theorem first21 {E w : World} {F : Asn} (hS : Sat E F w) : Calls Try.prog 47 #[] w fun e w' => e = .returned (.bool true) ∧ Sat E F w' := by
  have h0 := (((hS.alloc (.cells #[.int .i64 1] 3)).alloc (.cells #[.int .i64 1, .int .i64 2] 3)).alloc (.cells #[.int .i64 3] 3)).alloc (.cells #[.slice (some ⟨w.heap.size, 0, none⟩) 1 1, .slice (some ⟨w.heap.size + 1, 0, none⟩) 2 2, .slice (some ⟨w.heap.size + 2, 0, none⟩) 1 1] 22)
  obtain ⟨G, hG⟩ : ∃ G, blk (w.heap.size + 3) (.cells #[.slice (some ⟨w.heap.size, 0, none⟩) 1 1, .slice (some ⟨w.heap.size + 1, 0, none⟩) 2 2, .slice (some ⟨w.heap.size + 2, 0, none⟩) 1 1] 22) * (blk (w.heap.size + 2) (.cells #[.int .i64 3] 3) * (blk (w.heap.size + 1) (.cells #[.int .i64 1, .int .i64 2] 3) * (blk w.heap.size (.cells #[.int .i64 1] 3) * F))) = G := ⟨_, rfl⟩
  have hGF : ∀ w, Sat E G w → Sat E F w := fun w h => by rw [← hG] at h; exact h.right.right.right.right
  have hQ : ∀ w', Sat E G w' → Reads w' 1 (some ⟨w.heap.size + 3, 0, none⟩) 3 [.slice (some ⟨w.heap.size, 0, none⟩) 1 1, .slice (some ⟨w.heap.size + 1, 0, none⟩) 2 2, .slice (some ⟨w.heap.size + 2, 0, none⟩) 1 1] := fun w' h => by
    rw [← hG] at h
    exact h.blk_reads (cs := [_, _, _]) rfl (by omega)
  have hO : ∀ w', Sat E G w' → NeedsIn w' [[1], [1, 2], [3]] [.slice (some ⟨w.heap.size, 0, none⟩) 1 1, .slice (some ⟨w.heap.size + 1, 0, none⟩) 2 2, .slice (some ⟨w.heap.size + 2, 0, none⟩) 1 1] := fun w' h i hi => by
    rw [← hG] at h
    rcases i with _ | _ | _ | i
    · exact ⟨_, 1, rfl, Nat.le_refl _, h.right.right.right.blk_reads (cs := [_]) rfl (by simp)⟩
    · exact ⟨_, 2, rfl, Nat.le_refl _, h.right.right.blk_reads (cs := [_, _]) rfl (by simp)⟩
    · exact ⟨_, 1, rfl, Nat.le_refl _, h.right.blk_reads (cs := [_]) rfl (by simp)⟩
    · simp at hi; omega
  have hG0 : Sat E G ((((w.alloc (.cells #[.int .i64 1] 3)).alloc (.cells #[.int .i64 1, .int .i64 2] 3)).alloc (.cells #[.int .i64 3] 3)).alloc (.cells #[.slice (some ⟨w.heap.size, 0, none⟩) 1 1, .slice (some ⟨w.heap.size + 1, 0, none⟩) 2 2, .slice (some ⟨w.heap.size + 2, 0, none⟩) 1 1] 22)) := by
    rw [← hG]
    simpa using h0
  have hco : coll 2 [] [[1], [1, 2], [3]] = ([1, 2], [false, false, true]) := by decide
  have hb2 : bnd 2 = 2 := by decide
  have hN : ∀ i (hi : i < ([[1], [1, 2], [3]] : List (List Int)).length), ([[1], [1, 2], [3]] : List (List Int))[i].length ≤ 1000000 := by
    intro i hi
    rcases i with _ | _ | _ | i
    · simp
    · simp
    · simp
    · simp at hi; omega
  have hc := collect_calls 2 2 none (some ⟨w.heap.size + 3, 0, none⟩) 0 0 3 [] [[1], [1, 2], [3]] _ hb2 hG0 (by simp) hN (fun w _ => nil_reads w _ 1 rfl) hQ hO
  rw [hco] at hc
  have HC := hid hc
  have hpd : ∀ {w : World} {F : Asn} (A : Option Addr), Sat E F w → (∀ w, Sat E F w → Reads w 1 A 1 (nums .i64 [5])) → Calls Try.prog 53 #[.int .i64 2, .slice A 1 1] w fun e w' => ∃ v, e = .returned v ∧ Sat E (row 3 1 v 2 (nums .i64 [5, -1]) * F) w' := fun A h hR => padded_calls 2 2 A 1 [5] hb2 h hR (by simp) (by simp)
  clear h0 hc hN hQ hO hco hG hG0
  go_enter Try.func47, Try.ntmps47
  go_wp2_with fail
  refine HC.out.mono ?_
  clear HC
  rintro e w1 ⟨v1, v2, rfl, h1⟩
  simp only [List.length_cons, List.length_nil, Nat.zero_add, Nat.reduceAdd] at h1
  obtain ⟨A1, c1, rfl, _, _, _⟩ := h1.reads
  obtain ⟨A2, c2, rfl, _, _, _⟩ := h1.right.reads
  have h3 := (h1.alloc (.cells #[.slice A1 2 c1, .slice A2 3 c2] 96)).alloc_drop (.cells #[.int .i64 1, .int .i64 2] 3)
  go_wp2_with fail
  refine (ints_sat A1 (some ⟨w1.heap.size + 1, 0, none⟩) 2 2 c1 2 [1, 2] [1, 2] h3 h3.right.reads_at (Reads.newAt 1 2 [.int .i64 1, .int .i64 2] 3 rfl (by omega) (by simp))).mono ?_
  rw [decide_eq_true (rfl : ([1, 2] : List Int) = [1, 2])]
  rintro e w2 ⟨rfl, h4⟩
  have d1 := h4.cell_blk (i := 1)
  simp only [List.getElem?_toArray, List.getElem?_cons_zero, List.getElem?_cons_succ] at d1
  have h5 := h4.alloc_drop (.cells #[.bool false, .bool false, .bool true] 4)
  go_wp2_with fail
  refine (yes_sat A2 (some ⟨w2.heap.size, 0, none⟩) 3 3 c2 3 [false, false, true] [false, false, true] h5 h5.right.right.reads_at (Reads.new 1 3 [.bool false, .bool false, .bool true] 4 rfl (by omega))).mono ?_
  rw [decide_eq_true (rfl : ([false, false, true] : List Bool) = [false, false, true])]
  rintro e w3 ⟨rfl, h6⟩
  have h7 := h6.alloc (.cells #[.int .i64 5] 3)
  go_wp2_with fail
  refine (hpd _ h7 (fun w h => h.blk_reads (cs := [_]) rfl (by omega))).mono ?_
  rintro e w4 ⟨v, rfl, h8⟩
  obtain ⟨A3, c3, rfl, _, _, _⟩ := h8.reads
  have h9 := h8.alloc_drop (.cells #[.int .i64 5, .int .i64 (-1)] 3)
  go_wp2_with fail
  refine (ints_sat A3 (some ⟨w4.heap.size, 0, none⟩) 2 2 c3 2 [5, -1] [5, -1] h9 h9.reads_at (Reads.new 1 2 [.int .i64 5, .int .i64 (-1)] 3 rfl (by omega))).mono ?_
  rw [decide_eq_true (rfl : ([5, -1] : List Int) = [5, -1])]
  rintro e w5 ⟨rfl, h10⟩
  have h11 := h10.alloc_drop (.cells #[.int .i64 5, .int .i64 (-1)] 3)
  go_wp2_with fail
  refine (real_sat (some ⟨w5.heap.size, 0, none⟩) 2 2 [5, -1] h11 (Reads.new 1 2 [.int .i64 5, .int .i64 (-1)] 3 rfl (by omega))).mono ?_
  rw [show real [5, -1] = 1 by decide]
  rintro e w6 ⟨rfl, h12⟩
  have h13 := hGF _ h12.right.right.right.right.right
  go_wp2
  go_ret
  exact ⟨rfl, h13⟩

theorem padL_facts (m : Nat) (xs : List Int) (n : Nat) (hnm : n = min m xs.length) : (padL m xs).take n = xs.take n ∧ real (padL m xs) = real (xs.take n) ∧ ∀ i, n ≤ i → i < m → (padL m xs)[i]? = some (-1) := by
  have hn1 : n ≤ m := by omega
  refine ⟨?_, ?_, ?_⟩
  · unfold padL
    rw [List.take_append, List.take_take, Nat.min_eq_left hn1]
    simp
    omega
  · unfold padL real
    rw [List.filter_append, show (List.replicate (m - xs.length) (-1 : Int)).filter (fun x => decide (0 ≤ x)) = [] from List.filter_eq_nil_iff.2 (by intro a ha; rw [List.mem_replicate] at ha; rw [ha.2]; decide), List.append_nil]
    rcases Nat.le_total m xs.length with h | h
    · rw [show n = m by omega]
    · rw [List.take_of_length_le h, List.take_of_length_le (by omega)]
  · intro i h1 h2
    unfold padL
    rw [List.getElem?_append_right (by simp; omega), List.getElem?_replicate, if_pos (by simp; omega)]
set_option maxRecDepth 100000 in
set_option maxHeartbeats 2000000 in
theorem roundPads_a {E w : World} {F : Asn} (m : Nat) (A : Option Addr) (c : Nat) (xs : List Int) (hm : m ≤ 1000) (hcase : xs.length < m) (hS : Sat E F w) (hR : ∀ w, Sat E F w → Reads w 1 A xs.length (nums .i64 xs)) (hn : xs.length ≤ 200) (hc : xs.length ≤ c) :
    Calls Try.prog 14 #[.int .i64 m, .slice A xs.length c] w fun e w' => e = .returned (.bool true) ∧ Sat E F w' := by
  have hn1 : xs.length ≤ m := by omega
  have hn2 : xs.length ≤ xs.length := by omega
  have hn3 : ((xs.length : Nat) : Int) ≤ (c : Int) := by omega
  have hf1 : (xs.length : Int) < (m : Int) := by omega
  have hf2 : ¬ (m : Int) ≤ (xs.length : Int) := by omega
  have hmin2 : min (m : Int) (xs.length : Int) = ((xs.length : Nat) : Int) := by omega
  have hb : bnd (m : Int) = m := by unfold bnd; omega
  obtain ⟨hpn, hpr, hpg⟩ := padL_facts m xs xs.length (by omega)
  have hrl := real_le xs
  have hpl := padL_length m xs
  have hpc := fun w (hs : Sat E F w) => padded_calls (m : Int) m A c xs hb hs hR (by omega) hc
  have hRu : ∀ w, Sat E F w → Reads w 1 A (xs.length) (nums .i64 (xs.take xs.length)) := fun w h => reads_take (hR _ h) (xs.length) hn2
  have hRv : ∀ w (A : Option Addr), Reads w 1 A m (nums .i64 (padL m xs)) → Reads w 1 A (xs.length) (nums .i64 ((padL m xs).take xs.length)) := fun w A h => reads_take h (xs.length) hn1
  have hul : (real (xs.take xs.length) : Int) ≤ (xs.length : Int) := by
    have := real_le (xs.take xs.length)
    rw [List.length_take] at this
    omega
  generalize padL m xs = ps at *
  generalize xs.take xs.length = us at *
  generalize ps.take xs.length = vs at *
  have HPG := hid hpg
  have HPN := hid (decide_eq_true hpn)
  have hrr : ∀ {w : World} {F : Asn} (A : Option Addr) (k c : Nat), Sat E F w → Reads w 1 A k (nums .i64 ps) → Calls Try.prog 55 #[.slice A k c] w fun e w' => e = .returned (.int .i64 (real us)) ∧ Sat E F w' := fun A k c hs hr => by
    rw [← hpr]
    exact real_sat A k c ps hs hr
  have hrl2 : (real xs : Int) ≤ (xs.length : Int) := by omega
  have hm1 : ¬ (1000 : Int) < (m : Int) := by omega
  have hm2 : ¬ (m : Int) < 0 := by omega
  have hx2 : ¬ (200 : Int) < (xs.length : Int) := by omega
  clear hpg hpn hpr hb hcase
  go_enter Try.func14, Try.ntmps14
  go_wp2_with fail
  refine (first21 hS).mono ?_
  rintro e w1 ⟨rfl, g1⟩
  go_wp2_with fail
  refine (hpc _ g1).mono ?_
  rintro e w2 ⟨v, rfl, g2⟩
  obtain ⟨Av, cv, rfl, hcv, _, _⟩ := g2.reads
  have hncv : ((xs.length : Nat) : Int) ≤ (cv : Int) := by omega
  have hnn1 : ∀ s : SW E (row 3 1 (.slice Av m cv) m (nums .i64 ps) * F), Reads s.w 1 Av (xs.length) (nums .i64 vs) := fun s => hRv _ _ s.h.reads_at
  have hnn2 : ∀ s : SW E (row 3 1 (.slice Av m cv) m (nums .i64 ps) * F), Reads s.w 1 A (xs.length) (nums .i64 us) := fun s => hRu _ s.h.right
  go_wp2_with fail
  refine wp_region_quietS _ (by kernel_rfl) (by kernel_rfl) g2 ?_
  intro hne
  repeat (go_big_quiet_step (first | (go_at_call 51; exact quietS (ints_sat Av A (xs.length) (xs.length) cv c vs us (SW.h _) (hnn1 _) (hnn2 _)))))
  refine wpQuiet_nil ?_
  intro w12 hw'
  have h12 := SW.out hw'
  clear hw' hne g1 g2
  rw [HPN.out]
  go_wp2_with fail
  go_loopw [7] (fun i wr => ∃ k : Nat, xs.length ≤ k ∧ k ≤ m ∧ i = .int .i64 k ∧ Sat E (row 3 1 (.slice Av m cv) m (nums .i64 ps) * F) wr) (fun i _ => m - (intOf i).toNat)
  case atStart => exact ⟨xs.length, by omega, by omega, rfl, h12⟩
  case round =>
    clear h12
    obtain ⟨k, hk1, hk2, rfl, hr⟩ := hrel
    by_cases hlt : k < m
    · obtain ⟨ad, rfl, hc2⟩ := hr.reads_at.at (by omega)
      have hca := hc2 k (.int .i64 (-1)) (by unfold nums; rw [List.getElem?_map, HPG.out k hk1 hlt]; rfl)
      clear hc2
      go_wp2
      go_roundw
      case rel => exact ⟨k + 1, by omega, by omega, by go_num, hr⟩
      case measure => simp [intOf]; omega
    · obtain rfl : k = m := by omega
      have cl1 : ∀ s : SW E (row 3 1 (.slice Av k cv) k (nums .i64 ps) * F), Calls Try.prog 55 #[.slice Av k cv] s.w fun e w'' => e = .returned (.int .i64 (real us)) ∧ ∃ s' : SW E (row 3 1 (.slice Av k cv) k (nums .i64 ps) * F), w'' = s'.w := fun s => quietS (hrr Av k cv s.h s.h.reads_at)
      have cl2 : ∀ s : SW E (row 3 1 (.slice Av k cv) k (nums .i64 ps) * F), Calls Try.prog 55 #[.slice A (xs.length) c] s.w fun e w'' => e = .returned (.int .i64 (real us)) ∧ ∃ s' : SW E (row 3 1 (.slice Av k cv) k (nums .i64 ps) * F), w'' = s'.w := fun s => quietS (real_sat A (xs.length) c us s.h (hRu _ s.h.right))
      have cl3 : ∀ s : SW E (row 3 1 (.slice Av k cv) k (nums .i64 ps) * F), Calls Try.prog 55 #[.slice A xs.length c] s.w fun e w'' => e = .returned (.int .i64 (real xs)) ∧ ∃ s' : SW E (row 3 1 (.slice Av k cv) k (nums .i64 ps) * F), w'' = s'.w := fun s => quietS (real_sat A xs.length c xs s.h (hR _ s.h.right))
      have cl0 : ∀ s : SW E (row 3 1 (.slice Av k cv) k (nums .i64 ps) * F), Calls Try.prog 47 #[] s.w fun e w'' => e = .returned (.bool true) ∧ ∃ s' : SW E (row 3 1 (.slice Av k cv) k (nums .i64 ps) * F), w'' = s'.w := fun s => quietS (first21 s.h)
      clear hrr hnn1 hnn2 hRv hpc
      go_wp2_with fail
      refine wp_region_quietS _ (by kernel_rfl) (by kernel_rfl) hr ?_
      intro hne
      repeat (go_big_quiet_step (first | (go_at_call 47; exact cl0 _) | (go_at_call_of 55 (Value.slice Av k cv); exact cl1 _) | (go_at_call 55; exact cl2 _)))
      refine wpQuiet_nil ?_
      intro w13 hw'
      have h13 := SW.out hw'
      clear hw' hne
      go_wp2
      go_ret
      exact ⟨ret_bool (by first | rfl | (simp; omega)), h13.right⟩
set_option maxRecDepth 100000 in
set_option maxHeartbeats 2000000 in
theorem roundPads_b {E w : World} {F : Asn} (m : Nat) (A : Option Addr) (c : Nat) (xs : List Int) (hm : m ≤ 1000) (hcase : m ≤ xs.length) (hS : Sat E F w) (hR : ∀ w, Sat E F w → Reads w 1 A xs.length (nums .i64 xs)) (hn : xs.length ≤ 200) (hc : xs.length ≤ c) :
    Calls Try.prog 14 #[.int .i64 m, .slice A xs.length c] w fun e w' => e = .returned (.bool true) ∧ Sat E F w' := by
  have hn1 : m ≤ m := by omega
  have hn2 : m ≤ xs.length := by omega
  have hn3 : ((m : Nat) : Int) ≤ (c : Int) := by omega
  have hf1 : (m : Int) ≤ (xs.length : Int) := by omega
  have hf2 : ¬ (xs.length : Int) < (m : Int) := by omega
  have hmin2 : min (m : Int) (xs.length : Int) = ((m : Nat) : Int) := by omega
  have hb : bnd (m : Int) = m := by unfold bnd; omega
  obtain ⟨hpn, hpr, hpg⟩ := padL_facts m xs m (by omega)
  have hrl := real_le xs
  have hpl := padL_length m xs
  have hpc := fun w (hs : Sat E F w) => padded_calls (m : Int) m A c xs hb hs hR (by omega) hc
  have hRu : ∀ w, Sat E F w → Reads w 1 A (m) (nums .i64 (xs.take m)) := fun w h => reads_take (hR _ h) (m) hn2
  have hRv : ∀ w (A : Option Addr), Reads w 1 A m (nums .i64 (padL m xs)) → Reads w 1 A (m) (nums .i64 ((padL m xs).take m)) := fun w A h => reads_take h (m) hn1
  have hul : (real (xs.take m) : Int) ≤ (xs.length : Int) := by
    have := real_le (xs.take m)
    rw [List.length_take] at this
    omega
  generalize padL m xs = ps at *
  generalize xs.take m = us at *
  generalize ps.take m = vs at *
  have HPG := hid hpg
  have HPN := hid (decide_eq_true hpn)
  have hrr : ∀ {w : World} {F : Asn} (A : Option Addr) (k c : Nat), Sat E F w → Reads w 1 A k (nums .i64 ps) → Calls Try.prog 55 #[.slice A k c] w fun e w' => e = .returned (.int .i64 (real us)) ∧ Sat E F w' := fun A k c hs hr => by
    rw [← hpr]
    exact real_sat A k c ps hs hr
  have hrl2 : (real xs : Int) ≤ (xs.length : Int) := by omega
  have hm1 : ¬ (1000 : Int) < (m : Int) := by omega
  have hm2 : ¬ (m : Int) < 0 := by omega
  have hx2 : ¬ (200 : Int) < (xs.length : Int) := by omega
  clear hpg hpn hpr hb hcase
  go_enter Try.func14, Try.ntmps14
  go_wp2_with fail
  refine (first21 hS).mono ?_
  rintro e w1 ⟨rfl, g1⟩
  go_wp2_with fail
  refine (hpc _ g1).mono ?_
  rintro e w2 ⟨v, rfl, g2⟩
  obtain ⟨Av, cv, rfl, hcv, _, _⟩ := g2.reads
  have hncv : ((m : Nat) : Int) ≤ (cv : Int) := by omega
  have hnn1 : ∀ s : SW E (row 3 1 (.slice Av m cv) m (nums .i64 ps) * F), Reads s.w 1 Av (m) (nums .i64 vs) := fun s => hRv _ _ s.h.reads_at
  have hnn2 : ∀ s : SW E (row 3 1 (.slice Av m cv) m (nums .i64 ps) * F), Reads s.w 1 A (m) (nums .i64 us) := fun s => hRu _ s.h.right
  go_wp2_with fail
  refine wp_region_quietS _ (by kernel_rfl) (by kernel_rfl) g2 ?_
  intro hne
  repeat (go_big_quiet_step (first | (go_at_call 51; exact quietS (ints_sat Av A (m) (m) cv c vs us (SW.h _) (hnn1 _) (hnn2 _)))))
  refine wpQuiet_nil ?_
  intro w12 hw'
  have h12 := SW.out hw'
  clear hw' hne g1 g2
  rw [HPN.out]
  go_wp2_with fail
  go_loopw [7] (fun i wr => ∃ k : Nat, m ≤ k ∧ k ≤ m ∧ i = .int .i64 k ∧ Sat E (row 3 1 (.slice Av m cv) m (nums .i64 ps) * F) wr) (fun i _ => m - (intOf i).toNat)
  case atStart => exact ⟨m, by omega, by omega, rfl, h12⟩
  case round =>
    clear h12
    obtain ⟨k, hk1, hk2, rfl, hr⟩ := hrel
    by_cases hlt : k < m
    · obtain ⟨ad, rfl, hc2⟩ := hr.reads_at.at (by omega)
      have hca := hc2 k (.int .i64 (-1)) (by unfold nums; rw [List.getElem?_map, HPG.out k hk1 hlt]; rfl)
      clear hc2
      go_wp2
      go_roundw
      case rel => exact ⟨k + 1, by omega, by omega, by go_num, hr⟩
      case measure => simp [intOf]; omega
    · obtain rfl : m = k := by omega
      have cl1 : ∀ s : SW E (row 3 1 (.slice Av m cv) m (nums .i64 ps) * F), Calls Try.prog 55 #[.slice Av m cv] s.w fun e w'' => e = .returned (.int .i64 (real us)) ∧ ∃ s' : SW E (row 3 1 (.slice Av m cv) m (nums .i64 ps) * F), w'' = s'.w := fun s => quietS (hrr Av m cv s.h s.h.reads_at)
      have cl2 : ∀ s : SW E (row 3 1 (.slice Av m cv) m (nums .i64 ps) * F), Calls Try.prog 55 #[.slice A (m) c] s.w fun e w'' => e = .returned (.int .i64 (real us)) ∧ ∃ s' : SW E (row 3 1 (.slice Av m cv) m (nums .i64 ps) * F), w'' = s'.w := fun s => quietS (real_sat A (m) c us s.h (hRu _ s.h.right))
      have cl3 : ∀ s : SW E (row 3 1 (.slice Av m cv) m (nums .i64 ps) * F), Calls Try.prog 55 #[.slice A xs.length c] s.w fun e w'' => e = .returned (.int .i64 (real xs)) ∧ ∃ s' : SW E (row 3 1 (.slice Av m cv) m (nums .i64 ps) * F), w'' = s'.w := fun s => quietS (real_sat A xs.length c xs s.h (hR _ s.h.right))
      have cl0 : ∀ s : SW E (row 3 1 (.slice Av m cv) m (nums .i64 ps) * F), Calls Try.prog 47 #[] s.w fun e w'' => e = .returned (.bool true) ∧ ∃ s' : SW E (row 3 1 (.slice Av m cv) m (nums .i64 ps) * F), w'' = s'.w := fun s => quietS (first21 s.h)
      clear hrr hnn1 hnn2 hRv hpc
      go_wp2_with fail
      refine wp_region_quietS _ (by kernel_rfl) (by kernel_rfl) hr ?_
      intro hne
      repeat (go_big_quiet_step (first | (go_at_call 47; exact cl0 _) | (go_at_call_of 55 (Value.slice Av m cv); exact cl1 _) | (go_at_call_of 55 (Value.slice A m c); exact cl2 _) | (go_at_call_of 55 (Value.slice A xs.length c); exact cl3 _)))
      refine wpQuiet_nil ?_
      intro w13 hw'
      have h13 := SW.out hw'
      clear hw' hne
      go_wp2
      go_ret
      exact ⟨ret_bool (by first | rfl | (simp; omega)), h13.right⟩

set_option maxRecDepth 100000 in
set_option maxHeartbeats 1000000 in
theorem roundPads {E w : World} {F : Asn} (x : Int) (A : Option Addr) (c : Nat) (xs : List Int) (hS : Sat E F w) (hR : ∀ w, Sat E F w → Reads w 1 A xs.length (nums .i64 xs)) (hc : xs.length ≤ c) :
    Calls Try.prog 14 #[.int .i64 x, .slice A xs.length c] w fun e w' => e = .returned (.bool true) ∧ Sat E F w' := by
  by_cases hok : 0 ≤ x ∧ x ≤ 1000 ∧ xs.length ≤ 200
  · obtain ⟨h1, h2, h3⟩ := hok
    obtain ⟨m, rfl⟩ := Int.eq_ofNat_of_zero_le h1
    rcases Nat.lt_or_ge xs.length m with h | h
    · exact roundPads_a m A c xs (by omega) h hS hR h3 hc
    · exact roundPads_b m A c xs (by omega) h hS hR h3 hc
  · have hbad : x < 0 ∨ 1000 < x ∨ 200 < (xs.length : Int) := by omega
    clear hok
    rcases hbad with h | h | h
    all_goals
      go_enter Try.func14, Try.ntmps14
      go_wp2_with (go_at_call 47; refine (first21 (E := E) (F := F) (by assumption)).mono ?_; rintro e w2 ⟨rfl, h1⟩)
      all_goals first | (go_ret; exact ⟨rfl, by assumption⟩) | (exfalso; omega)

theorem RoundPads_walk (W : World) (a0 : Int) (w0 : (Lit.int .i64 a0).wf = true) (a1 : Option Addr) (len1 cap1 : Nat) (l1 : (List Int)) (h1 : (decSlice 8 (decInt .i64)).rel W l1 [.slice a1 len1 cap1]) :
    Calls Try.prog 14 #[.int .i64 a0, .slice a1 len1 cap1] W fun e w' => e = .returned (.bool true) ∧ Below W.heap.size W w' := by
  obtain ⟨A, c, he, hlc, _, _, hR, _⟩ := dec_ints h1
  simp at he
  obtain ⟨rfl, rfl, rfl⟩ := he
  exact (roundPads a0 _ _ l1 (Sat.start W) (fun w hs => hR.keep fun k hk => hs.old1 hk) hlc).mono fun e w' ⟨he, hs⟩ => ⟨he, hs.finish1⟩
end Go.Proofs.Ytedhcgeglmoacaa
