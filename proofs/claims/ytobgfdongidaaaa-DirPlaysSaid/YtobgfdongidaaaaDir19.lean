import Derived.Test.YtobgfdongidaaaaDir18
import Derived.Deep.RegionLaw
namespace Go.Proofs.Ytobgfdongidaaaa
set_option linter.unusedVariables false
set_option linter.unusedSimpArgs false
open Go.RowKit Go.Proofs.Sep Go.Lib

theorem Try.info32 : (Try.prog.info? 32).map (fun i => (i.zero, i.size, i.bytes)) = some (some (.agg #[.string ByteArray.empty, .int .i64 0]), 2, 24) := by kernel_rfl
theorem len15 {E w : World} {F : Asn} (T m : Nat) (L : List Ent) (hS : Sat E (dir T m L * F) w) : Calls Try.prog 15 #[ptrv T] w fun r w' => r = .returned (.int .i64 L.length) ∧ w' = w := by
  obtain ⟨h, r, t, _, s1⟩ := hS.dir_open
  obtain ⟨_, _, t2, _, _⟩ := three_cells (s1.eq (show _ = blk T (.cells #[.int .i64 m, ptrv r, .int .i64 L.length] 61) * (tree h r t * F) by unfold top; ac_rfl))
  unfold ptrv
  go_enter Try.func15, Try.ntmps15
  go_wp2
  go_ret
  exact ⟨rfl, rfl⟩

set_option maxRecDepth 100000 in
set_option maxHeartbeats 4000000 in
theorem entries11 {E w : World} {F : Asn} (A : Option Addr) (c : Nat) (L : List Ent) (hl : L.length ≤ 900000) (hS : Sat E F w) (hA : ∀ w, Sat E F w → Reads w 2 A L.length (ents L)) :
    Calls Try.prog 11 #[.slice A L.length c] w fun r w' => ∃ v, r = .returned v ∧ Sat E (row 32 2 v L.length (ents L) * F) w' := by
  go_enter Try.func11, Try.ntmps11
  go_wp2_with fail
  go_loopw [3, 4] (fun o iv wr => ∃ k : Nat, k ≤ L.length ∧ iv = .int .i64 k ∧ Sat E (row 32 2 o k (ents (L.take k)) * F) wr) (fun _ iv _ => L.length - (intOf iv).toNat)
  case atStart => exact ⟨0, by omega, rfl, hS.row_nil⟩
  case round =>
    obtain ⟨k, hk, rfl, hq⟩ := hrel
    by_cases hlt : k < L.length
    · have hkd : (k : Int) < (L.length : Int) := by omega
      have wk := i64_wrap (x := (k : Int) + 1) (by omega) (by omega)
      obtain ⟨ad, hAd, q⟩ := ent_at hA hlt hq.right
      obtain ⟨x0, x1⟩ := q _ hq.right
      subst hAd
      have hnx : ents (L.take (k + 1)) = ents (L.take k) ++ [.string L[k].1, .int .i64 L[k].2] := by
        rw [List.take_succ_eq_append_getElem hlt, ents_append]
        rfl
      clear q hS
      generalize L[k] = X at *
      obtain ⟨X1, X2⟩ := X
      simp only at x0 x1 hnx
      have HN := hid hnx
      clear hnx
      go_wp2_with fail
      have hq2 := (hq.alloc_drop (.cells #[.string X1, .int .i64 X2] 32)).drew
      have hR : Reads (wr.alloc (.cells [.string X1, .int .i64 X2].toArray 32)).drew 2 (some ⟨wr.heap.size, 0, none⟩) 1 [.string X1, .int .i64 X2] := (Reads.new 2 1 [.string X1, .int .i64 X2] 32 rfl (by omega)).drew
      have hq3 : Sat E _ (wr.drew.alloc (.cells #[.string X1, .int .i64 X2] 32)) := hq2
      have hR3 : Reads (wr.drew.alloc (.cells [.string X1, .int .i64 X2].toArray 32)) 2 (some ⟨wr.heap.size, 0, none⟩) 1 [.string X1, .int .i64 X2] := hR
      go_region_law ((first | (refine step_append_sat rfl _ _ 30 32 (.agg #[.string ByteArray.empty, .int .i64 0]) 2 24 rfl Try.underlying30 Try.info32 rfl (by decide) _ k (ents (L.take k)) _ 1 1 [.string X1, .int .i64 X2] rfl rfl hq2 hR (by simp [Value.oneCell']) (by unfold maxLen; omega) (by omega) ?_) | (refine step_append_sat rfl _ _ 30 32 (.agg #[.string ByteArray.empty, .int .i64 0]) 2 24 rfl Try.underlying30 Try.info32 rfl (by decide) _ k (ents (L.take k)) _ 1 1 [.string X1, .int .i64 X2] rfl rfl hq3 hR3 (by simp [Value.oneCell']) (by unfold maxLen; omega) (by omega) ?_)); intro v1 w1 hS1)
      all_goals
        rw [← HN.out] at hS1
        go_wp2_with fail
        go_roundw
        case rel => exact ⟨k + 1, by omega, by go_num, hS1⟩
        case measure => simp [intOf]; omega
    · obtain rfl : k = L.length := by omega
      have hkd : ¬ (L.length : Int) < (L.length : Int) := by omega
      clear hlt
      rw [List.take_length] at hq
      go_wp2_with fail
      go_ret
      exact ⟨_, rfl, hq⟩
end Go.Proofs.Ytobgfdongidaaaa

namespace Go.Proofs.Ytobgfdongidaaaa
set_option linter.unusedVariables false
set_option linter.unusedSimpArgs false
open Go.RowKit Go.Proofs.Sep Go.Lib

set_option maxRecDepth 100000 in
set_option maxHeartbeats 4000000 in
theorem same10 {E w : World} {F : Asn} (A B : Option Addr) (c d : Nat) (L M : List Ent) (hl : L.length ≤ 900000) (hm : M.length ≤ 900000) (hS : Sat E F w) (hA : ∀ w, Sat E F w → Reads w 2 A L.length (ents L)) (hB : ∀ w, Sat E F w → Reads w 2 B M.length (ents M)) :
    Calls Try.prog 10 #[.slice A L.length c, .slice B M.length d] w fun r w' => r = .returned (.bool (decide (L = M))) ∧ Sat E F w' := by
  by_cases hlen : L.length = M.length
  · have zl : ((L.length : Int) == (M.length : Int)) = true := by rw [hlen]; simp
    have HL := hid hlen
    go_enter Try.func10, Try.ntmps10
    go_wp2_with fail
    go_loopw [5] (fun iv wr => ∃ k : Nat, k ≤ L.length ∧ iv = .int .i64 k ∧ L.take k = M.take k ∧ Sat E F wr) (fun iv _ => L.length - (intOf iv).toNat)
    case atStart => exact ⟨0, by omega, rfl, rfl, hS⟩
    case round =>
      obtain ⟨k, hk, rfl, heq, hq⟩ := hrel
      have HE := hid heq
      clear heq
      by_cases hlt : k < L.length
      · have hlt2 : k < M.length := by have := HL.out; omega
        have hkd : (k : Int) < (L.length : Int) := by omega
        have hkd2 : (k : Int) < (M.length : Int) := by omega
        have wk := i64_wrap (x := (k : Int) + 1) (by omega) (by omega)
        obtain ⟨ad, hAd, q⟩ := ent_at hA hlt hq
        obtain ⟨x0, x1⟩ := q _ hq
        obtain ⟨bd, hBd, q'⟩ := ent_at hB hlt2 hq
        obtain ⟨y0, y1⟩ := q' _ hq
        subst hAd hBd
        have hnx : L[k] = M[k] → L.take (k + 1) = M.take (k + 1) := fun h => by
          rw [List.take_succ_eq_append_getElem hlt, List.take_succ_eq_append_getElem hlt2, HE.out, h]
        have hno : ¬ L[k] = M[k] → ¬ L = M := fun h e => h (by subst e; rfl)
        have HN := hid hnx
        have HO := hid hno
        clear q q' hnx hno hlen
        generalize L[k] = X at *
        generalize M[k] = Y at *
        obtain ⟨X1, X2⟩ := X
        obtain ⟨Y1, Y2⟩ := Y
        simp only at x0 x1 y0 y1
        by_cases hxy : X1 = Y1 ∧ X2 = Y2
        · obtain ⟨rfl, rfl⟩ := hxy
          go_wp2_with fail
          go_quiet (fail)
          go_wp2_with fail
          go_roundw
          case rel => exact ⟨k + 1, by omega, by go_num, (by first | exact HN.out rfl | exact HN.out trivial), hq.drewN _⟩
          case measure => simp [intOf]; omega
        · have hne : decide (L = M) = false := decide_eq_false (HO.out fun h => hxy (by injection h with h1 h2; exact ⟨h1, h2⟩))
          have HD := hid hne
          clear hne
          by_cases h1 : X1 = Y1
          · have h2 : ¬ X2 = Y2 := fun h => hxy ⟨h1, h⟩
            subst h1
            have z2 : (X2 == Y2) = false := beq_eq_false_iff_ne.2 h2
            clear hxy
            go_wp2_with fail
            go_quiet (fail)
            go_wp2_with fail
            go_ret
            rw [HD.out]
            exact ⟨rfl, hq.drewN _⟩
          · have z3 : (X1.toList == Y1.toList) = false := beq_eq_false_iff_ne.2 fun h => h1 (by
              rw [Lib.toList_data, Lib.toList_data] at h
              exact kcmp_eq (by unfold kcmp; rw [h]; exact cb_refl _))
            clear hxy
            go_wp2_with fail
            go_quiet (fail)
            go_wp2_with fail
            go_ret
            rw [HD.out]
            exact ⟨rfl, hq.drewN _⟩
      · obtain rfl : k = L.length := by omega
        have hkd : ¬ (L.length : Int) < (L.length : Int) := by omega
        have hfin : decide (L = M) = true := by
          have h := HE.out
          rw [List.take_length, HL.out, List.take_length] at h
          exact decide_eq_true h
        have HF := hid hfin
        clear hfin hlt
        go_wp2_with fail
        go_ret
        rw [HF.out]
        exact ⟨rfl, hq⟩
  · have zl : ((L.length : Int) == (M.length : Int)) = false := beq_eq_false_iff_ne.2 (by omega)
    have hne : decide (L = M) = false := by simp; intro h; rw [h] at hlen; exact hlen rfl
    rw [hne]
    clear hne hlen
    go_enter Try.func10, Try.ntmps10
    go_wp2_with fail
    go_ret
    exact ⟨rfl, hS⟩
end Go.Proofs.Ytobgfdongidaaaa

namespace Go.Proofs.Ytobgfdongidaaaa
set_option linter.unusedVariables false
set_option linter.unusedSimpArgs false
open Go.RowKit Go.Proofs.Sep Go.Lib

theorem deep_le {lo hi : Nat} (h1 : 1 ≤ lo) : ∀ (h : Nat) (t : Tr h), okT lo hi h t → 1 ≤ (ownE h t).length → h + 1 ≤ (inord h t).length
  | 0, _, _, ho => ho
  | h + 1, (es, ks), hok, ho => by
    obtain ⟨o1, o2⟩ := hok
    have ho2 : 1 ≤ es.length := ho
    clear ho
    cases ks with
    | nil => simp at o1
    | cons k K2 =>
      have hk := o2 k (by simp)
      have ih := deep_le h1 h k hk.2.2 (Nat.le_trans h1 hk.1)
      have hw := weave_mid (K1 := []) (K2 := K2) (es := es) k (by simp only [List.length_nil, List.length_cons] at o1 ⊢; omega)
      have hw : inord (h + 1) (es, k :: K2) = wpre (es.take 0) [] ++ (inord h k ++ wpost (es.drop 0) (K2.map (inord h))) := hw
      rw [hw]
      cases es with
      | nil => exact absurd ho2 (by simp)
      | cons e es =>
        cases K2 with
        | nil => exact absurd o1 (by simp only [List.length_cons, List.length_nil]; omega)
        | cons k2 K2 =>
          simp only [List.length_append, List.length_nil, List.drop_zero, List.map_cons, wpost, List.length_cons]
          omega

set_option maxRecDepth 100000 in
set_option maxHeartbeats 4000000 in
theorem depth_none {E w : World} {F : Asn} (T m : Nat) (hS : Sat E (dir T m [] * F) w) : Calls Try.prog 17 #[ptrv T] w fun r w' => r = .returned (.int .i64 0) ∧ w' = w := by
  obtain ⟨h, r, t, _, s1⟩ := hS.dir_open
  obtain ⟨_, _, t2, _, _⟩ := three_cells (s1.eq (show _ = blk T (.cells #[.int .i64 m, ptrv r, .int .i64 ([] : List Ent).length] 61) * (tree h r t * F) by unfold top; ac_rfl))
  simp only [List.length_nil] at t2
  unfold ptrv
  go_enter Try.func17, Try.ntmps17
  go_wp2
  go_ret
  exact ⟨rfl, rfl⟩
set_option maxRecDepth 100000 in
set_option maxHeartbeats 4000000 in
theorem depth_some {E w : World} {F : Asn} (T m : Nat) (L : List Ent) (hm3 : 3 ≤ m) (hl : L.length ≤ 900000) (hpos : 0 < L.length) (hS : Sat E (dir T m L * F) w) :
    Calls Try.prog 17 #[ptrv T] w fun r w' => (∃ h, ∃ t : Tr h, Shape m h t L ∧ r = .returned (.int .i64 ((h : Int) + 1))) ∧ w' = w := by
  obtain ⟨h, r, t, hs, s1⟩ := hS.dir_open
  obtain ⟨_, t1, t2, _, _⟩ := three_cells (s1.eq (show _ = blk T (.cells #[.int .i64 m, ptrv r, .int .i64 L.length] 61) * (tree h r t * F) by unfold top; ac_rfl))
  have hown : 1 ≤ (ownE h t).length := by
    cases h with
    | zero => have := hs.ord; rw [show inord 0 t = ownE 0 t from rfl] at this; rw [this]; exact hpos
    | succ h => exact hs.least (by omega)
  have hdeep := deep_le (by omega) h t hs.ok hown
  rw [hs.ord] at hdeep
  have z0 : ((L.length : Int) == 0) = false := beq_eq_false_iff_ne.2 (by omega)
  have HS := hid hs
  have hok := hs.ok
  unfold ptrv at t1 ⊢
  clear hs hS hown
  go_enter Try.func17, Try.ntmps17
  go_wp2_with fail
  go_loopw [3, 4] (fun dv nv wr => wr = w ∧ ∃ j, j ≤ h ∧ ∃ (tj : Tr j) (p : Nat) (G : Asn), okT ((m - 1) / 2) (m - 1) j tj ∧ dv = .int .i64 (((h - j : Nat) : Int) + 1) ∧ nv = .pointer (some ⟨p, 0, none⟩) ∧ Sat E (tree j p tj * G) w) (fun dv _ _ => h + 2 - (intOf dv).toNat)
  case atStart => exact ⟨rfl, h, Nat.le_refl _, t, r, _, hok, by simp, rfl, s1⟩
  case round =>
    obtain ⟨rfl, j, hj, tj, p, G, hokj, rfl, rfl, hq⟩ := hrel
    obtain ⟨qs, q1⟩ := hq.tree_open
    obtain ⟨A1, c1, A2, c2, _, _, q2⟩ := q1.node_open
    obtain ⟨_, x1, _, _, _, x5⟩ := node_facts rfl rfl q2
    have hlf := leaf30 p qs.length c2 A2 x1
    cases j with
    | zero =>
      obtain ⟨rfl, _⟩ := Sat.pur_left (q1.eq (star_left_comm _ _ _))
      have z1 : ((([] : List Nat).length : Int) == 0) = true := rfl
      go_wp2_with fail
      refine hlf.mono ?_
      clear hlf
      rintro e' w2 ⟨rfl, rfl⟩
      go_wp2_with fail
      go_ret
      exact ⟨⟨h, t, HS.out, by simp⟩, rfl⟩
    | succ j =>
      have hln := stars_len (tree j) q2.right
      obtain ⟨o1, o2⟩ := hokj
      obtain ⟨es, ks⟩ := tj
      simp only at hln o1 o2
      cases ks with
      | nil => simp at o1
      | cons k ks =>
        cases qs with
        | nil => simp at hln
        | cons q qs =>
          have z1 : (((q :: qs).length : Int) == 0) = false := beq_eq_false_iff_ne.2 (by simp only [List.length_cons]; omega)
          have z2 : (0 : Int) < ((q :: qs).length : Int) := by simp only [List.length_cons]; omega
          obtain ⟨ad, rfl, xq⟩ := ptr_at x5 (i := 0) (q := q) rfl
          unfold ptrv at xq
          have xq := (show ad.add 0 = ad by simp [Addr.add]) ▸ xq
          have wd := i64_wrap (x := (((h - (j + 1) : Nat) : Int) + 1) + 1) (by omega) (by omega)
          have hk := (o2 k (by simp)).2.2
          have q3 : Sat E (tree j q k * (stars (tree j) qs ks * (nodeAt p (.slice A1 es.length c1) (.slice (some ad) (q :: qs).length c2) es (q :: qs) * G))) _ := q2.eq (by
            show _ * ((tree j q k * stars (tree j) qs ks) * _) = _
            ac_rfl)
          have Q3 := hid q3
          generalize (q :: qs).length = nq at *
          clear q1 q2 q3 hq hln o1 o2 x5
          go_wp2_with fail
          refine hlf.mono ?_
          clear hlf
          rintro e' w2 ⟨rfl, rfl⟩
          go_wp2_with fail
          go_roundw
          case rel => exact ⟨trivial, j, by omega, k, q, _, hk, by rw [show ((h - (j + 1) : Nat) : Int) + 1 + 1 = ((h - j : Nat) : Int) + 1 by omega], rfl, Q3.out⟩
          case measure => simp [intOf]; omega
end Go.Proofs.Ytobgfdongidaaaa
