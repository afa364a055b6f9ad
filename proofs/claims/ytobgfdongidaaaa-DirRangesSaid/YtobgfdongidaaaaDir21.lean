import Derived.Test.YtobgfdongidaaaaDir20
namespace Go.Proofs.Ytobgfdongidaaaa
set_option linter.unusedVariables false
set_option linter.unusedSimpArgs false
open Go.RowKit Go.Proofs.Sep Go.Lib

theorem deep_le {lo hi : Nat} (h1 : 1 ≤ lo) : ∀ (h : Nat) (t : Tr h), okT lo hi h t → 1 ≤ (ownE h t).length → h + 1 ≤ (inord h t).length
  | 0, _, _, ho => ho
  | h + 1, (es, ks), hok, ho => by
    obtain ⟨o1, o2⟩ := hok
    have ho2 : 1 ≤ es.length := ho
    clear ho
    cases ks with
    | nil => simp at o1
    | cons k K2 =>
      have hk := o2 k (by simp)
      have ih := deep_le h1 h k hk.2.2 (Nat.le_trans h1 hk.1)
      have hw := weave_mid (K1 := []) (K2 := K2) (es := es) k (by simp only [List.length_nil, List.length_cons] at o1 ⊢; omega)
      have hw : inord (h + 1) (es, k :: K2) = wpre (es.take 0) [] ++ (inord h k ++ wpost (es.drop 0) (K2.map (inord h))) := hw
      rw [hw]
      cases es with
      | nil => exact absurd ho2 (by simp)
      | cons e es =>
        cases K2 with
        | nil => exact absurd o1 (by simp only [List.length_cons, List.length_nil]; omega)
        | cons k2 K2 =>
          simp only [List.length_append, List.length_nil, List.drop_zero, List.map_cons, wpost, List.length_cons]
          omega

set_option maxRecDepth 100000 in
set_option maxHeartbeats 4000000 in
theorem depth_none {E w : World} {F : Asn} (T m : Nat) (hS : Sat E (dir T m [] * F) w) : Calls Try.prog 17 #[ptrv T] w fun r w' => r = .returned (.int .i64 0) ∧ w' = w := by
  obtain ⟨h, r, t, _, s1⟩ := hS.dir_open
  obtain ⟨_, _, t2, _, _⟩ := three_cells (s1.eq (show _ = blk T (.cells #[.int .i64 m, ptrv r, .int .i64 ([] : List Ent).length] 61) * (tree h r t * F) by unfold top; ac_rfl))
  simp only [List.length_nil] at t2
  unfold ptrv
  go_enter Try.func17, Try.ntmps17
  go_wp2
  go_ret
  exact ⟨rfl, rfl⟩
set_option maxRecDepth 100000 in
set_option maxHeartbeats 4000000 in
theorem depth_some {E w : World} {F : Asn} (T m : Nat) (L : List Ent) (hm3 : 3 ≤ m) (hl : L.length ≤ 900000) (hpos : 0 < L.length) (hS : Sat E (dir T m L * F) w) :
    Calls Try.prog 17 #[ptrv T] w fun r w' => (∃ h, ∃ t : Tr h, Shape m h t L ∧ r = .returned (.int .i64 ((h : Int) + 1))) ∧ w' = w := by
  obtain ⟨h, r, t, hs, s1⟩ := hS.dir_open
  obtain ⟨_, t1, t2, _, _⟩ := three_cells (s1.eq (show _ = blk T (.cells #[.int .i64 m, ptrv r, .int .i64 L.length] 61) * (tree h r t * F) by unfold top; ac_rfl))
  have hown : 1 ≤ (ownE h t).length := by
    cases h with
    | zero => have := hs.ord; rw [show inord 0 t = ownE 0 t from rfl] at this; rw [this]; exact hpos
    | succ h => exact hs.least (by omega)
  have hdeep := deep_le (by omega) h t hs.ok hown
  rw [hs.ord] at hdeep
  have z0 : ((L.length : Int) == 0) = false := beq_eq_false_iff_ne.2 (by omega)
  have HS := hid hs
  have hok := hs.ok
  unfold ptrv at t1 ⊢
  clear hs hS hown
  go_enter Try.func17, Try.ntmps17
  go_wp2_with fail
  go_loopw [3, 4] (fun dv nv wr => wr = w ∧ ∃ j, j ≤ h ∧ ∃ (tj : Tr j) (p : Nat) (G : Asn), okT ((m - 1) / 2) (m - 1) j tj ∧ dv = .int .i64 (((h - j : Nat) : Int) + 1) ∧ nv = .pointer (some ⟨p, 0, none⟩) ∧ Sat E (tree j p tj * G) w) (fun dv _ _ => h + 2 - (intOf dv).toNat)
  case atStart => exact ⟨rfl, h, Nat.le_refl _, t, r, _, hok, by simp, rfl, s1⟩
  case round =>
    obtain ⟨rfl, j, hj, tj, p, G, hokj, rfl, rfl, hq⟩ := hrel
    obtain ⟨qs, q1⟩ := hq.tree_open
    obtain ⟨A1, c1, A2, c2, _, _, q2⟩ := q1.node_open
    obtain ⟨_, x1, _, _, _, x5⟩ := node_facts rfl rfl q2
    have hlf := leaf30 p qs.length c2 A2 x1
    cases j with
    | zero =>
      obtain ⟨rfl, _⟩ := Sat.pur_left (q1.eq (star_left_comm _ _ _))
      have z1 : ((([] : List Nat).length : Int) == 0) = true := rfl
      go_wp2_with fail
      refine hlf.mono ?_
      clear hlf
      rintro e' w2 ⟨rfl, rfl⟩
      go_wp2_with fail
      go_ret
      exact ⟨⟨h, t, HS.out, by simp⟩, rfl⟩
    | succ j =>
      have hln := stars_len (tree j) q2.right
      obtain ⟨o1, o2⟩ := hokj
      obtain ⟨es, ks⟩ := tj
      simp only at hln o1 o2
      cases ks with
      | nil => simp at o1
      | cons k ks =>
        cases qs with
        | nil => simp at hln
        | cons q qs =>
          have z1 : (((q :: qs).length : Int) == 0) = false := beq_eq_false_iff_ne.2 (by simp only [List.length_cons]; omega)
          have z2 : (0 : Int) < ((q :: qs).length : Int) := by simp only [List.length_cons]; omega
          obtain ⟨ad, rfl, xq⟩ := ptr_at x5 (i := 0) (q := q) rfl
          unfold ptrv at xq
          have xq := (show ad.add 0 = ad by simp [Addr.add]) ▸ xq
          have wd := i64_wrap (x := (((h - (j + 1) : Nat) : Int) + 1) + 1) (by omega) (by omega)
          have hk := (o2 k (by simp)).2.2
          have q3 : Sat E (tree j q k * (stars (tree j) qs ks * (nodeAt p (.slice A1 es.length c1) (.slice (some ad) (q :: qs).length c2) es (q :: qs) * G))) _ := q2.eq (by
            show _ * ((tree j q k * stars (tree j) qs ks) * _) = _
            ac_rfl)
          have Q3 := hid q3
          generalize (q :: qs).length = nq at *
          clear q1 q2 q3 hq hln o1 o2 x5
          go_wp2_with fail
          refine hlf.mono ?_
          clear hlf
          rintro e' w2 ⟨rfl, rfl⟩
          go_wp2_with fail
          go_roundw
          case rel => exact ⟨trivial, j, by omega, k, q, _, hk, by rw [show ((h - (j + 1) : Nat) : Int) + 1 + 1 = ((h - j : Nat) : Int) + 1 by omega], rfl, Q3.out⟩
          case measure => simp [intOf]; omega
end Go.Proofs.Ytobgfdongidaaaa
