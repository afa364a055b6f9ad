import Derived.Test.YtobgfdongidaaaaDir40
namespace Go.Proofs.Ytobgfdongidaaaa
set_option linter.unusedVariables false
set_option linter.unusedSimpArgs false
open Go.RowKit Go.Proofs.Sep Go.Lib

set_option maxRecDepth 100000 in
set_option maxHeartbeats 4000000 in
theorem rem_leaf_hit {E w : World} {F : Asn} (T p : Nat) (L : List Ent) (key : ByteArray) (hr : Rises L) (hl : L.length ≤ 900000) (hk : hasKey key L = true) (hS : Sat E (node p L [] * F) w) :
    Calls Try.prog 31 #[ptrv T, ptrv p, .string key] w fun r w' => r = .returned (.bool true) ∧ Sat E (node p (delR key L) [] * F) w' := by
  obtain ⟨hi, hx⟩ := (has_spec hr).1 hk
  obtain ⟨A1, c1, A2, c2, g1, g2, s2⟩ := hS.node_open
  have y0 := (node_facts rfl rfl s2).1
  have hcall := find29 p A1 c1 L key hr (by omega) s2 (fun w h => (node_facts rfl rfl h).2.2.2.2.1) y0
  rw [hk] at hcall
  have hdel : delR key L = L.take (ahead key L) ++ L.drop (ahead key L + 1) := by
    have h := List.take_append_drop (ahead key L) L
    rw [List.drop_eq_getElem_cons hi] at h
    have hr2 := hr
    rw [← h] at hr2
    have := delR_at hr2 hx
    rw [h] at this
    exact this
  obtain ⟨k, hkl⟩ : ∃ k, L.length = k + 1 := ⟨L.length - 1, by omega⟩
  obtain ⟨j, hj⟩ : ∃ j, j = ahead key L + 1 := ⟨_, rfl⟩
  have hdl : k = (L.take (ahead key L) ++ L.drop (ahead key L + 1)).length := by rw [List.length_append, List.length_take, List.length_drop]; omega
  generalize ahead key L = i at *
  have ej : (i : Int) + 1 = (j : Int) := by omega
  have wj := i64_wrap (x := (j : Int)) (by omega) (by omega)
  have z1 : ((([] : List Nat).length : Int) == 0) = true := rfl
  have HI := hid hi
  have HD := hid hdel
  have HKL := hid hkl
  have HDL := hid hdl
  clear hS hr hk hi hx hdel hkl hj g1 g2 hdl
  unfold ptrv
  go_enter Try.func31, Try.ntmps31
  go_wp2_with fail
  refine hcall.mono ?_
  clear hcall y0 s2
  rintro e w1 ⟨rfl, s4⟩
  have hlf := leaf30 p ([] : List Nat).length c2 A2 (node_facts rfl rfl s4).2.1
  go_wp2_with fail
  refine hlf.mono ?_
  clear hlf
  rintro e w2 ⟨rfl, rfl⟩
  obtain ⟨y0, _, _, _, _, _⟩ := node_facts rfl rfl s4
  have hdel : Calls Try.prog 39 #[.slice A1 L.length c1, .int .i64 i, .int .i64 j] w2 fun e w' => ∃ v', e = .returned v' ∧ Sat E (row 25 2 v' k ((ents L).take (i * 2) ++ (ents L).drop (i * 2 + 2)) * (blk p (.cells #[.slice A1 L.length c1, .slice A2 ([] : List Nat).length c2] 59) * (row 56 1 (.slice A2 ([] : List Nat).length c2) ([] : List Nat).length (([] : List Nat).map ptrv) * F))) w' := by
    rw [← ej]
    exact delEnt _ L.length k i (ents L) HKL.out HI.out (by omega) (ents_one L) (s4.eq (ents_out ..))
  clear s4
  go_wp2_with fail
  refine hdel.mono ?_
  clear hdel y0
  rintro e w3 ⟨v3, rfl, q1⟩
  obtain ⟨A3, c3, rfl, _, _, _⟩ := q1.reads
  have d0 := q1.right.free_blk (i := 0)
  have d1 := q1.right.cell_blk (i := 0)
  simp only [List.getElem?_toArray, List.getElem?_cons_zero, List.getElem?_cons_succ] at d1
  have Q := hid (put_ents (L := L.take i ++ L.drop (i + 1)) HDL.out (by rw [ents_append, ents_take, ents_drop, Nat.add_mul, Nat.one_mul]) q1)
  clear q1
  go_wp2_with fail
  go_ret
  refine ⟨rfl, ?_⟩
  rw [HD.out]
  exact Q.out.node_shut
set_option maxRecDepth 100000 in
set_option maxHeartbeats 4000000 in
theorem rem_leaf_no {E w : World} {F : Asn} (T p : Nat) (L : List Ent) (key : ByteArray) (hr : Rises L) (hl : L.length ≤ 900000) (hk : hasKey key L = false) (hS : Sat E (node p L [] * F) w) :
    Calls Try.prog 31 #[ptrv T, ptrv p, .string key] w fun r w' => r = .returned (.bool false) ∧ Sat E (node p L [] * F) w' := by
  obtain ⟨A1, c1, A2, c2, g1, g2, s2⟩ := hS.node_open
  have y0 := (node_facts rfl rfl s2).1
  have hcall := find29 p A1 c1 L key hr (by omega) s2 (fun w h => (node_facts rfl rfl h).2.2.2.2.1) y0
  rw [hk] at hcall
  generalize ahead key L = i at *
  have z1 : ((([] : List Nat).length : Int) == 0) = true := rfl
  clear hS hr hk g1 g2
  unfold ptrv
  go_enter Try.func31, Try.ntmps31
  go_wp2_with fail
  refine hcall.mono ?_
  clear hcall y0 s2
  rintro e w1 ⟨rfl, s4⟩
  have hlf := leaf30 p ([] : List Nat).length c2 A2 (node_facts rfl rfl s4).2.1
  go_wp2_with fail
  refine hlf.mono ?_
  rintro e w2 ⟨rfl, rfl⟩
  go_wp2_with fail
  refine hlf.mono ?_
  rintro e w2 ⟨rfl, rfl⟩
  go_wp2_with fail
  go_ret
  exact ⟨rfl, s4.node_shut⟩
set_option maxRecDepth 100000 in
set_option maxHeartbeats 4000000 in
/-- fill: nothing is lacking. -/
theorem fill_same {E w : World} {F : Asn} {lo h : Nat} (T m p i : Nat) (u1 u2 : Value) (hm3 : 3 ≤ m) (hm : m ≤ 64) (hlo : lo = (m - 1) / 2) (es : List Ent) (ps : List Nat) (K1 K2 : List (Tr h)) (k : Tr h) (hi1 : K1.length = i) (hA : lo ≤ (ownE h k).length)
    (hS : Sat E (node p es ps * (stars (tree h) ps (K1 ++ k :: K2) * (top T m u1 u2 * F))) w) :
    Calls Try.prog 41 #[ptrv T, ptrv p, .int .i64 i] w fun e w' => (∃ v, e = .returned v) ∧ Sat E (node p es ps * (stars (tree h) ps (K1 ++ k :: K2) * (top T m u1 u2 * F))) w' := by
  obtain ⟨ad0, c2, x1, hkid⟩ := kid_cells hS
  obtain ⟨q, hq, ⟨ad, rfl, xq⟩, B, c, yq⟩ := hkid i k (mid_at _ _ _ _ hi1.symm)
  have hii : (i : Int) < (ps.length : Int) := by have := (List.getElem?_eq_some_iff.1 hq).1; omega
  have t0 : w.cell? ⟨T, 0, none⟩ = some (.int .i64 m) := by
    have := hS.right.right
    unfold top at this
    rw [this.cell_blk]; rfl
  obtain ⟨m1, hm1⟩ : ∃ m1, m = m1 + 1 := ⟨m - 1, by omega⟩
  have hlo2 : lo = m1 / 2 := by omega
  have HM1 := hid hm1
  have HLO := hid hlo2
  have z1 : (lo : Int) ≤ ((ownE h k).length : Int) := by omega
  have H := hid hS
  clear hlo hm1 hlo2 hi1 hA hkid hS
  unfold ptrv at xq ⊢
  go_enter Try.func41, Try.ntmps41
  go_wp2_with fail
  go_quiet ((go_at_call 47; first | exact Calls.quiet_of_same (least47 T m m1 lo HM1.out HLO.out hm t0) | exact least47q T m m1 lo HM1.out HLO.out hm t0))
  go_wp2_with fail
  refine bodyPost_end (results_none rfl _ _ _) rfl ?_
  exact ⟨⟨_, rfl⟩, H.out.drewN _⟩
/-- What 'remove' answers and leaves. -/
def RemPost (E : World) (F : Asn) (T m : Nat) (u1 u2 : Value) (lo hi h p : Nat) (t : Tr h) (key : ByteArray) (r : Ending) (w' : World) : Prop :=
  r = .returned (.bool (hasKey key (inord h t))) ∧ ∃ t' : Tr h, inord h t' = delR key (inord h t) ∧ okT lo hi h t' ∧ (ownE h t').length ≤ (ownE h t).length ∧ (ownE h t).length ≤ (ownE h t').length + 1 ∧ (hasKey key (inord h t) = false → (ownE h t').length = (ownE h t).length) ∧
    Sat E (tree h p t' * (top T m u1 u2 * F)) w'

set_option maxRecDepth 100000 in
set_option maxHeartbeats 8000000 in
theorem rem_deep {E w : World} {F : Asn} {lo hi h : Nat} (T m p : Nat) (u1 u2 : Value) (hm3 : 3 ≤ m) (hm : m ≤ 64) (hlo : lo = (m - 1) / 2) (hhi : hi = m - 1) (es : List Ent) (ks : List (Tr h)) (key : ByteArray)
    (IH : ∀ {w : World} {F : Asn} (q : Nat) (k : Tr h), Rises (inord h k) → okT lo hi h k → lo ≤ (ownE h k).length → (ownE h k).length ≤ hi → (inord h k).length ≤ 900000 → Sat E (tree h q k * (top T m u1 u2 * F)) w →
      Calls Try.prog 31 #[ptrv T, ptrv q, .string key] w (RemPost E F T m u1 u2 lo hi h q k key))
    (hr : Rises (inord (h + 1) (es, ks))) (hok : okT lo hi (h + 1) (es, ks)) (hsz : (inord (h + 1) (es, ks)).length ≤ 900000) (hes : 1 ≤ es.length) (les : es.length ≤ 900) (hk : hasKey key es = false)
    (hS : Sat E (tree (h + 1) p (es, ks) * (top T m u1 u2 * F)) w) :
    Calls Try.prog 31 #[ptrv T, ptrv p, .string key] w (RemPost E F T m u1 u2 lo hi (h + 1) p (es, ks) key) := by
  have hrL : Rises es := own_rises (h := h + 1) (t := (es, ks)) hr
  have hia := ahead_le key es
  obtain ⟨i, hi0⟩ : ∃ i, i = ahead key es := ⟨_, rfl⟩
  have h1 : ks.length = es.length + 1 := hok.1
  obtain ⟨K1, k, K2, rfl, hK⟩ := cut_list ks i (es.length - i) (by omega)
  simp only [List.length_append, List.length_cons] at h1
  have hkl := kid_le (k := k) (K1 := K1) (K2 := K2) (es := es) (by omega)
  have hkk := hok.2 k (by simp)
  obtain ⟨A, C, a1, a2, a3, a4, a5, _⟩ := kid_parts (K1 := K1) (K2 := K2) (by omega) hr hk (by omega)
  obtain ⟨qs, s1⟩ := hS.tree_open
  have s1 : Sat E (node p es qs * (stars (tree h) qs (K1 ++ k :: K2) * (top T m u1 u2 * F))) w := s1
  have hpl := stars_len (tree h) s1.right
  simp only [List.length_append, List.length_cons] at hpl
  obtain ⟨P1, q, P2, rfl, hP1⟩ := cut_list qs K1.length K2.length (by omega)
  have HST := hid (stars_app (tree h) P1 K1 (q :: P2) (k :: K2) hP1)
  have HST2 := hid (fun k' => stars_app (tree h) P1 K1 (q :: P2) (k' :: K2) hP1)
  have hq : (P1 ++ q :: P2)[i]? = some q := by rw [← hK, ← hP1]; simp
  have HLK := hid (fun (k' : Tr h) (b1 : okT lo hi h k') (b2 : lo ≤ (ownE h k').length + 1) (b3 : (ownE h k').length ≤ hi) => (⟨by omega, fun x hx => hok.2 x (by simp [hx]), fun x hx => hok.2 x (by simp [hx]), b1, b2, b3⟩ : Lacks lo hi h es K1 k' K2))
  obtain ⟨A1, c1, A2, c2, g1, g2, s2⟩ := s1.node_open
  have y0 := (node_facts rfl rfl s2).1
  have hcall := find29 p A1 c1 es key hrL (by omega) s2 (fun w h => (node_facts rfl rfl h).2.2.2.2.1) y0
  rw [hk, ← hi0] at hcall
  have hz : (((P1 ++ q :: P2).length : Int) == 0) = false := beq_eq_false_iff_ne.2 (by rw [hpl]; omega)
  have hii : (i : Int) < ((P1 ++ q :: P2).length : Int) := by rw [hpl]; omega
  have HALL := hid (And.intro hkk (And.intro hK (And.intro hes les)))
  have HPL := hid (And.intro a1 (And.intro a2 (And.intro a4 a5)))
  have IHk := fun {w : World} {F : Asn} => IH (w := w) (F := F) q k a3 hkk.2.2 hkk.1 hkk.2.1 (by omega)
  unfold ptrv at IHk ⊢
  generalize hQ : P1 ++ q :: P2 = Q at *
  clear hk hi0 hS hr hok a1 a2 a3 a4 a5 s2 s1 hrL IH hQ hpl hkk hK hes hkl hP1
  go_enter Try.func31, Try.ntmps31
  go_wp2_with fail
  refine hcall.mono ?_
  clear hcall y0
  rintro e' w1 ⟨rfl, s4⟩
  obtain ⟨x0, x1, _, _, _, x5⟩ := node_facts rfl rfl s4
  obtain ⟨ad, rfl, xq⟩ := ptr_at x5 hq
  unfold ptrv at xq
  have hlf := leaf30 p Q.length c2 (some ad) x1
  go_wp2_with fail
  refine hlf.mono ?_
  rintro e' w2 ⟨rfl, rfl⟩
  go_wp2_with fail
  refine hlf.mono ?_
  clear hlf
  rintro e' w2 ⟨rfl, rfl⟩
  have s5 := s4.node_shut
  rw [HST.out] at s5
  have s6 : Sat E (tree h q k * (top T m u1 u2 * (node p es Q * (stars (tree h) P1 K1 * (stars (tree h) P2 K2 * F))))) w2 := s5.eq (by
    show _ * ((_ * (tree h q k * _)) * _) = _
    ac_rfl)
  have hih := IHk s6
  clear s4 s5 s6 IHk x5
  go_wp2_with fail
  refine hih.mono ?_
  clear hih x0 x1 xq
  rintro e' w3 ⟨rfl, k', p1, p2, p3, p4, p5, s7⟩
  have s8 : Sat E (node p es Q * (stars (tree h) Q (K1 ++ k' :: K2) * (top T m u1 u2 * F))) w3 := s7.eq (by
    rw [HST2.out]
    show _ = _ * ((_ * (tree h q k' * _)) * _)
    ac_rfl)
  generalize hB : hasKey key (inord h k) = B at *
  have hfl : Calls Try.prog 41 #[ptrv T, ptrv p, .int .i64 i] w3 fun e w' => (∃ v, e = .returned v) ∧ ∃ (es' : List Ent) (ps' : List Nat) (ks' : List (Tr h)), Filled lo hi h es (K1 ++ k' :: K2) es' ks' ∧ (B = false → es'.length = es.length) ∧ Sat E (node p es' ps' * (stars (tree h) ps' ks' * (top T m u1 u2 * F))) w' := by
    have hlk := HLK.out k' p2 (by have := HALL.out.1.1; omega) (by have := HALL.out.1.2.1; omega)
    by_cases hb : B = false
    · have hA : lo ≤ (ownE h k').length := by rw [p5 hb]; exact HALL.out.1.1
      refine (fill_same T m p i u1 u2 hm3 hm hlo es Q K1 K2 k' HALL.out.2.1 hA s8).mono ?_
      rintro e w' ⟨hv, s⟩
      exact ⟨hv, es, Q, K1 ++ k' :: K2, filled_none hlk hA, fun _ => rfl, s⟩
    · refine (fill41 T m p i u1 u2 hm3 hm hlo hhi es Q K1 K2 k' hlk HALL.out.2.1 HALL.out.2.2.1 HALL.out.2.2.2 s8).mono ?_
      rintro e w' ⟨hv, es', ps', ks', hF, s⟩
      exact ⟨hv, es', ps', ks', hF, fun h => absurd h hb, s⟩
  have HP := hid p1
  clear p1 p2 p3 p4 p5 s7 s8
  unfold ptrv at hfl
  have HBB := hid hB
  clear hB
  go_wp2_with fail
  refine hfl.mono ?_
  clear hfl
  rintro e' w5 ⟨⟨v, rfl⟩, es', ps', ks', HF, hsame, s10⟩
  have HFF := hid HF
  have HSM := hid hsame
  clear HF hsame
  go_wp2_with fail
  go_ret
  obtain ⟨a1, a2, a4, a5⟩ := HPL.out
  refine ⟨by rw [a4, has_mid a1 a2, HBB.out]; rfl, (es', ks'), ?_, HFF.out.ok, HFF.out.le, HFF.out.ge, fun hf => HSM.out (by rw [a4, has_mid a1 a2, HBB.out] at hf; exact hf), ?_⟩
  · rw [HFF.out.ord, a5 k', HP.out, a4, delR_mid a1 a2]
  · exact Sat.tree_shut (h := h + 1) (t := (es', ks')) (qs := ps') (L := es') rfl s10
end Go.Proofs.Ytobgfdongidaaaa

namespace Go.Proofs.Ytobgfdongidaaaa
set_option linter.unusedVariables false
set_option linter.unusedSimpArgs false
open Go.RowKit Go.Proofs.Sep Go.Lib

set_option maxRecDepth 100000 in
set_option maxHeartbeats 8000000 in
theorem rem_own {E w : World} {F : Asn} {lo hi h : Nat} (T m p : Nat) (u1 u2 : Value) (hm3 : 3 ≤ m) (hm : m ≤ 64) (hlo : lo = (m - 1) / 2) (hhi : hi = m - 1) (es : List Ent) (ks : List (Tr h)) (key : ByteArray)
    (hr : Rises (inord (h + 1) (es, ks))) (hok : okT lo hi (h + 1) (es, ks)) (hes : 1 ≤ es.length) (les : es.length ≤ 900) (hk : hasKey key es = true)
    (hS : Sat E (tree (h + 1) p (es, ks) * (top T m u1 u2 * F)) w) :
    Calls Try.prog 31 #[ptrv T, ptrv p, .string key] w (RemPost E F T m u1 u2 lo hi (h + 1) p (es, ks) key) := by
  have hrL : Rises es := own_rises (h := h + 1) (t := (es, ks)) hr
  obtain ⟨hiL, hke⟩ := (has_spec hrL).1 hk
  obtain ⟨i, hi0⟩ : ∃ i, i = ahead key es := ⟨_, rfl⟩
  have h1 : ks.length = es.length + 1 := hok.1
  obtain ⟨K1, k, K2, rfl, hK⟩ := cut_list ks i (es.length - i) (by omega)
  simp only [List.length_append, List.length_cons] at h1
  have hkk := hok.2 k (by simp)
  obtain ⟨qs, s1⟩ := hS.tree_open
  have s1 : Sat E (node p es qs * (stars (tree h) qs (K1 ++ k :: K2) * (top T m u1 u2 * F))) w := s1
  have hpl := stars_len (tree h) s1.right
  simp only [List.length_append, List.length_cons] at hpl
  obtain ⟨P1, q, P2, rfl, hP1⟩ := cut_list qs K1.length K2.length (by omega)
  have HST := hid (stars_app (tree h) P1 K1 (q :: P2) (k :: K2) hP1)
  have HST2 := hid (fun k' => stars_app (tree h) P1 K1 (q :: P2) (k' :: K2) hP1)
  have hq : (P1 ++ q :: P2)[i]? = some q := by rw [← hK, ← hP1]; simp
  have HLK := hid (fun (Y : Ent) (k' : Tr h) (b1 : okT lo hi h k') (b2 : lo ≤ (ownE h k').length + 1) (b3 : (ownE h k').length ≤ hi) => (⟨by rw [List.length_set]; omega, fun x hx => hok.2 x (by simp [hx]), fun x hx => hok.2 x (by simp [hx]), b1, b2, b3⟩ : Lacks lo hi h (es.set i Y) K1 k' K2))
  have hres : hasKey key (inord (h + 1) (es, K1 ++ k :: K2)) = true ∧ ∀ (Y : Ent) (k' : Tr h), inord h k = inord h k' ++ [Y] → inord (h + 1) (es.set i Y, K1 ++ k' :: K2) = delR key (inord (h + 1) (es, K1 ++ k :: K2)) := by
    obtain ⟨E1, x, E2, rfl, hE⟩ := cut_list es i (es.length - i - 1) (by omega)
    have hx : x.1 = key := by
      rw [← hke]
      simp only [← hi0, ← hE]
      simp
    cases K2 with
    | nil => simp only [List.length_append, List.length_cons, List.length_nil] at h1; omega
    | cons k2 K2 =>
      have l1 : K1.length = E1.length := by omega
      have l2 : K2.length = E2.length := by simp only [List.length_append, List.length_cons] at h1; omega
      have e1 := inord_pair E1 E2 K1 K2 l1 l2 k k2 x
      refine ⟨?_, fun Y k' hkY => ?_⟩
      · rw [e1]
        simp [hasKey, hx]
      · rw [set_mid _ _ _ _ _ hE.symm, inord_pair E1 E2 K1 K2 l1 l2 k' k2 Y]
        have e2 : inord (h + 1) (E1 ++ x :: E2, K1 ++ k :: k2 :: K2) = (wpre E1 (K1.map (inord h)) ++ inord h k) ++ x :: (inord h k2 ++ wpost E2 (K2.map (inord h))) := by rw [e1]; simp
        rw [e2] at hr ⊢
        rw [delR_at hr hx, hkY]
        simp
  obtain ⟨A1, c1, A2, c2, g1, g2, s2⟩ := s1.node_open
  obtain ⟨gn, _, hv, _, _⟩ := (s2.eq (ents_out ..)).row_head (by omega)
  injection hv with hv1 _ hv2
  subst hv1 hv2
  have y0 := (node_facts rfl rfl s2).1
  have hcall := find29 p _ c1 es key hrL (by omega) s2 (fun w h => (node_facts rfl rfl h).2.2.2.2.1) y0
  rw [hk, ← hi0] at hcall
  have hz : (((P1 ++ q :: P2).length : Int) == 0) = false := beq_eq_false_iff_ne.2 (by rw [hpl]; omega)
  have hii : (i : Int) < ((P1 ++ q :: P2).length : Int) := by rw [hpl]; omega
  have hie : (i : Int) < (es.length : Int) := by omega
  have hin : i < es.length := by omega
  have HALL := hid (And.intro hkk (And.intro hK (And.intro hes les)))
  have HRES := hid hres
  have HIN := hid hin
  have hlast := hid (fun (w : World) (F : Asn) (s : Sat E (tree h q k * (top T m u1 u2 * F)) w) => last40 T m u1 u2 hm3 hm hlo hhi h q k hkk.2.2 (by omega) (by omega) s)
  generalize hQ : P1 ++ q :: P2 = Q at *
  clear hk hi0 hS hr hok s2 s1 hrL hQ hpl hkk hK hes hP1 hres hke hiL hin
  unfold ptrv at hlast ⊢
  go_enter Try.func31, Try.ntmps31
  go_wp2_with fail
  refine hcall.mono ?_
  clear hcall y0
  rintro e' w1 ⟨rfl, s4⟩
  obtain ⟨x0, x1, _, _, _, x5⟩ := node_facts rfl rfl s4
  obtain ⟨ad, rfl, xq⟩ := ptr_at x5 hq
  unfold ptrv at xq
  have hlf := leaf30 p Q.length c2 (some ad) x1
  go_upto_block 0 with fail
  go_cut [8] (fun v wc => v = .bool true ∧ ∃ (Y : Ent) (k' : Tr h), Hid (inord h k = inord h k' ++ [Y] ∧ okT lo hi h k' ∧ (ownE h k').length ≤ (ownE h k).length ∧ (ownE h k).length ≤ (ownE h k').length + 1) ∧ Sat E (node p (es.set i Y) Q * (stars (tree h) Q (K1 ++ k' :: K2) * (top T m u1 u2 * F))) wc)
  case first =>
    go_wp2_with fail
    refine hlf.mono ?_
    rintro e' w2 ⟨rfl, rfl⟩
    go_wp2_with fail
    refine hlf.mono ?_
    clear hlf
    rintro e' w2 ⟨rfl, rfl⟩
    go_wp2_with fail
    rw [HST.out] at s4
    have s6 : Sat E (tree h q k * (top T m u1 u2 * (nodeAt p (.slice (some ⟨gn, 0, none⟩) es.length c1) (.slice (some ad) Q.length c2) es Q * (stars (tree h) P1 K1 * (stars (tree h) P2 K2 * F))))) w2 := s4.eq (by
      show _ * ((_ * (tree h q k * _)) * _) = _
      ac_rfl)
    have hih1 := hlast.out _ _ s6
    have hih2 := hlast.out _ _ s6.drew
    clear s4 s6 x5
    go_region_law (first | (go_simp; go_at_call 40; first | refine hih1.mono ?_ | refine hih2.mono ?_); rintro e' w3 ⟨⟨Y1, Y2⟩, k', rfl, p1, p2, p3, p4, s7⟩; have s8 := s7.eq (show _ = nodeAt p (.slice (some ⟨gn, 0, none⟩) es.length c1) (.slice (some ad) Q.length c2) es Q * (tree h q k' * (top T m u1 u2 * (stars (tree h) P1 K1 * (stars (tree h) P2 K2 * F)))) by ac_rfl); have x0' := (node_facts rfl rfl s8).1; have s9 := s8.eq (ents_out ..); have fz := fun j => s9.row_free j; have b0 := s9.row_cell (i * 2) (by have := HIN.out; omega); have b1 := s9.row_cell (i * 2 + 1) (by have := HIN.out; omega); rw [(ents_at HIN.out).1] at b0; rw [(ents_at HIN.out).2] at b1; have P := hid (And.intro p1 (And.intro p2 (And.intro p3 p4))); have S9 := hid s9; clear p1 p2 p3 p4 s7 s8 s9; unfold entv)
    all_goals
      have q1 := (S9.out.row_store (i * 2) (.string Y1)).row_store (i * 2 + 1) (.int .i64 Y2)
      rw [← ents_set (Y1, Y2) HIN.out] at q1
      have q2 : Sat E (nodeAt p (.slice (some ⟨gn, 0, none⟩) es.length c1) (.slice (some ad) Q.length c2) (es.set i (Y1, Y2)) Q * (tree h q k' * (top T m u1 u2 * (stars (tree h) P1 K1 * (stars (tree h) P2 K2 * F))))) _ := q1.eq (by rw [ents_out, List.length_set])
      have q3 := q2.node_shut.eq (show _ = node p (es.set i (Y1, Y2)) Q * (stars (tree h) Q (K1 ++ k' :: K2) * (top T m u1 u2 * F)) by
        rw [HST2.out]
        show _ = _ * ((_ * (tree h q k' * _)) * _)
        ac_rfl)
      have QQ := hid q3
      clear q1 q2 q3 hih1 hih2
      go_wp2
      go_meet
      exact ⟨rfl, (Y1, Y2), k', P, by first | exact QQ.out | exact QQ.out.drew⟩
  case rest =>
    obtain ⟨hv8, Y, k', P, s8⟩ := hcut
    subst hv8
    clear s4 x5 x0 x1 xq hlf
    have hfl := fill41 T m p i u1 u2 hm3 hm hlo hhi (es.set i Y) Q K1 K2 k' (HLK.out Y k' P.out.2.1 (by have := HALL.out.1.1; have := P.out.2.2.2; omega) (by have := HALL.out.1.2.1; have := P.out.2.2.1; omega)) HALL.out.2.1 (by rw [List.length_set]; exact HALL.out.2.2.1) (by rw [List.length_set]; exact HALL.out.2.2.2) s8
    clear s8
    unfold ptrv at hfl
    go_wp2_with fail
    refine hfl.mono ?_
    clear hfl
    rintro e' w5 ⟨⟨v, rfl⟩, es', ps', ks', HF, s10⟩
    have HFF := hid HF
    clear HF
    go_wp2_with fail
    go_ret
    have hle := HFF.out.le
    have hge := HFF.out.ge
    rw [List.length_set] at hle hge
    refine ⟨by rw [HRES.out.1]; rfl, (es', ks'), ?_, HFF.out.ok, hle, hge, fun hf => by (rw [HRES.out.1] at hf; cases hf), ?_⟩
    · rw [HFF.out.ord, HRES.out.2 Y k' P.out.1]
    · exact Sat.tree_shut (h := h + 1) (t := (es', ks')) (qs := ps') (L := es') rfl s10
/-- remove: every height. -/
theorem remove31 {E : World} {lo hi : Nat} (T m : Nat) (u1 u2 : Value) (hm3 : 3 ≤ m) (hm : m ≤ 64) (hlo : lo = (m - 1) / 2) (hhi : hi = m - 1) (key : ByteArray) :
    ∀ (h : Nat) {w : World} {F : Asn} (p : Nat) (t : Tr h), Rises (inord h t) → okT lo hi h t → (inord h t).length ≤ 900000 → (0 < h → 1 ≤ (ownE h t).length ∧ (ownE h t).length ≤ 900) → Sat E (tree h p t * (top T m u1 u2 * F)) w →
      Calls Try.prog 31 #[ptrv T, ptrv p, .string key] w (RemPost E F T m u1 u2 lo hi h p t key) := by
  intro h
  induction h with
  | zero =>
    intro w F p t hr _ hsz _ hS
    obtain ⟨qs, s1⟩ := hS.tree_open
    obtain ⟨rfl, s2⟩ := Sat.pur_left (s1.eq (star_left_comm _ _ _))
    have hr : Rises (ownE 0 t) := hr
    have hsz : (ownE 0 t).length ≤ 900000 := hsz
    by_cases hk : hasKey key (ownE 0 t) = true
    · have hlen : (ownE 0 t).length ≤ (delR key (ownE 0 t)).length + 1 := by
        obtain ⟨hi, hx⟩ := (has_spec hr).1 hk
        have h := List.take_append_drop (ahead key (ownE 0 t)) (ownE 0 t)
        rw [List.drop_eq_getElem_cons hi] at h
        have hr2 := hr
        rw [← h] at hr2
        have := delR_at hr2 hx
        rw [h] at this
        rw [this, List.length_append, List.length_take, List.length_drop]
        omega
      refine (rem_leaf_hit T p (ownE 0 t) key hr hsz hk s2).mono ?_
      rintro r w' ⟨rfl, q1⟩
      refine ⟨by rw [show inord 0 t = ownE 0 t from rfl, hk], delR key (ownE 0 t), rfl, trivial, delR_le key _, hlen, fun hf => by (rw [show inord 0 t = ownE 0 t from rfl, hk] at hf; cases hf), ?_⟩
      refine Sat.tree_shut (h := 0) (t := delR key (ownE 0 t)) (qs := []) rfl ?_
      exact (q1.add_pur (p := ([] : List Nat) = []) rfl).eq (star_left_comm _ _ _)
    · have hk : hasKey key (ownE 0 t) = false := by simpa using hk
      refine (rem_leaf_no T p (ownE 0 t) key hr hsz hk s2).mono ?_
      rintro r w' ⟨rfl, q1⟩
      refine ⟨by rw [show inord 0 t = ownE 0 t from rfl, hk], t, (delR_no hk).symm, trivial, Nat.le_refl _, by omega, fun _ => rfl, ?_⟩
      refine Sat.tree_shut (h := 0) (t := t) (qs := []) rfl ?_
      exact (q1.add_pur (p := ([] : List Nat) = []) rfl).eq (star_left_comm _ _ _)
  | succ h ih =>
    intro w F p t hr hok hsz hes hS
    obtain ⟨e1, e2⟩ := hes (by omega)
    by_cases hk : hasKey key (ownE (h + 1) t) = true
    · exact rem_own T m p u1 u2 hm3 hm hlo hhi t.1 t.2 key hr hok e1 e2 hk hS
    · have hk : hasKey key t.1 = false := by simpa [ownE] using hk
      exact rem_deep T m p u1 u2 hm3 hm hlo hhi t.1 t.2 key (fun q k b1 b2 b3 b4 b5 => ih q k b1 b2 b5 fun _ => ⟨by omega, by omega⟩) hr hok hsz e1 e2 hk hS
end Go.Proofs.Ytobgfdongidaaaa

namespace Go.Proofs.Ytobgfdongidaaaa
set_option linter.unusedVariables false
set_option linter.unusedSimpArgs false
open Go.RowKit Go.Proofs.Sep Go.Lib

theorem delR_length {key : ByteArray} {L : List Ent} (hr : Rises L) (hk : hasKey key L = true) : (delR key L).length + 1 = L.length := by
  obtain ⟨hi, hx⟩ := (has_spec hr).1 hk
  have h := List.take_append_drop (ahead key L) L
  rw [List.drop_eq_getElem_cons hi] at h
  have hr2 := hr
  rw [← h] at hr2
  have := delR_at hr2 hx
  rw [h] at this
  rw [this, List.length_append, List.length_take, List.length_drop]
  omega
set_option maxRecDepth 100000 in
set_option maxHeartbeats 8000000 in
theorem delete14 {E w : World} {F : Asn} (T m : Nat) (L : List Ent) (key : ByteArray) (hm3 : 3 ≤ m) (hm : m ≤ 64) (hl : L.length ≤ 900000) (hS : Sat E (dir T m L * F) w) :
    Calls Try.prog 14 #[ptrv T, .string key] w fun r w' => r = .returned (.bool (hasKey key L)) ∧ Sat E (dir T m (delR key L) * F) w' := by
  obtain ⟨h, r, t, hs, s1⟩ := hS.dir_open
  obtain ⟨q1, q2, q3, q4, q5⟩ := hs
  have hrem := remove31 T m (ptrv r) (.int .i64 L.length) hm3 hm rfl rfl key h r t (by rw [q1]; exact q2) q3 (by rw [q1]; exact hl) (fun hp => ⟨q5 hp, by omega⟩) s1
  have hris := delR_rises key L q2
  obtain ⟨t0, t1, t2, f1, f2⟩ := three_cells (s1.eq (show _ = blk T (.cells #[.int .i64 m, ptrv r, .int .i64 L.length] 61) * (tree h r t * F) by unfold top; ac_rfl))
  unfold ptrv at hrem t1 ⊢
  unfold RemPost at hrem
  rw [q1] at hrem
  have hlen : hasKey key L = true → (delR key L).length + 1 = L.length := delR_length q2
  have hno : hasKey key L = false → delR key L = L := delR_no
  have HNO := hid hno
  have HLEN := hid hlen
  clear hS s1 hno hlen
  go_enter Try.func14, Try.ntmps14
  go_wp2_with fail
  refine hrem.mono ?_
  clear hrem t0 t1 t2 f1 f2
  rintro e' w1 ⟨rfl, t', p1, p2, p3, p4, p5, s2⟩
  cases hB : hasKey key L with
  | false =>
    rw [hB] at p5
    have hd : Sat E (dir T m (delR key L) * F) w1 := by
      rw [HNO.out hB]
      refine Sat.dir_shut (h := h) (r := r) (t := t') ⟨by rw [p1]; exact HNO.out hB, q2, p2, by omega, fun hp => by rw [p5 rfl]; exact q5 hp⟩ ?_
      exact s2.eq (by unfold ptrv; rfl)
    have HD := hid hd
    have HBB := hid hB
    clear hd p5 hB HLEN HNO
    go_wp2_with fail
    go_ret
    exact ⟨by rw [HBB.out]; rfl, HD.out⟩
  | true =>
    have hl1 := HLEN.out hB
    have s3 : Sat E (blk T (.cells #[.int .i64 m, ptrv r, .int .i64 L.length] 61) * (tree h r t' * F)) w1 := s2.eq (by unfold top ptrv; ac_rfl)
    obtain ⟨t0, t1, t2, f1, f2⟩ := three_cells s3
    obtain ⟨qs, s4⟩ := (s3.eq (star_left_comm _ _ _)).tree_open
    obtain ⟨A1, c1, A2, c2, _, _, s5⟩ := s4.node_open
    obtain ⟨x0, x1, _, _, _, x5⟩ := node_facts rfl rfl s5
    have hlf := leaf30 r qs.length c2 A2 x1
    have wl := i64_wrap (x := (L.length : Int) - 1) (by omega) (by omega)
    unfold ptrv at t1
    have HL1 := hid hl1
    have HP1 := hid p1
    have S3 := hid s3
    have HBB := hid hB
    clear hB p5 HLEN HNO s2 s3
    rcases Nat.eq_zero_or_pos (ownE h t').length with ho | ho
    · have z1 : (((ownE h t').length : Int) == 0) = true := by rw [ho]; rfl
      cases h with
      | zero =>
        obtain ⟨rfl, _⟩ := Sat.pur_left (s4.eq (star_left_comm _ _ _))
        have z2 : ((([] : List Nat).length : Int) == 0) = true := rfl
        have HSH : Hid (Shape m 0 t' (delR key L)) := hid ⟨p1, hris, p2, by omega, fun hp => absurd hp (by omega)⟩
        clear s4 s5 x5 p1
        go_wp2_with fail
        refine hlf.mono ?_
        clear hlf
        rintro e w2 ⟨rfl, rfl⟩
        go_wp2_with fail
        go_ret
        refine ⟨by rw [HBB.out]; rfl, Sat.dir_shut (r := r) HSH.out ?_⟩
        have k2 : Sat E (blk T (.cells #[.int .i64 m, ptrv r, .int .i64 ((L.length : Int) - 1)] 61) * (tree 0 r t' * F)) _ := S3.out.setCell (i := 2) (.int .i64 ((L.length : Int) - 1))
        rw [show ((delR key L).length : Int) = (L.length : Int) - 1 by have := HL1.out; omega]
        exact k2.eq (by unfold top; ac_rfl)
      | succ h =>
        obtain ⟨es, ks⟩ := t'
        have he : es = [] := List.eq_nil_of_length_eq_zero ho
        subst he
        obtain ⟨o1, o2⟩ := p2
        have hln := stars_len (tree h) s4.right
        simp only at o1 o2 hln
        obtain ⟨k, rfl⟩ : ∃ k, ks = [k] := by
          cases ks with
          | nil => simp at o1
          | cons k ks =>
            cases ks with
            | nil => exact ⟨k, rfl⟩
            | cons _ _ => simp at o1
        obtain ⟨q, rfl⟩ : ∃ q, qs = [q] := by
          cases qs with
          | nil => simp at hln
          | cons q qs =>
            cases qs with
            | nil => exact ⟨q, rfl⟩
            | cons _ _ => simp at hln
        obtain ⟨b1, b2, b3⟩ := o2 k (by simp)
        have z2 : ((([q] : List Nat).length : Int) == 0) = false := rfl
        have z3 : (0 : Int) < (([q] : List Nat).length : Int) := by simp
        obtain ⟨ad, rfl, xq⟩ := ptr_at x5 (i := 0) (q := q) rfl
        unfold ptrv at xq
        have xq := (show ad.add 0 = ad by simp [Addr.add]) ▸ xq
        have HSH : Hid (Shape m h k (delR key L)) := hid ⟨by rw [← p1]; show inord h k = weave [] [inord h k]; simp [weave], hris, b3, b2, fun _ => by omega⟩
        have s6 : Sat E (blk T (.cells #[.int .i64 m, ptrv r, .int .i64 L.length] 61) * (tree h q k * F)) w1 := by
          have s7 : Sat E (node r [] [q] * ((tree h q k * emp) * (blk T (.cells #[.int .i64 m, ptrv r, .int .i64 L.length] 61) * F))) w1 := s4
          rw [star_emp] at s7
          exact s7.right.eq (star_left_comm _ _ _)
        have S6 := hid s6
        generalize hn1 : ([q] : List Nat).length = n1 at *
        clear hn1 s4 s5 s6 S3 x5 p1 o1 o2 hln ho
        go_wp2_with fail
        refine hlf.mono ?_
        clear hlf
        rintro e w2 ⟨rfl, rfl⟩
        go_wp2_with fail
        go_ret
        refine ⟨by rw [HBB.out]; rfl, Sat.dir_shut (r := q) HSH.out ?_⟩
        have k1 : Sat E (blk T (.cells #[.int .i64 m, ptrv q, .int .i64 L.length] 61) * (tree h q k * F)) _ := S6.out.setCell (i := 1) (ptrv q)
        have k2 : Sat E (blk T (.cells #[.int .i64 m, ptrv q, .int .i64 ((L.length : Int) - 1)] 61) * (tree h q k * F)) _ := k1.setCell (i := 2) (.int .i64 ((L.length : Int) - 1))
        rw [show ((delR key L).length : Int) = (L.length : Int) - 1 by have := HL1.out; omega]
        exact k2.eq (by unfold top; ac_rfl)
    · have z1 : (((ownE h t').length : Int) == 0) = false := beq_eq_false_iff_ne.2 (by omega)
      have HSH : Hid (Shape m h t' (delR key L)) := hid ⟨p1, hris, p2, by omega, fun _ => ho⟩
      clear s4 s5 x5 p1
      go_wp2_with fail
      go_ret
      refine ⟨by rw [HBB.out]; rfl, Sat.dir_shut (r := r) HSH.out ?_⟩
      have k2 : Sat E (blk T (.cells #[.int .i64 m, ptrv r, .int .i64 ((L.length : Int) - 1)] 61) * (tree h r t' * F)) _ := S3.out.setCell (i := 2) (.int .i64 ((L.length : Int) - 1))
      rw [show ((delR key L).length : Int) = (L.length : Int) - 1 by have := HL1.out; omega]
      exact k2.eq (by unfold top; ac_rfl)
end Go.Proofs.Ytobgfdongidaaaa
