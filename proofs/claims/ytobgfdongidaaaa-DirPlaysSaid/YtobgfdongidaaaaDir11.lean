import Derived.Test.YtobgfdongidaaaaDir10
namespace Go.Proofs.Ytobgfdongidaaaa
set_option linter.unusedVariables false
set_option linter.unusedSimpArgs false
open Go.RowKit Go.Proofs.Sep Go.Lib

/-- What 'put' answers and leaves. -/
def PutPost (E : World) (F : Asn) (T m : Nat) (u1 u2 : Value) (lo hi h p : Nat) (t : Tr h) (e : Ent) (r : Ending) (w' : World) : Prop :=
  r = .returned (.bool (!hasKey e.1 (inord h t))) ∧ ∃ t' : Tr h, inord h t' = insR e (inord h t) ∧ okT lo hi h t' ∧ (ownE h t).length ≤ (ownE h t').length ∧ (ownE h t').length ≤ (ownE h t).length + 1 ∧
    Sat E (tree h p t' * (top T m u1 u2 * F)) w'
theorem kid_le {h : Nat} {es : List Ent} {K1 K2 : List (Tr h)} {k : Tr h} (hlen : K1.length + K2.length = es.length) : (inord h k).length ≤ (inord (h + 1) (es, K1 ++ k :: K2)).length := by
  have hl : (K1.map (inord h)).length = K1.length := List.length_map ..
  have hw : inord (h + 1) (es, K1 ++ k :: K2) = wpre (es.take K1.length) (K1.map (inord h)) ++ (inord h k ++ wpost (es.drop K1.length) (K2.map (inord h))) := by
    show weave es ((K1 ++ k :: K2).map (inord h)) = _
    rw [List.map_append, List.map_cons, weave_at es _ _ _ (by simp only [List.length_map] at *; omega), hl]
  rw [hw, List.length_append, List.length_append]
  omega
theorem own_le_kid {lo hi h : Nat} {es : List Ent} {ks : List (Tr h)} {k : Tr h} (hok : okT lo hi (h + 1) (es, ks)) (hk : k ∈ ks) : (ownE h k).length ≤ hi ∧ okT lo hi h k := ⟨(hok.2 k hk).2.1, (hok.2 k hk).2.2⟩

set_option maxRecDepth 100000 in
set_option maxHeartbeats 8000000 in
theorem put_deep {E w : World} {F : Asn} {lo hi h : Nat} (T m p : Nat) (u1 u2 : Value) (hm3 : 3 ≤ m) (hm : m ≤ 64) (hlo : lo = (m - 1) / 2) (hhi : hi = m - 1) (es : List Ent) (ks : List (Tr h)) (e : Ent)
    (IH : ∀ {w : World} {F : Asn} (q : Nat) (k : Tr h), Rises (inord h k) → okT lo hi h k → (inord h k).length ≤ 999998 → Sat E (tree h q k * (top T m u1 u2 * F)) w →
      Calls Try.prog 33 #[ptrv T, ptrv q, entv e] w (PutPost E F T m u1 u2 lo hi h q k e))
    (hr : Rises (inord (h + 1) (es, ks))) (hok : okT lo hi (h + 1) (es, ks)) (hsz : (inord (h + 1) (es, ks)).length ≤ 999998) (hk : hasKey e.1 es = false)
    (hS : Sat E (tree (h + 1) p (es, ks) * (top T m u1 u2 * F)) w) :
    Calls Try.prog 33 #[ptrv T, ptrv p, entv e] w (PutPost E F T m u1 u2 lo hi (h + 1) p (es, ks) e) := by
  have hrL : Rises es := own_rises (h := h + 1) (t := (es, ks)) hr
  have hle : es.length ≤ (inord (h + 1) (es, ks)).length := own_le (h := h + 1) (es, ks)
  have hia := ahead_le e.1 es
  obtain ⟨i, hi0⟩ : ∃ i, i = ahead e.1 es := ⟨_, rfl⟩
  have h1 : ks.length = es.length + 1 := hok.1
  obtain ⟨K1, k, K2, rfl, hK⟩ := cut_list ks i (es.length - i) (by omega)
  simp only [List.length_append, List.length_cons] at h1
  have hkl := kid_le (k := k) (K1 := K1) (K2 := K2) (es := es) (by omega)
  obtain ⟨hko, hkok⟩ := own_le_kid hok (k := k) (by simp)
  have hrk : Rises (inord h k) := by
    obtain ⟨_, _, _, _, h9, _, _, _⟩ := kid_parts (K1 := K1) (K2 := K2) (by omega) hr hk (by omega)
    exact h9
  obtain ⟨qs, s1⟩ := hS.tree_open
  have s1 : Sat E (node p es qs * (stars (tree h) qs (K1 ++ k :: K2) * (top T m u1 u2 * F))) w := s1
  have hpl := stars_len (tree h) s1.right
  simp only [List.length_append, List.length_cons] at hpl
  obtain ⟨P1, q, P2, rfl, hP1⟩ := cut_list qs K1.length K2.length (by omega)
  have HST := hid (stars_app (tree h) P1 K1 (q :: P2) (k :: K2) hP1)
  have HST2 := hid (fun k' => stars_app (tree h) P1 K1 (q :: P2) (k' :: K2) hP1)
  have hq : (P1 ++ q :: P2)[i]? = some q := by rw [← hK, ← hP1]; simp
  obtain ⟨A1, c1, A2, c2, g1, g2, s2⟩ := s1.node_open
  have s3 := s2.alloc (.cells #[.string e.1, .int .i64 e.2] 25)
  have y0 := (node_facts rfl rfl s3.right).1
  have hcall := find29 p A1 c1 es e.1 hrL (by omega) s3 (fun w h => (node_facts rfl rfl h.right).2.2.2.2.1) y0
  rw [hk, ← hi0] at hcall
  have hz : (((P1 ++ q :: P2).length : Int) == 0) = false := beq_eq_false_iff_ne.2 (by rw [hpl]; omega)
  have hii : (i : Int) < ((P1 ++ q :: P2).length : Int) := by rw [hpl]; omega
  have HALL := hid (And.intro hr (And.intro hok (And.intro hk (And.intro hi0 (And.intro hS hrk)))))
  have IHk := fun {w : World} {F : Asn} => IH (w := w) (F := F) q k hrk hkok (by omega)
  unfold entv ptrv at IHk ⊢
  generalize hQ : P1 ++ q :: P2 = Q at *
  generalize hb : w.heap.size = b at *
  clear hk hi0 hS hr hok hrk s2 s1 hrL IH hQ hpl
  go_enter Try.func33, Try.ntmps33
  go_wp2_with fail
  refine hcall.mono ?_
  clear hcall y0 s3
  rintro e' w1 ⟨rfl, s4⟩
  obtain ⟨x0, x1, _, _, _, x5⟩ := node_facts rfl rfl s4.right
  obtain ⟨b0, b1, _, _⟩ := two_cells s4
  obtain ⟨ad, rfl, xq⟩ := ptr_at x5 hq
  unfold ptrv at xq
  have hlf := leaf30 p Q.length c2 (some ad) x1
  go_wp2_with fail
  refine hlf.mono ?_
  clear hlf
  rintro e' w2 ⟨rfl, rfl⟩
  go_wp2_with fail
  have s5 := (s4.drew.eq (star_left_comm _ _ _)).node_shut
  rw [HST.out] at s5
  have s6 : Sat E (tree h q k * (top T m u1 u2 * (node p es Q * (stars (tree h) P1 K1 * (stars (tree h) P2 K2 * (blk b (.cells #[.string e.1, .int .i64 e.2] 25) * F)))))) w2.drew := s5.eq (by
    show _ * (_ * ((_ * (tree h q k * _)) * _)) = _
    ac_rfl)
  have hih := IHk s6
  clear s4 s5 s6 IHk x5
  refine wp_region_tail 9 (by kernel_rfl) (by kernel_rfl) ?_
  simp only [List.take_succ_cons, List.take_zero, List.drop_succ_cons, List.drop_zero]
  repeat still_step
  refine wpStill_nil ?_
  go_wp2_with fail
  refine hih.mono ?_
  clear hih b0 b1 x0 x1 xq
  rintro e' w3 ⟨rfl, k', p1, p2, p3, p4, s7⟩
  have s8 : Sat E (node p es Q * (stars (tree h) Q (K1 ++ k' :: K2) * (top T m u1 u2 * (blk b (.cells #[.string e.1, .int .i64 e.2] 25) * F)))) w3 := s7.eq (by
    rw [HST2.out]
    show _ = _ * ((_ * (tree h q k' * _)) * _)
    ac_rfl)
  have hsp := split_tree T m p lo hi h i u1 u2 es Q K1 K2 k' hm3 hlo hhi hK (by omega) p2 (by omega) hm (by omega) s8
  have HP := hid p1
  clear p1 s7 s8
  generalize hB : (!hasKey e.1 (inord h k)) = B at *
  unfold ptrv at hsp
  go_wp2_with fail
  refine hsp.mono ?_
  clear hsp
  rintro e' w4 ⟨⟨v, rfl⟩, es', ps', K, S, _, s9⟩
  go_wp2_with fail
  go_ret
  obtain ⟨hr, hok, hk, hi0, _, _⟩ := HALL.out
  obtain ⟨z1, z2, z3, z4, z5⟩ := put_kid hok hr hk hK hi0 HP.out p2 p3 S
  refine ⟨by rw [z5, hB]; rfl, (es', K1 ++ (K ++ K2)), z1, z2, z3, z4, ?_⟩
  refine Sat.tree_shut (h := h + 1) (t := (es', K1 ++ (K ++ K2))) (qs := ps') (L := es') rfl ?_
  exact (s9.eq (show _ = blk b (.cells #[.string e.1, .int .i64 e.2] 25) * (node p es' ps' * (stars (tree h) ps' (K1 ++ (K ++ K2)) * (top T m u1 u2 * F))) by ac_rfl)).right
theorem hasKey_own {h : Nat} {t : Tr h} {key : ByteArray} (hk : hasKey key (ownE h t) = true) : hasKey key (inord h t) = true := by
  cases h with
  | zero => exact hk
  | succ h =>
    simp only [hasKey, List.any_eq_true] at hk ⊢
    obtain ⟨x, hx, hxe⟩ := hk
    exact ⟨x, (weave_sub t.1 _).subset hx, hxe⟩
/-- put: every height. -/
theorem put33 {E : World} {lo hi : Nat} (T m : Nat) (u1 u2 : Value) (hm3 : 3 ≤ m) (hm : m ≤ 64) (hlo : lo = (m - 1) / 2) (hhi : hi = m - 1) (e : Ent) :
    ∀ (h : Nat) {w : World} {F : Asn} (p : Nat) (t : Tr h), Rises (inord h t) → okT lo hi h t → (inord h t).length ≤ 999998 → Sat E (tree h p t * (top T m u1 u2 * F)) w →
      Calls Try.prog 33 #[ptrv T, ptrv p, entv e] w (PutPost E F T m u1 u2 lo hi h p t e) := by
  intro h
  induction h with
  | zero =>
    intro w F p t hr hok hsz hS
    by_cases hk : hasKey e.1 (ownE 0 t) = true
    · refine (put_hit T p t e hr hok hsz hk hS).mono ?_
      rintro r w' ⟨rfl, q1, q2⟩
      exact ⟨by rw [hasKey_own hk]; rfl, _, q2.symm, trivial, by rw [own_setOwn, List.length_set]; exact Nat.le_refl _, by rw [own_setOwn, List.length_set]; omega, q1⟩
    · have hk : hasKey e.1 t = false := by simpa [ownE] using hk
      obtain ⟨qs, s1⟩ := hS.tree_open
      obtain ⟨rfl, s2⟩ := Sat.pur_left (s1.eq (star_left_comm _ _ _))
      have hil := insAt_length (α := Ent) t e (ahead e.1 t) (ahead_le e.1 t)
      refine (put_leaf T p t e hr hsz hk s2).mono ?_
      rintro r w' ⟨rfl, q1⟩
      refine ⟨by rw [show inord 0 t = t from rfl, hk]; rfl, insAt (ahead e.1 t) [e] t, (insR_leaf hr hk).symm, trivial, ?_, ?_, ?_⟩
      · show List.length t ≤ List.length (insAt (ahead e.1 t) [e] t)
        rw [hil]; omega
      · show List.length (insAt (ahead e.1 t) [e] t) ≤ List.length t + 1
        rw [hil]; omega
      · refine Sat.tree_shut (h := 0) (t := insAt (ahead e.1 t) [e] t) (qs := []) rfl ?_
        exact (q1.add_pur (p := ([] : List Nat) = []) rfl).eq (star_left_comm _ _ _)
  | succ h ih =>
    intro w F p t hr hok hsz hS
    by_cases hk : hasKey e.1 (ownE (h + 1) t) = true
    · refine (put_hit T p t e hr hok hsz hk hS).mono ?_
      rintro r w' ⟨rfl, q1, q2⟩
      exact ⟨by rw [hasKey_own hk]; rfl, _, q2.symm, ⟨by show t.2.length = (t.1.set _ e).length + 1; rw [List.length_set]; exact hok.1, hok.2⟩, by rw [own_setOwn, List.length_set]; exact Nat.le_refl _, by rw [own_setOwn, List.length_set]; omega, q1⟩
    · have hk : hasKey e.1 t.1 = false := by simpa [ownE] using hk
      exact put_deep T m p u1 u2 hm3 hm hlo hhi t.1 t.2 e (fun q k => ih q k) hr hok hsz hk hS
end Go.Proofs.Ytobgfdongidaaaa
