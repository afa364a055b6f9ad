import Derived.Test.YtobgfdongidaaaaDir14
namespace Go.Proofs.Ytobgfdongidaaaa
set_option linter.unusedVariables false
set_option linter.unusedSimpArgs false
open Go.RowKit Go.Proofs.Sep Go.Lib

theorem weave_mid {h : Nat} {es : List Ent} {K1 K2 : List (Tr h)} (k : Tr h) (hlen : K1.length + K2.length = es.length) :
    inord (h + 1) (es, K1 ++ k :: K2) = wpre (es.take K1.length) (K1.map (inord h)) ++ (inord h k ++ wpost (es.drop K1.length) (K2.map (inord h))) := by
  have hl : (K1.map (inord h)).length = K1.length := List.length_map ..
  show weave es ((K1 ++ k :: K2).map (inord h)) = _
  rw [List.map_append, List.map_cons, weave_at es _ _ _ (by simp only [List.length_map] at *; omega), hl]
theorem kid_rises {h : Nat} {es : List Ent} {K1 K2 : List (Tr h)} {k : Tr h} (hlen : K1.length + K2.length = es.length) (hr : Rises (inord (h + 1) (es, K1 ++ k :: K2))) : Rises (inord h k) ∧ Rises (wpost (es.drop K1.length) (K2.map (inord h))) := by
  rw [weave_mid k hlen] at hr
  have h2 := List.pairwise_append.1 (List.pairwise_append.1 hr).2.1
  exact ⟨h2.1, h2.2.1⟩
theorem walk_start {h i : Nat} {es : List Ent} {K1 K2 : List (Tr h)} {k : Tr h} {lo : ByteArray} (hlen : K1.length + K2.length = es.length) (hr : Rises (inord (h + 1) (es, K1 ++ k :: K2))) (hK : K1.length = i) (hi : i = ahead lo es) :
    fromK lo (inord (h + 1) (es, K1 ++ k :: K2)) = fromK lo (inord h k) ++ wpost (es.drop i) (K2.map (inord h)) ∧ ∀ x ∈ wpost (es.drop i) (K2.map (inord h)), ¬ klt x.1 lo := by
  have hes : Rises es := own_rises (h := h + 1) (t := (es, K1 ++ k :: K2)) hr
  have hge : ∀ x ∈ wpost (es.drop i) (K2.map (inord h)), ¬ klt x.1 lo := by
    refine wpost_ge _ _ (by rw [← hK]; exact (kid_rises hlen hr).2) fun x hx hlt => ?_
    rw [List.getElem?_drop, Nat.add_zero] at hx
    obtain ⟨h1, h2⟩ := List.getElem?_eq_some_iff.1 hx
    rw [← h2] at hlt
    have := (ahead_spec hes i h1).1 hlt
    omega
  refine ⟨?_, hge⟩
  have hr2 := hr
  rw [weave_mid k hlen] at hr2 ⊢
  rw [fromK_app (wpre_lt _ _ _ hr2 (by rw [hK, hi]; exact ahead_lt hes)), hK, fromK_left hge]

def WalkPost (E : World) (G : Asn) {σ : Type} (A : σ → Asn) (stp : σ → Ent → σ × Bool) (lo : ByteArray) (h p : Nat) (t : Tr h) (s : σ) (r : Ending) (w' : World) : Prop :=
  r = .returned (.bool (runs stp (fromK lo (inord h t)) s).2) ∧ Sat E (tree h p t * (A (runs stp (fromK lo (inord h t)) s).1 * G)) w'

set_option maxRecDepth 100000 in
set_option maxHeartbeats 8000000 in
theorem walk_deep {E w : World} {G : Asn} {σ : Type} (A : σ → Asn) (stp : σ → Ent → σ × Bool) (K : Nat) (caps : Array Value) (hK : ∀ args w, (callFunc K args).run Try.prog w = .ok (.enter K args) w)
    (sz : σ → Nat) (N : Nat) (hz1 : ∀ s e, sz (stp s e).1 ≤ sz s + 1)
    (hT : ∀ {w : World} {G : Asn} (s : σ) (e : Ent), sz s < N → Sat E (A s * G) w → Calls Try.prog K (#[entv e] ++ caps) w fun r w' => r = .returned (.bool (stp s e).2) ∧ Sat E (A (stp s e).1 * G) w')
    {l1 l2 h : Nat} (p : Nat) (es : List Ent) (ks : List (Tr h)) (lo : ByteArray) (s : σ) (hr : Rises (inord (h + 1) (es, ks))) (hok : okT l1 l2 (h + 1) (es, ks)) (hsz : (inord (h + 1) (es, ks)).length ≤ 900000) (hN : sz s + (fromK lo (inord (h + 1) (es, ks))).length ≤ N)
    (IH : ∀ {w : World} {G : Asn} (q : Nat) (k : Tr h) (s : σ), Rises (inord h k) → okT l1 l2 h k → (inord h k).length ≤ 900000 → sz s + (fromK lo (inord h k)).length ≤ N → Sat E (tree h q k * (A s * G)) w →
      Calls Try.prog 26 #[ptrv q, .string lo, .func (.func K) #[] caps] w (WalkPost E G A stp lo h q k s))
    (hS : Sat E (tree (h + 1) p (es, ks) * (A s * G)) w) :
    Calls Try.prog 26 #[ptrv p, .string lo, .func (.func K) #[] caps] w (WalkPost E G A stp lo (h + 1) p (es, ks) s) := by
  have hrL : Rises es := own_rises (h := h + 1) (t := (es, ks)) hr
  have hle : es.length ≤ (inord (h + 1) (es, ks)).length := own_le (h := h + 1) (es, ks)
  have hal := ahead_le lo es
  have h1 : ks.length = es.length + 1 := hok.1
  obtain ⟨qs, sA⟩ := hS.tree_open
  have s1 : Sat E (node p es qs * (stars (tree h) qs ks * (A s * G))) w := sA
  clear sA
  obtain ⟨A1, c1, A2, c2, g1, g2, s2⟩ := s1.node_open
  have hpl := stars_len (tree h) s2.right
  have y0 := (node_facts rfl rfl s2).1
  have hcall := find29 p A1 c1 es lo hrL (by omega) s2 (fun w h => (node_facts rfl rfl h).2.2.2.2.1) y0
  have hst : ∃ K1 k K2, ks = K1 ++ k :: K2 ∧ K1.length = ahead lo es := cut_list ks (ahead lo es) (es.length - ahead lo es) (by omega)
  have hbeg : ∃ K1 k K2, ks = K1 ++ k :: K2 ∧ K1.length = ahead lo es ∧ fromK lo (inord (h + 1) (es, ks)) = fromK lo (inord h k) ++ wpost (es.drop (ahead lo es)) (K2.map (inord h)) ∧ ∀ x ∈ wpost (es.drop (ahead lo es)) (K2.map (inord h)), ¬ klt x.1 lo := by
    obtain ⟨K1, k, K2, rfl, hk1⟩ := hst
    simp only [List.length_append, List.length_cons] at h1
    exact ⟨K1, k, K2, rfl, hk1, walk_start (by omega) hr hk1 rfl⟩
  generalize hasKey lo es = hb at *
  generalize ahead lo es = i at *
  have IHk := fun {w : World} {G : Asn} => IH (w := w) (G := G)
  unfold ptrv at IHk ⊢
  have HALL := hid (And.intro hr (And.intro hok (And.intro hbeg (And.intro hpl h1))))
  generalize hR : fromK lo (inord (h + 1) (es, ks)) = R at *
  have HZ := hid hz1
  clear hz1
  have HR := hid hR
  clear hS s1 s2 y0 hr hok hrL hst hbeg IH hpl h1 hR
  go_enter Try.func26, Try.ntmps26
  go_wp2_with fail
  refine hcall.mono ?_
  clear hcall
  rintro e' w1 ⟨rfl, s3⟩
  go_wp2_with fail
  go_loopw [7] (fun iv wr => ∃ j : Nat, ∃ s' : σ, ∃ K1 k K2, ks = K1 ++ k :: K2 ∧ K1.length = j ∧ j ≤ es.length ∧ iv = .int .i64 j ∧ runs stp (fromK lo (inord h k) ++ wpost (es.drop j) (K2.map (inord h))) s' = runs stp R s ∧ sz s' + (fromK lo (inord h k)).length + (wpost (es.drop j) (K2.map (inord h))).length ≤ N ∧
    (∀ x ∈ wpost (es.drop j) (K2.map (inord h)), ¬ klt x.1 lo) ∧ Sat E (nodeAt p (.slice A1 es.length c1) (.slice A2 qs.length c2) es qs * (stars (tree h) qs ks * (A s' * G))) wr) (fun iv _ => es.length - (intOf iv).toNat)
  case atStart =>
    obtain ⟨K1, k, K2, b1, b2, b3, b4⟩ := HALL.out.2.2.1
    exact ⟨i, s, K1, k, K2, b1, b2, by omega, rfl, by rw [← b3], by rw [b3, List.length_append] at hN; omega, b4, s3⟩
  case round =>
    obtain ⟨j, s', K1, k, K2, rfl, hk1, hjl, rfl, hrun, hN', hge, hq⟩ := hrel
    obtain ⟨hr, hok, _, hpl, h1⟩ := HALL.out
    simp only [List.length_append, List.length_cons] at h1 hpl
    have hkin : k ∈ K1 ++ k :: K2 := by simp
    have hkr := (kid_rises (K1 := K1) (K2 := K2) (by omega) hr).1
    have hko := (own_le_kid hok hkin).2
    have hks := kid_le (k := k) (K1 := K1) (K2 := K2) (es := es) (by omega)
    obtain ⟨P1, q, P2, hqs, hP1⟩ := cut_list qs K1.length K2.length (by omega)
    have hsa := stars_app (tree h) P1 K1 (q :: P2) (k :: K2) hP1
    rw [← hqs] at hsa
    have HSA := hid hsa
    have hqq : qs[j]? = some q := by rw [hqs, ← hk1, ← hP1]; simp
    obtain ⟨x0, x1, _, _, x4, x5⟩ := node_facts rfl rfl hq
    have hlf := leaf30 p qs.length c2 A2 x1
    have z0 : ((qs.length : Int) == 0) = false := beq_eq_false_iff_ne.2 (by omega)
    have hjq : (j : Int) < (qs.length : Int) := by omega
    obtain ⟨ad2, rfl, xq⟩ := ptr_at x5 hqq
    unfold ptrv at xq
    have q1 : Sat E (tree h q k * (A s' * (nodeAt p (.slice A1 es.length c1) (.slice (some ad2) qs.length c2) es qs * (stars (tree h) P1 K1 * (stars (tree h) P2 K2 * G))))) wr := hq.eq (by
      rw [hsa]
      show _ * ((_ * (tree h q k * _)) * _) = _
      ac_rfl)
    have hih := IHk q k s' hkr hko (by omega) (by omega) q1
    have HH := hid (And.intro hrun (And.intro hge (And.intro hpl (And.intro h1 hok))))
    clear hr hok hpl h1 hsa hqs hq q1 x4 x5 hrun hge s3
    go_wp2_with fail
    refine hlf.mono ?_
    clear hlf
    rintro e' w2 ⟨rfl, rfl⟩
    go_wp2_with fail
    refine hih.mono ?_
    clear hih x0 x1 xq
    unfold WalkPost
    rintro e' w3 ⟨rfl, q2⟩
    have q3 : Sat E (nodeAt p (.slice A1 es.length c1) (.slice (some ad2) qs.length c2) es qs * (stars (tree h) qs (K1 ++ k :: K2) * (A (runs stp (fromK lo (inord h k)) s').1 * G))) w3 := q2.eq (by
      rw [HSA.out]
      show _ = _ * ((_ * (tree h q k * _)) * _)
      ac_rfl)
    clear q2
    obtain ⟨s1, b1, hru⟩ : ∃ s1 b1, runs stp (fromK lo (inord h k)) s' = (s1, b1) := ⟨_, _, rfl⟩
    have hs1 : sz s1 ≤ sz s' + (fromK lo (inord h k)).length := by
      have := runs_sz HZ.out (fromK lo (inord h k)) s'
      rw [hru] at this
      exact this
    simp only [hru] at q3 ⊢
    have HRU := hid hru
    clear hru
    cases b1
    · have hfin : runs stp R s = (s1, false) := by
        rw [← HH.out.1, runs_append, HRU.out]
        rfl
      have HF := hid hfin
      clear hfin hT IHk
      go_wp2_with fail
      go_ret
      unfold WalkPost
      rw [HR.out, HF.out]
      exact ⟨rfl, Sat.tree_shut (h := h + 1) (t := (es, K1 ++ k :: K2)) (qs := qs) rfl q3.node_shut⟩
    · by_cases hlt : j < es.length
      · obtain ⟨k2, K3, rfl⟩ : ∃ k2 K3, K2 = k2 :: K3 := by
          cases K2 with
          | nil =>
            have := HH.out.2.2.2.1
            simp only [List.length_nil] at this
            omega
          | cons a b => exact ⟨a, b, rfl⟩
        have z1 : ((j : Int) == (es.length : Int)) = false := beq_eq_false_iff_ne.2 (by omega)
        have hjj : (j : Int) < (es.length : Int) := by omega
        have wj := i64_wrap (x := (j : Int) + 1) (by omega) (by omega)
        obtain ⟨x0, x1, _, _, x4, _⟩ := node_facts rfl rfl q3
        obtain ⟨ad, rfl, hat⟩ := x4.at (by omega)
        have e0 := hat _ _ (ents_at hlt).1
        have e1 := cell_two (hat _ _ (ents_at hlt).2)
        have hw : wpost (es.drop j) ((k2 :: K3).map (inord h)) = es[j] :: (inord h k2 ++ wpost (es.drop (j + 1)) (K3.map (inord h))) := by
          rw [List.drop_eq_getElem_cons hlt]
          rfl
        have hge := HH.out.2.1
        rw [hw] at hge
        have hkeep : fromK lo (inord h k2) = inord h k2 := fromK_keep fun x hx => hge x (List.mem_cons_of_mem _ (List.mem_append_left _ hx))
        have hge2 : ∀ x ∈ wpost (es.drop (j + 1)) (K3.map (inord h)), ¬ klt x.1 lo := fun x hx => hge x (List.mem_cons_of_mem _ (List.mem_append_right _ hx))
        have hrest : runs stp (es[j] :: (inord h k2 ++ wpost (es.drop (j + 1)) (K3.map (inord h)))) s1 = runs stp R s := by
          rw [← HH.out.1, runs_append, HRU.out, hw]
          rfl
        rw [← hkeep] at hrest
        have HE := hid (And.intro hrest hge2)
        have hN2 : sz s1 + (1 + ((fromK lo (inord h k2)).length + (wpost (es.drop (j + 1)) (K3.map (inord h))).length)) ≤ N := by
          rw [hw, List.length_cons, List.length_append] at hN'
          rw [hkeep]
          omega
        have htell := hT s1 es[j] (by omega) (q3.eq (show _ = A s1 * (nodeAt p (.slice (some ad) es.length c1) (.slice (some ad2) qs.length c2) es qs * (stars (tree h) qs (K1 ++ k :: k2 :: K3) * G)) by ac_rfl))
        clear hat x4 hw hge hkeep hge2 hrest hT IHk
        generalize es[j] = X at *
        obtain ⟨X1, X2⟩ := X
        unfold entv at htell
        simp only at e0 e1 htell
        go_wp2_with fail
        refine htell.mono ?_
        clear htell e0 e1 x0 x1
        rintro e' w4 ⟨rfl, q4⟩
        have q5 : Sat E (nodeAt p (.slice (some ad) es.length c1) (.slice (some ad2) qs.length c2) es qs * (stars (tree h) qs (K1 ++ k :: k2 :: K3) * (A (stp s1 (X1, X2)).1 * G))) w4 := q4.eq (by ac_rfl)
        cases hs : (stp s1 (X1, X2)).2
        · have hfin : runs stp R s = ((stp s1 (X1, X2)).1, false) := by
            rw [← HE.out.1]
            simp [runs, hs]
          have HF := hid hfin
          clear hs hfin
          go_wp2_with fail
          go_ret
          unfold WalkPost
          rw [HR.out, HF.out]
          exact ⟨rfl, Sat.tree_shut (h := h + 1) (t := (es, K1 ++ k :: k2 :: K3)) (qs := qs) rfl q5.node_shut⟩
        · have hnx : runs stp (fromK lo (inord h k2) ++ wpost (es.drop (j + 1)) (K3.map (inord h))) (stp s1 (X1, X2)).1 = runs stp R s := by
            rw [← HE.out.1]
            simp [runs, hs]
          have HN := hid hnx
          clear hs hnx
          go_wp2_with fail
          go_roundw
          case rel => exact ⟨j + 1, _, K1 ++ [k], k2, K3, by simp, by simp [hk1], by omega, by go_num, HN.out, by have := HZ.out s1 (X1, X2); omega, HE.out.2, q5⟩
          case measure => simp [intOf]; omega
      · obtain rfl : j = es.length := by omega
        have z1 : ((es.length : Int) == (es.length : Int)) = true := by simp
        obtain ⟨x0, x1, _, _, _, _⟩ := node_facts rfl rfl q3
        have hfin : runs stp R s = (s1, true) := by
          rw [← HH.out.1, runs_append, HRU.out, List.drop_length]
          rfl
        have HF := hid hfin
        clear hfin hT IHk
        go_wp2_with fail
        go_ret
        unfold WalkPost
        rw [HR.out, HF.out]
        exact ⟨rfl, Sat.tree_shut (h := h + 1) (t := (es, K1 ++ k :: K2)) (qs := qs) rfl q3.node_shut⟩
/-- walk: every height. -/
theorem walk26 {E : World} {σ : Type} (A : σ → Asn) (stp : σ → Ent → σ × Bool) (K : Nat) (caps : Array Value) (hK : ∀ args w, (callFunc K args).run Try.prog w = .ok (.enter K args) w)
    (sz : σ → Nat) (N : Nat) (hz1 : ∀ s e, sz (stp s e).1 ≤ sz s + 1)
    (hT : ∀ {w : World} {G : Asn} (s : σ) (e : Ent), sz s < N → Sat E (A s * G) w → Calls Try.prog K (#[entv e] ++ caps) w fun r w' => r = .returned (.bool (stp s e).2) ∧ Sat E (A (stp s e).1 * G) w')
    {l1 l2 : Nat} (lo : ByteArray) : ∀ (h : Nat) {w : World} {G : Asn} (p : Nat) (t : Tr h) (s : σ), Rises (inord h t) → okT l1 l2 h t → (inord h t).length ≤ 900000 → sz s + (fromK lo (inord h t)).length ≤ N → Sat E (tree h p t * (A s * G)) w →
      Calls Try.prog 26 #[ptrv p, .string lo, .func (.func K) #[] caps] w (WalkPost E G A stp lo h p t s) := by
  intro h
  induction h with
  | zero =>
    intro w G p t s hr _ hsz hN hS
    obtain ⟨qs, s1⟩ := hS.tree_open
    obtain ⟨rfl, s2⟩ := Sat.pur_left (s1.eq (star_left_comm _ _ _))
    refine (walk_leaf A stp K caps hK sz N hz1 hT p t lo s hr hsz hN s2).mono ?_
    rintro r w' ⟨rfl, q1⟩
    refine ⟨rfl, Sat.tree_shut (h := 0) (t := t) (qs := []) rfl ?_⟩
    exact (q1.add_pur (p := ([] : List Nat) = []) rfl).eq (star_left_comm _ _ _)
  | succ h ih =>
    intro w G p t s hr hok hsz hN hS
    exact walk_deep A stp K caps hK sz N hz1 hT p t.1 t.2 lo s hr hok hsz hN (fun q k s => ih q k s) hS
end Go.Proofs.Ytobgfdongidaaaa
