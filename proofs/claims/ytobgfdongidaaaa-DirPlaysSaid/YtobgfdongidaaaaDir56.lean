import Derived.Test.YtobgfdongidaaaaDir49
import Derived.Deep.RegionLaw
import Derived.Deep.DeepCutAuto
import Derived.Deep.CutBlock
namespace Go.Proofs.Ytobgfdongidaaaa
set_option linter.unusedVariables false
set_option linter.unusedSimpArgs false
open Go.RowKit Go.Proofs.Sep Go.Lib

/-- What 'copied' leaves. -/
def CopyPost (E : World) (F : Asn) (h q : Nat) (t : Tr h) (r : Ending) (w' : World) : Prop := ∃ p, r = .returned (ptrv p) ∧ Sat E (tree h p t * (tree h q t * F)) w'
theorem stars_snoc {h : Nat} (P : List Nat) (K : List (Tr h)) (p : Nat) (k : Tr h) (hl : P.length = K.length) : stars (tree h) (P ++ [p]) (K ++ [k]) = stars (tree h) P K * tree h p k := by
  rw [stars_app (tree h) P K [p] [k] hl]
  simp only [stars, star_emp]
set_option maxRecDepth 100000 in
set_option maxHeartbeats 4000000 in
theorem copied_leaf {E w : World} {F : Asn} (q : Nat) (L : List Ent) (hl : L.length ≤ 1000000) (hS : Sat E (node q L [] * F) w) :
    Calls Try.prog 35 #[ptrv q] w fun r w' => ∃ p, r = .returned (ptrv p) ∧ Sat E (node p L [] * (node q L [] * F)) w' := by
  obtain ⟨A1, c1, A2, c2, g1, g2, s2⟩ := hS.node_open
  obtain ⟨y0, y1, _, _, y4, _⟩ := node_facts rfl rfl s2
  have hcl := cloneEnts A1 L.length c1 (ents L) s2 y4 (ents_one L) (by omega)
  unfold ptrv
  clear hS y4
  go_enter Try.func35, Try.ntmps35
  go_wp2_with fail
  refine hcl.mono ?_
  clear hcl s2 y0 y1
  rintro e w1 ⟨v, rfl, s3⟩
  obtain ⟨A3, c3, rfl, _, _, _⟩ := s3.reads
  have s4 := s3.alloc (.cells #[.slice A3 L.length c3, .slice none 0 0] 59)
  have x1 : (w1.alloc (.cells #[.slice A3 L.length c3, .slice none 0 0] 59)).cell? ⟨q, 1, none⟩ = some (.slice A2 ([] : List Nat).length c2) := (node_facts rfl rfl s4.right.right).2.1
  have z : ¬ (0 : Int) < ((([] : List Nat).length : Nat) : Int) := by simp
  have Q := hid s4
  clear s3 s4
  go_wp2_with fail
  go_loopw [18] (fun iv wr => iv = .int .i64 0 ∧ wr = w1.alloc (.cells #[.slice A3 L.length c3, .slice none 0 0] 59)) (fun _ _ => 0)
  case atStart => exact ⟨rfl, rfl⟩
  case round =>
    obtain ⟨rfl, rfl⟩ := hrel
    go_wp2_with fail
    go_ret
    refine ⟨w1.heap.size, rfl, ?_⟩
    have q2 : Sat E (row 56 1 (.slice none 0 0) 0 [] * _) _ := Q.out.row_nil
    have q3 : Sat E (nodeAt w1.heap.size (.slice A3 L.length c3) (.slice none 0 0) L [] * (nodeAt q (.slice A1 L.length c1) (.slice A2 ([] : List Nat).length c2) L [] * F)) _ := q2.eq (by
      rw [nodeAt_eq w1.heap.size]
      show row 56 1 (.slice none 0 0) ([] : List Nat).length (([] : List Nat).map ptrv) * _ = _
      ac_rfl)
    exact (((q3.node_shut).eq (star_left_comm _ _ _)).node_shut).eq (star_left_comm _ _ _)
set_option maxRecDepth 100000 in
set_option maxHeartbeats 8000000 in
theorem copied_deep {E w : World} {F : Asn} {h : Nat} (q : Nat) (es : List Ent) (ks : List (Tr h))
    (IH : ∀ {w : World} {F : Asn} (q : Nat) (k : Tr h), k ∈ ks → Sat E (tree h q k * F) w → Calls Try.prog 35 #[ptrv q] w (CopyPost E F h q k))
    (hl : es.length ≤ 1000) (hkl : ks.length ≤ 1001) (hS : Sat E (tree (h + 1) q (es, ks) * F) w) :
    Calls Try.prog 35 #[ptrv q] w (CopyPost E F (h + 1) q (es, ks)) := by
  obtain ⟨qs, s1⟩ := hS.tree_open
  have s1 : Sat E (node q es qs * (stars (tree h) qs ks * F)) w := s1
  have hql := stars_len (tree h) s1.right
  obtain ⟨A1, c1, A2, c2, g1, g2, s2⟩ := s1.node_open
  obtain ⟨y0, y1, _, _, y4, _⟩ := node_facts rfl rfl s2
  have hcl := cloneEnts A1 es.length c1 (ents es) s2 y4 (ents_one es) (by omega)
  have HQL := hid hql
  have hq1 : qs.length ≤ 1001 := by omega
  unfold ptrv
  clear hS y4 s1 hql
  go_enter Try.func35, Try.ntmps35
  go_wp2_with fail
  refine hcl.mono ?_
  clear hcl s2 y0 y1
  rintro e w1 ⟨v, rfl, s3⟩
  obtain ⟨A3, c3, rfl, _, _, _⟩ := s3.reads
  have s4 := s3.alloc (.cells #[.slice A3 es.length c3, .slice none 0 0] 59)
  have x1 : (w1.alloc (.cells #[.slice A3 es.length c3, .slice none 0 0] 59)).cell? ⟨q, 1, none⟩ = some (.slice A2 qs.length c2) := (node_facts rfl rfl s4.right.right).2.1
  have q2 : Sat E (row 56 1 (.slice none 0 0) 0 [] * _) _ := s4.row_nil
  have q3 : Sat E (nodeAt w1.heap.size (.slice A3 es.length c3) (.slice none 0 0) es [] * (nodeAt q (.slice A1 es.length c1) (.slice A2 qs.length c2) es qs * (stars (tree h) qs ks * F))) (w1.alloc (.cells #[.slice A3 es.length c3, .slice none 0 0] 59)) := q2.eq (by
    rw [nodeAt_eq w1.heap.size]
    show row 56 1 (.slice none 0 0) ([] : List Nat).length (([] : List Nat).map ptrv) * _ = _
    ac_rfl)
  clear s3 s4 q2
  go_wp2_with fail
  generalize w1.heap.size = p at *
  generalize w1.alloc _ = w2 at *
  go_loopw [18] (fun iv wr => ∃ (i : Nat) (ps' : List Nat) (v2 : Value), i ≤ qs.length ∧ iv = .int .i64 i ∧ ps'.length = i ∧ Sat E (nodeAt p (.slice A3 es.length c3) v2 es ps' * (stars (tree h) ps' (ks.take i) * (nodeAt q (.slice A1 es.length c1) (.slice A2 qs.length c2) es qs * (stars (tree h) qs ks * F)))) wr) (fun iv _ => qs.length - (intOf iv).toNat)
  case atStart =>
    refine ⟨0, [], .slice none 0 0, by omega, rfl, rfl, ?_⟩
    rw [List.take_zero]
    show Sat E (_ * (emp * _)) _
    rw [emp_star]
    exact q3
  case round =>
    clear q3
    obtain ⟨i, ps', v2, hi, rfl, hps, hq⟩ := hrel
    obtain ⟨B2, d2, hB, _, _, _⟩ := (hq.eq (ptrs_out ..)).reads
    subst hB
    by_cases hlt : i < qs.length
    · have hid1 : (i : Int) < (qs.length : Int) := by omega
      have wi := i64_wrap (x := (i : Int) + 1) (by omega) (by omega)
      have hik : i < ks.length := by have := HQL.out; omega
      obtain ⟨P1, qi, P2, hq', hP⟩ := cut_list qs i (qs.length - i - 1) (by omega)
      obtain ⟨K1, ki, K2, hk', hK⟩ := cut_list ks i (ks.length - i - 1) (by omega)
      have HST := hid (show stars (tree h) qs ks = stars (tree h) P1 K1 * (tree h qi ki * stars (tree h) P2 K2) by rw [hq', hk']; exact stars_one P1 P2 K1 K2 qi ki (by omega))
      have hqi : qs[i]? = some qi := by rw [hq']; exact mid_at _ _ _ _ hP.symm
      have hki : ks.take (i + 1) = ks.take i ++ [ki] := by
        rw [List.take_succ_eq_append_getElem hik]
        congr 2
        have : ks[i]? = some ki := by rw [hk']; exact mid_at _ _ _ _ hK.symm
        exact (List.getElem?_eq_some_iff.1 this).2
      have HSN := hid (fun pi => stars_snoc ps' (ks.take i) pi ki (by rw [hps, List.length_take]; omega))
      have HKI := hid hki
      have hmem : ki ∈ ks := by rw [hk']; simp
      obtain ⟨ad, hAd, xq⟩ := ptr_at ((node_facts rfl rfl hq.right.right).2.2.2.2.2) hqi
      subst hAd
      unfold ptrv at xq
      have HPS := hid hps
      have hps2 : ps'.length ≤ 1001 := by omega
      have s5 := hq
      rw [HST.out] at s5
      have s6 : Sat E (tree h qi ki * (nodeAt p (.slice A3 es.length c3) (.slice B2 ps'.length d2) es ps' * (stars (tree h) ps' (ks.take i) * (nodeAt q (.slice A1 es.length c1) (.slice (some ad) qs.length c2) es qs * (stars (tree h) P1 K1 * (stars (tree h) P2 K2 * F)))))) wr := s5.eq (by ac_rfl)
      have ih1 := IH qi ki hmem s6
      have ih2 := IH qi ki hmem s6.drew
      unfold CopyPost ptrv at ih1 ih2
      obtain ⟨_, z1, _, _, _, _⟩ := node_facts rfl rfl hq
      clear s5 hq' hk' hki hps hmem hqi
      go_upto_block 1 with fail
      go_cut [] (fun wc => ∃ (pi : Nat) (v3 : Value), Sat E (nodeAt p (.slice A3 es.length c3) v3 es (ps' ++ [pi]) * (stars (tree h) (ps' ++ [pi]) (ks.take (i + 1)) * (nodeAt q (.slice A1 es.length c1) (.slice (some ad) qs.length c2) es qs * (stars (tree h) qs ks * F)))) wc)
      case first =>
        clear hq s6
        go_wp2_with fail
        clear xq
        go_region_law (first
          | (go_simp; go_at_call 35; (first | refine ih1.mono ?_ | refine ih2.mono ?_); rintro e w3 ⟨pi, rfl, s7⟩; have s8 : Sat E (row 56 1 (.slice B2 ps'.length d2) ps'.length (ps'.map ptrv) * (blk p (.cells #[.slice A3 es.length c3, .slice B2 ps'.length d2] 59) * (row 25 2 (.slice A3 es.length c3) es.length (ents es) * (tree h pi ki * (tree h qi ki * (stars (tree h) ps' (ks.take i) * (nodeAt q (.slice A1 es.length c1) (.slice (some ad) qs.length c2) es qs * (stars (tree h) P1 K1 * (stars (tree h) P2 K2 * F))))))))) w3 := (s7.eq (show _ = nodeAt p (.slice A3 es.length c3) (.slice B2 ps'.length d2) es ps' * (tree h pi ki * (tree h qi ki * (stars (tree h) ps' (ks.take i) * (nodeAt q (.slice A1 es.length c1) (.slice (some ad) qs.length c2) es qs * (stars (tree h) P1 K1 * (stars (tree h) P2 K2 * F)))))) by ac_rfl)).eq (ptrs_out ..); have z1' := (two_cells s8.right).2.1; have u1 := s8.alloc_drop (.cells #[.pointer (some ⟨pi, 0, none⟩)] 56); have r1 : Reads (w3.alloc (.cells [.pointer (some ⟨pi, 0, none⟩)].toArray 56)) 1 (some ⟨w3.heap.size, 0, none⟩) 1 [.pointer (some ⟨pi, 0, none⟩)] := Reads.new 1 1 [.pointer (some ⟨pi, 0, none⟩)] 56 rfl (by omega); have u2 := (s8.drew.alloc_drop (.cells #[.pointer (some ⟨pi, 0, none⟩)] 56)); have r2 : Reads (w3.drew.alloc (.cells [.pointer (some ⟨pi, 0, none⟩)].toArray 56)) 1 (some ⟨w3.heap.size, 0, none⟩) 1 [.pointer (some ⟨pi, 0, none⟩)] := Reads.new 1 1 [.pointer (some ⟨pi, 0, none⟩)] 56 rfl (by omega); have z1'' := (two_cells u1.right).2.1)
          | ((first | (refine step_append_sat rfl _ _ 57 56 (.pointer none) 1 8 rfl Try.underlying57 Try.info56 rfl (by decide) _ ps'.length (ps'.map ptrv) _ 1 1 [.pointer (some ⟨_, 0, none⟩)] rfl rfl u1 r1 (by simp [Value.oneCell']) (by unfold maxLen; omega) (by omega) ?_) | (refine step_append_sat rfl _ _ 57 56 (.pointer none) 1 8 rfl Try.underlying57 Try.info56 rfl (by decide) _ ps'.length (ps'.map ptrv) _ 1 1 [.pointer (some ⟨_, 0, none⟩)] rfl rfl u1.drew r1.drew (by simp [Value.oneCell']) (by unfold maxLen; omega) (by omega) ?_) | (refine step_append_sat rfl _ _ 57 56 (.pointer none) 1 8 rfl Try.underlying57 Try.info56 rfl (by decide) _ ps'.length (ps'.map ptrv) _ 1 1 [.pointer (some ⟨_, 0, none⟩)] rfl rfl u2 r2 (by simp [Value.oneCell']) (by unfold maxLen; omega) (by omega) ?_)); intro v9 w9 t2; obtain ⟨A9, c9, rfl, _, _, _⟩ := t2.reads; have d0 := t2.right.free_blk (i := 1); have d1 := t2.right.cell_blk (i := 1); simp only [List.getElem?_toArray, List.getElem?_cons_zero, List.getElem?_cons_succ] at d1))
        all_goals
          have Q := hid (put_ptrs (L := es) (ps := ps' ++ [pi]) (by simp) (by simp [ptrv]) t2)
          clear t2 u1 u2 r1 r2 s7 s8 ih1 ih2
          go_wp2
          go_meet
          refine ⟨pi, .slice A9 (ps'.length + 1) c9, ?_⟩
          rw [HKI.out, HSN.out pi, HST.out]
          exact Q.out.eq (by ac_rfl)
      case rest =>
        obtain ⟨pi, v3, hq2⟩ := hcut
        clear hq s6 ih1 ih2 z1
        go_wp2_with fail
        go_roundw
        case rel => exact ⟨i + 1, ps' ++ [pi], v3, by omega, by go_num, by rw [List.length_append, HPS.out]; rfl, hq2⟩
        case measure => simp [intOf]; omega
    · obtain rfl : i = qs.length := by omega
      have hid1 : ¬ (qs.length : Int) < (qs.length : Int) := by omega
      rw [List.take_of_length_le (by have := HQL.out; omega)] at hq
      have H := hid hq
      clear hq hlt
      go_wp2_with fail
      go_ret
      refine ⟨p, rfl, ?_⟩
      have r1 := H.out.node_shut
      have r2 : Sat E (tree (h + 1) p (es, ks) * (nodeAt q (.slice A1 es.length c1) (.slice A2 qs.length c2) es qs * (stars (tree h) qs ks * F))) _ := Sat.tree_shut (h := h + 1) (t := (es, ks)) (qs := ps') (L := es) rfl r1
      have r3 := (r2.eq (star_left_comm _ _ _)).node_shut
      have r4 := Sat.tree_shut (h := h + 1) (t := (es, ks)) (qs := qs) (L := es) rfl (r3.eq (show _ = node q es qs * (kids (h + 1) qs (es, ks) * (tree (h + 1) p (es, ks) * F)) by
        show _ * (tree (h + 1) p (es, ks) * (stars (tree h) qs ks * F)) = _ * (stars (tree h) qs ks * _)
        ac_rfl))
      exact r4.eq (star_left_comm _ _ _)
/-- copied: every height. -/
theorem copied35 {E : World} {lo hi : Nat} (hhi : hi ≤ 63) : ∀ (h : Nat) {w : World} {F : Asn} (q : Nat) (t : Tr h), okT lo hi h t → (ownE h t).length ≤ 900 → Sat E (tree h q t * F) w → Calls Try.prog 35 #[ptrv q] w (CopyPost E F h q t) := by
  intro h
  induction h with
  | zero =>
    intro w F q t _ hl hS
    obtain ⟨qs, s1⟩ := hS.tree_open
    obtain ⟨rfl, s2⟩ := Sat.pur_left (s1.eq (star_left_comm _ _ _))
    refine (copied_leaf q (ownE 0 t) (by omega) s2).mono ?_
    rintro r w' ⟨p, rfl, q1⟩
    refine ⟨p, rfl, ?_⟩
    refine Sat.tree_shut (h := 0) (t := t) (qs := []) rfl ?_
    refine ((Sat.add_pur (p := ([] : List Nat) = []) ?_ rfl)).eq (star_left_comm _ _ _)
    refine Sat.eq ?_ (star_comm _ _)
    refine (Sat.eq (Sat.tree_shut (h := 0) (t := t) (qs := []) rfl ?_) (show tree 0 q t * (F * node p (ownE 0 t) []) = (tree 0 q t * F) * node p (ownE 0 t) [] from (star_assoc _ _ _).symm))
    exact (Sat.add_pur (p := ([] : List Nat) = []) (q1.eq (show _ = node q (ownE 0 t) [] * (F * node p (ownE 0 t) []) by ac_rfl)) rfl).eq (star_left_comm _ _ _)
  | succ h ih =>
    intro w F q t hok hl hS
    have hk : t.2.length = t.1.length + 1 := hok.1
    have hl : t.1.length ≤ 900 := hl
    exact copied_deep q t.1 t.2 (fun q k hk hs => ih q k (hok.2 k hk).2.2 (by have := (hok.2 k hk).2.1; omega) hs) (by omega) (by omega) hS
set_option maxRecDepth 100000 in
set_option maxHeartbeats 4000000 in
theorem copy21 {E w : World} {F : Asn} (T m : Nat) (L : List Ent) (hm3 : 3 ≤ m) (hm : m ≤ 64) (hS : Sat E (dir T m L * F) w) :
    Calls Try.prog 21 #[ptrv T] w fun r w' => ∃ C, r = .returned (ptrv C) ∧ Sat E (dir C m L * (dir T m L * F)) w' := by
  obtain ⟨h, r, t, hs, s1⟩ := hS.dir_open
  have s2 := s1.eq (show _ = blk T (.cells #[.int .i64 m, ptrv r, .int .i64 L.length] 61) * (tree h r t * F) by unfold top; ac_rfl)
  obtain ⟨t0, t1, t2, _, _⟩ := three_cells s2
  have c1 := copied35 (lo := (m - 1) / 2) (hi := m - 1) (by omega) h r t hs.ok (by have := hs.most; omega) s1
  have c2 := copied35 (lo := (m - 1) / 2) (hi := m - 1) (by omega) h r t hs.ok (by have := hs.most; omega) s1.drew
  have HS := hid hs
  unfold CopyPost ptrv at c1 c2
  unfold ptrv at t1 ⊢
  clear hS s1 s2 hs
  go_enter Try.func21, Try.ntmps21
  go_wp2_with fail
  go_region_law (first | (go_simp; go_at_call 35; first | refine c1.mono ?_ | refine c2.mono ?_); rintro e w3 ⟨p, rfl, s7⟩; obtain ⟨t0', t1', t2', _, _⟩ := three_cells (s7.eq (show _ = blk T (.cells #[.int .i64 m, ptrv r, .int .i64 L.length] 61) * (tree h p t * (tree h r t * F)) by unfold top ptrv; ac_rfl)); unfold ptrv at t1')
  all_goals
    have s8 := s7.alloc (.cells #[.int .i64 m, .pointer (some ⟨p, 0, none⟩), .int .i64 L.length] 61)
    have s9 : Sat E (dir w3.heap.size m L * (dir T m L * F)) (w3.alloc (.cells #[.int .i64 m, .pointer (some ⟨p, 0, none⟩), .int .i64 L.length] 61)) := by
      refine Sat.dir_shut (r := p) HS.out ?_
      have k1 : Sat E (tree h r t * (top T m (ptrv r) (.int .i64 L.length) * (tree h p t * (top w3.heap.size m (ptrv p) (.int .i64 L.length) * F)))) (w3.alloc (.cells #[.int .i64 m, .pointer (some ⟨p, 0, none⟩), .int .i64 L.length] 61)) := s8.eq (by unfold top ptrv; ac_rfl)
      exact (Sat.dir_shut (r := r) HS.out k1).eq (by ac_rfl)
    have Q := hid s9
    clear s7 s8 s9 c1 c2
    go_wp2_with fail
    go_ret
    exact ⟨_, rfl, by first | exact Q.out | exact Q.out.drew⟩
end Go.Proofs.Ytobgfdongidaaaa
