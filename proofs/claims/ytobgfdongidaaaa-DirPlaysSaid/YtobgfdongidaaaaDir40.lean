import Derived.Test.YtobgfdongidaaaaDir39
import Derived.Test.YtobgfdongidaaaaDir25
import Derived.Laws.Rows
namespace Go.Proofs.Ytobgfdongidaaaa
set_option linter.unusedVariables false
set_option linter.unusedSimpArgs false
open Go.RowKit Go.Proofs.Sep Go.Lib

set_option maxRecDepth 100000 in
set_option maxHeartbeats 8000000 in
theorem last_leaf {E w : World} {F : Asn} (T p k : Nat) (L : List Ent) (Y : Ent) (hk : L.length = k + 1) (hY : L[k]? = some Y) (hl : L.length ≤ 1000000) (hS : Sat E (node p L [] * F) w) :
    Calls Try.prog 40 #[ptrv T, ptrv p] w fun e w' => e = .returned (entv Y) ∧ Sat E (node p (L.take k) [] * F) w' := by
  obtain ⟨hkk, hY⟩ := List.getElem?_eq_some_iff.1 hY
  obtain ⟨A1, c1, A2, c2, g1, g2, h1⟩ := hS.node_open
  obtain ⟨gp, _, hv, _, _⟩ := (h1.eq (ents_out ..)).row_head (by omega)
  injection hv with hv1 _ hv2
  subst hv1 hv2
  have hki : (k : Int) < (L.length : Int) := by omega
  have wk := i64_wrap (x := (k : Int)) (by omega) (by omega)
  have wk2 : (L.length : Int) - 1 = (k : Int) := by omega
  have h2 := h1.alloc (.cells #[.string ByteArray.empty, .int .i64 0] 25)
  obtain ⟨_, x1, _, _, _, _⟩ := node_facts rfl rfl h2.right
  have hlf := leaf30 p ([] : List Nat).length c2 A2 x1
  have z2 : ((([] : List Nat).length : Int) == 0) = true := rfl
  obtain ⟨Y1, Y2⟩ := Y
  have HK := hid hk
  have HY := hid hY
  unfold entv ptrv
  clear hk hY h1 hS x1
  go_enter Try.func40, Try.ntmps40
  go_wp2_with fail
  generalize hb0 : w.heap.size = b0 at *
  refine hlf.mono ?_
  clear hlf
  rintro e w8 ⟨rfl, rfl⟩
  generalize w.alloc _ = w8 at *
  go_upto_region 2 with fail
  go_cut [5] (fun v wc => ∃ b2, v = .pointer (some ⟨b2, 0, none⟩) ∧ Sat E (blk b2 (.cells #[.string Y1, .int .i64 Y2] 25) * (blk b0 (.cells #[.string ByteArray.empty, .int .i64 0] 25) * (nodeAt p (.slice (some ⟨gp, 0, none⟩) L.length c1) (.slice A2 ([] : List Nat).length c2) L [] * F))) wc)
  case first =>
    obtain ⟨x0, _, _, _, x4, _⟩ := node_facts rfl rfl h2.right
    obtain ⟨adn, hadn, e0, e1⟩ := cells_at x4 hkk
    cases hadn
    rw [HY.out] at e0 e1
    simp only [addr_plain] at e0 e1
    have h3 := h2.alloc (.cells #[.string ⟨#[]⟩, .int .i64 0] 25)
    obtain ⟨d0, d1, d2, d3⟩ := two_cells h3
    obtain ⟨x0', _, _, _, x4', _⟩ := node_facts rfl rfl h3.right.right
    obtain ⟨adn, hadn, e0', e1'⟩ := cells_at x4' hkk
    cases hadn
    rw [HY.out] at e0' e1'
    simp only [addr_plain] at e0' e1'
    have Q0 := h2.alloc (.cells #[.string Y1, .int .i64 Y2] 25)
    have Q := hid Q0
    clear Q0 h3 h2 x4 x4' HK HY
    go_region_law (fail)
    all_goals
      go_wp2
      go_meet
      exact ⟨_, rfl, by first | exact Q.out | exact Q.out.drew⟩
  case rest =>
    obtain ⟨b2, hv, h3⟩ := hcut
    subst hv
    clear h2
    go_upto_region 3 with fail
    go_cut [] (fun wc => Sat E (nodeAt p (.slice (some ⟨gp, 0, none⟩) k c1) (.slice A2 ([] : List Nat).length c2) (L.take k) [] * (blk b2 (.cells #[.string Y1, .int .i64 Y2] 25) * (blk b0 (.cells #[.string ByteArray.empty, .int .i64 0] 25) * F))) wc)
    case first =>
      have h6 := h3.eq (show _ = nodeAt p (.slice (some ⟨gp, 0, none⟩) L.length c1) (.slice A2 ([] : List Nat).length c2) L [] * (blk b2 (.cells #[.string Y1, .int .i64 Y2] 25) * (blk b0 (.cells #[.string ByteArray.empty, .int .i64 0] 25) * F)) by ac_rfl)
      obtain ⟨y0, _, y2, _, _, _⟩ := node_facts rfl rfl h6
      have hcut4 := fun W => cut_hi (P := Try.prog) 22 25 Try.underlying22 2 (by kernel_rfl) (some ⟨gp, 0, none⟩) L.length c1 k (by omega) W
      have Q := hid (put_ents (L := L.take k) (by rw [List.length_take]; omega) (ents_take L k).symm (row_cut (m := k) (by omega) (h6.eq (ents_out ..)))).drew
      clear h6 h3 HY HK
      go_wp2_with fail
      refine wp_region_tail 12 (by kernel_rfl) (by kernel_rfl) ?_
      simp only [List.take_succ_cons, List.take_zero, List.drop_succ_cons, List.drop_zero]
      repeat still_step
      refine wpStill_nil ?_
      go_wp2_with fail
      go_meet
      exact Q.out
    case rest =>
      clear h3
      have h4 := hcut.eq (show _ = blk b0 (.cells #[.string ByteArray.empty, .int .i64 0] 25) * (blk b2 (.cells #[.string Y1, .int .i64 Y2] 25) * (nodeAt p (.slice (some ⟨gp, 0, none⟩) k c1) (.slice A2 ([] : List Nat).length c2) (L.take k) [] * F)) by ac_rfl)
      obtain ⟨d0, d1, d2, d3⟩ := two_cells h4
      obtain ⟨f0, f1, _, _⟩ := two_cells h4.right
      have q1 : Sat E (blk b0 (.cells #[.string Y1, .int .i64 Y2] 25) * _) _ := (h4.setCell (i := 0) (.string Y1)).setCell (i := 1) (.int .i64 Y2)
      have Q := hid q1
      clear hcut h4 q1 HY HK
      go_wp2_with fail
      refine bodyPost_ret (results_cell_row rfl _ _ b0 25 #[.string Y1, .int .i64 Y2] (0, 0) _ rfl Q.out.at_blk Try.underlying25 rfl (by kernel_rfl)) rfl ?_
      exact ⟨rfl, Q.out.right.right.node_shut⟩
end Go.Proofs.Ytobgfdongidaaaa

namespace Go.Proofs.Ytobgfdongidaaaa
set_option linter.unusedVariables false
set_option linter.unusedSimpArgs false
open Go.RowKit Go.Proofs.Sep Go.Lib

theorem inord_last {h : Nat} (es : List Ent) (K1 : List (Tr h)) (k : Tr h) (hl : K1.length = es.length) : inord (h + 1) (es, K1 ++ k :: []) = wpre es (K1.map (inord h)) ++ inord h k := by
  show weave es ((K1 ++ k :: []).map (inord h)) = _
  rw [List.map_append, List.map_cons, List.map_nil, weave_at es _ _ _ (by simp [hl]), List.length_map, hl, List.take_length, List.drop_length]
  simp [wpost]
/-- What 'last' answers and leaves. -/
def LastPost (E : World) (F : Asn) (T m : Nat) (u1 u2 : Value) (lo hi h p : Nat) (t : Tr h) (r : Ending) (w' : World) : Prop :=
  ∃ (e : Ent) (t' : Tr h), r = .returned (entv e) ∧ inord h t = inord h t' ++ [e] ∧ okT lo hi h t' ∧ (ownE h t').length ≤ (ownE h t).length ∧ (ownE h t).length ≤ (ownE h t').length + 1 ∧ Sat E (tree h p t' * (top T m u1 u2 * F)) w'

set_option maxRecDepth 100000 in
set_option maxHeartbeats 8000000 in
theorem last_deep {E w : World} {F : Asn} {lo hi h : Nat} (T m p : Nat) (u1 u2 : Value) (hm3 : 3 ≤ m) (hm : m ≤ 64) (hlo : lo = (m - 1) / 2) (hhi : hi = m - 1) (es : List Ent) (ks : List (Tr h))
    (IH : ∀ {w : World} {F : Asn} (q : Nat) (k : Tr h), okT lo hi h k → 1 ≤ (ownE h k).length → (ownE h k).length ≤ 900 → Sat E (tree h q k * (top T m u1 u2 * F)) w →
      Calls Try.prog 40 #[ptrv T, ptrv q] w (LastPost E F T m u1 u2 lo hi h q k))
    (hok : okT lo hi (h + 1) (es, ks)) (hes : 1 ≤ es.length) (les : es.length ≤ 900)
    (hS : Sat E (tree (h + 1) p (es, ks) * (top T m u1 u2 * F)) w) :
    Calls Try.prog 40 #[ptrv T, ptrv p] w (LastPost E F T m u1 u2 lo hi (h + 1) p (es, ks)) := by
  have h1 : ks.length = es.length + 1 := hok.1
  obtain ⟨i, hi0⟩ : ∃ i, i = es.length := ⟨_, rfl⟩
  obtain ⟨K1, k, K2, rfl, hK⟩ := cut_list ks i 0 (by omega)
  simp only [List.length_append, List.length_cons] at h1
  obtain rfl : K2 = [] := List.eq_nil_of_length_eq_zero (by omega)
  have hkk := hok.2 k (by simp)
  obtain ⟨qs, s1⟩ := hS.tree_open
  have s1 : Sat E (node p es qs * (stars (tree h) qs (K1 ++ k :: []) * (top T m u1 u2 * F))) w := s1
  have hpl := stars_len (tree h) s1.right
  simp only [List.length_append, List.length_cons, List.length_nil] at hpl
  obtain ⟨P1, q, P2, rfl, hP1⟩ := cut_list qs K1.length 0 (by omega)
  have HST := hid (stars_app (tree h) P1 K1 (q :: P2) (k :: []) hP1)
  have HST2 := hid (fun k' => stars_app (tree h) P1 K1 (q :: P2) (k' :: []) hP1)
  have hq : (P1 ++ q :: P2)[i]? = some q := by rw [← hK, ← hP1]; simp
  have HLK := hid (fun (k' : Tr h) (a1 : okT lo hi h k') (a2 : lo ≤ (ownE h k').length + 1) (a3 : (ownE h k').length ≤ hi) => (⟨by simp; omega, fun x hx => hok.2 x (by simp [hx]), fun x hx => by simp at hx, a1, a2, a3⟩ : Lacks lo hi h es K1 k' []))
  have s2 := s1.alloc (.cells #[.string ByteArray.empty, .int .i64 0] 25)
  obtain ⟨A1, c1, A2, c2, g1, g2, s3⟩ := ((s2.eq (star_left_comm _ _ _))).node_open
  obtain ⟨_, x1, _, _, _, x5⟩ := node_facts rfl rfl s3
  obtain ⟨ad, rfl, xq⟩ := ptr_at x5 hq
  have hlf := leaf30 p (P1 ++ q :: P2).length c2 (some ad) x1
  have s4 := s3.node_shut
  rw [HST.out] at s4
  have s6 : Sat E (tree h q k * (top T m u1 u2 * (node p es (P1 ++ q :: P2) * (stars (tree h) P1 K1 * (stars (tree h) P2 [] * (blk w.heap.size (.cells #[.string ByteArray.empty, .int .i64 0] 25) * F)))))) (w.alloc (.cells #[.string ByteArray.empty, .int .i64 0] 25)) := s4.eq (by
    show _ * (_ * ((_ * (tree h q k * _)) * _)) = _
    ac_rfl)
  have hih := IH q k hkk.2.2 (by omega) (by omega) s6
  have hz : (((P1 ++ q :: P2).length : Int) == 0) = false := beq_eq_false_iff_ne.2 (by omega)
  have hii : (i : Int) < ((P1 ++ q :: P2).length : Int) := by omega
  have wi := i64_wrap (x := (i : Int)) (by omega) (by omega)
  have wi2 : ((P1 ++ q :: P2).length : Int) - 1 = (i : Int) := by omega
  have HALL := hid (And.intro hkk (And.intro hi0 (And.intro hK (And.intro hes les))))
  have hKE : K1.length = es.length := by omega
  have HKE := hid hKE
  generalize hQ : P1 ++ q :: P2 = Q at *
  clear hQ IH hok hes hi0 hK h1 hpl hP1 hS s1 s2 s3 s4 s6 x5 g1 g2 hq hkk hKE
  unfold ptrv at hih xq ⊢
  go_enter Try.func40, Try.ntmps40
  go_wp2_with fail
  generalize hb0 : w.heap.size = b0 at *
  refine hlf.mono ?_
  clear hlf
  rintro e w8 ⟨rfl, rfl⟩
  generalize w.alloc _ = w8 at *
  go_wp2_with fail
  refine hih.mono ?_
  clear hih x1 xq
  rintro e' w3 ⟨⟨Y1, Y2⟩, k', rfl, p1, p2, p3, p4, s7⟩
  unfold entv
  have s8 : Sat E (node p es Q * (stars (tree h) Q (K1 ++ k' :: []) * (top T m u1 u2 * (blk b0 (.cells #[.string ByteArray.empty, .int .i64 0] 25) * F)))) w3 := s7.eq (by
    rw [HST2.out]
    show _ = _ * ((_ * (tree h q k' * _)) * _)
    ac_rfl)
  have s9 := (s8.alloc (.cells #[.string Y1, .int .i64 Y2] 25)).eq (show _ = node p es Q * (stars (tree h) Q (K1 ++ k' :: []) * (top T m u1 u2 * (blk w3.heap.size (.cells #[.string Y1, .int .i64 Y2] 25) * (blk b0 (.cells #[.string ByteArray.empty, .int .i64 0] 25) * F)))) by ac_rfl)
  have hfl := fill41 T m p i u1 u2 hm3 hm hlo hhi es Q K1 [] k' (HLK.out k' p2 (by have := HALL.out.1.1; omega) (by have := HALL.out.1.2.1; omega)) HALL.out.2.2.1 HALL.out.2.2.2.1 HALL.out.2.2.2.2 s9
  have HP := hid p1
  clear p1 p2 p3 p4 s7 s8 s9
  unfold ptrv at hfl
  go_wp2_with fail
  generalize hb7 : w3.heap.size = b7 at *
  refine hfl.mono ?_
  clear hfl
  rintro e' w5 ⟨⟨v, rfl⟩, es', ps', ks', HF, s10⟩
  have h4 := s10.eq (show _ = blk b0 (.cells #[.string ByteArray.empty, .int .i64 0] 25) * (blk b7 (.cells #[.string Y1, .int .i64 Y2] 25) * (node p es' ps' * (stars (tree h) ps' ks' * (top T m u1 u2 * F)))) by ac_rfl)
  obtain ⟨d0, d1, d2, d3⟩ := two_cells h4
  obtain ⟨f0, f1, _, _⟩ := two_cells h4.right
  have q1 : Sat E (blk b0 (.cells #[.string Y1, .int .i64 Y2] 25) * _) _ := (h4.setCell (i := 0) (.string Y1)).setCell (i := 1) (.int .i64 Y2)
  have Q1 := hid q1
  have HFF := hid HF
  clear s10 h4 q1 HF
  go_wp2_with fail
  refine bodyPost_ret (results_cell_row rfl _ _ b0 25 #[.string Y1, .int .i64 Y2] (0, 0) _ rfl Q1.out.at_blk Try.underlying25 rfl (by kernel_rfl)) rfl ?_
  refine ⟨(Y1, Y2), (es', ks'), rfl, ?_, HFF.out.ok, HFF.out.le, HFF.out.ge, ?_⟩
  · rw [HFF.out.ord, inord_last es K1 k HKE.out, inord_last es K1 k' HKE.out, HP.out, List.append_assoc]
  · exact Sat.tree_shut (h := h + 1) (t := (es', ks')) (qs := ps') (L := es') rfl Q1.out.right.right
/-- last: every height. -/
theorem last40 {E : World} {lo hi : Nat} (T m : Nat) (u1 u2 : Value) (hm3 : 3 ≤ m) (hm : m ≤ 64) (hlo : lo = (m - 1) / 2) (hhi : hi = m - 1) :
    ∀ (h : Nat) {w : World} {F : Asn} (p : Nat) (t : Tr h), okT lo hi h t → 1 ≤ (ownE h t).length → (ownE h t).length ≤ 900 → Sat E (tree h p t * (top T m u1 u2 * F)) w →
      Calls Try.prog 40 #[ptrv T, ptrv p] w (LastPost E F T m u1 u2 lo hi h p t) := by
  intro h
  induction h with
  | zero =>
    intro w F p t _ ho hl hS
    obtain ⟨qs, s1⟩ := hS.tree_open
    obtain ⟨rfl, s2⟩ := Sat.pur_left (s1.eq (star_left_comm _ _ _))
    obtain ⟨k, hk⟩ : ∃ k, (ownE 0 t).length = k + 1 := ⟨(ownE 0 t).length - 1, by omega⟩
    have hkk : k < (ownE 0 t).length := by omega
    refine (last_leaf T p k (ownE 0 t) _ hk (List.getElem?_eq_getElem hkk) (by omega) s2).mono ?_
    rintro r w' ⟨rfl, q1⟩
    refine ⟨_, List.take k (ownE 0 t), rfl, ?_, trivial, ?_, ?_, ?_⟩
    · show ownE 0 t = (ownE 0 t).take k ++ [(ownE 0 t)[k]]
      rw [← List.take_succ_eq_append_getElem hkk, List.take_of_length_le (by omega)]
    · show ((ownE 0 t).take k).length ≤ (ownE 0 t).length
      rw [List.length_take]; omega
    · show (ownE 0 t).length ≤ ((ownE 0 t).take k).length + 1
      rw [List.length_take]; omega
    · refine Sat.tree_shut (h := 0) (t := List.take k (ownE 0 t)) (qs := []) rfl ?_
      exact (q1.add_pur (p := ([] : List Nat) = []) rfl).eq (star_left_comm _ _ _)
  | succ h ih =>
    intro w F p t hok ho hl hS
    exact last_deep T m p u1 u2 hm3 hm hlo hhi t.1 t.2 (fun q k => ih q k) hok ho hl hS
end Go.Proofs.Ytobgfdongidaaaa
