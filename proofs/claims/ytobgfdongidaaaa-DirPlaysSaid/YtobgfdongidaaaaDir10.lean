import Derived.Test.YtobgfdongidaaaaDir6
import Derived.Deep.RegionLaw
namespace Go.Proofs.Ytobgfdongidaaaa
set_option linter.unusedVariables false
set_option linter.unusedSimpArgs false
open Go.RowKit Go.Proofs.Sep Go.Lib

def entv (e : Ent) : Value := .agg #[.string e.1, .int .i64 e.2]
set_option maxRecDepth 100000 in
set_option maxHeartbeats 4000000 in
theorem put_hit {E w : World} {F : Asn} {lo hi h : Nat} (T p : Nat) (t : Tr h) (e : Ent) (hr : Rises (inord h t)) (hok : okT lo hi h t) (hsz : (inord h t).length ≤ 999998) (hk : hasKey e.1 (ownE h t) = true)
    (hS : Sat E (tree h p t * F) w) :
    Calls Try.prog 33 #[ptrv T, ptrv p, entv e] w fun r w' => r = .returned (.bool false) ∧
      Sat E (tree h p (setOwn h t ((ownE h t).set (ahead e.1 (ownE h t)) e)) * F) w' ∧ insR e (inord h t) = inord h (setOwn h t ((ownE h t).set (ahead e.1 (ownE h t)) e)) := by
  have hrL := own_rises hr
  have hle := own_le t
  obtain ⟨hiL, hke⟩ := (has_spec hrL).1 hk
  have HRES := hid (inord_set hok hr e hiL hke).symm
  have HSET := hid (ents_set e hiL)
  obtain ⟨qs, s1⟩ := hS.tree_open
  have HSH := hid (fun (w : World) (L : List Ent) (hs : Sat E (node p L qs * (kids h qs t * F)) w) => Sat.tree_shut (t := setOwn h t L) (qs := qs) (own_setOwn h t L).symm (hs.eq (by rw [kids_setOwn])))
  generalize hL : ownE h t = L at *
  obtain ⟨A1, c1, A2, c2, g1, g2, s2⟩ := s1.node_open
  have s3 := s2.alloc (.cells #[.string e.1, .int .i64 e.2] 25)
  have y0 := (node_facts rfl rfl s3.right).1
  have hcall := find29 p A1 c1 L e.1 hrL (by omega) s3 (fun w h => (node_facts rfl rfl h.right).2.2.2.2.1) y0
  generalize hi0 : ahead e.1 L = i at *
  rw [hk] at hcall
  obtain ⟨e1, e2⟩ := e
  unfold entv ptrv
  simp only at *
  generalize hb : w.heap.size = b at *
  clear hke hi0 hrL hk hr hok s2 s1 hS
  go_enter Try.func33, Try.ntmps33
  go_wp2_with fail
  refine hcall.mono ?_
  clear hcall y0 s3
  rintro e w1 ⟨rfl, s4⟩
  have s5 : Sat E (row 25 2 (.slice A1 L.length c1) L.length (ents L) * (blk b (.cells #[.string e1, .int .i64 e2] 25) * (blk p (.cells #[.slice A1 L.length c1, .slice A2 qs.length c2] 59) * (row 56 1 (.slice A2 qs.length c2) qs.length (qs.map ptrv) * (kids h qs t * F))))) w1 := s4.eq (by
    rw [nodeAt_eq p]
    ac_rfl)
  obtain ⟨g, c, hv, _, _⟩ := s5.row_head (by omega)
  injection hv with hv _ hc1
  subst hv
  subst hc1
  obtain ⟨b0, b1, _, _⟩ := two_cells s5.right
  obtain ⟨x0, x1, _, _⟩ := two_cells s5.right.right
  have fz := fun i => s5.row_free i
  have a0 := s5.row_cell (i * 2) (by omega)
  have a1 := s5.row_cell (i * 2 + 1) (by omega)
  rw [(ents_at hiL).1] at a0
  rw [(ents_at hiL).2] at a1
  have hii : (i : Int) < (L.length : Int) := by omega
  clear s4
  go_wp2_with fail
  refine wp_region_tail 7 (by kernel_rfl) (by kernel_rfl) ?_
  simp only [List.take_succ_cons, List.take_zero, List.drop_succ_cons, List.drop_zero]
  repeat still_step
  refine wpStill_nil ?_
  go_wp2_with fail
  go_ret
  have q1 := ((s5.row_store (i * 2) (.string e1)).row_store (i * 2 + 1) (.int .i64 e2)).drew
  rw [← HSET.out] at q1
  have q2 : Sat E (nodeAt p (.slice (some ⟨g, 0, none⟩) L.length c1) (.slice A2 qs.length c2) (L.set i (e1, e2)) qs * (kids h qs t * F)) ((w1.setCell ⟨g, i * 2, none⟩ (.string e1)).setCell ⟨g, i * 2 + 1, none⟩ (.int .i64 e2)).drew := q1.drop_mid.eq (by
    rw [nodeAt_eq p, List.length_set]
    ac_rfl)
  exact ⟨rfl, HSH.out _ _ q2.node_shut, HRES.out⟩

set_option maxRecDepth 100000 in
set_option maxHeartbeats 8000000 in
theorem put_leaf {E w : World} {F : Asn} (T p : Nat) (L : List Ent) (e : Ent) (hr : Rises L) (hsz : L.length ≤ 999998) (hk : hasKey e.1 L = false)
    (hS : Sat E (node p L [] * F) w) :
    Calls Try.prog 33 #[ptrv T, ptrv p, entv e] w fun r w' => r = .returned (.bool true) ∧ Sat E (node p (insAt (ahead e.1 L) [e] L) [] * F) w' := by
  have hiL := ahead_le e.1 L
  obtain ⟨A1, c1, A2, c2, g1, g2, s2⟩ := hS.node_open
  have s3 := s2.alloc (.cells #[.string e.1, .int .i64 e.2] 25)
  have y0 := (node_facts rfl rfl s3.right).1
  have hcall := find29 p A1 c1 L e.1 hr (by omega) s3 (fun w h => (node_facts rfl rfl h.right).2.2.2.2.1) y0
  generalize hi0 : ahead e.1 L = i at *
  rw [hk] at hcall
  obtain ⟨e1, e2⟩ := e
  unfold entv ptrv
  simp only at *
  generalize hb : w.heap.size = b at *
  clear hi0 hk hr s2 hS
  have hz : ((([] : List Nat).length : Int) == 0) = true := rfl
  go_enter Try.func33, Try.ntmps33
  go_wp2_with fail
  refine hcall.mono ?_
  clear hcall y0 s3
  rintro e w1 ⟨rfl, s4⟩
  obtain ⟨x0, x1, _, _, _, _⟩ := node_facts rfl rfl s4.right
  obtain ⟨b0, b1, _, _⟩ := two_cells s4
  have hlf := leaf30 p 0 c2 A2 x1
  have z0 : (((0 : Nat) : Int) == 0) = true := rfl
  go_wp2_with fail
  refine hlf.mono ?_
  clear hlf
  rintro e w2 ⟨rfl, rfl⟩
  go_wp2_with fail
  have s6 := (s4.alloc (.cells #[.string e1, .int .i64 e2] 25)).drew
  have s7 : Sat E (row 25 2 (.slice A1 L.length c1) L.length (ents L) * (blk w2.heap.size (.cells [.string e1, .int .i64 e2].toArray 25) * (blk p (.cells #[.slice A1 L.length c1, .slice A2 0 c2] 59) * (row 56 1 (.slice A2 0 c2) ([] : List Nat).length (([] : List Nat).map ptrv) * (blk b (.cells #[.string e1, .int .i64 e2] 25) * F))))) (w2.alloc (.cells #[.string e1, .int .i64 e2] 25)).drew := s6.eq (by
    rw [nodeAt_eq p]
    exact (show _ = _ by ac_rfl))
  have s8 : Sat E _ (w2.drew.alloc (.cells #[.string e1, .int .i64 e2] 25)) := s7
  have hins := insEnt (.slice A1 L.length c1) L.length i w2.heap.size (ents L) [.string e1, .int .i64 e2] hiL (by omega) rfl (by simp [Value.oneCell']) (ents_one L) s7
  have hins2 := insEnt (.slice A1 L.length c1) L.length i w2.heap.size (ents L) [.string e1, .int .i64 e2] hiL (by omega) rfl (by simp [Value.oneCell']) (ents_one L) s8
  have x9 : (w2.alloc (.cells #[.string e1, .int .i64 e2] 25)).cell? ⟨p, 0, none⟩ = some (.slice A1 L.length c1) := (two_cells s7.right.right).1
  clear s4 s6 s7 s8
  go_region_law (first | (go_simp; go_at_call 42; first | refine hins.mono ?_ | refine hins2.mono ?_); rintro e w3 ⟨v7, rfl, q1⟩; obtain ⟨A7, c7, rfl, g7, _, _⟩ := q1.reads; have d0 := q1.right.right.free_blk (i := 0); have d1 := q1.right.right.cell_blk (i := 0); simp only [List.getElem?_toArray, List.getElem?_cons_zero, List.getElem?_cons_succ] at d1)
  all_goals
    have q2 : Sat E (blk p (.cells #[.slice A7 (L.length + 1) c7, .slice A2 0 c2] 59) * _) (w3.setCell ⟨p, 0, none⟩ (.slice A7 (L.length + 1) c7)) := (q1.drop_mid.eq (star_left_comm _ _ _)).setCell (i := 0) _
    have q3 : Sat E (nodeAt p (.slice A7 (L.length + 1) c7) (.slice A2 0 c2) (insAt i [(e1, e2)] L) [] * (blk b (.cells #[.string e1, .int .i64 e2] 25) * F)) (w3.setCell ⟨p, 0, none⟩ (.slice A7 (L.length + 1) c7)) := q2.eq (by
      rw [nodeAt_eq p, ents_ins, insAt_length L _ i hiL]
      ac_rfl)
    have Q4 := hid (q3.drop_mid.node_shut)
    clear q1 q2 q3 hins hins2
    go_wp2_with fail
    go_ret
    exact ⟨rfl, Q4.out⟩
end Go.Proofs.Ytobgfdongidaaaa
