import Derived.Test.YtobgfdongidaaaaDir11
namespace Go.Proofs.Ytobgfdongidaaaa
set_option linter.unusedVariables false
set_option linter.unusedSimpArgs false
open Go.RowKit Go.Proofs.Sep Go.Lib

/-- What a directory's tree is. -/
structure Shape (m h : Nat) (t : Tr h) (L : List Ent) : Prop where
  ord : inord h t = L
  rises : Rises L
  ok : okT ((m - 1) / 2) (m - 1) h t
  most : (ownE h t).length ≤ m - 1
  least : 0 < h → 1 ≤ (ownE h t).length
def dirAt (T m h r : Nat) (t : Tr h) (L : List Ent) : Asn := tree h r t * top T m (ptrv r) (.int .i64 L.length)
def dir (T m : Nat) (L : List Ent) : Asn := ex fun h => ex fun r => ex fun t => pur (Shape m h t L) * dirAt T m h r t L
theorem _root_.Go.Proofs.Sep.Sat.dir_open {E w : World} {F : Asn} {T m : Nat} {L : List Ent} (h : Sat E (dir T m L * F) w) : ∃ h r, ∃ t : Tr h, Shape m h t L ∧ Sat E (tree h r t * (top T m (ptrv r) (.int .i64 L.length) * F)) w := by
  obtain ⟨h, h1⟩ := h.ex_left
  obtain ⟨r, h1⟩ := h1.ex_left
  obtain ⟨t, h1⟩ := h1.ex_left
  obtain ⟨h2, h3⟩ := (h1.eq (star_assoc _ _ _)).pur_left
  exact ⟨h, r, t, h2, h3.eq (star_assoc _ _ _)⟩
theorem _root_.Go.Proofs.Sep.Sat.dir_shut {E w : World} {F : Asn} {T m h r : Nat} {t : Tr h} {L : List Ent} (hs : Shape m h t L) (h1 : Sat E (tree h r t * (top T m (ptrv r) (.int .i64 L.length) * F)) w) : Sat E (dir T m L * F) w := by
  refine Sat.intro_left h (Sat.intro_left r (Sat.intro_left t ?_))
  exact ((h1.eq (star_assoc _ _ _).symm).add_pur hs).eq (star_assoc _ _ _).symm
theorem three_cells {E w : World} {F : Asn} {p e : Nat} {a b c : Value} (h : Sat E (blk p (.cells #[a, b, c] e) * F) w) : w.cell? ⟨p, 0, none⟩ = some a ∧ w.cell? ⟨p, 1, none⟩ = some b ∧ w.cell? ⟨p, 2, none⟩ = some c ∧ w.frozen? ⟨p, 1, none⟩ = false ∧ w.frozen? ⟨p, 2, none⟩ = false :=
  ⟨by rw [h.cell_blk]; rfl, by rw [h.cell_blk]; rfl, by rw [h.cell_blk]; rfl, h.free_blk, h.free_blk⟩
/-- The new top. -/
theorem shape_top {m h : Nat} {k : Tr h} {L : List Ent} {a b : Tr h} {x : Ent} (hm3 : 3 ≤ m) (h1 : inord h k = L) (h2 : Rises L) (h3 : inord h k = inord h a ++ x :: inord h b) (oa : okT ((m - 1) / 2) (m - 1) h a) (ob : okT ((m - 1) / 2) (m - 1) h b)
    (a1 : (m - 1) / 2 ≤ (ownE h a).length) (a2 : (ownE h a).length ≤ m - 1) (b1 : (m - 1) / 2 ≤ (ownE h b).length) (b2 : (ownE h b).length ≤ m - 1) : Shape m (h + 1) (([x], [a, b]) : Tr (h + 1)) L where
  ord := by
    rw [← h1, h3]
    show inord h a ++ x :: ([inord h b].flatten) = _
    simp
  rises := h2
  ok := ⟨rfl, fun k hk => by
    rcases List.mem_cons.1 hk with rfl | hk
    · exact ⟨a1, a2, oa⟩
    · rcases List.mem_cons.1 hk with rfl | hk
      · exact ⟨b1, b2, ob⟩
      · cases hk⟩
  most := by show 1 ≤ m - 1; omega
  least := fun _ => Nat.le_refl _

set_option maxRecDepth 100000 in
set_option maxHeartbeats 8000000 in
theorem put20 {E w : World} {F : Asn} (T m : Nat) (L : List Ent) (e : Ent) (hm3 : 3 ≤ m) (hm : m ≤ 64) (hsz : L.length ≤ 999998) (hS : Sat E (dir T m L * F) w) :
    Calls Try.prog 20 #[ptrv T, .string e.1, .int .i64 e.2] w fun r w' => r = .returned (.bool (!hasKey e.1 L)) ∧ Sat E (dir T m (insR e L) * F) w' := by
  obtain ⟨h, r, t, hs, s1⟩ := hS.dir_open
  obtain ⟨q1, q2, q3, q4, q5⟩ := hs
  have hput := put33 T m (ptrv r) (.int .i64 L.length) hm3 hm rfl rfl e h r t (by rw [q1]; exact q2) q3 (by rw [q1]; exact hsz) s1
  have hlen := insR_length e L q2
  have hris := insR_rises e L q2
  obtain ⟨t0, t1, t2, f1, f2⟩ := three_cells (s1.eq (show _ = blk T (.cells #[.int .i64 m, ptrv r, .int .i64 L.length] 61) * (tree h r t * F) by unfold top; ac_rfl))
  unfold entv ptrv at hput
  unfold ptrv at t1 ⊢
  clear hS s1
  go_enter Try.func20, Try.ntmps20
  go_wp2_with fail
  refine hput.mono ?_
  clear hput t0 t1 t2 f1 f2
  rintro e' w1 ⟨rfl, t', p1, p2, p3, p4, s2⟩
  rw [q1] at p1 ⊢
  obtain ⟨t0, t1, t2, f1, f2⟩ := three_cells (s2.eq (show _ = blk T (.cells #[.int .i64 m, ptrv r, .int .i64 L.length] 61) * (tree h r t' * F) by unfold top ptrv; ac_rfl))
  unfold ptrv at t1
  generalize hB : (!hasKey e.1 L) = B at *
  go_wp2_with fail
  have b1 := s2.row_alloc [ptrv r] 56 1 1 rfl (by unfold maxLen; omega)
  have b2 := b1.alloc (.cells #[.slice none 0 0, .slice (some ⟨w1.heap.size, 0, none⟩) 1 1] 59)
  have hpz : (w1.alloc (.cells [ptrv r].toArray 56)).heap.size = w1.heap.size + 1 := Array.size_push ..
  rw [hpz] at b2
  have b3 : Sat E (row 25 2 (.slice none 0 0) 0 [] * _) _ := b2.row_nil
  have b4 : Sat E (nodeAt (w1.heap.size + 1) (.slice none 0 0) (.slice (some ⟨w1.heap.size, 0, none⟩) 1 1) [] [r] * (stars (tree h) [r] ([] ++ t' :: []) * (top T m (ptrv r) (.int .i64 L.length) * F))) ((w1.alloc (.cells #[ptrv r] 56)).alloc (.cells #[.slice none 0 0, .slice (some ⟨w1.heap.size, 0, none⟩) 1 1] 59)) := b3.eq (by
    rw [nodeAt_eq]
    show _ = _ * ((tree h r t' * emp) * _)
    rw [star_emp]
    show row 25 2 (.slice none 0 0) ([] : List Ent).length (ents []) * (blk (w1.heap.size + 1) _ * (row 56 1 (.slice (some ⟨w1.heap.size, 0, none⟩) 1 1) ([r] : List Nat).length ([r].map ptrv) * (tree h r t' * (top T m (ptrv r) (.int .i64 L.length) * F)))) = _
    ac_rfl)
  have hsp := split_tree T m (w1.heap.size + 1) ((m - 1) / 2) (m - 1) h 0 (ptrv r) (.int .i64 L.length) [] [r] [] [] t' hm3 rfl rfl rfl rfl p2 (by omega) hm (by simp) b4.node_shut
  have HPZ : ∃ p, p = w1.heap.size + 1 := ⟨_, rfl⟩
  obtain ⟨p, hp⟩ := HPZ
  rw [← hp] at hsp ⊢
  have hqr : (ownE h t').length ≤ m := by omega
  clear b1 b2 b3 b4 s2 t0 t1 t2 f1 f2 hpz
  refine hsp.mono ?_
  clear hsp
  rintro e' w2 ⟨⟨v, rfl⟩, es', ps', K, S, hps, s3⟩
  obtain ⟨A1, c1, A2, c2, g1, g2, s4⟩ := s3.node_open
  obtain ⟨y0, _, _, _⟩ := node_facts rfl rfl s4
  obtain ⟨t0, t1, t2, f1, f2⟩ := three_cells (s3.eq (show _ = blk T (.cells #[.int .i64 m, ptrv r, .int .i64 L.length] 61) * (node p es' ps' * (stars (tree h) ps' ([] ++ (K ++ [])) * F)) by unfold top; ac_rfl))
  unfold ptrv at t1
  clear s4 hp
  rcases S.or with ⟨rfl, rfl, o1⟩ | ⟨o1, xa, xb, x, rfl, rfl, o2, o3, o4, o5, o6, o7, o8⟩
  · obtain rfl := hps rfl
    obtain ⟨H, R, TT, rfl, rfl, hshape, hfin⟩ : ∃ H R, ∃ TT : Tr H, H = h ∧ R = r ∧ Shape m H TT (insR e L) ∧ Sat E (blk T (.cells #[.int .i64 m, ptrv r, .int .i64 L.length] 61) * (tree H R TT * F)) w2 := ⟨h, r, t', rfl, rfl, ⟨p1, hris, p2, o1, fun hp => by have := q5 hp; omega⟩, by
      have s5 : Sat E (node p [] [r] * ((tree h r t' * emp) * (top T m (ptrv r) (.int .i64 L.length) * F))) w2 := s3
      rw [star_emp] at s5
      exact s5.right.eq (by unfold top; ac_rfl)⟩
    clear s3 hps
    cases B
    · have hh : hasKey e.1 L = true := by cases hx : hasKey e.1 L <;> simp [hx] at hB ⊢
      rw [hh] at hlen
      have ws := i64_wrap (x := (L.length : Int) + 1) (by omega) (by omega)
      go_wp2_with fail
      go_ret
      refine ⟨by rw [hh]; rfl, ?_⟩
      have k0 : Sat E (blk T (.cells #[.int .i64 m, ptrv R, .int .i64 L.length] 61) * (tree H R TT * F)) w2 := hfin
      refine Sat.dir_shut (r := R) hshape ?_
      rw [show ((insR e L).length : Int) = (L.length : Int) by rw [hlen]; simp]
      exact k0.eq (by unfold top; ac_rfl)
    · have hh : hasKey e.1 L = false := by cases hx : hasKey e.1 L <;> simp [hx] at hB ⊢
      rw [hh] at hlen
      have ws := i64_wrap (x := (L.length : Int) + 1) (by omega) (by omega)
      go_wp2_with fail
      go_ret
      refine ⟨by rw [hh]; rfl, ?_⟩
      have k0 : Sat E (blk T (.cells #[.int .i64 m, ptrv R, .int .i64 L.length] 61) * (tree H R TT * F)) w2 := hfin
      have k2 : Sat E (blk T (.cells #[.int .i64 m, ptrv R, .int .i64 ((L.length : Int) + 1)] 61) * (tree H R TT * F)) _ := k0.setCell (i := 2) (.int .i64 ((L.length : Int) + 1))
      refine Sat.dir_shut (r := R) hshape ?_
      rw [show ((insR e L).length : Int) = (L.length : Int) + 1 by rw [hlen]; simp]
      exact k2.eq (by unfold top; ac_rfl)
  · have hshape : Shape m (h + 1) (([x], [xa, xb]) : Tr (h + 1)) (insR e L) := shape_top hm3 p1 hris o2 o3 o4 o5 o6 o7 o8
    obtain ⟨H, R, TT, hR, hshape, hfin⟩ : ∃ H R, ∃ TT : Tr H, R = p ∧ Shape m H TT (insR e L) ∧ Sat E (blk T (.cells #[.int .i64 m, ptrv r, .int .i64 L.length] 61) * (tree H R TT * F)) w2 := ⟨h + 1, p, ([x], [xa, xb]), rfl, hshape, by
      have s5 : Sat E (tree (h + 1) p (([x], [xa, xb]) : Tr (h + 1)) * (top T m (ptrv r) (.int .i64 L.length) * F)) w2 := Sat.tree_shut (h := h + 1) (t := (([x], [xa, xb]) : Tr (h + 1))) (qs := ps') (L := insAt 0 [x] []) rfl s3
      exact s5.eq (by unfold top; ac_rfl)⟩
    subst hR
    have hl1 : (insAt 0 [x] ([] : List Ent)).length = 1 := rfl
    rw [hl1] at y0
    clear s3 hps
    cases B
    · have hh : hasKey e.1 L = true := by cases hx : hasKey e.1 L <;> simp [hx] at hB ⊢
      rw [hh] at hlen
      have ws := i64_wrap (x := (L.length : Int) + 1) (by omega) (by omega)
      go_wp2_with fail
      go_ret
      refine ⟨by rw [hh]; rfl, ?_⟩
      have k0 : Sat E (blk T (.cells #[.int .i64 m, ptrv r, .int .i64 L.length] 61) * (tree H R TT * F)) w2 := hfin
      have k1 : Sat E (blk T (.cells #[.int .i64 m, ptrv R, .int .i64 L.length] 61) * (tree H R TT * F)) _ := k0.setCell (i := 1) (ptrv R)
      refine Sat.dir_shut (r := R) hshape ?_
      rw [show ((insR e L).length : Int) = (L.length : Int) by rw [hlen]; simp]
      exact k1.eq (by unfold top; ac_rfl)
    · have hh : hasKey e.1 L = false := by cases hx : hasKey e.1 L <;> simp [hx] at hB ⊢
      rw [hh] at hlen
      have ws := i64_wrap (x := (L.length : Int) + 1) (by omega) (by omega)
      go_wp2_with fail
      go_ret
      refine ⟨by rw [hh]; rfl, ?_⟩
      have k0 : Sat E (blk T (.cells #[.int .i64 m, ptrv r, .int .i64 L.length] 61) * (tree H R TT * F)) w2 := hfin
      have k1 : Sat E (blk T (.cells #[.int .i64 m, ptrv R, .int .i64 L.length] 61) * (tree H R TT * F)) _ := k0.setCell (i := 1) (ptrv R)
      have k2 : Sat E (blk T (.cells #[.int .i64 m, ptrv R, .int .i64 ((L.length : Int) + 1)] 61) * (tree H R TT * F)) _ := k1.setCell (i := 2) (.int .i64 ((L.length : Int) + 1))
      refine Sat.dir_shut (r := R) hshape ?_
      rw [show ((insR e L).length : Int) = (L.length : Int) + 1 by rw [hlen]; simp]
      exact k2.eq (by unfold top; ac_rfl)
end Go.Proofs.Ytobgfdongidaaaa
