import Derived.Test.YtobgfdongidaaaaDir36
namespace Go.Proofs.Ytobgfdongidaaaa
set_option linter.unusedVariables false
set_option linter.unusedSimpArgs false
open Go.RowKit Go.Proofs.Sep Go.Lib

theorem least47q {w : World} {n k : Nat} (T m m1 lo : Nat) (h1 : m = m1 + 1) (h2 : lo = m1 / 2) (hm : m ≤ 64) (h : w.cell? ⟨T, 0, none⟩ = some (.int .i64 m)) : Calls Try.prog 47 #[.pointer (some ⟨T, 0, none⟩)] (w.drewN (k + n)) fun e w' => e = .returned (.int .i64 lo) ∧ ∃ n, w' = w.drewN (k + n) :=
  (least47 (w := w.drewN (k + n)) T m m1 lo h1 h2 hm h).mono fun _ _ ⟨h1, h2⟩ => ⟨h1, n, h2⟩
set_option maxRecDepth 100000 in
set_option maxHeartbeats 8000000 in
theorem fill41 {E w : World} {F : Asn} {lo hi h : Nat} (T m p i : Nat) (u1 u2 : Value) (hm3 : 3 ≤ m) (hm : m ≤ 64) (hlo : lo = (m - 1) / 2) (hhi : hi = m - 1) (es : List Ent) (ps : List Nat) (K1 K2 : List (Tr h)) (k : Tr h) (hL : Lacks lo hi h es K1 k K2) (hi1 : K1.length = i) (hes : 1 ≤ es.length) (les : es.length ≤ 900)
    (hS : Sat E (node p es ps * (stars (tree h) ps (K1 ++ k :: K2) * (top T m u1 u2 * F))) w) :
    Calls Try.prog 41 #[ptrv T, ptrv p, .int .i64 i] w fun e w' => (∃ v, e = .returned v) ∧ FillPost E (top T m u1 u2 * F) lo hi h p es (K1 ++ k :: K2) w' := by
  obtain ⟨ad0, c2, x1, hkid⟩ := kid_cells hS
  obtain ⟨q, hq, ⟨ad, rfl, xq⟩, B, c, yq⟩ := hkid i k (mid_at _ _ _ _ hi1.symm)
  have hii : (i : Int) < (ps.length : Int) := by have := (List.getElem?_eq_some_iff.1 hq).1; omega
  have t0 : w.cell? ⟨T, 0, none⟩ = some (.int .i64 m) := by
    have := hS.right.right
    unfold top at this
    rw [this.cell_blk]; rfl
  obtain ⟨m1, hm1⟩ : ∃ m1, m = m1 + 1 := ⟨m - 1, by omega⟩
  have hlo2 : lo = m1 / 2 := by omega
  have HM1 := hid hm1
  have HLO := hid hlo2
  obtain ⟨j, hj⟩ : ∃ j, j = i + 1 := ⟨_, rfl⟩
  have hlen := hL.len
  have hl := stars_len (tree h) hS.right
  simp only [List.length_append, List.length_cons] at hl
  have wj := i64_wrap (x := (j : Int)) (by omega) (by omega)
  have ej : (i : Int) + 1 = (j : Int) := by omega
  have HL := hid hL
  have HJ := hid hj
  have HI := hid hi1
  have b1 : hi ≤ 63 := by omega
  have b2 : 2 * lo ≤ hi := by omega
  have b3 : 1 ≤ lo := by omega
  have HB := hid (And.intro b1 (And.intro b2 b3))
  have HK := hid hkid
  clear hlo hhi hm1 hlo2 hj hkid b1 b2 b3
  by_cases hA : lo ≤ (ownE h k).length
  · have z1 : (lo : Int) ≤ ((ownE h k).length : Int) := by omega
    have HA := hid hA
    clear hL hi1 hA HK hlen hl
    unfold ptrv at xq ⊢
    go_enter Try.func41, Try.ntmps41
    go_wp2_with fail
    go_quiet ((go_at_call 47; first | exact Calls.quiet_of_same (least47 T m m1 lo HM1.out HLO.out hm t0) | exact least47q T m m1 lo HM1.out HLO.out hm t0))
    go_wp2_with fail
    refine bodyPost_end (results_none rfl _ _ _) rfl ?_
    exact ⟨⟨_, rfl⟩, _, _, _, filled_none HL.out HA.out, hS.drewN _⟩
  · have hk1 : (ownE h k).length + 1 = lo := by have := hL.low; omega
    have z1 : ¬ (lo : Int) ≤ ((ownE h k).length : Int) := by omega
    have HK1 := hid hk1
    have LF := hid hL.left
    have RT := hid hL.right
    have OK := hid hL.ok
    clear hk1 hA hL
    rcases List.eq_nil_or_concat K1 with rfl | ⟨J1, a, rfl⟩
    · have z2 : decide (0 < i) = false := decide_eq_false (by simp at hi1; omega)
      cases K2 with
      | nil => simp at hlen; omega
      | cons b J2 =>
        obtain ⟨qb, hqb, ⟨_, had, xb⟩, C, d, yb⟩ := HK.out j b (by rw [HJ.out]; exact mid_at2 _ _ _ _ _ hi1.symm)
        cases had
        have hjj : (j : Int) < (ps.length : Int) := by have := (List.getElem?_eq_some_iff.1 hqb).1; omega
        have hjd : decide (j < ps.length) = true := decide_eq_true (by omega)
        have hob := RT.out b (by simp)
        have RT2 := hid (fun x (hx : x ∈ J2) => RT.out x (List.mem_cons_of_mem _ hx))
        simp only [List.length_nil, List.length_cons] at hlen hl
        have HN := hid (show ([] : List (Tr h)).length + J2.length + 1 = es.length by simp only [List.length_nil]; omega)
        by_cases hC : lo < (ownE h b).length
        · have z3 : decide (lo < (ownE h b).length) = true := decide_eq_true (by omega)
          have HC := hid hC
          have HO := hid hob
          clear hi1 HK hlen hl hq hqb hC hob RT HL
          unfold ptrv at xq xb ⊢
          go_enter Try.func41, Try.ntmps41
          go_wp2_with fail
          go_quiet ((go_at_call 47; first | exact Calls.quiet_of_same (least47 T m m1 lo HM1.out HLO.out hm t0) | exact least47q T m m1 lo HM1.out HLO.out hm t0))
          go_wp2_with fail
          go_quiet ((go_at_call 47; first | exact Calls.quiet_of_same (least47 T m m1 lo HM1.out HLO.out hm t0) | exact least47q T m m1 lo HM1.out HLO.out hm t0))
          go_wp2_with fail
          go_quiet ((go_at_call 47; first | exact Calls.quiet_of_same (least47 T m m1 lo HM1.out HLO.out hm t0) | exact least47q T m m1 lo HM1.out HLO.out hm t0))
          go_wp2_with fail
          refine (fill_L p i j es ps [] J2 k b HI.out HJ.out HN.out LF.out RT2.out OK.out HO.out.2.2 HB.out.1 HB.out.2.1 HB.out.2.2 HC.out HO.out.2.1 HK1.out les (hS.drewN _)).mono ?_
          rintro e w' ⟨⟨v, rfl⟩, hp⟩
          go_wp2_with fail
          refine bodyPost_end (results_none rfl _ _ _) rfl ?_
          exact ⟨⟨_, rfl⟩, hp⟩
        · have z3 : decide (lo < (ownE h b).length) = false := decide_eq_false (by omega)
          have HC := hid hC
          have HO := hid hob
          clear hi1 HK hlen hl hq hqb hC hob RT HL
          unfold ptrv at xq xb ⊢
          go_enter Try.func41, Try.ntmps41
          go_wp2_with fail
          go_quiet ((go_at_call 47; first | exact Calls.quiet_of_same (least47 T m m1 lo HM1.out HLO.out hm t0) | exact least47q T m m1 lo HM1.out HLO.out hm t0))
          go_wp2_with fail
          go_quiet ((go_at_call 47; first | exact Calls.quiet_of_same (least47 T m m1 lo HM1.out HLO.out hm t0) | exact least47q T m m1 lo HM1.out HLO.out hm t0))
          go_wp2_with fail
          go_quiet ((go_at_call 47; first | exact Calls.quiet_of_same (least47 T m m1 lo HM1.out HLO.out hm t0) | exact least47q T m m1 lo HM1.out HLO.out hm t0))
          go_wp2_with fail
          refine (fill_J p i es ps [] J2 k b HI.out HN.out LF.out RT2.out OK.out HO.out.2.2 HB.out.1 (by have h1 := HC.out; have h2 := HK1.out; have h3 := HB.out.2.1; omega) (by have h2 := HK1.out; omega) les (hS.drewN _)).mono ?_
          rintro e w' ⟨⟨v, rfl⟩, hp⟩
          go_wp2_with fail
          refine bodyPost_end (results_none rfl _ _ _) rfl ?_
          exact ⟨⟨_, rfl⟩, hp⟩
    · rw [List.concat_eq_append] at *
      obtain ⟨i0, hi0⟩ : ∃ i0, i0 = J1.length := ⟨_, rfl⟩
      simp only [List.length_append, List.length_cons, List.length_nil] at hi1 hlen hl
      have hii0 : i = i0 + 1 := by omega
      have z2 : decide (0 < i) = true := decide_eq_true (by omega)
      have wi0 := i64_wrap (x := (i0 : Int)) (by omega) (by omega)
      have ei0 : (i : Int) - 1 = (i0 : Int) := by omega
      have HI0 := hid hi0
      have HII := hid hii0
      have he : (J1 ++ [a]) ++ k :: K2 = J1 ++ a :: k :: K2 := by simp
      rw [he] at hS ⊢
      rw [he] at HK
      obtain ⟨qa, hqa, ⟨_, had, xa⟩, C, d, ya⟩ := HK.out i0 a (mid_at _ _ _ _ hi0)
      cases had
      have hi00 : (i0 : Int) < (ps.length : Int) := by omega
      have hoa := LF.out a (by simp)
      have LF2 := hid (fun x (hx : x ∈ J1) => LF.out x (List.mem_append.2 (.inl hx)))
      have HN := hid (show J1.length + K2.length + 1 = es.length by omega)
      have HOA := hid hoa
      have HE := hid he
      by_cases hB : lo < (ownE h a).length
      · have z3 : decide (lo < (ownE h a).length) = true := decide_eq_true (by omega)
        have HBB := hid hB
        clear hi1 HK hlen hl hq hqa hi0 hii0 hB hoa LF HL he HE HI
        unfold ptrv at xq xa ⊢
        go_enter Try.func41, Try.ntmps41
        go_wp2_with fail
        go_quiet ((go_at_call 47; first | exact Calls.quiet_of_same (least47 T m m1 lo HM1.out HLO.out hm t0) | exact least47q T m m1 lo HM1.out HLO.out hm t0))
        go_wp2_with fail
        go_quiet ((go_at_call 47; first | exact Calls.quiet_of_same (least47 T m m1 lo HM1.out HLO.out hm t0) | exact least47q T m m1 lo HM1.out HLO.out hm t0))
        go_wp2_with fail
        refine (fill_R p i0 i es ps J1 K2 a k HI0.out.symm HII.out HN.out LF2.out RT.out HOA.out.2.2 OK.out HB.out.1 HB.out.2.1 HB.out.2.2 HBB.out HOA.out.2.1 HK1.out les (hS.drewN _)).mono ?_
        rintro e w' ⟨⟨v, rfl⟩, hp⟩
        go_wp2_with fail
        refine bodyPost_end (results_none rfl _ _ _) rfl ?_
        exact ⟨⟨_, rfl⟩, hp⟩
      · have z3 : decide (lo < (ownE h a).length) = false := decide_eq_false (by omega)
        have HBB := hid hB
        have HJN := hid (show (ownE h a).length + (ownE h k).length + 1 ≤ hi by have h2 := HK1.out; have h3 := HB.out.2.1; omega)
        have HJM := hid (show lo ≤ (ownE h a).length + (ownE h k).length + 1 by have h2 := HK1.out; omega)
        cases K2 with
        | nil =>
          have hjj : decide (j < ps.length) = false := decide_eq_false (by have := HJ.out; simp only [List.length_nil] at hl; omega)
          clear hi1 HK hlen hl hq hqa hi0 hii0 hB hoa LF HL he HE HI
          unfold ptrv at xq xa ⊢
          go_enter Try.func41, Try.ntmps41
          go_wp2_with fail
          go_quiet ((go_at_call 47; first | exact Calls.quiet_of_same (least47 T m m1 lo HM1.out HLO.out hm t0) | exact least47q T m m1 lo HM1.out HLO.out hm t0))
          go_wp2_with fail
          go_quiet ((go_at_call 47; first | exact Calls.quiet_of_same (least47 T m m1 lo HM1.out HLO.out hm t0) | exact least47q T m m1 lo HM1.out HLO.out hm t0))
          go_wp2_with fail
          go_quiet ((go_at_call 47; first | exact Calls.quiet_of_same (least47 T m m1 lo HM1.out HLO.out hm t0) | exact least47q T m m1 lo HM1.out HLO.out hm t0))
          go_wp2_with fail
          refine (fill_J p i0 es ps J1 [] a k HI0.out.symm HN.out LF2.out RT.out HOA.out.2.2 OK.out HB.out.1 HJN.out HJM.out les (hS.drewN _)).mono ?_
          rintro e w' ⟨⟨v, rfl⟩, hp⟩
          go_wp2_with fail
          refine bodyPost_end (results_none rfl _ _ _) rfl ?_
          exact ⟨⟨_, rfl⟩, hp⟩
        | cons b J2 =>
          obtain ⟨qb, hqb, ⟨_, had, xb⟩, C2, d2, yb⟩ := HK.out j b (by rw [HJ.out, ← HE.out]; exact mid_at2 _ _ _ _ _ HI.out.symm)
          cases had
          have hjj : (j : Int) < (ps.length : Int) := by have := (List.getElem?_eq_some_iff.1 hqb).1; omega
          have hjd : decide (j < ps.length) = true := decide_eq_true (by omega)
          have hob := RT.out b (by simp)
          have RT2 := hid (fun x (hx : x ∈ J2) => RT.out x (List.mem_cons_of_mem _ hx))
          have HN2 := hid (show (J1 ++ [a]).length + J2.length + 1 = es.length by have := HN.out; simp only [List.length_cons, List.length_append, List.length_nil] at this ⊢; omega)
          by_cases hC : lo < (ownE h b).length
          · have z4 : decide (lo < (ownE h b).length) = true := decide_eq_true (by omega)
            have HC := hid hC
            have HO := hid hob
            rw [← he] at hS ⊢
            clear hi1 HK hlen hl hq hqa hqb hi0 hii0 hB hC hob hoa HL he RT
            unfold ptrv at xq xa xb ⊢
            go_enter Try.func41, Try.ntmps41
            go_wp2_with fail
            go_quiet ((go_at_call 47; first | exact Calls.quiet_of_same (least47 T m m1 lo HM1.out HLO.out hm t0) | exact least47q T m m1 lo HM1.out HLO.out hm t0))
            go_wp2_with fail
            go_quiet ((go_at_call 47; first | exact Calls.quiet_of_same (least47 T m m1 lo HM1.out HLO.out hm t0) | exact least47q T m m1 lo HM1.out HLO.out hm t0))
            go_wp2_with fail
            go_quiet ((go_at_call 47; first | exact Calls.quiet_of_same (least47 T m m1 lo HM1.out HLO.out hm t0) | exact least47q T m m1 lo HM1.out HLO.out hm t0))
            go_wp2_with fail
            refine (fill_L p i j es ps (J1 ++ [a]) J2 k b HI.out HJ.out HN2.out LF.out RT2.out OK.out HO.out.2.2 HB.out.1 HB.out.2.1 HB.out.2.2 HC.out HO.out.2.1 HK1.out les (hS.drewN _)).mono ?_
            rintro e w' ⟨⟨v, rfl⟩, hp⟩
            go_wp2_with fail
            refine bodyPost_end (results_none rfl _ _ _) rfl ?_
            exact ⟨⟨_, rfl⟩, hp⟩
          · have z4 : decide (lo < (ownE h b).length) = false := decide_eq_false (by omega)
            clear hi1 HK hlen hl hq hqa hqb hi0 hii0 hB hC hob hoa LF HL he HE HI
            unfold ptrv at xq xa xb ⊢
            go_enter Try.func41, Try.ntmps41
            go_wp2_with fail
            go_quiet ((go_at_call 47; first | exact Calls.quiet_of_same (least47 T m m1 lo HM1.out HLO.out hm t0) | exact least47q T m m1 lo HM1.out HLO.out hm t0))
            go_wp2_with fail
            go_quiet ((go_at_call 47; first | exact Calls.quiet_of_same (least47 T m m1 lo HM1.out HLO.out hm t0) | exact least47q T m m1 lo HM1.out HLO.out hm t0))
            go_wp2_with fail
            go_quiet ((go_at_call 47; first | exact Calls.quiet_of_same (least47 T m m1 lo HM1.out HLO.out hm t0) | exact least47q T m m1 lo HM1.out HLO.out hm t0))
            go_wp2_with fail
            refine (fill_J p i0 es ps J1 (b :: J2) a k HI0.out.symm HN.out LF2.out RT.out HOA.out.2.2 OK.out HB.out.1 HJN.out HJM.out les (hS.drewN _)).mono ?_
            rintro e w' ⟨⟨v, rfl⟩, hp⟩
            go_wp2_with fail
            refine bodyPost_end (results_none rfl _ _ _) rfl ?_
            exact ⟨⟨_, rfl⟩, hp⟩
end Go.Proofs.Ytobgfdongidaaaa
