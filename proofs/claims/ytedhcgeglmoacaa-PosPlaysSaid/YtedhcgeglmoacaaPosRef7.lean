import Derived.Test.YtedhcgeglmoacaaPosRef6
namespace Go.Proofs.Ytedhcgeglmoacaa
set_option linter.unusedVariables false
set_option linter.unusedSimpArgs false
open Go.RowKit Go.Proofs.Sep

set_option maxRecDepth 100000 in
set_option maxHeartbeats 1000000 in
theorem rchanges_open {E w : World} {F : Asn} (m : Nat) (l : List (Int × Int)) (c : List Bool) (A B : Option Addr) (ca cb : Nat) (hl : c.length = l.length) (h2 : Sat E (blk m (.cells #[.slice A l.length ca, .slice B l.length cb] 90) * (row 83 2 (.slice A l.length ca) l.length (pairs l) * (row 4 1 (.slice B l.length cb) l.length (bools c) * F))) w) (hn : l.length ≤ 1000000) :
    Calls Try.prog 46 #[.pointer (some ⟨m, 0, none⟩)] w fun e w' => ∃ v, e = .returned v ∧ Sat E (row 117 3 v (chgs l c).length (chs (chgs l c)) * (blk m (.cells #[.slice A l.length ca, .slice B l.length cb] 90) * (row 83 2 (.slice A l.length ca) l.length (pairs l) * (row 4 1 (.slice B l.length cb) l.length (bools c) * F)))) w' := by
  go_enter Try.func46, Try.ntmps46
  go_wp2_with fail
  go_loopw [3, 4] (fun v i wr => ∃ k : Nat, k ≤ l.length ∧ i = .int .i64 k ∧ Sat E (row 117 3 v (chTo l c k).length (chs (chTo l c k)) * (blk m (.cells #[.slice A l.length ca, .slice B l.length cb] 90) * (row 83 2 (.slice A l.length ca) l.length (pairs l) * (row 4 1 (.slice B l.length cb) l.length (bools c) * F)))) wr) (fun _ i _ => l.length - (intOf i).toNat)
  case atStart => exact ⟨0, by omega, rfl, h2.row_nil⟩
  case round =>
    obtain ⟨k, hk, rfl, hr⟩ := hrel
    obtain ⟨Av, cv, rfl, _, _, _⟩ := hr.reads
    have r0 := hr.right.cell_blk (i := 0)
    have r1 := hr.right.cell_blk (i := 1)
    simp only [List.getElem?_toArray, List.getElem?_cons_zero, List.getElem?_cons_succ] at r0 r1
    by_cases hlt : k < l.length
    · have hra : Sat E (row 83 2 (.slice A l.length ca) l.length (pairs l) * (row 4 1 (.slice B l.length cb) l.length (bools c) * (blk m (.cells #[.slice A l.length ca, .slice B l.length cb] 90) * (row 117 3 (.slice Av (chTo l c k).length cv) (chTo l c k).length (chs (chTo l c k)) * F)))) wr := hr.eq (by ac_rfl)
      obtain ⟨ga, cga, e1, _, _⟩ := hra.row_head (by omega)
      injection e1 with e1 e2 e3
      subst e1
      clear e2 e3
      obtain ⟨gb, cgb, e1, _, _⟩ := hra.right.row_head (by omega)
      injection e1 with e1 e2 e3
      subst e1
      clear e2 e3
      have a0 := hra.row_cell (k * 2) (by omega)
      have a1 := hra.row_cell (k * 2 + 1) (by omega)
      rw [pairs_at0 hlt] at a0
      rw [pairs_at1 hlt] at a1
      have b0 := hra.right.row_cell k (by omega)
      rw [bools_at (by omega)] at b0
      have hlen := chTo_length l c k
      by_cases hx : c[k] = true
      · have hnx : chs (chTo l c k) ++ [.int .i64 k, .int .i64 l[k].1, .int .i64 l[k].2] = chs (chTo l c (k + 1)) := by
          simp only [chTo]
          rw [if_pos (by rw [List.getD_eq_getElem?_getD, List.getElem?_eq_getElem (by omega)]; simpa using hx), chs_append, List.getD_eq_getElem?_getD, List.getElem?_eq_getElem hlt]
          rfl
        have hnl : (chTo l c k).length + 1 = (chTo l c (k + 1)).length := by
          simp only [chTo]
          rw [if_pos (by rw [List.getD_eq_getElem?_getD, List.getElem?_eq_getElem (by omega)]; simpa using hx), List.length_append]
          rfl
        have HN := hid hnx
        have HL := hid hnl
        rw [hx] at b0
        clear hx hnx hnl
        go_wp2_with (at_builtin; refine wpList_append_sat rfl _ _ 86 117 (.agg #[.int .i64 0, .int .i64 0, .int .i64 0]) 3 24 rfl Try.underlying86 Try.info117 rfl (by decide) _ (chTo l c k).length _ _ 1 1 [.int .i64 k, .int .i64 l[k].1, .int .i64 l[k].2] rfl rfl (hr.alloc_drop _) (Reads.new 3 1 [.int .i64 k, .int .i64 l[k].1, .int .i64 l[k].2] 117 rfl (by omega)) (by simp [Value.oneCell']) (by unfold maxLen; omega) (by omega) ?_; intro v1 w6 h6)
        rw [HN.out, HL.out] at h6
        go_wp2
        go_roundw
        case rel => exact ⟨k + 1, by omega, by go_num, h6⟩
        case measure => simp [intOf]; omega
      · have hx0 : c[k] = false := by simpa using hx
        have hnx : chTo l c (k + 1) = chTo l c k := by
          simp only [chTo]
          rw [if_neg (by rw [List.getD_eq_getElem?_getD, List.getElem?_eq_getElem (by omega)]; simp [hx0])]
          simp
        have HN := hid hnx
        rw [hx0] at b0
        clear hx hnx hx0
        go_wp2
        go_roundw
        case rel => exact ⟨k + 1, by omega, by go_num, by rw [HN.out]; exact hr⟩
        case measure => simp [intOf]; omega
    · obtain rfl : k = l.length := by omega
      go_wp2
      go_ret
      exact ⟨_, rfl, hr⟩

set_option maxRecDepth 100000 in
set_option maxHeartbeats 1000000 in
theorem few8s {E w : World} {F : Asn} (A : Option Addr) (c : Nat) (l : List POp) (hd : List Value) (hS : Sat E F w) (hR : ∀ w, Sat E F w → Reads w 5 A l.length hd) (hO : ∀ w, Sat E F w → OpsIn (Reads w 3) l hd) :
    Calls Try.prog 37 #[.slice A l.length c] w fun e w' => ((e = .returned (.bool true) ∧ l.length ≤ 200 ∧ ∀ i (hi : i < l.length), l[i].2.2.2.length ≤ 2000) ∨ e = .returned (.bool false)) ∧ Sat E F w' := by
  have hmm := (hR w hS).2.1
  go_enter Try.func37, Try.ntmps37
  go_wp2_with fail
  go_loopw [3, 4] (fun s i wr => ∃ k t : Nat, k ≤ l.length ∧ k ≤ 200 ∧ t ≤ 2001 * k ∧ i = .int .i64 k ∧ s = .int .i64 t ∧ Hid (t ≤ 2000 → ∀ i (hi : i < l.length), i < k → l[i].2.2.2.length ≤ 2000) ∧ Sat E F wr) (fun _ i _ => l.length - (intOf i).toNat)
  case atStart => exact ⟨0, 0, by omega, by omega, by omega, rfl, rfl, fun _ i _ h => by omega, hS⟩
  case round =>
    obtain ⟨k, t, hk, hk2, ht, rfl, rfl, hsm, hr⟩ := hrel
    by_cases hgo : k < l.length ∧ k < 200
    · obtain ⟨hlt, hlt2⟩ := hgo
      obtain ⟨ad, rfl, hc⟩ := (hR _ hr).at (by omega)
      obtain ⟨_, _, _, _, B, d, e1, e2⟩ := hO _ hr k hlt
      have hca := hc _ _ e1
      have hli := e2.2.1
      have hadd : ad.add (k * 5 + 4) = ⟨(ad.add (k * 5)).block, (ad.add (k * 5)).off + 4, none⟩ := by rw [← addr_add_add]; rfl
      rw [hadd] at hca
      clear hc e1 e2 hadd
      have wa := i64_wrap (x := (t : Int) + (l[k].2.2.2.length : Int))
      have wb := i64_wrap (x := (t : Int) + 2001) (by omega) (by omega)
      by_cases hmin : l[k].2.2.2.length ≤ 2000
      · have wa2 := wa (by omega) (by omega)
        have hmn2 : ¬ (2001 : Int) < (l[k].2.2.2.length : Int) := by omega
        have HK : Hid (t + l[k].2.2.2.length ≤ 2000 → ∀ i (hi : i < l.length), i < k + 1 → l[i].2.2.2.length ≤ 2000) := fun h i hi hik => by
          by_cases e : i = k
          · subst e; exact hmin
          · exact hsm.out (by omega) i hi (by omega)
        clear wa
        go_wp2
        go_roundw
        case rel => exact ⟨k + 1, t + l[k].2.2.2.length, by omega, by omega, by omega, by go_num, by go_num, HK, hr⟩
        case measure => simp [intOf]; omega
      · have hmn2 : (2001 : Int) ≤ (l[k].2.2.2.length : Int) := by omega
        have HK : Hid (t + 2001 ≤ 2000 → ∀ i (hi : i < l.length), i < k + 1 → l[i].2.2.2.length ≤ 2000) := fun h => by omega
        clear wa
        go_wp2
        go_roundw
        case rel => exact ⟨k + 1, t + 2001, by omega, by omega, by omega, by go_num, by congr 1; split <;> omega, HK, hr⟩
        case measure => simp [intOf]; omega
    · by_cases hge : k < l.length
      · go_wp2
        go_ret
        exact ⟨.inr rfl, hr⟩
      · have hle : l.length ≤ 200 := by omega
        by_cases ht2 : t ≤ 2000
        · have HF : Hid (∀ i (hi : i < l.length), l[i].2.2.2.length ≤ 2000) := fun i hi => hsm.out ht2 i hi (by omega)
          go_wp2
          go_ret
          exact ⟨.inl ⟨ret_bool (by first | rfl | (simp; omega)), hle, HF.out⟩, hr⟩
        · go_wp2
          go_ret
          exact ⟨.inr (ret_bool (by first | rfl | (simp; omega))), hr⟩

end Go.Proofs.Ytedhcgeglmoacaa
