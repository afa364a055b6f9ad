import Derived.Test.YtfphpnccmkggfaaIds9
namespace Go.Proofs.Ytfphpnccmkggfaa
set_option linter.unusedVariables false
set_option linter.unusedSimpArgs false
open Go.RowKit Go.Proofs.Sep

theorem wpList_append_sat_g {P : Program} {ops : Array Oper} {rest : List Oper} {o : Oper} {a : Act} {Q : Exit → Act → World → Prop} {E : World} {F : Asn} {w : World} (hw : Region.wanted o (yielded ops a.tmps) = true) (s x : Operand) (t e : TypeId) (z : Value) (size bytes : Nat)
    (ho : o.op = .call { callee := .builtin .append, args := #[s, x], argTypes := #[t, t] })
    (ht : P.underlying t = some (.slice e)) (hinfo : (P.info? e).map (fun i => (i.zero, i.size, i.bytes)) = some (some z, size, bytes)) (hz : z.cells.size = size) (hsz : 0 < size)
    (v : Value) (n : Nat) (xs : List Value) (A : Option Addr) (m c : Nat) (news : List Value) (hs : a.eval s = v) (hx : a.eval x = .slice A m c)
    (hS : Sat E (row e size v n xs * F) w) (hR : Reads w size A m news) (h1 : ∀ u ∈ news, u.oneCell' = true)
    (h63 : n + m ≤ maxLen) (hl : (n + m) * bytes ≤ 140737488355328)
    (h : ∀ v1 w1, Sat E (row e size v1 (n + m) (xs ++ news) * F) w1 → wpList P ops Q rest (a.put o.dst v1) w1) :
    wpList P ops Q (o :: rest) a w := by
  obtain ⟨v1, w1, hrun, h2⟩ := run_append_sat (P := P) t e o.type z size bytes ht hinfo hz hsz v n xs A m c news hS hR h1 h63 hl
  refine wpList_step fun K hK => ?_
  rw [if_pos hw]
  unfold Oper.wp
  simp [execOp, ho, resolve, invoke, builtin, hs, hx, hrun, Result.andThen]
  exact hK _ _ (h v1 w1 h2)
theorem giveB_spec {T l : List Int} (h : giveB T l = true) : l.Nodup ∧ ∀ x ∈ l, x ∈ T := by
  unfold giveB at h
  exact of_decide_eq_true h
theorem less_count {T l : List Int} (hT : T.Nodup) (h : giveB T l = true) : (less T l).length + l.length = T.length := by
  obtain ⟨h1, h2⟩ := giveB_spec h
  have hp : (T.filter fun x => decide (x ∈ l)).Perm l := by
    rw [List.perm_ext_iff_of_nodup (hT.filter _) h1]
    intro a
    rw [List.mem_filter]
    constructor
    · rintro ⟨_, h⟩; simpa using h
    · intro h; exact ⟨h2 a h, by simpa using h⟩
  have hl := hp.length_eq
  have hc := List.length_eq_countP_add_countP (p := fun x : Int => decide (x ∈ l)) (l := T)
  rw [List.countP_eq_length_filter, List.countP_eq_length_filter] at hc
  have he : (T.filter fun a => decide ¬(decide (a ∈ l)) = true) = less T l := by
    unfold less
    apply List.filter_congr
    intro x _
    simp
  rw [he] at hc
  omega
theorem all_length {n : Nat} {used back : List Int} (h1 : used.Nodup) (h2 : inR n used) (h : giveB used back = true) : (freeOf n (less used back)).length = (freeOf n used).length + back.length := by
  have a1 := freeOf_count h1 h2
  have a2 := freeOf_count (n := n) (used := less used back) (h1.filter _) (inR_less h2)
  have a3 := less_count h1 h
  omega
theorem all_sorted {n : Nat} {used back out : List Int} (h2 : inR n used) (h : giveB used back = true) (hp : out.Perm (freeOf n used ++ back)) (hs : Rises out) : out = freeOf n (less used back) := by
  obtain ⟨g1, g2⟩ := giveB_spec h
  refine free_sorted hp hs ?_ ?_
  · rw [List.nodup_append]
    refine ⟨freeOf_nodup n used, g1, ?_⟩
    intro a ha b hb
    rintro rfl
    exact (mem_freeOf.1 ha).2 (g2 a hb)
  · intro x
    rw [List.mem_append, mem_freeOf, mem_freeOf, mem_less]
    constructor
    · rintro (h | h)
      · exact ⟨h.1, fun hh => h.2 hh.1⟩
      · exact ⟨h2 x (g2 x h), fun hh => hh.2 h⟩
    · rintro ⟨h3, h4⟩
      by_cases hx : x ∈ used
      · exact .inr (Classical.byContradiction fun hb => h4 ⟨hx, hb⟩)
      · exact .inl ⟨h3, hx⟩
theorem nodup_dup {l : List Int} (h : l.Nodup) : dup l = false := by unfold dup; simp [h]

set_option maxRecDepth 100000 in
set_option maxHeartbeats 4000000 in
theorem idsAll_ok {E w : World} {F : Asn} (n : Nat) (A B : Option Addr) (c cb : Nat) (used back : List Int) (hn : n ≤ 64) (hu : used.length ≤ 200) (hb : back.length ≤ 200) (hbc : back.length ≤ cb) (hS : Sat E F w) (hR : ∀ w, Sat E F w → Reads w 1 A used.length (nums .i64 used)) (hQ : ∀ w, Sat E F w → Reads w 1 B back.length (nums .i64 back)) :
    Calls Try.prog 10 #[.int .i64 n, .slice A used.length c, .slice B back.length cb] w fun e w' => e = .returned (.bool true) ∧ Sat E F w' := by
  have hf1 : ¬ (200 : Int) < (back.length : Int) := by omega
  have hf2 : ¬ (200 : Int) < (used.length : Int) := by omega
  go_enter Try.func10, Try.ntmps10
  go_wp2_with fail
  refine (first18 hS).mono ?_
  rintro e w1 ⟨rfl, g1⟩
  go_wp2_with fail
  refine (new_nat n A used.length c used hn g1 hR).mono ?_
  rintro e w2 (⟨hmp, p, rfl, g2⟩ | ⟨_, rfl, g2⟩)
  · have hmp2 : used.Nodup ∧ inR n used := by
      unfold mayPool at hmp
      rw [decide_eq_true_eq] at hmp
      exact ⟨hmp.2.2.1, hmp.2.2.2⟩
    obtain ⟨hnd, hin⟩ := hmp2
    have HIN := hid hin
    have HND := hid hnd
    have hfl := freeOf_length_le n used
    clear hmp hnd hin g1 hS
    go_wp2_with fail
    refine (all_calls p n used g2 (by omega)).mono ?_
    rintro e w3 ⟨vw, rfl, g3⟩
    obtain ⟨Aw, cw, rfl, _, _, _⟩ := g3.reads
    clear g2
    go_wp2_with fail
    refine (copyInts B back.length cb _ g3 (hQ _ g3.right.right) (nums_one _ _) (by omega)).mono ?_
    rintro e w4 ⟨vi, rfl, g4⟩
    obtain ⟨Ai, ci, rfl, _, _, _⟩ := g4.reads
    have g5 : Sat E (bp p n (poolOf n used) * (row 3 1 (.slice Ai back.length ci) back.length (nums .i64 back) * (row 3 1 (.slice Aw (freeOf n used).length cw) (freeOf n used).length (nums .i64 (freeOf n used)) * F))) w4 := g4.eq (by ac_rfl)
    clear g3 g4
    go_wp2_with fail
    refine (give_calls p n used Ai back.length ci back HIN.out (by omega) g5 (fun w h => h.reads_at)).mono ?_
    rintro e w5 ⟨rfl, g6⟩
    clear g5
    go_wp2_with fail
    refine (all_calls p n _ g6 (by omega)).mono ?_
    rintro e w6 ⟨vn, rfl, g7⟩
    obtain ⟨An, cn, rfl, _, _, _⟩ := g7.reads
    clear g6
    go_wp2_with fail
    refine (intsSame Ai B back.length back.length ci cb back g7.right.right.reads_at (hQ _ g7.right.right.right.right)).mono ?_
    rintro e w7 ⟨rfl, nq, rfl⟩
    have g8 := g7.drewN nq
    clear g7
    rcases Bool.eq_false_or_eq_true (giveB used back) with hg | hg
    · have HG := hid hg
      have H1 := hid (all_length HND.out HIN.out hg)
      have H2 := hid (fun (out : List Int) (hp : out.Perm (freeOf n used ++ back)) (hs : Rises out) => all_sorted HIN.out hg hp hs)
      have H3 := hid (giveB_spec hg)
      have HD := hid (nodup_dup (giveB_spec hg).1)
      rw [gave_true hg] at g8
      rw [hg, gave_true hg]
      clear hg
      have hfl2 := freeOf_length_le n (less used back)
      obtain ⟨now, hnow⟩ : ∃ now, freeOf n (less used back) = now := ⟨_, rfl⟩
      obtain ⟨was, hwas⟩ : ∃ was, freeOf n used = was := ⟨_, rfl⟩
      have H4 : Hid (∀ x ∈ back, x ∈ used ∧ x ∈ now) := fun x hx => ⟨H3.out.2 x hx, by rw [← hnow]; exact mem_freeOf.2 ⟨HIN.out x (H3.out.2 x hx), fun h => (mem_less.1 h).2 hx⟩⟩
      rw [hnow, hwas] at g8 H1
      rw [hnow] at hfl2 H2
      rw [hwas] at hfl H2
      rw [hnow, hwas]
      clear hnow hwas
      have hlen : (now.length : Int) = (was.length : Int) + (back.length : Int) := by have := H1.out; omega
      have wl := i64_wrap (x := (was.length : Int) + (back.length : Int)) (by omega) (by omega)
      go_wp2_with fail
      refine (twice_calls B cb back g8 hbc (fun w h => hQ w h.right.right.right.right)).mono ?_
      rw [HD.out]
      rintro e w8 ⟨rfl, g9⟩
      clear g8
      have hlen2 : ((now.length : Int) != (was.length : Int) + (back.length : Int)) = false := by rw [hlen]; simp
      go_wp2_with fail
      go_loopw [13] (fun i wr => ∃ k : Nat, k ≤ back.length ∧ i = .int .i64 k ∧ Sat E (row 3 1 (.slice An now.length cn) now.length (nums .i64 now) * (bp p n (poolOf n (less used back)) * (row 3 1 (.slice Ai back.length ci) back.length (nums .i64 back) * (row 3 1 (.slice Aw was.length cw) was.length (nums .i64 was) * F)))) wr) (fun i _ => back.length - (intOf i).toNat)
      case atStart => exact ⟨0, by omega, rfl, g9⟩
      case round =>
        clear g9
        obtain ⟨k, hk, rfl, hr⟩ := hrel
        by_cases hlt : k < back.length
        · have hkd : (k : Int) < (back.length : Int) := by omega
          obtain ⟨ad, hA, hcb⟩ := (hQ _ hr.right.right.right.right).at (by omega)
          have d0 := hcb k _ (nums_at hlt)
          have hRu := hR _ hr.right.right.right.right
          subst hA
          obtain ⟨m1, m2⟩ := H4.out _ (List.getElem_mem hlt)
          have D1 := hid (decide_eq_true m1)
          have D2 := hid (decide_eq_true m2)
          clear m1 m2 hcb
          go_wp2_with fail
          refine (hasInt A used.length c used back[k] hRu).mono ?_
          rw [D1.out]
          rintro e w9 ⟨rfl, rfl⟩
          go_wp2_with fail
          refine (hasInt An now.length cn now back[k] hr.reads_at).mono ?_
          rw [D2.out]
          rintro e w9 ⟨rfl, rfl⟩
          go_wp2
          go_roundw
          case rel => exact ⟨k + 1, by omega, by go_num, hr⟩
          case measure => simp [intOf]; omega
        · clear hlen hlen2
          have hny : nums .i64 was ++ nums .i64 back = nums .i64 (was ++ back) := (nums_append ..).symm
          have hnl : was.length + back.length = (was ++ back).length := by simp
          have HN := hid hny
          have HNL := hid hnl
          clear hny hnl
          go_wp2_with fail
          refine (first18 hr).mono ?_
          rintro e w9 ⟨rfl, g10⟩
          clear hr
          go_wp2_with fail
          refine (copyInts Aw was.length cw _ g10 g10.right.right.right.reads_at (nums_one _ _) (by omega)).mono ?_
          rintro e w10 ⟨vc, rfl, g11⟩
          obtain ⟨Ac, cc, rfl, _, _, _⟩ := g11.reads
          have hQ11 := hQ _ g11.right.right.right.right.right
          clear g10
          go_wp2_with (at_builtin; refine wpList_append_sat_g (by rfl) _ _ 22 3 (.int .i64 0) 1 8 rfl Try.underlying22 Try.info3 rfl (by decide) _ was.length _ B back.length cb (nums .i64 back) rfl rfl g11 hQ11 (nums_one _ _) (by unfold maxLen; omega) (by omega) ?_; intro v1 w11 h8; rw [HN.out] at h8; obtain ⟨A8, c8, rfl, _, _, _⟩ := h8.reads)
          have h8b := h8
          rw [HNL.out] at h8b
          have hs8 := sorted_calls A8 c8 (was ++ back) h8b (by rw [← HNL.out]; omega) (fun w h => h.reads_at)
          rw [← HNL.out] at hs8
          refine hs8.mono ?_
          clear hs8 h8b
          rintro e w12 ⟨v12, out, rfl, hperm, hris, h12⟩
          have hout : now = out := (H2.out out hperm hris).symm
          have hol : was.length + back.length = out.length := HNL.out.trans hperm.length_eq.symm
          rw [hol] at h12
          subst hout
          clear hperm hris h8 g11 hol
          obtain ⟨A12, c12, rfl, _, _, _⟩ := h12.reads
          go_wp2_with fail
          refine (intsSame An A12 now.length _ cn _ now h12.right.right.reads_at h12.reads_at).mono ?_
          rintro e w13 ⟨rfl, nq3, rfl⟩
          have h13 := (h12.drewN nq3).right.right.right.right.right.right
          go_wp2
          go_ret
          exact ⟨rfl, h13⟩
    · have HG := hid hg
      rw [gave_false hg] at g8
      rw [hg, gave_false hg]
      clear hg
      go_wp2_with fail
      refine (first18 g8).mono ?_
      rintro e w9 ⟨rfl, g9⟩
      go_wp2_with fail
      refine (intsSame Aw An (freeOf n used).length (freeOf n used).length cw cn (freeOf n used) g9.right.right.right.reads_at g9.reads_at).mono ?_
      rintro e w10 ⟨rfl, nq2, rfl⟩
      have g10 := (g9.drewN nq2).right.right.right.right
      go_wp2
      go_ret
      exact ⟨rfl, g10⟩
  · go_wp2_with fail
    refine (first18 g2).mono ?_
    rintro e w3 ⟨rfl, g3⟩
    go_wp2
    go_ret
    exact ⟨rfl, g3⟩

set_option maxRecDepth 100000 in
set_option maxHeartbeats 2000000 in
theorem idsAll {E w : World} {F : Asn} (x : Int) (A B : Option Addr) (c cb : Nat) (used back : List Int) (hbc : back.length ≤ cb) (hS : Sat E F w) (hR : ∀ w, Sat E F w → Reads w 1 A used.length (nums .i64 used)) (hQ : ∀ w, Sat E F w → Reads w 1 B back.length (nums .i64 back)) :
    Calls Try.prog 10 #[.int .i64 x, .slice A used.length c, .slice B back.length cb] w fun e w' => e = .returned (.bool true) ∧ Sat E F w' := by
  by_cases hu : used.length ≤ 200
  · by_cases hb : back.length ≤ 200
    · by_cases hx : 0 ≤ x ∧ x ≤ 64
      · obtain ⟨n, rfl⟩ := Int.eq_ofNat_of_zero_le hx.1
        exact idsAll_ok n A B c cb used back (by omega) hu hb hbc hS hR hQ
      · go_enter Try.func10, Try.ntmps10
        go_wp2_with fail
        refine (first18 hS).mono ?_
        rintro e w1 ⟨rfl, g1⟩
        go_wp2_with fail
        refine (newBad x A used.length c (by omega)).mono ?_
        rintro e w2 ⟨rfl, rfl⟩
        go_wp2_with fail
        refine (first18 g1).mono ?_
        rintro e w3 ⟨rfl, g3⟩
        go_wp2
        go_ret
        exact ⟨rfl, g3⟩
    · have h1 : (200 : Int) < (back.length : Int) := by omega
      go_enter Try.func10, Try.ntmps10
      go_wp2_with fail
      refine (first18 hS).mono ?_
      rintro e w1 ⟨rfl, g1⟩
      go_wp2_with fail
      refine (first18 g1).mono ?_
      rintro e w3 ⟨rfl, g3⟩
      go_wp2
      go_ret
      exact ⟨rfl, g3⟩
  · have h1 : (200 : Int) < (used.length : Int) := by omega
    go_enter Try.func10, Try.ntmps10
    go_wp2_with fail
    refine (first18 hS).mono ?_
    rintro e w1 ⟨rfl, g1⟩
    go_wp2_with fail
    refine (first18 g1).mono ?_
    rintro e w3 ⟨rfl, g3⟩
    go_wp2
    go_ret
    exact ⟨rfl, g3⟩
theorem IdsAll_walk (W : World) (a0 : Int) (w0 : (Lit.int .i64 a0).wf = true) (a1 : Option Addr) (len1 cap1 : Nat) (l1 : (List Int)) (h1 : (decSlice 8 (decInt .i64)).rel W l1 [.slice a1 len1 cap1]) (a2 : Option Addr) (len2 cap2 : Nat) (l2 : (List Int)) (h2 : (decSlice 8 (decInt .i64)).rel W l2 [.slice a2 len2 cap2]) :
    Calls Try.prog 10 #[.int .i64 a0, .slice a1 len1 cap1, .slice a2 len2 cap2] W fun e w' => e = .returned (.bool true) ∧ Below W.heap.size W w' := by
  obtain ⟨A, c, he, hlc, _, _, hR, _⟩ := dec_ints h1
  simp at he
  obtain ⟨rfl, rfl, rfl⟩ := he
  obtain ⟨B, d, he, hlc2, _, _, hQ, _⟩ := dec_ints h2
  simp at he
  obtain ⟨rfl, rfl, rfl⟩ := he
  exact (idsAll a0 _ _ _ _ l1 l2 hlc2 (Sat.start W) (fun w hs => hR.keep fun k hk => hs.old1 hk) (fun w hs => hQ.keep fun k hk => hs.old1 hk)).mono fun e w' ⟨he, hs⟩ => ⟨he, hs.finish1⟩
end Go.Proofs.Ytfphpnccmkggfaa
