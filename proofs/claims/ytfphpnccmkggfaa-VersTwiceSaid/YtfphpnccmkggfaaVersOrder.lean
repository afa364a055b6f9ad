import Derived.Test.YtfphpnccmkggfaaVersOwn
import Derived.Test.YtfphpnccmkggfaaSepQuiet
namespace Go.Proofs.Ytfphpnccmkggfaa
set_option linter.unusedVariables false
set_option linter.unusedSimpArgs false
open Go.RowKit Go.Proofs.Sep

/-! ### The plain law -/
theorem flipTo_getr (ls : List Int) (i : Nat) (hi : i < ls.length) : ∀ r : List Int, (flipTo ls r.reverse).getD i 0 = if (r.any fun b => decide (b.toNat = i)) = true then 1 - ls.getD i 0 else ls.getD i 0 := by
  intro r
  induction r with
  | nil => simp [flipTo]
  | cons b t ih =>
    rw [List.reverse_cons, flipTo_snoc]
    have hl := flipTo_length ls t.reverse
    rw [List.getD_eq_getElem?_getD, List.getElem?_set]
    by_cases hb : b.toNat = i
    · subst hb
      simp [hl, hi]
    · simp only [hb, if_false]
      rw [← List.getD_eq_getElem?_getD, ih]
      simp [hb]
theorem flipTo_get (ls bs : List Int) (i : Nat) (hi : i < ls.length) : (flipTo ls bs).getD i 0 = if (bs.any fun b => decide (b.toNat = i)) = true then 1 - ls.getD i 0 else ls.getD i 0 := by
  have := flipTo_getr ls i hi bs.reverse
  rwa [List.reverse_reverse, List.any_reverse] at this
theorem list_ext_getD {xs ys : List Int} (hl : xs.length = ys.length) (h : ∀ i, i < xs.length → xs.getD i 0 = ys.getD i 0) : xs = ys := by
  apply List.ext_getElem hl
  intro i h1 h2
  have := h i h1
  rwa [List.getD_eq_getElem?_getD, List.getD_eq_getElem?_getD, List.getElem?_eq_getElem h1, List.getElem?_eq_getElem h2] at this
theorem flipTo_reverse (ls bs : List Int) : flipTo ls bs.reverse = flipTo ls bs := by
  apply list_ext_getD
  · rw [flipTo_length, flipTo_length]
  · intro i hi
    rw [flipTo_length] at hi
    rw [flipTo_get _ _ _ hi, flipTo_get _ _ _ hi, List.any_reverse]
theorem flipTo_parts (ls t d : List Int) (h : ∀ x ∈ t, ∀ y ∈ d, x.toNat ≠ y.toNat) : flipTo (flipTo ls t) d = flipTo ls (t ++ d) := by
  apply list_ext_getD
  · rw [flipTo_length, flipTo_length, flipTo_length]
  · intro i hi
    rw [flipTo_length, flipTo_length] at hi
    rw [flipTo_get _ _ _ (by rw [flipTo_length]; exact hi), flipTo_get _ _ _ hi, flipTo_get _ _ _ hi, List.any_append]
    by_cases h1 : (t.any fun b => decide (b.toNat = i)) = true
    · by_cases h2 : (d.any fun b => decide (b.toNat = i)) = true
      · obtain ⟨x, hx, hx2⟩ := List.any_eq_true.1 h1
        obtain ⟨y, hy, hy2⟩ := List.any_eq_true.1 h2
        exact absurd ((of_decide_eq_true hx2).trans (of_decide_eq_true hy2).symm) (h x hx y hy)
      · simp [h1, h2]
    · simp [h1]
theorem allB_parts (n cut : Nat) (bs : List Int) : allB n bs = (allB n (bs.take cut) && allB n (bs.drop cut)) := by
  unfold allB
  rw [← List.all_append, List.take_append_drop]
theorem allB_reverse (n : Nat) (bs : List Int) : allB n bs.reverse = allB n bs := by unfold allB; rw [List.all_reverse]
/-- Does one come twice? -/
def dup (xs : List Int) : Bool := !decide xs.Nodup
theorem order_pure (ls bs : List Int) (cut : Nat) (hd : dup bs = false) (hb : allB ls.length bs = true) :
    flipR ls bs.reverse = flipR ls bs ∧ flipR (flipR ls (bs.take cut)) (bs.drop cut) = flipR ls bs ∧ allB ls.length (bs.take cut) = true ∧ allB ls.length (bs.drop cut) = true ∧ allB ls.length bs.reverse = true := by
  have hp := hb
  rw [allB_parts ls.length cut, Bool.and_eq_true] at hp
  obtain ⟨p1, p2⟩ := hp
  have p3 : allB ls.length bs.reverse = true := by rw [allB_reverse]; exact hb
  refine ⟨?_, ?_, p1, p2, p3⟩
  · unfold flipR; rw [if_pos p3, if_pos hb, flipTo_reverse]
  · have e1 : flipR ls (bs.take cut) = flipTo ls (bs.take cut) := by unfold flipR; rw [if_pos p1]
    have e2 : flipR ls bs = flipTo ls bs := by unfold flipR; rw [if_pos hb]
    rw [e1, e2]
    unfold flipR
    rw [flipTo_length, if_pos p2, flipTo_parts, List.take_append_drop]
    intro x hx y hy hxy
    have hnd : bs.Nodup := by unfold dup at hd; simpa using hd
    rw [← List.take_append_drop cut bs, List.nodup_append] at hnd
    have q1 := List.all_eq_true.1 p1 x hx
    have q2 := List.all_eq_true.1 p2 y hy
    unfold isB at q1 q2
    have r1 := of_decide_eq_true q1
    have r2 := of_decide_eq_true q2
    exact hnd.2.2 x hx y hy (by omega)

/-! ### The walk -/
theorem reads_take {w : World} {A : Option Addr} {n : Nat} {l : List Int} (h : Reads w 1 A n (nums .i64 l)) (k : Nat) (hk : k ≤ n) : Reads w 1 A k (nums .i64 (l.take k)) := by
  have := h.take k hk
  rwa [Nat.mul_one, show (nums .i64 l).take k = nums .i64 (l.take k) by simp [nums, List.map_take]] at this
theorem has_sat {E w : World} {F : Asn} (A : Option Addr) (n c : Nat) (xs : List Int) (x : Int) (hS : Sat E F w) (hA : Reads w 1 A n (nums .i64 xs)) :
    Calls Try.prog 35 #[.slice A n c, .int .i64 x] w fun e w' => e = .returned (.bool (decide (x ∈ xs))) ∧ Sat E F w' :=
  (hasInt A n c xs x hA).mono fun _ _ ⟨h1, h2⟩ => ⟨h1, h2 ▸ hS⟩
set_option maxRecDepth 100000 in
set_option maxHeartbeats 1000000 in
theorem twice_calls {E w : World} {F : Asn} (A : Option Addr) (c : Nat) (xs : List Int) (hS : Sat E F w) (hn : xs.length ≤ c) (hR : ∀ w, Sat E F w → Reads w 1 A xs.length (nums .i64 xs)) :
    Calls Try.prog 13 #[.slice A xs.length c] w fun e w' => e = .returned (.bool (dup xs)) ∧ Sat E F w' := by
  have hmm := (hR w hS).2.1
  go_enter Try.func13, Try.ntmps13
  go_wp2_with fail
  go_loopw [3] (fun i wr => ∃ k : Nat, k ≤ xs.length ∧ i = .int .i64 k ∧ Hid ((xs.take k).Nodup) ∧ Sat E F wr) (fun i _ => xs.length - (intOf i).toNat)
  case atStart => exact ⟨0, by omega, rfl, by simp [Hid], hS⟩
  case round =>
    obtain ⟨k, hk, rfl, hnd, hr⟩ := hrel
    by_cases hlt : k < xs.length
    · have hRr := hR _ hr
      have hRt := hRr.take k (by omega)
      rw [Nat.mul_one, show (nums .i64 xs).take k = nums .i64 (xs.take k) by simp [nums, List.map_take]] at hRt
      obtain ⟨ad, rfl, hc⟩ := hRr.at (by omega)
      have hca := hc k _ (nums_at hlt)
      have hct : ∀ s : SW E F, s.w.cell? (ad.add k) = some (.int .i64 xs[k]) := fun s => by
        obtain ⟨ad', h1, h2⟩ := (hR _ s.h).at (by omega)
        injection h1 with h1
        subst h1
        exact h2 k _ (nums_at hlt)
      clear hc hca
      have hkc : (k : Int) ≤ (c : Int) := by omega
      have hRs : ∀ s : SW E F, Reads s.w 1 (some ad) k (nums .i64 (xs.take k)) := fun s => by
        have := (hR _ s.h).take k (by omega)
        rwa [Nat.mul_one, show (nums .i64 xs).take k = nums .i64 (xs.take k) by simp [nums, List.map_take]] at this
      have hnx : (xs.take (k + 1)) = xs.take k ++ [xs[k]] := by rw [List.take_add_one, List.getElem?_eq_getElem hlt]; rfl
      by_cases hm : xs[k] ∈ xs.take k
      · have hdu : dup xs = true := by
          unfold dup
          have : ¬ xs.Nodup := fun h => by
            have h2 : (xs.take (k + 1)).Nodup := (List.take_sublist _ _).nodup h
            rw [hnx, List.nodup_append] at h2
            exact h2.2.2 _ hm _ (List.mem_singleton.2 rfl) rfl
          simp [this]
        have hd := decide_eq_true hm
        have HD := hid hd
        have HU := hid hdu
        clear hm hdu hd hnx
        go_wp2_with fail
        refine wp_region_quietS _ (by kernel_rfl) (by kernel_rfl) hr ?_
        intro hne
        repeat (go_big_quiet_step (first | (go_at_call 35; exact quietS (has_sat _ _ _ _ _ (SW.h _) (hRs _)))))
        refine wpQuiet_nil ?_
        intro w12 hw'
        have h12 := SW.out hw'
        clear hw' hne
        rw [HD.out]
        go_wp2
        go_ret
        exact ⟨ret_bool HU.out.symm, h12⟩
      · have hnd2 : (xs.take (k + 1)).Nodup := by
          rw [hnx, List.nodup_append]
          refine ⟨hnd.out, by simp, ?_⟩
          intro a ha b hb
          rw [List.mem_singleton] at hb
          subst hb
          exact fun h => hm (h ▸ ha)
        have hd := decide_eq_false hm
        have HD := hid hd
        have HU := hid hnd2
        clear hm hnd2 hd hnx
        go_wp2_with fail
        refine wp_region_quietS _ (by kernel_rfl) (by kernel_rfl) hr ?_
        intro hne
        repeat (go_big_quiet_step (first | (go_at_call 35; exact quietS (has_sat _ _ _ _ _ (SW.h _) (hRs _)))))
        refine wpQuiet_nil ?_
        intro w12 hw'
        have h12 := SW.out hw'
        clear hw' hne
        rw [HD.out]
        go_wp2
        go_roundw
        case rel => exact ⟨k + 1, by omega, by go_num, HU, h12⟩
        case measure => simp [intOf]; omega
    · have hall : dup xs = false := by
        have := hnd.out
        rw [List.take_of_length_le (by omega)] at this
        unfold dup
        simpa using this
      have HA := hid hall
      clear hall
      go_wp2
      go_ret
      exact ⟨ret_bool HA.out.symm, hr⟩

set_option maxRecDepth 100000 in
set_option maxHeartbeats 1000000 in
theorem versOrder_ok {E w : World} {F : Asn} (n cut : Nat) (A : Option Addr) (c : Nat) (l : List Int) (h1 : 1 ≤ n) (h2 : n ≤ 127) (hl : l.length ≤ 200) (hcut : cut ≤ l.length) (hlc : l.length ≤ c) (hd : dup l = false) (hS : Sat E F w) (hR : ∀ w, Sat E F w → Reads w 1 A l.length (nums .i64 l)) :
    Calls Try.prog 3 #[.int .i64 n, .slice A l.length c, .int .i64 cut] w fun e w' => e = .returned (.bool true) ∧ Sat E F w' := by
  have hzl : (List.replicate n (0 : Int)).length = n := by simp
  have z1 := zeros01 n
  have HZ := hid hzl
  have HD := hid hd
  clear hzl hd
  have hcl : (cut : Int) ≤ (l.length : Int) := by omega
  have hl1 : IntKind.i64.wrap ((l.length : Int) - 1) = (l.length : Int) - 1 := i64_wrap (by omega) (by omega)
  go_enter Try.func3, Try.ntmps3
  go_wp2_with fail
  refine (first12 hS).mono ?_
  rintro e w1 ⟨rfl, g1⟩
  go_wp2_with fail
  refine (twice_calls A c l g1 hlc hR).mono ?_
  rw [HD.out]
  rintro e w2 ⟨rfl, g2⟩
  go_wp2_with fail
  refine (new_nat n h1 h2 g2).mono ?_
  rintro e w3 ⟨va, rfl, g3⟩
  go_wp2_with fail
  refine (new_nat n h1 h2 g3).mono ?_
  rintro e w4 ⟨vb, rfl, g4⟩
  go_wp2_with fail
  refine (new_nat n h1 h2 g4).mono ?_
  rintro e w5 ⟨vc, rfl, g5⟩
  clear g1 g2 g3 g4
  generalize hz : List.replicate n (0 : Int) = z at *
  clear hz
  go_wp2_with fail
  go_loopw [10] (fun i wr => ∃ k : Nat, k ≤ l.length ∧ i = .int .i64 k ∧ Hid (allB n (l.take k) = true) ∧ Sat E (vbits vc z * (vbits vb z * (vbits va z * F))) wr) (fun i _ => l.length - (intOf i).toNat)
  case atStart => exact ⟨0, by omega, rfl, rfl, g5⟩
  case round =>
    obtain ⟨k, hk, rfl, hab, hr⟩ := hrel
    by_cases hlt : k < l.length
    · obtain ⟨ad, rfl, hc⟩ := (hR _ hr.right.right.right).at (by omega)
      have hca := hc k _ (nums_at hlt)
      clear hc
      by_cases hin : 0 ≤ l[k] ∧ l[k] < n
      · obtain ⟨x1, x2⟩ := hin
        have hnx : allB n (l.take (k + 1)) = true := by
          have := hab.out
          unfold allB at this ⊢
          rw [List.take_add_one, List.getElem?_eq_getElem hlt, Option.toList_some, List.all_append, this]
          simp [isB, x1, x2]
        have HN := hid hnx
        clear hnx
        go_wp2
        go_roundw
        case rel => exact ⟨k + 1, by omega, by go_num, HN, hr⟩
        case measure => simp [intOf]; omega
      · have hbad : allB n l = false := by
          unfold allB
          rw [List.all_eq_false]
          exact ⟨l[k], List.getElem_mem _, by unfold isB; simpa using hin⟩
        have HB := hid hbad
        have hor : l[k] < 0 ∨ (0 ≤ l[k] ∧ (n : Int) ≤ l[k]) := by omega
        have hfz : flipR z l = z := by unfold flipR; rw [HZ.out, HB.out]; rfl
        have HFZ := hid hfz
        clear hbad hfz hin
        rcases hor with hor | ⟨hor1, hor⟩
        all_goals
          go_wp2_with fail
          refine (first12 hr).mono ?_
          rintro e w6 ⟨rfl, r1⟩
          go_wp2_with fail
          refine (flip_calls va z _ l.length c l (r1.eq (show _ = vbits va z * (vbits vc z * (vbits vb z * F)) by ac_rfl)) (by rw [HZ.out]; omega) z1 (fun w hw => hR w hw.right.right)).mono ?_
          rw [HZ.out, HB.out, HFZ.out]
          rintro e w7 ⟨rfl, r2⟩
          go_wp2_with fail
          refine (bits_calls va z r2 (by rw [HZ.out]; omega)).mono ?_
          rintro e w8 ⟨v1, rfl, r3⟩
          obtain ⟨A1, c1, rfl, _, _, _⟩ := r3.reads
          go_wp2_with fail
          refine (bits_calls vb z (r3.eq (show _ = vbits vb z * (row 3 1 (.slice A1 z.length c1) z.length (nums .i64 z) * (vbits va z * (vbits vc z * F))) by ac_rfl)) (by rw [HZ.out]; omega)).mono ?_
          rintro e w9 ⟨v2, rfl, r4⟩
          obtain ⟨A2, c2, rfl, _, _, rr2⟩ := r4.reads
          have rr1 := r4.right.right.reads_at
          go_wp2_with fail
          refine (intsEq A1 A2 z.length z.length c1 c2 z z rr1 rr2).mono ?_
          rw [decide_eq_true (rfl : z = z)]
          rintro e w10 ⟨rfl, nq, rfl⟩
          have r5 := (r4.drewN nq).right.right.right.right.right
          clear r4 r3 r2 r1 rr1 rr2
          go_wp2
          go_ret
          exact ⟨rfl, r5⟩
    · have hall : allB n l = true := by
        have := hab.out
        rwa [List.take_of_length_le (by omega)] at this
      have hall2 : allB z.length l = true := by rw [HZ.out]; exact hall
      obtain ⟨o1, o2, o3, o4, o5⟩ := order_pure z l cut HD.out hall2
      rw [HZ.out] at o3 o4 o5
      have HA := hid hall
      have O1 := hid o1
      have O2 := hid o2
      have O3 := hid o3
      have O4 := hid o4
      have O5 := hid o5
      have b2 := flipR_bits z1 l
      have b3 := flipR_bits z1 (l.take cut)
      have HL := hid (flipR_length z l)
      have HL3 := hid (flipR_length z (l.take cut))
      clear hall hall2 o1 o2 o3 o4 o5 hab
      go_wp2_with fail
      go_loopw [11, 12] (fun v i wr => ∃ k : Nat, k ≤ l.length ∧ i = .int .i64 ((k : Int) - 1) ∧ Sat E (row 3 1 v (l.length - k) (nums .i64 (l.drop k).reverse) * (vbits vc z * (vbits vb z * (vbits va z * F)))) wr) (fun _ i _ => (intOf i + 1).toNat)
      case atStart => exact ⟨l.length, by omega, rfl, by simpa [nums] using hr.row_nil⟩
      case round =>
        clear hr
        obtain ⟨k, hk2, rfl, hr⟩ := hrel
        obtain ⟨Av, cv, rfl, _, _, _⟩ := hr.reads
        cases k with
        | succ k =>
          have e1 : ((k + 1 : Nat) : Int) - 1 = k := by omega
          rw [e1]
          clear e1
          have hw1 : IntKind.i64.wrap ((k : Int) - 1) = (k : Int) - 1 := i64_wrap (by omega) (by omega)
          obtain ⟨ad, rfl, hc⟩ := (hR _ hr.right.right.right.right).at (by omega)
          have hca := hc k _ (nums_at (by omega))
          clear hc
          have hnx : nums .i64 (l.drop (k + 1)).reverse ++ [.int .i64 l[k]] = nums .i64 (l.drop k).reverse := by
            rw [List.drop_eq_getElem_cons (show k < l.length by omega), List.reverse_cons, nums_append]
            rfl
          have hln : l.length - (k + 1) + 1 = l.length - k := by omega
          have HN := hid hnx
          have HLN := hid hln
          clear hnx hln
          go_wp2_with (at_builtin; refine wpList_append_sat rfl _ _ 22 3 (.int .i64 0) 1 8 rfl Try.underlying22 Try.info3 rfl (by decide) _ (l.length - (k + 1)) _ _ 1 1 [.int .i64 l[k]] rfl rfl (hr.alloc_drop _) (Reads.new 1 1 [.int .i64 l[k]] 3 rfl (by omega)) (by simp [Value.oneCell']) (by unfold maxLen; omega) (by omega) ?_; intro v1 w6 h6)
          rw [HN.out, HLN.out] at h6
          go_wp2
          go_roundw
          case rel => exact ⟨k, by omega, by first | rfl | go_num, h6⟩
          case measure => simp [intOf]
        | zero =>
          rw [List.drop_zero] at hr
          simp only [Nat.sub_zero] at hr ⊢
          have e1 : ((0 : Nat) : Int) - 1 = -1 := by omega
          rw [e1]
          clear e1
          go_wp2_with fail
          refine (flip_calls va z _ l.length c l (hr.eq (show _ = vbits va z * (row 3 1 (.slice Av l.length cv) l.length (nums .i64 l.reverse) * (vbits vc z * (vbits vb z * F))) by ac_rfl)) (by rw [HZ.out]; omega) z1 (fun w hw => hR w hw.right.right.right)).mono ?_
          rw [HZ.out, HA.out]
          rintro e w7 ⟨rfl, r1⟩
          go_wp2_with fail
          refine (flip_calls vb z _ l.length cv l.reverse (r1.eq (show _ = vbits vb z * (row 3 1 (.slice Av l.length cv) l.length (nums .i64 l.reverse) * (vbits vc z * (vbits va (flipR z l) * F))) by ac_rfl)) (by rw [HZ.out]; omega) z1 (fun w hw => hw.reads_at)).mono ?_
          rw [HZ.out, O5.out, O1.out]
          rintro e w8 ⟨rfl, r2⟩
          obtain ⟨Ad, hAd, hRd⟩ := cut_from (P := Try.prog) (size := 1) 22 3 .i64 Try.underlying22 (by kernel_rfl) A l.length c cut hcut hlc
          have HRD := hid hRd
          clear hRd
          go_wp2_with fail
          refine (flip_calls vc z A cut c (l.take cut) (r2.eq (show _ = vbits vc z * (row 3 1 (.slice Av l.length cv) l.length (nums .i64 l.reverse) * (vbits va (flipR z l) * (vbits vb (flipR z l) * F))) by ac_rfl)) (by rw [HZ.out]; omega) z1 (fun w hw => reads_take (hR w hw.right.right.right) cut hcut)).mono ?_
          rw [HZ.out, O3.out]
          rintro e w9 ⟨rfl, r3⟩
          go_wp2_with fail
          refine (flip_calls vc (flipR z (l.take cut)) Ad (l.length - cut) (c - cut) (l.drop cut) r3 (by rw [HL3.out, HZ.out]; omega) b3 (fun w hw => by
            have := HRD.out w _ (hR w hw.right.right.right)
            rwa [Nat.mul_one, show (nums .i64 l).drop cut = nums .i64 (l.drop cut) by simp [nums, List.map_drop]] at this)).mono ?_
          rw [HL3.out, HZ.out, O4.out, O2.out]
          rintro e w10 ⟨rfl, r4⟩
          clear hAd
          have r5 : Sat E (vbits va (flipR z l) * (vbits vb (flipR z l) * (vbits vc (flipR z l) * F))) w10 := (r4.eq (show _ = row 3 1 (.slice Av l.length cv) l.length (nums .i64 l.reverse) * (vbits va (flipR z l) * (vbits vb (flipR z l) * (vbits vc (flipR z l) * F))) by ac_rfl)).right
          clear r4 r3 r2 r1 hr
          have HLX : Hid ((flipR z l).length = n) := HL.out.trans HZ.out
          generalize flipR z l = X at r5 b2 HLX
          clear HL O1 O2 O3 O4 O5 HA
          go_wp2_with fail
          refine (first12 r5).mono ?_
          rintro e w11 ⟨rfl, s1⟩
          -- a and b
          go_wp2_with fail
          refine (bits_calls va X s1 (by rw [HLX.out]; omega)).mono ?_
          rintro e w12 ⟨v1, rfl, s2⟩
          obtain ⟨A1, c1, rfl, _, _, _⟩ := s2.reads
          go_wp2_with fail
          refine (bits_calls vb X (s2.eq (show _ = vbits vb X * (row 3 1 (.slice A1 X.length c1) X.length (nums .i64 X) * (vbits va X * (vbits vc X * F))) by ac_rfl)) (by rw [HLX.out]; omega)).mono ?_
          rintro e w13 ⟨v2, rfl, s3⟩
          obtain ⟨A2, c2, rfl, _, _, rr2⟩ := s3.reads
          have rr1 := s3.right.right.reads_at
          go_wp2_with fail
          refine (intsEq A1 A2 X.length X.length c1 c2 X X rr1 rr2).mono ?_
          rw [decide_eq_true (rfl : X = X)]
          rintro e w14 ⟨rfl, nq, rfl⟩
          have s4 : Sat E (vbits va X * (vbits vc X * (vbits vb X * F))) (w13.drewN nq) := ((s3.drewN nq).eq (show _ = row 3 1 (.slice A1 X.length c1) X.length (nums .i64 X) * (row 3 1 (.slice A2 X.length c2) X.length (nums .i64 X) * (vbits va X * (vbits vc X * (vbits vb X * F)))) by ac_rfl)).right.right
          clear s3 s2 s1 rr1 rr2 r5
          generalize w13.drewN nq = w14 at s4 ⊢
          -- a and c
          go_wp2_with fail
          refine (bits_calls va X s4 (by rw [HLX.out]; omega)).mono ?_
          rintro e w15 ⟨v1, rfl, s2⟩
          obtain ⟨A3, c3, rfl, _, _, _⟩ := s2.reads
          go_wp2_with fail
          refine (bits_calls vc X (s2.eq (show _ = vbits vc X * (row 3 1 (.slice A3 X.length c3) X.length (nums .i64 X) * (vbits va X * (vbits vb X * F))) by ac_rfl)) (by rw [HLX.out]; omega)).mono ?_
          rintro e w16 ⟨v2, rfl, s3⟩
          obtain ⟨A4, c4, rfl, _, _, rr2⟩ := s3.reads
          have rr1 := s3.right.right.reads_at
          go_wp2_with fail
          refine (intsEq A3 A4 X.length X.length c3 c4 X X rr1 rr2).mono ?_
          rw [decide_eq_true (rfl : X = X)]
          rintro e w17 ⟨rfl, nq2, rfl⟩
          have s5 : Sat E (vbits va X * (vbits vc X * (vbits vb X * F))) (w16.drewN nq2) := ((s3.drewN nq2).eq (show _ = row 3 1 (.slice A3 X.length c3) X.length (nums .i64 X) * (row 3 1 (.slice A4 X.length c4) X.length (nums .i64 X) * (vbits va X * (vbits vc X * (vbits vb X * F)))) by ac_rfl)).right.right
          clear s3 s2 s4 rr1 rr2
          generalize w16.drewN nq2 = w17 at s5 ⊢
          -- bytes
          obtain ⟨q, hq⟩ : ∃ q, q = (X.length + 7) / 8 := ⟨_, rfl⟩
          have HQ := hid hq
          clear hq
          go_wp2_with fail
          refine (bytes_calls va X s5 (by rw [HLX.out]; omega) b2).mono ?_
          rw [← HQ.out]
          rintro e w18 ⟨v1, rfl, s2⟩
          obtain ⟨A5, c5, rfl, _, _, _⟩ := s2.reads
          go_wp2_with fail
          refine (bytes_calls vc X (s2.eq (show _ = vbits vc X * (row 5 1 (.slice A5 q c5) q (nums .u8 (pack X)) * (vbits va X * (vbits vb X * F))) by ac_rfl)) (by rw [HLX.out]; omega) b2).mono ?_
          rw [← HQ.out]
          rintro e w19 ⟨v2, rfl, s3⟩
          obtain ⟨A6, c6, rfl, _, _, rr2⟩ := s3.reads
          have rr1 := s3.right.right.reads_at
          go_wp2_with fail
          refine (bytesEq A5 A6 q q c5 c6 (pack X) (pack X) rr1 rr2 (pack_byte b2) (pack_byte b2)).mono ?_
          rw [decide_eq_true (rfl : pack X = pack X)]
          rintro e w20 ⟨rfl, rfl⟩
          have s6 := s3.right.right.right.right.right
          clear s3 s2 s5 rr1 rr2
          go_wp2
          go_ret
          exact ⟨rfl, s6⟩

set_option maxRecDepth 100000 in
set_option maxHeartbeats 1000000 in
theorem versOrder {E w : World} {F : Asn} (n cut : Int) (A : Option Addr) (c : Nat) (l : List Int) (hlc : l.length ≤ c) (hS : Sat E F w) (hR : ∀ w, Sat E F w → Reads w 1 A l.length (nums .i64 l)) :
    Calls Try.prog 3 #[.int .i64 n, .slice A l.length c, .int .i64 cut] w fun e w' => e = .returned (.bool true) ∧ Sat E F w' := by
  have hmm := (hR w hS).2.1
  by_cases hg : l.length ≤ 200 ∧ 0 ≤ cut ∧ cut ≤ l.length
  · obtain ⟨x1, x2, x3⟩ := hg
    have hdd : dup l = true ∨ dup l = false := by cases dup l <;> simp
    rcases hdd with hd | hd
    · have HD := hid hd
      clear hd
      go_enter Try.func3, Try.ntmps3
      go_wp2_with fail
      refine (first12 hS).mono ?_
      rintro e w1 ⟨rfl, g1⟩
      go_wp2_with fail
      refine (twice_calls A c l g1 hlc hR).mono ?_
      rw [HD.out]
      rintro e w2 ⟨rfl, g2⟩
      go_wp2_with fail
      refine (first12 g2).mono ?_
      rintro e w3 ⟨rfl, g3⟩
      go_wp2
      go_ret
      exact ⟨rfl, g3⟩
    · by_cases hn : n < 1 ∨ 127 < n
      · have HD := hid hd
        clear hd
        go_enter Try.func3, Try.ntmps3
        go_wp2_with fail
        refine (first12 hS).mono ?_
        rintro e w1 ⟨rfl, g1⟩
        go_wp2_with fail
        refine (twice_calls A c l g1 hlc hR).mono ?_
        rw [HD.out]
        rintro e w2 ⟨rfl, g2⟩
        go_wp2_with fail
        refine (new_bad n hn).mono ?_
        rintro e w3 ⟨rfl, rfl⟩
        go_wp2_with fail
        refine (new_bad n hn).mono ?_
        rintro e w4 ⟨rfl, rfl⟩
        go_wp2_with fail
        refine (new_bad n hn).mono ?_
        rintro e w5 ⟨rfl, rfl⟩
        go_wp2_with fail
        refine (first12 g2).mono ?_
        rintro e w3 ⟨rfl, g3⟩
        go_wp2
        go_ret
        exact ⟨rfl, g3⟩
      · obtain ⟨n', rfl⟩ := Int.eq_ofNat_of_zero_le (show 0 ≤ n by omega)
        obtain ⟨k', rfl⟩ := Int.eq_ofNat_of_zero_le x2
        exact versOrder_ok n' k' A c l (by omega) (by omega) x1 (by omega) hlc hd hS hR
  · go_enter Try.func3, Try.ntmps3
    go_wp2_with fail
    refine (first12 hS).mono ?_
    rintro e w1 ⟨rfl, g1⟩
    go_wp2_with (go_at_call 12; refine (first12 (E := E) (F := F) (by assumption)).mono ?_; rintro e w2 ⟨rfl, h1⟩)
    all_goals first
      | (go_ret; exact ⟨rfl, by assumption⟩)
      | (exfalso; omega)

theorem VersOrder_walk (W : World) (a0 : Int) (w0 : (Lit.int .i64 a0).wf = true) (a1 : Option Addr) (len1 cap1 : Nat) (l1 : (List Int)) (h1 : (decSlice 8 (decInt .i64)).rel W l1 [.slice a1 len1 cap1]) (a2 : Int) (w2 : (Lit.int .i64 a2).wf = true) :
    Calls Try.prog 3 #[.int .i64 a0, .slice a1 len1 cap1, .int .i64 a2] W fun e w' => e = .returned (.bool true) ∧ Below W.heap.size W w' := by
  obtain ⟨A, c, he, h1, h2, h3, hR, hw⟩ := dec_ints h1
  simp at he
  obtain ⟨rfl, rfl, rfl⟩ := he
  exact (versOrder a0 a2 _ _ l1 h1 (Sat.start W) (fun w hs => hR.keep fun k hk => hs.old1 hk)).mono fun e w' ⟨he, hs⟩ => ⟨he, hs.finish1⟩
end Go.Proofs.Ytfphpnccmkggfaa
