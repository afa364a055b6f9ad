import Derived.Test.YtedhcgeglmoacaaTapeEnd
import Derived.Test.YtedhcgeglmoacaaSepQuiet
import Derived.Test.YtedhcgeglmoacaaLeafLaws
import Derived.Test.YtedhcgeglmoacaaSepArgs
import Derived.Deep.RegionWith
import Derived.Test.YtedhcgeglmoacaaHand
namespace Go.Proofs.Ytedhcgeglmoacaa
set_option linter.unusedVariables false
set_option linter.unusedSimpArgs false
open Go.RowKit Go.Proofs.Sep

theorem add_field (ad : Addr) (m j : Nat) (h : 0 < j) : ad.add (m + j) = ⟨(ad.add m).block, (ad.add m).off + j, none⟩ := by
  unfold Addr.add
  by_cases h0 : m = 0 <;> simp [h0, Nat.add_assoc] <;> omega
theorem bytesEq_same {w : World} (A B : Option Addr) (n m c d : Nat) (xs : List Int) (hA : Reads w 1 A n (nums .u8 xs)) (hB : Reads w 1 B m (nums .u8 xs)) (hx : ByteR xs) :
    Calls Try.prog 30 #[.slice A n c, .slice B m d] w fun e w' => e = .returned (.bool true) ∧ w = w' := by
  have := bytesEq A B n m c d xs xs hA hB hx hx
  rwa [decide_eq_true (rfl : xs = xs)] at this

def badH (h : Int) : Prop := h < 0 ∨ 6 < h
instance (h : Int) : Decidable (badH h) := inferInstanceAs (Decidable (_ ∨ _))
/-- What a draw of a leaf tells, and how many are drawn behind it. -/
def dv (ls : List Int) (d : Nat) (h : Int) : Int := if badH h then 0 else leafAt ls d h
def dt (d : Nat) (h : Int) : Int := if badH h then -1 else d
def dn (d : Nat) (h : Int) : Nat := if badH h then d else d + 1
theorem dn_le (d : Nat) (h : Int) : dn d h ≤ d + 1 := by unfold dn; split <;> omega
theorem draw_gen {E w : World} {F : Asn} (b d s : Nat) (ls : List Int) (hg : Int) (hS : Sat E (leaves b d s ls * F) w) (hb : d < 4611686018427387904) :
    Calls Try.prog 17 #[.pointer (some ⟨b, 0, none⟩), .int .i64 hg] w fun e w' => e = .returned (.tuple #[.int .i64 (dv ls d hg), .int .i64 (dt d hg)]) ∧ Sat E (leaves b (dn d hg) s ls * F) w' := by
  unfold dv dt dn
  by_cases hh : badH hg
  · simp only [if_pos hh]
    exact (draw_bad (E := E) (F := F) b d s ls hg hh).mono fun e w' ⟨he, hw⟩ => ⟨he, hw ▸ hS⟩
  · simp only [if_neg hh]
    unfold badH at hh
    exact draw_any b d s ls hg (by omega) (by omega) hS hb
theorem refDraw_gen {E w : World} {F : Asn} (b : Nat) (A : Option Addr) (n c d : Nat) (ls : List Int) (hg : Int) (hS : Sat E (refLeaves b A n c d * F) w) (hR : ∀ w, Sat E F w → Reads w 1 A n (nums .i64 ls)) (hd : d < 4611686018427387904) :
    Calls Try.prog 29 #[.pointer (some ⟨b, 0, none⟩), .int .i64 hg] w fun e w' => e = .returned (.tuple #[.int .i64 (dv ls d hg), .int .i64 (dt d hg)]) ∧ Sat E (refLeaves b A n c (dn d hg) * F) w' := by
  unfold dv dt dn
  by_cases hh : badH hg
  · simp only [if_pos hh]
    exact (refDraw_bad b hg hh).mono fun e w' ⟨he, hw⟩ => ⟨he, hw ▸ hS⟩
  · simp only [if_neg hh]
    unfold badH at hh
    exact refDraw b A n c d ls hg (by omega) (by omega) hS hR hd
def badN (m : Int) : Prop := m < 1 ∨ 1048576 < m
instance (h : Int) : Decidable (badN h) := inferInstanceAs (Decidable (_ ∨ _))
def pl (m : Int) : Nat := if badN m then 0 else m.toNat
def pg (bs : List Int) (d : Nat) (m : Int) : List Int := if badN m then [] else padsAt bs d m.toNat
theorem pg_byte {bs : List Int} (h : ByteR bs) (d : Nat) (m : Int) : ByteR (pg bs d m) := by
  unfold pg
  split
  · intro x hx; simp at hx
  · exact padsAt_byte h _ _
theorem pad_gen {E w : World} {F : Asn} (b d s : Nat) (m : Int) (bs : List Int) (hS : Sat E (pads b d s bs * F) w) (hd : d < 4611686018427387904) :
    Calls Try.prog 31 #[.pointer (some ⟨b, 0, none⟩), .int .i64 m] w fun e w' => ∃ A c, e = .returned (.slice A (pl m) c) ∧
      Sat E (row 5 1 (.slice A (pl m) c) (pl m) (nums .u8 (pg bs d m)) * (pads b (d + pl m) s bs * F)) w' := by
  unfold pl pg
  by_cases hh : badN m
  · simp only [if_pos hh]
    exact (padDraw_bad b m hh).mono fun e w' ⟨he, hw⟩ => ⟨none, 0, he, by subst hw; exact hS.row_nil⟩
  · simp only [if_neg hh]
    unfold badN at hh
    exact (padDrawI b d s m bs (by omega) (by omega) hS hd).mono fun e w' ⟨g, he, hs⟩ => ⟨_, _, he, hs⟩
theorem refPad_gen {E w : World} {F : Asn} (b : Nat) (A : Option Addr) (n c d : Nat) (m : Int) (bs : List Int) (hS : Sat E (refPads b A n c d * F) w) (hR : ∀ w, Sat E F w → Reads w 1 A n (nums .u8 bs)) (hd : d < 4611686018427387904) :
    Calls Try.prog 32 #[.pointer (some ⟨b, 0, none⟩), .int .i64 m] w fun e w' => ∃ A' c', e = .returned (.slice A' (pl m) c') ∧
      Sat E (row 5 1 (.slice A' (pl m) c') (pl m) (nums .u8 (pg bs d m)) * (refPads b A n c (d + pl m) * F)) w' := by
  unfold pl pg
  by_cases hh : badN m
  · simp only [if_pos hh]
    exact (refPad_bad b m hh).mono fun e w' ⟨he, hw⟩ => ⟨none, 0, he, by subst hw; exact hS.row_nil⟩
  · simp only [if_neg hh]
    unfold badN at hh
    exact (refPadI b A n c d m bs (by omega) (by omega) hS hR hd).mono fun e w' ⟨g, he, hs⟩ => ⟨_, _, he, hs⟩

/-- What a round of the law keeps. -/
def DrawsAt (E : World) (F : Asn) (a b x y : Nat) (Al : Option Addr) (n c : Nat) (ls : List Int) (Ap : Option Addr) (np cp : Nat) (bs : List Int) (d e : Nat) (w : World) : Prop :=
  Sat E (leaves a d n ls * (pads b e np bs * (refLeaves x Al n c d * (refPads y Ap np cp e * F)))) w

set_option maxRecDepth 100000 in
set_option maxHeartbeats 12000000 in
theorem tapeDraws {E w : World} {F : Asn} (Al : Option Addr) (n c : Nat) (ls : List Int) (Ap : Option Addr) (np cp : Nat) (bs : List Int) (Ao : Option Addr) (no co : Nat) (os : List (Int × Int))
    (hS : Sat E F w) (hRl : ∀ w, Sat E F w → Reads w 1 Al n (nums .i64 ls)) (hRp : ∀ w, Sat E F w → Reads w 1 Ap np (nums .u8 bs)) (hRo : ∀ w, Sat E F w → Reads w 2 Ao no (pairs os))
    (hn : n * 8 ≤ 140737488351232) (hnp : np ≤ 140737488351232) (hno : no * 16 ≤ 140737488351232) (hbr : ByteR bs) :
    Calls Try.prog 5 #[.slice Al n c, .slice Ap np cp, .slice Ao no co] w fun e w' => e = .returned (.bool true) ∧ Sat E F w' := by
  have hl : ls.length = n := by have := (hRl w hS).1; simpa [nums] using this
  have hlp : bs.length = np := by have := (hRp w hS).1; simpa [nums] using this
  have hlo : os.length = no := by have := (hRo w hS).1; rw [pairs_length] at this; omega
  by_cases hg : 2000 < n ∨ 2000 < np ∨ 200 < no
  · go_enter Try.func5, Try.ntmps5
    go_wp2_with (go_at_call 15; refine (first1 (E := E) (F := F) (by assumption)).mono ?_; rintro e w1 ⟨rfl, h1⟩)
    all_goals first
      | (go_ret; exact ⟨rfl, by assumption⟩)
      | (exfalso; omega)
  · have g1 : n ≤ 2000 := by omega
    have g2 : np ≤ 2000 := by omega
    have g3 : no ≤ 200 := by omega
    clear hg
    go_enter Try.func5, Try.ntmps5
    go_wp2_with fail
    refine (first1 hS).mono ?_
    rintro e w1 ⟨rfl, h1⟩
    go_wp2_with fail
    refine (copyInts Al n c (nums .i64 ls) h1 (hRl _ h1) (nums_one _ _) hn).mono ?_
    rintro e w2 ⟨vi, rfl, h2⟩
    obtain ⟨Ai, ci, rfl, hi1, hi2, hi3⟩ := h2.reads
    go_wp2_with fail
    refine (copyBytes Ap np cp (nums .u8 bs) h2 (hRp _ h2.right) (nums_one _ _) (by omega)).mono ?_
    rintro e w3 ⟨vr, rfl, h3⟩
    obtain ⟨Ar, cr, rfl, hr1, hr2, hr3⟩ := h3.reads
    go_wp2_with fail
    refine (newLeaves Ai n ci ls h3 (h3.right.reads_at) hn).mono ?_
    rintro e w4 ⟨a, rfl, h4⟩
    go_wp2_with fail
    refine (newPads Ar np cr bs h4 (h4.right.reads_at) hnp).mono ?_
    rintro e w5 ⟨b, rfl, h5⟩
    have h6 := (h5.alloc (.cells #[.slice Al n c, .int .i64 0] 56)).alloc (.cells #[.slice Ap np cp, .int .i64 0] 59)
    obtain ⟨x, hx⟩ : ∃ x, x = w5.heap.size := ⟨_, rfl⟩
    rw [World.size_alloc, ← hx] at h6
    have h7 : Sat E (row 3 1 (.slice Ai n ci) n (nums .i64 ls) * (row 5 1 (.slice Ar np cr) np (nums .u8 bs) * (leaves a 0 n ls * (pads b 0 np bs * (refLeaves x Al n c 0 * (refPads (x + 1) Ap np cp 0 * F)))))) ((w5.alloc (.cells #[.slice Al n c, .int .i64 0] 56)).alloc (.cells #[.slice Ap np cp, .int .i64 0] 59)) := by
      refine h6.eq ?_
      unfold refLeaves refPads
      simp only [Int.natCast_zero]
      ac_rfl
    have HX := hid hx
    go_wp2_with fail
    rw [← hx]
    clear hx h6 h5 h4 h3 h2 hi1 hi2 hi3 hr1 hr2 hr3
    go_loopw [13] (fun i wr => ∃ (k : Nat) (xs : List Int), k ≤ n ∧ i = .int .i64 k ∧ Sat E (row 3 1 (.slice Ai n ci) n (nums .i64 xs) * (row 5 1 (.slice Ar np cr) np (nums .u8 bs) * (leaves a 0 n ls * (pads b 0 np bs * (refLeaves x Al n c 0 * (refPads (x + 1) Ap np cp 0 * F)))))) wr) (fun i _ => n - (intOf i).toNat)
    case atStart => exact ⟨0, ls, by omega, rfl, h7⟩
    case round =>
      obtain ⟨k, xs, hk, rfl, hr⟩ := hrel
      by_cases hlt : k < n
      · obtain ⟨g, cg, hv, _, _⟩ := hr.row_head (by omega)
        injection hv with hv1 hv2 hv3
        subst hv1
        have hxl : xs.length = n := by have := hr.row_len; simpa [nums] using this
        have hc := (hr.row_cell k (by omega)).trans (nums_at (by omega))
        have hf := hr.row_free k
        clear hv3
        go_wp2
        go_roundw
        case rel => exact ⟨k + 1, xs.set k 7, by omega, by go_num, by have := hr.row_store k (.int .i64 7); rwa [show (nums .i64 xs).set k (.int .i64 7) = nums .i64 (xs.set k 7) by simp [nums, List.map_set]] at this⟩
        case measure => simp [intOf]; omega
      · have hr1 := hr.right
        clear hr h7
        go_wp2_with fail
        go_loopw [14] (fun i wr => ∃ (k : Nat) (xs : List Int), k ≤ np ∧ i = .int .i64 k ∧ Sat E (row 5 1 (.slice Ar np cr) np (nums .u8 xs) * (leaves a 0 n ls * (pads b 0 np bs * (refLeaves x Al n c 0 * (refPads (x + 1) Ap np cp 0 * F))))) wr) (fun i _ => np - (intOf i).toNat)
        case atStart => exact ⟨0, bs, by omega, rfl, hr1⟩
        case round =>
          obtain ⟨k2, xs2, hk2, rfl, hr⟩ := hrel
          by_cases hlt2 : k2 < np
          · obtain ⟨g, cg, hv, _, _⟩ := hr.row_head (by omega)
            injection hv with hv1 hv2 hv3
            subst hv1
            have hxl : xs2.length = np := by have := hr.row_len; simpa [nums] using this
            have hc := (hr.row_cell k2 (by omega)).trans (nums_at (by omega))
            have hf := hr.row_free k2
            clear hv3
            go_wp2
            go_roundw
            case rel => exact ⟨k2 + 1, xs2.set k2 7, by omega, by go_num, by have := hr.row_store k2 (.int .u8 7); rwa [show (nums .u8 xs2).set k2 (.int .u8 7) = nums .u8 (xs2.set k2 7) by simp [nums, List.map_set]] at this⟩
            case measure => simp [intOf]; omega
          · have hr2 := hr.right
            clear hr hr1
            go_wp2_with fail
            go_loopw [15] (fun i wr => ∃ (q d e : Nat), q ≤ no ∧ d ≤ q ∧ e ≤ 3000 * q ∧ i = .int .i64 q ∧ DrawsAt E F a b x (x + 1) Al n c ls Ap np cp bs d e wr) (fun i _ => no - (intOf i).toNat)
            case atStart => exact ⟨0, 0, 0, by omega, by omega, by omega, rfl, hr2⟩
            case round =>
              obtain ⟨q, d, ee, hq, hd, hee, rfl, hr0⟩ := hrel
              have hr := hr0
              unfold DrawsAt at hr
              by_cases hlt3 : q < no
              · have hF := hr.right.right.right.right
                obtain ⟨ad, rfl, hcell⟩ := (hRo _ hF).at (by omega)
                have hp0 := hcell _ _ (pairs_at0 (k := q) (by omega))
                have hp1 := hcell _ _ (pairs_at1 (k := q) (by omega))
                clear hcell
                obtain ⟨d1, hd1⟩ : ∃ d1, d1 = dn d os[q].1 := ⟨_, rfl⟩
                have hd2 : d1 ≤ d + 1 := hd1 ▸ dn_le _ _
                go_wp2_with fail
                refine (draw_gen a d n ls _ hr (by omega)).mono ?_
                rintro e w9 ⟨rfl, h9⟩
                have h9' : Sat E (refLeaves x Al n c d * (leaves a (dn d os[q].1) n ls * (pads b ee np bs * (refPads (x + 1) Ap np cp ee * F)))) w9 := h9.eq (by ac_rfl)
                have hpa := ((hRo _ h9.right.right.right.right).2.2.2 ad rfl _ _ (pairs_at0 (k := q) (by omega)))
                go_wp2_with fail
                refine (refDraw_gen x Al n c d ls _ h9' (fun w hw => hRl w hw.right.right.right) (by omega)).mono ?_
                rw [← hd1]
                rintro e w10 ⟨rfl, h10⟩
                have h11 : Sat E (leaves a d1 n ls * (pads b ee np bs * (refLeaves x Al n c d1 * (refPads (x + 1) Ap np cp ee * F)))) w10 := h10.eq (by ac_rfl)
                clear h9 h9' hpa hp0 hp1 h10 hr hF hd1
                have hpb := ((hRo _ h11.right.right.right.right).2.2.2 ad rfl _ _ (pairs_at1 (k := q) (by omega)))
                have e1 : leaves a d1 n ls * (pads b ee np bs * (refLeaves x Al n c d1 * (refPads (x + 1) Ap np cp ee * F))) = refLeaves x Al n c d1 * (leaves a d1 n ls * (pads b ee np bs * (refPads (x + 1) Ap np cp ee * F))) := by ac_rfl
                have c2 : ∀ s : SW E (leaves a d1 n ls * (pads b ee np bs * (refLeaves x Al n c d1 * (refPads (x + 1) Ap np cp ee * F)))), s.w.cell? ⟨x, 1, none⟩ = some (.int .i64 d1) := fun s => by
                  have := (s.h.eq e1).cell_blk (i := 1)
                  simpa using this
                have hmx : (if (n : Int) - (d1 : Int) < 0 then 0 else (n : Int) - (d1 : Int)) = ((n - d1 : Nat) : Int) := by split <;> omega
                clear e1
                go_wp2_with fail
                refine wp_region_quietS _ (by kernel_rfl) (by kernel_rfl) h11 ?_
                intro hne
                repeat (go_big_quiet_step (first
                  | (go_at_call 19; exact quietS (drawn_sat a d1 n ls (SW.h _)))
                  | (go_at_call 18; exact quietS (left_sat a d1 n ls (SW.h _) (by omega) (by omega)))))
                refine wpQuiet_nil ?_
                intro w12 hw'
                have h12 := SW.out hw'
                clear hw' hne
                have hpb2 := ((hRo _ h12.right.right.right.right).2.2.2 ad rfl _ _ (pairs_at1 (k := q) (by omega)))
                have hpb3 : ∀ w' : World, Sat E F w' → w'.cell? (ad.add (q * 2 + 1)) = some (.int .i64 os[q].2) := fun w' hw => ((hRo _ hw).2.2.2 ad rfl _ _ (pairs_at1 (k := q) (by omega)))
                have hadd : ad.add (q * 2 + 1) = ⟨(ad.add (q * 2)).block, (ad.add (q * 2)).off + 1, none⟩ := add_field _ _ 1 (by omega)
                rw [hadd] at hpb hpb2 hpb3
                clear hpb hadd c2 hmx h11
                by_cases hN : 3000 < os[q].2
                · go_wp2_with fail
                  go_roundw
                  case rel => exact ⟨q + 1, d1, ee, by omega, by omega, by omega, by go_num, h12⟩
                  case measure => simp [intOf]; omega
                · have hN2 : os[q].2 ≤ 3000 := by omega
                  have hpl : pl os[q].2 ≤ 3000 := by unfold pl; split <;> omega
                  obtain ⟨m, hm⟩ : ∃ m, m = os[q].2 := ⟨_, rfl⟩
                  rw [← hm] at hpb2 hpb3 hN hN2 hpl
                  clear hm
                  obtain ⟨e2, he2⟩ : ∃ e2, e2 = ee + pl m := ⟨_, rfl⟩
                  have he3 : e2 ≤ 3000 * (q + 1) := by omega
                  have HE := hid he2
                  have hby : ByteR (pg bs ee m) := pg_byte hbr _ _
                  have hb0 : Sat E (pads b ee np bs * (leaves a d1 n ls * (refLeaves x Al n c d1 * (refPads (x + 1) Ap np cp ee * F)))) w12 := h12.eq (by ac_rfl)
                  have hmx : (if (np : Int) - (e2 : Int) < 0 then 0 else (np : Int) - (e2 : Int)) = ((np - e2 : Nat) : Int) := by split <;> omega
                  clear he2 hr0 h12
                  go_wp2_with fail
                  have hq12 : w12.drew.cell? { block := (ad.add (q * 2)).block, off := (ad.add (q * 2)).off + 1 } = some (.int .i64 m) := hpb2
                  have wsub : IntKind.i64.wrap ((np : Int) - (e2 : Int)) = (np : Int) - (e2 : Int) := i64_wrap (by omega) (by omega)
                  clear hmx
                  refine wp_region_held_drew (S := fun w' => w'.cell? { block := (ad.add (q * 2)).block, off := (ad.add (q * 2)).off + 1 } = some (.int .i64 m)) (by kernel_rfl) hq12 (fun hH => ?_)
                  refine wpAnyH_take (i := 0) (oi := ?o0) (v := ?v0) ?hi0 ?hb0 ?hc0 ?hd0 ?hq0 (Or.inl ⟨?he0, ?hy0⟩) (by assumption) ?hr0
                  case hi0 => (simp only [List.getElem?_toArray, List.getElem?_cons_succ, List.getElem?_cons_zero]; exact rfl)
                  case hb0 => kernel_rfl
                  case hc0 => kernel_rfl
                  case hd0 => kernel_rfl
                  case he0 => rfl
                  case hy0 => (intro w hSw; (try dsimp only at hSw); go_simp; try with_reducible rfl)
                  case hq0 => exact (fun _ _ _ h => h)
                  simp only [Act.put, List.setIfInBounds_toArray, List.set_cons_zero, List.set_cons_succ]
                  refine wpAnyH_take (i := 1) (oi := ?o1) (v := ?v1) ?hi1 ?hb1 ?hc1 ?hd1 ?hq1 (Or.inl ⟨?he1, ?hy1⟩) (by assumption) ?hr1
                  case hi1 => (simp only [List.getElem?_toArray, List.getElem?_cons_succ, List.getElem?_cons_zero]; exact rfl)
                  case hb1 => kernel_rfl
                  case hc1 => kernel_rfl
                  case hd1 => kernel_rfl
                  case he1 => rfl
                  case hy1 => (intro w hSw; (try dsimp only at hSw); go_simp; try with_reducible rfl)
                  case hq1 => exact (fun _ _ _ h => h)
                  simp only [Act.put, List.setIfInBounds_toArray, List.set_cons_zero, List.set_cons_succ]
                  refine wpAnyH_take (i := 2) (oi := ?o2) (v := ?v2) ?hi2 ?hb2 ?hc2 ?hd2 ?hq2 (Or.inl ⟨?he2, ?hy2⟩) (by assumption) ?hr2
                  case hi2 => (simp only [List.getElem?_toArray, List.getElem?_cons_succ, List.getElem?_cons_zero]; exact rfl)
                  case hb2 => kernel_rfl
                  case hc2 => kernel_rfl
                  case hd2 => kernel_rfl
                  case he2 => rfl
                  case hy2 => (intro w hSw; (try dsimp only at hSw); go_simp; try with_reducible rfl)
                  case hq2 => exact (fun _ _ _ h => h)
                  simp only [Act.put, List.setIfInBounds_toArray, List.set_cons_zero, List.set_cons_succ]
                  refine wpAnyH_take (i := 3) (oi := ?o3) (v := ?v3) ?hi3 ?hb3 ?hc3 ?hd3 ?hq3 (Or.inl ⟨?he3, ?hy3⟩) (by assumption) ?hr3
                  case hi3 => (simp only [List.getElem?_toArray, List.getElem?_cons_succ, List.getElem?_cons_zero]; exact rfl)
                  case hb3 => kernel_rfl
                  case hc3 => kernel_rfl
                  case hd3 => kernel_rfl
                  case he3 => rfl
                  case hy3 => (intro w hSw; (try dsimp only at hSw); go_simp; try with_reducible rfl)
                  case hq3 => exact (fun _ _ _ h => h)
                  simp only [Act.put, List.setIfInBounds_toArray, List.set_cons_zero, List.set_cons_succ]
                  refine wpAnyH_take (i := 4) (oi := ?o4) (v := ?v4) ?hi4 ?hb4 ?hc4 ?hd4 ?hq4 (Or.inl ⟨?he4, ?hy4⟩) (by assumption) ?hr4
                  case hi4 => (simp only [List.getElem?_toArray, List.getElem?_cons_succ, List.getElem?_cons_zero]; exact rfl)
                  case hb4 => kernel_rfl
                  case hc4 => kernel_rfl
                  case hd4 => kernel_rfl
                  case he4 => rfl
                  case hy4 => (intro w hSw; (try dsimp only at hSw); go_simp; try with_reducible rfl)
                  case hq4 => exact (fun _ _ _ h => h)
                  simp only [Act.put, List.setIfInBounds_toArray, List.set_cons_zero, List.set_cons_succ]
                  refine wpAnyH_take (i := 5) (oi := ?o5) (v := ?v5) ?hi5 ?hb5 ?hc5 ?hd5 ?hq5 (Or.inl ⟨?he5, ?hy5⟩) (by assumption) ?hr5
                  case hi5 => (simp only [List.getElem?_toArray, List.getElem?_cons_succ, List.getElem?_cons_zero]; exact rfl)
                  case hb5 => kernel_rfl
                  case hc5 => kernel_rfl
                  case hd5 => kernel_rfl
                  case he5 => rfl
                  case hy5 => (intro w hSw; (try dsimp only at hSw); go_simp; try with_reducible rfl)
                  case hq5 => exact (fun _ _ _ h => h)
                  simp only [Act.put, List.setIfInBounds_toArray, List.set_cons_zero, List.set_cons_succ]
                  refine wpAnyH_take (i := 7) (oi := ?o7) (v := ?v7) ?hi7 ?hb7 ?hc7 ?hd7 ?hq7 (Or.inl ⟨?he7, ?hy7⟩) (by assumption) ?hr7
                  case hi7 => (simp only [List.getElem?_toArray, List.getElem?_cons_succ, List.getElem?_cons_zero]; exact rfl)
                  case hb7 => kernel_rfl
                  case hc7 => kernel_rfl
                  case hd7 => kernel_rfl
                  case he7 => rfl
                  case hy7 => (intro w hSw; (try dsimp only at hSw); go_simp; try with_reducible rfl)
                  case hq7 => exact (fun _ _ _ h => h)
                  simp only [Act.put, List.setIfInBounds_toArray, List.set_cons_zero, List.set_cons_succ]
                  refine wpAnyH_take (i := 8) (oi := ?o8) (v := ?v8) ?hi8 ?hb8 ?hc8 ?hd8 ?hq8 (Or.inl ⟨?he8, ?hy8⟩) (by assumption) ?hr8
                  case hi8 => (simp only [List.getElem?_toArray, List.getElem?_cons_succ, List.getElem?_cons_zero]; exact rfl)
                  case hb8 => kernel_rfl
                  case hc8 => kernel_rfl
                  case hd8 => kernel_rfl
                  case he8 => rfl
                  case hy8 => (intro w hSw; (try dsimp only at hSw); go_simp; try with_reducible rfl)
                  case hq8 => exact (fun _ _ _ h => h)
                  simp only [Act.put, List.setIfInBounds_toArray, List.set_cons_zero, List.set_cons_succ]
                  refine wpAnyH_take (i := 9) (oi := ?o9) (v := ?v9) ?hi9 ?hb9 ?hc9 ?hd9 ?hq9 (Or.inl ⟨?he9, ?hy9⟩) (by assumption) ?hr9
                  case hi9 => (simp only [List.getElem?_toArray, List.getElem?_cons_succ, List.getElem?_cons_zero]; exact rfl)
                  case hb9 => kernel_rfl
                  case hc9 => kernel_rfl
                  case hd9 => kernel_rfl
                  case he9 => rfl
                  case hy9 => (intro w hSw; (try dsimp only at hSw); go_simp; try with_reducible rfl)
                  case hq9 => exact (fun _ _ _ h => h)
                  simp only [Act.put, List.setIfInBounds_toArray, List.set_cons_zero, List.set_cons_succ]
                  refine wpAnyH_take (i := 10) (oi := ?o10) (v := ?v10) ?hi10 ?hb10 ?hc10 ?hd10 ?hq10 (Or.inl ⟨?he10, ?hy10⟩) (by assumption) ?hr10
                  case hi10 => (simp only [List.getElem?_toArray, List.getElem?_cons_succ, List.getElem?_cons_zero]; exact rfl)
                  case hb10 => kernel_rfl
                  case hc10 => kernel_rfl
                  case hd10 => kernel_rfl
                  case he10 => rfl
                  case hy10 => (intro w hSw; (try dsimp only at hSw); go_simp; try with_reducible rfl)
                  case hq10 => exact (fun _ _ _ h => h)
                  simp only [Act.put, List.setIfInBounds_toArray, List.set_cons_zero, List.set_cons_succ]
                  refine wpAnyH_take (i := 11) (oi := ?o11) (v := ?v11) ?hi11 ?hb11 ?hc11 ?hd11 ?hq11 (Or.inl ⟨?he11, ?hy11⟩) (by assumption) ?hr11
                  case hi11 => (simp only [List.getElem?_toArray, List.getElem?_cons_succ, List.getElem?_cons_zero]; exact rfl)
                  case hb11 => kernel_rfl
                  case hc11 => kernel_rfl
                  case hd11 => kernel_rfl
                  case he11 => rfl
                  case hy11 => (intro w hSw; (try dsimp only at hSw); go_simp; try with_reducible rfl)
                  case hq11 => exact (fun _ _ _ h => h)
                  simp only [Act.put, List.setIfInBounds_toArray, List.set_cons_zero, List.set_cons_succ]
                  refine wpAnyH_take (i := 12) (oi := ?o12) (v := ?v12) ?hi12 ?hb12 ?hc12 ?hd12 ?hq12 (Or.inl ⟨?he12, ?hy12⟩) (by assumption) ?hr12
                  case hi12 => (simp only [List.getElem?_toArray, List.getElem?_cons_succ, List.getElem?_cons_zero]; exact rfl)
                  case hb12 => kernel_rfl
                  case hc12 => kernel_rfl
                  case hd12 => kernel_rfl
                  case he12 => rfl
                  case hy12 => (intro w hSw; (try dsimp only at hSw); go_simp; try with_reducible rfl)
                  case hq12 => exact (fun _ _ _ h => h)
                  simp only [Act.put, List.setIfInBounds_toArray, List.set_cons_zero, List.set_cons_succ]
                  refine wpAnyH_ready (rs := [6]) (by kernel_rfl) (by simp) ?_
                  refine AllReadyH.cons (o := ?oc6) ?hoc6 (fun K hK => ?_) AllReadyH.nil
                  case hoc6 => (simp only [List.getElem?_toArray, List.getElem?_cons_succ, List.getElem?_cons_zero]; exact rfl)
                  go_simp
                  refine (pad_gen b ee np m bs (hb0.drew) (by omega)).mono ?_
                  rw [← HE.out]
                  rintro e w13 ⟨A3, c3, rfl, h13⟩
                  have hq13 := hpb3 w13 h13.right.right.right.right.right
                  have h13' : Sat E (refPads (x + 1) Ap np cp ee * (row 5 1 (.slice A3 (pl m) c3) (pl m) (nums .u8 (pg bs ee m)) * (pads b e2 np bs * (leaves a d1 n ls * (refLeaves x Al n c d1 * F))))) w13 := h13.eq (by ac_rfl)
                  go_wp2_with fail
                  refine hK.out _ _ hq13 (fun hH => ?_)
                  clear hK K
                  try simp only [Act.put, List.setIfInBounds_toArray, List.set_cons_zero, List.set_cons_succ]
                  refine wpAnyH_ready (rs := [13]) (by kernel_rfl) (by simp) ?_
                  refine AllReadyH.cons (o := ?oc13) ?hoc13 (fun K hK => ?_) AllReadyH.nil
                  case hoc13 => (simp only [List.getElem?_toArray, List.getElem?_cons_succ, List.getElem?_cons_zero]; exact rfl)
                  go_simp
                  refine (refPad_gen (x + 1) Ap np cp ee m bs h13' (fun w hw => hRp w hw.right.right.right.right) (by omega)).mono ?_
                  rw [← HE.out]
                  rintro e w14 ⟨A4, c4, rfl, h14⟩
                  have hR4 := h14.reads_at
                  have hR3 := h14.right.right.reads_at
                  have k1 := (h14.right).cell_blk (i := 1)
                  obtain ⟨Ab, cb, _, _, h15, _⟩ := pads_open h14.right.right.right
                  have k2 := h15.cell_blk (i := 0)
                  have k3 := h15.cell_blk (i := 1)
                  simp only [List.getElem?_toArray, List.getElem?_cons_zero, List.getElem?_cons_succ] at k1 k2 k3
                  have hq14 := hpb3 w14 h14.right.right.right.right.right.right
                  go_wp2_with fail
                  refine hK.out _ _ hq14 (fun hH => ?_)
                  clear hK K
                  try simp only [Act.put, List.setIfInBounds_toArray, List.set_cons_zero, List.set_cons_succ]
                  refine wpAnyH_grow (S' := fun w' => w'.cell? { block := (ad.add (q * 2)).block, off := (ad.add (q * 2)).off + 1 } = some (.int .i64 m) ∧ w'.cell? ⟨x + 1, 1, none⟩ = some (.int .i64 e2)) (fun _ h => h.1) _ _ _ _ ?_
                  have hH2 : (fun w' : World => w'.cell? { block := (ad.add (q * 2)).block, off := (ad.add (q * 2)).off + 1 } = some (.int .i64 m) ∧ w'.cell? ⟨x + 1, 1, none⟩ = some (.int .i64 e2)) w14 := ⟨hq14, k1⟩
                  refine wpAnyH_ready (rs := [14]) (by kernel_rfl) (by simp) ?_
                  refine AllReadyH.cons (o := ?oc14) ?hoc14 (fun K hK => ?_) AllReadyH.nil
                  case hoc14 => (simp only [List.getElem?_toArray, List.getElem?_cons_succ, List.getElem?_cons_zero]; exact rfl)
                  go_simp
                  refine (bytesEq_same _ _ _ _ _ _ (pg bs ee m) hR3 hR4 hby).mono ?_
                  rintro e w15 ⟨rfl, rfl⟩
                  go_wp2_with fail
                  refine hK.out _ _ hH2 (fun hH => ?_)
                  clear hK K
                  try simp only [Act.put, List.setIfInBounds_toArray, List.set_cons_zero, List.set_cons_succ]
                  refine wpAnyH_take (i := 15) (oi := ?o15) (v := ?v15) ?hi15 ?hb15 ?hc15 ?hd15 ?hq15 (Or.inl ⟨?he15, ?hy15⟩) (by assumption) ?hr15
                  case hi15 => (simp only [List.getElem?_toArray, List.getElem?_cons_succ, List.getElem?_cons_zero]; exact rfl)
                  case hb15 => kernel_rfl
                  case hc15 => kernel_rfl
                  case hd15 => kernel_rfl
                  case he15 => rfl
                  case hy15 => (intro w hSw; (try dsimp only at hSw); go_simp; try with_reducible rfl)
                  case hq15 => exact (fun _ _ _ h => h)
                  simp only [Act.put, List.setIfInBounds_toArray, List.set_cons_zero, List.set_cons_succ]
                  refine wpAnyH_take (i := 16) (oi := ?o16) (v := ?v16) ?hi16 ?hb16 ?hc16 ?hd16 ?hq16 (Or.inl ⟨?he16, ?hy16⟩) (by assumption) ?hr16
                  case hi16 => (simp only [List.getElem?_toArray, List.getElem?_cons_succ, List.getElem?_cons_zero]; exact rfl)
                  case hb16 => kernel_rfl
                  case hc16 => kernel_rfl
                  case hd16 => kernel_rfl
                  case he16 => rfl
                  case hy16 => (intro w hSw; (try dsimp only at hSw); go_simp; try with_reducible rfl)
                  case hq16 => exact (fun _ _ _ h => h)
                  simp only [Act.put, List.setIfInBounds_toArray, List.set_cons_zero, List.set_cons_succ]
                  refine wpAnyH_take (i := 17) (oi := ?o17) (v := ?v17) ?hi17 ?hb17 ?hc17 ?hd17 ?hq17 (Or.inl ⟨?he17, ?hy17⟩) (by assumption) ?hr17
                  case hi17 => (simp only [List.getElem?_toArray, List.getElem?_cons_succ, List.getElem?_cons_zero]; exact rfl)
                  case hb17 => kernel_rfl
                  case hc17 => kernel_rfl
                  case hd17 => kernel_rfl
                  case he17 => rfl
                  case hy17 => (intro w hSw; (try dsimp only at hSw); go_simp; try with_reducible rfl)
                  case hq17 => exact (fun _ _ _ h => h)
                  simp only [Act.put, List.setIfInBounds_toArray, List.set_cons_zero, List.set_cons_succ]
                  refine wpAnyH_take (i := 18) (oi := ?o18) (v := ?v18) ?hi18 ?hb18 ?hc18 ?hd18 ?hq18 (Or.inl ⟨?he18, ?hy18⟩) (by assumption) ?hr18
                  case hi18 => (simp only [List.getElem?_toArray, List.getElem?_cons_succ, List.getElem?_cons_zero]; exact rfl)
                  case hb18 => kernel_rfl
                  case hc18 => kernel_rfl
                  case hd18 => kernel_rfl
                  case he18 => rfl
                  case hy18 => (intro w hSw; (try dsimp only at hSw); go_simp; try with_reducible rfl)
                  case hq18 => exact (fun _ _ _ h => h)
                  simp only [Act.put, List.setIfInBounds_toArray, List.set_cons_zero, List.set_cons_succ]
                  refine wpAnyH_take (i := 19) (oi := ?o19) (v := ?v19) ?hi19 ?hb19 ?hc19 ?hd19 ?hq19 (Or.inl ⟨?he19, ?hy19⟩) (by assumption) ?hr19
                  case hi19 => (simp only [List.getElem?_toArray, List.getElem?_cons_succ, List.getElem?_cons_zero]; exact rfl)
                  case hb19 => kernel_rfl
                  case hc19 => kernel_rfl
                  case hd19 => kernel_rfl
                  case he19 => rfl
                  case hy19 => (intro w hSw; (try dsimp only at hSw); go_simp; try with_reducible rfl)
                  case hq19 => exact (fun _ _ _ h => h)
                  simp only [Act.put, List.setIfInBounds_toArray, List.set_cons_zero, List.set_cons_succ]
                  refine wpAnyH_take (i := 21) (oi := ?o21) (v := ?v21) ?hi21 ?hb21 ?hc21 ?hd21 ?hq21 (Or.inl ⟨?he21, ?hy21⟩) (by assumption) ?hr21
                  case hi21 => (simp only [List.getElem?_toArray, List.getElem?_cons_succ, List.getElem?_cons_zero]; exact rfl)
                  case hb21 => kernel_rfl
                  case hc21 => kernel_rfl
                  case hd21 => kernel_rfl
                  case he21 => rfl
                  case hy21 => (intro w hSw; (try dsimp only at hSw); go_simp; try with_reducible rfl)
                  case hq21 => exact (fun _ _ _ h => h)
                  simp only [Act.put, List.setIfInBounds_toArray, List.set_cons_zero, List.set_cons_succ]
                  refine wpAnyH_take (i := 22) (oi := ?o22) (v := ?v22) ?hi22 ?hb22 ?hc22 ?hd22 ?hq22 (Or.inl ⟨?he22, ?hy22⟩) (by assumption) ?hr22
                  case hi22 => (simp only [List.getElem?_toArray, List.getElem?_cons_succ, List.getElem?_cons_zero]; exact rfl)
                  case hb22 => kernel_rfl
                  case hc22 => kernel_rfl
                  case hd22 => kernel_rfl
                  case he22 => rfl
                  case hy22 => (intro w hSw; (try dsimp only at hSw); go_simp; try with_reducible rfl)
                  case hq22 => exact (fun _ _ _ h => h)
                  simp only [Act.put, List.setIfInBounds_toArray, List.set_cons_zero, List.set_cons_succ]
                  refine wpAnyH_take (i := 23) (oi := ?o23) (v := ?v23) ?hi23 ?hb23 ?hc23 ?hd23 ?hq23 (Or.inl ⟨?he23, ?hy23⟩) (by assumption) ?hr23
                  case hi23 => (simp only [List.getElem?_toArray, List.getElem?_cons_succ, List.getElem?_cons_zero]; exact rfl)
                  case hb23 => kernel_rfl
                  case hc23 => kernel_rfl
                  case hd23 => kernel_rfl
                  case he23 => rfl
                  case hy23 => (intro w hSw; (try dsimp only at hSw); go_simp; try with_reducible rfl)
                  case hq23 => exact (fun _ _ _ h => h)
                  simp only [Act.put, List.setIfInBounds_toArray, List.set_cons_zero, List.set_cons_succ]
                  refine wpAnyH_take (i := 24) (oi := ?o24) (v := ?v24) ?hi24 ?hb24 ?hc24 ?hd24 ?hq24 (Or.inl ⟨?he24, ?hy24⟩) (by assumption) ?hr24
                  case hi24 => (simp only [List.getElem?_toArray, List.getElem?_cons_succ, List.getElem?_cons_zero]; exact rfl)
                  case hb24 => kernel_rfl
                  case hc24 => kernel_rfl
                  case hd24 => kernel_rfl
                  case he24 => rfl
                  case hy24 => (intro w hSw; (try dsimp only at hSw); go_simp; try with_reducible rfl)
                  case hq24 => exact (fun _ _ _ h => h)
                  simp only [Act.put, List.setIfInBounds_toArray, List.set_cons_zero, List.set_cons_succ]
                  refine wpAnyH_ready (rs := [20]) (by kernel_rfl) (by simp) ?_
                  refine AllReadyH.cons (o := ?oc20) ?hoc20 (fun K hK => ?_) AllReadyH.nil
                  case hoc20 => (simp only [List.getElem?_toArray, List.getElem?_cons_succ, List.getElem?_cons_zero]; exact rfl)
                  go_simp
                  refine (reel_drawn b e2 k2).mono ?_
                  rintro e w16 ⟨rfl, rfl⟩
                  go_wp2_with fail
                  refine hK.out _ _ hH2 (fun hH => ?_)
                  clear hK K
                  try simp only [Act.put, List.setIfInBounds_toArray, List.set_cons_zero, List.set_cons_succ]
                  refine wpAnyH_take (i := 25) (oi := ?o25) (v := ?v25) ?hi25 ?hb25 ?hc25 ?hd25 ?hq25 (Or.inl ⟨?he25, ?hy25⟩) (by assumption) ?hr25
                  case hi25 => (simp only [List.getElem?_toArray, List.getElem?_cons_succ, List.getElem?_cons_zero]; exact rfl)
                  case hb25 => kernel_rfl
                  case hc25 => kernel_rfl
                  case hd25 => kernel_rfl
                  case he25 => rfl
                  case hy25 => (intro w hSw; (try dsimp only at hSw); go_simp; try with_reducible rfl)
                  case hq25 => exact (fun _ _ _ h => h)
                  simp only [Act.put, List.setIfInBounds_toArray, List.set_cons_zero, List.set_cons_succ]
                  refine wpAnyH_take (i := 26) (oi := ?o26) (v := ?v26) ?hi26 ?hb26 ?hc26 ?hd26 ?hq26 (Or.inl ⟨?he26, ?hy26⟩) (by assumption) ?hr26
                  case hi26 => (simp only [List.getElem?_toArray, List.getElem?_cons_succ, List.getElem?_cons_zero]; exact rfl)
                  case hb26 => kernel_rfl
                  case hc26 => kernel_rfl
                  case hd26 => kernel_rfl
                  case he26 => rfl
                  case hy26 => (intro w hSw; (try dsimp only at hSw); go_simp; try with_reducible rfl)
                  case hq26 => exact (fun _ _ _ h => h)
                  simp only [Act.put, List.setIfInBounds_toArray, List.set_cons_zero, List.set_cons_succ]
                  refine wpAnyH_take (i := 27) (oi := ?o27) (v := ?v27) ?hi27 ?hb27 ?hc27 ?hd27 ?hq27 (Or.inl ⟨?he27, ?hy27⟩) (by assumption) ?hr27
                  case hi27 => (simp only [List.getElem?_toArray, List.getElem?_cons_succ, List.getElem?_cons_zero]; exact rfl)
                  case hb27 => kernel_rfl
                  case hc27 => kernel_rfl
                  case hd27 => kernel_rfl
                  case he27 => rfl
                  case hy27 => (intro w hSw; (try dsimp only at hSw); go_simp; try with_reducible rfl)
                  case hq27 => exact (fun _ _ _ h => h)
                  simp only [Act.put, List.setIfInBounds_toArray, List.set_cons_zero, List.set_cons_succ]
                  refine wpAnyH_take (i := 28) (oi := ?o28) (v := ?v28) ?hi28 ?hb28 ?hc28 ?hd28 ?hq28 (Or.inl ⟨?he28, ?hy28⟩) (by assumption) ?hr28
                  case hi28 => (simp only [List.getElem?_toArray, List.getElem?_cons_succ, List.getElem?_cons_zero]; exact rfl)
                  case hb28 => kernel_rfl
                  case hc28 => kernel_rfl
                  case hd28 => kernel_rfl
                  case he28 => rfl
                  case hy28 => (intro w hSw; (try dsimp only at hSw); go_simp; try with_reducible rfl)
                  case hq28 => exact (fun _ _ _ h => h)
                  simp only [Act.put, List.setIfInBounds_toArray, List.set_cons_zero, List.set_cons_succ]
                  refine wpAnyH_take (i := 29) (oi := ?o29) (v := ?v29) ?hi29 ?hb29 ?hc29 ?hd29 ?hq29 (Or.inl ⟨?he29, ?hy29⟩) (by assumption) ?hr29
                  case hi29 => (simp only [List.getElem?_toArray, List.getElem?_cons_succ, List.getElem?_cons_zero]; exact rfl)
                  case hb29 => kernel_rfl
                  case hc29 => kernel_rfl
                  case hd29 => kernel_rfl
                  case he29 => rfl
                  case hy29 => (intro w hSw; (try dsimp only at hSw); go_simp; try with_reducible rfl)
                  case hq29 => exact (fun _ _ _ h => h)
                  simp only [Act.put, List.setIfInBounds_toArray, List.set_cons_zero, List.set_cons_succ]
                  refine wpAnyH_take (i := 30) (oi := ?o30) (v := ?v30) ?hi30 ?hb30 ?hc30 ?hd30 ?hq30 (Or.inl ⟨?he30, ?hy30⟩) (by assumption) ?hr30
                  case hi30 => (simp only [List.getElem?_toArray, List.getElem?_cons_succ, List.getElem?_cons_zero]; exact rfl)
                  case hb30 => kernel_rfl
                  case hc30 => kernel_rfl
                  case hd30 => kernel_rfl
                  case he30 => rfl
                  case hy30 => (intro w hSw; (try dsimp only at hSw); go_simp; try with_reducible rfl)
                  case hq30 => exact (fun _ _ _ h => h)
                  simp only [Act.put, List.setIfInBounds_toArray, List.set_cons_zero, List.set_cons_succ]
                  refine wpAnyH_take (i := 32) (oi := ?o32) (v := ?v32) ?hi32 ?hb32 ?hc32 ?hd32 ?hq32 (Or.inl ⟨?he32, ?hy32⟩) (by assumption) ?hr32
                  case hi32 => (simp only [List.getElem?_toArray, List.getElem?_cons_succ, List.getElem?_cons_zero]; exact rfl)
                  case hb32 => kernel_rfl
                  case hc32 => kernel_rfl
                  case hd32 => kernel_rfl
                  case he32 => rfl
                  case hy32 => (intro w hSw; (try dsimp only at hSw); go_simp; try with_reducible rfl)
                  case hq32 => exact (fun _ _ _ h => h)
                  simp only [Act.put, List.setIfInBounds_toArray, List.set_cons_zero, List.set_cons_succ]
                  refine wpAnyH_take (i := 33) (oi := ?o33) (v := ?v33) ?hi33 ?hb33 ?hc33 ?hd33 ?hq33 (Or.inl ⟨?he33, ?hy33⟩) (by assumption) ?hr33
                  case hi33 => (simp only [List.getElem?_toArray, List.getElem?_cons_succ, List.getElem?_cons_zero]; exact rfl)
                  case hb33 => kernel_rfl
                  case hc33 => kernel_rfl
                  case hd33 => kernel_rfl
                  case he33 => rfl
                  case hy33 => (intro w hSw; (try dsimp only at hSw); go_simp; try with_reducible rfl)
                  case hq33 => exact (fun _ _ _ h => h)
                  simp only [Act.put, List.setIfInBounds_toArray, List.set_cons_zero, List.set_cons_succ]
                  refine wpAnyH_take (i := 34) (oi := ?o34) (v := ?v34) ?hi34 ?hb34 ?hc34 ?hd34 ?hq34 (Or.inl ⟨?he34, ?hy34⟩) (by assumption) ?hr34
                  case hi34 => (simp only [List.getElem?_toArray, List.getElem?_cons_succ, List.getElem?_cons_zero]; exact rfl)
                  case hb34 => kernel_rfl
                  case hc34 => kernel_rfl
                  case hd34 => kernel_rfl
                  case he34 => rfl
                  case hy34 => (intro w hSw; (try dsimp only at hSw); go_simp; try with_reducible rfl)
                  case hq34 => exact (fun _ _ _ h => h)
                  simp only [Act.put, List.setIfInBounds_toArray, List.set_cons_zero, List.set_cons_succ]
                  refine wpAnyH_take (i := 35) (oi := ?o35) (v := ?v35) ?hi35 ?hb35 ?hc35 ?hd35 ?hq35 (Or.inl ⟨?he35, ?hy35⟩) (by assumption) ?hr35
                  case hi35 => (simp only [List.getElem?_toArray, List.getElem?_cons_succ, List.getElem?_cons_zero]; exact rfl)
                  case hb35 => kernel_rfl
                  case hc35 => kernel_rfl
                  case hd35 => kernel_rfl
                  case he35 => rfl
                  case hy35 => (intro w hSw; (try dsimp only at hSw); go_simp; try with_reducible rfl)
                  case hq35 => exact (fun _ _ _ h => h)
                  simp only [Act.put, List.setIfInBounds_toArray, List.set_cons_zero, List.set_cons_succ]
                  refine wpAnyH_take (i := 36) (oi := ?o36) (v := ?v36) ?hi36 ?hb36 ?hc36 ?hd36 ?hq36 (Or.inl ⟨?he36, ?hy36⟩) (by assumption) ?hr36
                  case hi36 => (simp only [List.getElem?_toArray, List.getElem?_cons_succ, List.getElem?_cons_zero]; exact rfl)
                  case hb36 => kernel_rfl
                  case hc36 => kernel_rfl
                  case hd36 => kernel_rfl
                  case he36 => rfl
                  case hy36 => (intro w hSw; (try dsimp only at hSw); go_simp; try with_reducible rfl)
                  case hq36 => exact (fun _ _ _ h => h)
                  simp only [Act.put, List.setIfInBounds_toArray, List.set_cons_zero, List.set_cons_succ]
                  refine wpAnyH_take (i := 37) (oi := ?o37) (v := ?v37) ?hi37 ?hb37 ?hc37 ?hd37 ?hq37 (Or.inl ⟨?he37, ?hy37⟩) (by assumption) ?hr37
                  case hi37 => (simp only [List.getElem?_toArray, List.getElem?_cons_succ, List.getElem?_cons_zero]; exact rfl)
                  case hb37 => kernel_rfl
                  case hc37 => kernel_rfl
                  case hd37 => kernel_rfl
                  case he37 => rfl
                  case hy37 => (intro w hSw; (try dsimp only at hSw); go_simp; try with_reducible rfl)
                  case hq37 => exact (fun _ _ _ h => h)
                  simp only [Act.put, List.setIfInBounds_toArray, List.set_cons_zero, List.set_cons_succ]
                  refine wpAnyH_take (i := 38) (oi := ?o38) (v := ?v38) ?hi38 ?hb38 ?hc38 ?hd38 ?hq38 (Or.inl ⟨?he38, ?hy38⟩) (by assumption) ?hr38
                  case hi38 => (simp only [List.getElem?_toArray, List.getElem?_cons_succ, List.getElem?_cons_zero]; exact rfl)
                  case hb38 => kernel_rfl
                  case hc38 => kernel_rfl
                  case hd38 => kernel_rfl
                  case he38 => rfl
                  case hy38 => (intro w hSw; (try dsimp only at hSw); go_simp; try with_reducible rfl)
                  case hq38 => exact (fun _ _ _ h => h)
                  simp only [Act.put, List.setIfInBounds_toArray, List.set_cons_zero, List.set_cons_succ]
                  have hcase : ((np : Int) - (e2 : Int) < 0 ∧ (np : Int) - (e2 : Int) ≤ 0 ∧ ¬ (0 : Int) < (np : Int) - (e2 : Int) ∧ ¬ (0 : Int) ≤ (np : Int) - (e2 : Int) ∧ ((np - e2 : Nat) : Int) = 0) ∨ (¬ (np : Int) - (e2 : Int) < 0 ∧ ¬ (np : Int) - (e2 : Int) ≤ 0 ∧ (0 : Int) < (np : Int) - (e2 : Int) ∧ (0 : Int) ≤ (np : Int) - (e2 : Int) ∧ ((np - e2 : Nat) : Int) = (np : Int) - (e2 : Int)) ∨ (np = e2) := by omega
                  rcases hcase with ⟨z1, z2, z3, z4, z5⟩ | ⟨z1, z2, z3, z4, z5⟩ | z1
                  · skip
                    refine wpAnyH_take (i := 39) (oi := ?o39a) (v := ?v39a) ?hi39a ?hb39a ?hc39a ?hd39a ?hq39a (Or.inl ⟨?he39a, ?hy39a⟩) (by assumption) ?hr39a
                    case hi39a => (simp only [List.getElem?_toArray, List.getElem?_cons_succ, List.getElem?_cons_zero]; exact rfl)
                    case hb39a => kernel_rfl
                    case hc39a => kernel_rfl
                    case hd39a => kernel_rfl
                    case he39a => rfl
                    case hy39a => (intro w hSw; (try dsimp only at hSw); go_simp; try with_reducible rfl)
                    case hq39a => exact (fun _ _ _ h => h)
                    simp only [Act.put, List.setIfInBounds_toArray, List.set_cons_zero, List.set_cons_succ]
                    refine wpAnyH_ready (rs := [31]) (by kernel_rfl) (by simp) ?_
                    refine AllReadyH.cons (o := ?oc31a) ?hoc31a (fun K hK => ?_) AllReadyH.nil
                    case hoc31a => (simp only [List.getElem?_toArray, List.getElem?_cons_succ, List.getElem?_cons_zero]; exact rfl)
                    go_simp
                    refine (reel_left b e2 np k2 k3 (by omega) (by omega)).mono ?_
                    rintro e w17 ⟨rfl, nq, rfl⟩
                    have hfin := (h14.right).drop_mid.drewN nq
                    have hH3 : (fun w' : World => w'.cell? { block := (ad.add (q * 2)).block, off := (ad.add (q * 2)).off + 1 } = some (.int .i64 m) ∧ w'.cell? ⟨x + 1, 1, none⟩ = some (.int .i64 e2)) (w14.drewN nq) := hH2
                    go_wp2_with fail
                    refine hK.out _ _ hH3 (fun hH => ?_)
                    clear hK K
                    try simp only [Act.put, List.setIfInBounds_toArray, List.set_cons_zero, List.set_cons_succ]
                    refine wpAnyH_take (i := 40) (oi := ?o40a) (v := ?v40a) ?hi40a ?hb40a ?hc40a ?hd40a ?hq40a (Or.inl ⟨?he40a, ?hy40a⟩) (by assumption) ?hr40a
                    case hi40a => (simp only [List.getElem?_toArray, List.getElem?_cons_succ, List.getElem?_cons_zero]; exact rfl)
                    case hb40a => kernel_rfl
                    case hc40a => kernel_rfl
                    case hd40a => kernel_rfl
                    case he40a => rfl
                    case hy40a => (intro w hSw; (try dsimp only at hSw); go_simp; try with_reducible rfl)
                    case hq40a => exact (fun _ _ _ h => h)
                    simp only [Act.put, List.setIfInBounds_toArray, List.set_cons_zero, List.set_cons_succ]
                    refine wpAnyH_take (i := 41) (oi := ?o41a) (v := ?v41a) ?hi41a ?hb41a ?hc41a ?hd41a ?hq41a (Or.inl ⟨?he41a, ?hy41a⟩) (by assumption) ?hr41a
                    case hi41a => (simp only [List.getElem?_toArray, List.getElem?_cons_succ, List.getElem?_cons_zero]; exact rfl)
                    case hb41a => kernel_rfl
                    case hc41a => kernel_rfl
                    case hd41a => kernel_rfl
                    case he41a => rfl
                    case hy41a => (intro w hSw; (try dsimp only at hSw); go_simp; try with_reducible rfl)
                    case hq41a => exact (fun _ _ _ h => h)
                    simp only [Act.put, List.setIfInBounds_toArray, List.set_cons_zero, List.set_cons_succ]
                    refine wpAnyH_done (by kernel_rfl) ?_ _
                    go_wp2
                    go_roundw
                    case rel => exact ⟨q + 1, d1, e2, by omega, by omega, by omega, by go_num, hfin.eq (by ac_rfl)⟩
                    case measure => simp [intOf]; omega
                  · skip
                    refine wpAnyH_take (i := 39) (oi := ?o39b) (v := ?v39b) ?hi39b ?hb39b ?hc39b ?hd39b ?hq39b (Or.inl ⟨?he39b, ?hy39b⟩) (by assumption) ?hr39b
                    case hi39b => (simp only [List.getElem?_toArray, List.getElem?_cons_succ, List.getElem?_cons_zero]; exact rfl)
                    case hb39b => kernel_rfl
                    case hc39b => kernel_rfl
                    case hd39b => kernel_rfl
                    case he39b => rfl
                    case hy39b => (intro w hSw; (try dsimp only at hSw); go_simp; try with_reducible rfl)
                    case hq39b => exact (fun _ _ _ h => h)
                    simp only [Act.put, List.setIfInBounds_toArray, List.set_cons_zero, List.set_cons_succ]
                    refine wpAnyH_ready (rs := [31]) (by kernel_rfl) (by simp) ?_
                    refine AllReadyH.cons (o := ?oc31b) ?hoc31b (fun K hK => ?_) AllReadyH.nil
                    case hoc31b => (simp only [List.getElem?_toArray, List.getElem?_cons_succ, List.getElem?_cons_zero]; exact rfl)
                    go_simp
                    refine (reel_left b e2 np k2 k3 (by omega) (by omega)).mono ?_
                    rintro e w17 ⟨rfl, nq, rfl⟩
                    have hfin := (h14.right).drop_mid.drewN nq
                    have hH3 : (fun w' : World => w'.cell? { block := (ad.add (q * 2)).block, off := (ad.add (q * 2)).off + 1 } = some (.int .i64 m) ∧ w'.cell? ⟨x + 1, 1, none⟩ = some (.int .i64 e2)) (w14.drewN nq) := hH2
                    go_wp2_with fail
                    refine hK.out _ _ hH3 (fun hH => ?_)
                    clear hK K
                    try simp only [Act.put, List.setIfInBounds_toArray, List.set_cons_zero, List.set_cons_succ]
                    refine wpAnyH_take (i := 40) (oi := ?o40b) (v := ?v40b) ?hi40b ?hb40b ?hc40b ?hd40b ?hq40b (Or.inl ⟨?he40b, ?hy40b⟩) (by assumption) ?hr40b
                    case hi40b => (simp only [List.getElem?_toArray, List.getElem?_cons_succ, List.getElem?_cons_zero]; exact rfl)
                    case hb40b => kernel_rfl
                    case hc40b => kernel_rfl
                    case hd40b => kernel_rfl
                    case he40b => rfl
                    case hy40b => (intro w hSw; (try dsimp only at hSw); go_simp; try with_reducible rfl)
                    case hq40b => exact (fun _ _ _ h => h)
                    simp only [Act.put, List.setIfInBounds_toArray, List.set_cons_zero, List.set_cons_succ]
                    refine wpAnyH_take (i := 41) (oi := ?o41b) (v := ?v41b) ?hi41b ?hb41b ?hc41b ?hd41b ?hq41b (Or.inl ⟨?he41b, ?hy41b⟩) (by assumption) ?hr41b
                    case hi41b => (simp only [List.getElem?_toArray, List.getElem?_cons_succ, List.getElem?_cons_zero]; exact rfl)
                    case hb41b => kernel_rfl
                    case hc41b => kernel_rfl
                    case hd41b => kernel_rfl
                    case he41b => rfl
                    case hy41b => (intro w hSw; (try dsimp only at hSw); go_simp; try with_reducible rfl)
                    case hq41b => exact (fun _ _ _ h => h)
                    simp only [Act.put, List.setIfInBounds_toArray, List.set_cons_zero, List.set_cons_succ]
                    refine wpAnyH_done (by kernel_rfl) ?_ _
                    go_wp2
                    go_roundw
                    case rel => exact ⟨q + 1, d1, e2, by omega, by omega, by omega, by go_num, hfin.eq (by ac_rfl)⟩
                    case measure => simp [intOf]; omega
                  · skip
                    have z2 : (np : Int) - (e2 : Int) = 0 := by omega
                    have z3 : np - e2 = 0 := by omega
                    clear z1
                    refine wpAnyH_take (i := 39) (oi := ?o39c) (v := ?v39c) ?hi39c ?hb39c ?hc39c ?hd39c ?hq39c (Or.inl ⟨?he39c, ?hy39c⟩) (by assumption) ?hr39c
                    case hi39c => (simp only [List.getElem?_toArray, List.getElem?_cons_succ, List.getElem?_cons_zero]; exact rfl)
                    case hb39c => kernel_rfl
                    case hc39c => kernel_rfl
                    case hd39c => kernel_rfl
                    case he39c => rfl
                    case hy39c => (intro w hSw; (try dsimp only at hSw); go_simp; try with_reducible rfl)
                    case hq39c => exact (fun _ _ _ h => h)
                    simp only [Act.put, List.setIfInBounds_toArray, List.set_cons_zero, List.set_cons_succ]
                    refine wpAnyH_ready (rs := [31]) (by kernel_rfl) (by simp) ?_
                    refine AllReadyH.cons (o := ?oc31c) ?hoc31c (fun K hK => ?_) AllReadyH.nil
                    case hoc31c => (simp only [List.getElem?_toArray, List.getElem?_cons_succ, List.getElem?_cons_zero]; exact rfl)
                    go_simp
                    refine (reel_left b e2 np k2 k3 (by omega) (by omega)).mono ?_
                    rintro e w17 ⟨rfl, nq, rfl⟩
                    have hfin := (h14.right).drop_mid.drewN nq
                    have hH3 : (fun w' : World => w'.cell? { block := (ad.add (q * 2)).block, off := (ad.add (q * 2)).off + 1 } = some (.int .i64 m) ∧ w'.cell? ⟨x + 1, 1, none⟩ = some (.int .i64 e2)) (w14.drewN nq) := hH2
                    go_wp2_with fail
                    refine hK.out _ _ hH3 (fun hH => ?_)
                    clear hK K
                    try simp only [Act.put, List.setIfInBounds_toArray, List.set_cons_zero, List.set_cons_succ]
                    refine wpAnyH_take (i := 40) (oi := ?o40c) (v := ?v40c) ?hi40c ?hb40c ?hc40c ?hd40c ?hq40c (Or.inl ⟨?he40c, ?hy40c⟩) (by assumption) ?hr40c
                    case hi40c => (simp only [List.getElem?_toArray, List.getElem?_cons_succ, List.getElem?_cons_zero]; exact rfl)
                    case hb40c => kernel_rfl
                    case hc40c => kernel_rfl
                    case hd40c => kernel_rfl
                    case he40c => rfl
                    case hy40c => (intro w hSw; (try dsimp only at hSw); go_simp; try with_reducible rfl)
                    case hq40c => exact (fun _ _ _ h => h)
                    simp only [Act.put, List.setIfInBounds_toArray, List.set_cons_zero, List.set_cons_succ]
                    refine wpAnyH_take (i := 41) (oi := ?o41c) (v := ?v41c) ?hi41c ?hb41c ?hc41c ?hd41c ?hq41c (Or.inl ⟨?he41c, ?hy41c⟩) (by assumption) ?hr41c
                    case hi41c => (simp only [List.getElem?_toArray, List.getElem?_cons_succ, List.getElem?_cons_zero]; exact rfl)
                    case hb41c => kernel_rfl
                    case hc41c => kernel_rfl
                    case hd41c => kernel_rfl
                    case he41c => rfl
                    case hy41c => (intro w hSw; (try dsimp only at hSw); go_simp; try with_reducible rfl)
                    case hq41c => exact (fun _ _ _ h => h)
                    simp only [Act.put, List.setIfInBounds_toArray, List.set_cons_zero, List.set_cons_succ]
                    refine wpAnyH_done (by kernel_rfl) ?_ _
                    go_wp2
                    go_roundw
                    case rel => exact ⟨q + 1, d1, e2, by omega, by omega, by omega, by go_num, hfin.eq (by ac_rfl)⟩
                    case measure => simp [intOf]; omega
              · go_wp2_with fail
                refine (first1 hr).mono ?_
                rintro e w9 ⟨rfl, h9⟩
                go_wp2
                go_ret
                exact ⟨rfl, h9.right.right.right.right⟩
end Go.Proofs.Ytedhcgeglmoacaa
