import Derived.Test.YtfphpnccmkggfaaIds7
import Derived.Test.YtfphpnccmkggfaaSepStep
import Derived.Deep.RegionHeld3
namespace Go.Proofs.Ytfphpnccmkggfaa
set_option linter.unusedVariables false
set_option linter.unusedSimpArgs false
open Go.RowKit Go.Proofs.Sep

theorem _root_.Go.Proofs.Sep.Sat.row_shrink {E w : World} {F : Asn} {e size n c : Nat} {A : Option Addr} {xs : List Value} (h : Sat E (row e size (.slice A n c) n xs * F) w) (k : Nat) (hk : k ≤ n) : Sat E (row e size (.slice A k c) k (xs.take (k * size)) * F) w := by
  refine h.imp_left ?_
  rintro a ⟨hl, hr⟩
  refine ⟨by rw [List.length_take, hl]; exact Nat.min_eq_left (Nat.mul_le_mul_right _ hk), ?_⟩
  rcases hr with ⟨hv, hn, rfl⟩ | ⟨g, cap, cur, hv, h1, h2, h3, h4, rfl⟩
  · injection hv with q1 q2 q3
    subst q1 q3
    exact .inl ⟨by rw [show k = 0 by omega], by omega, rfl⟩
  · injection hv with q1 q2 q3
    subst q1 q3
    refine .inr ⟨g, _, cur, rfl, by omega, h2, h3, ?_, rfl⟩
    rw [← h4, List.take_take, Nat.min_eq_left (Nat.mul_le_mul_right _ hk)]

def Rises (l : List Int) : Prop := l.Pairwise (· ≤ ·)
theorem rises_ins {out : List Int} {x : Int} {k : Nat} (hs : Rises out) (hk : k ≤ out.length) (h1 : ∀ j (h : j < out.length), k ≤ j → x < out[j]) (h2 : ∀ (h : 0 < k), out[k - 1]'(by omega) ≤ x) :
    Rises (out.take k ++ x :: out.drop k) := by
  unfold Rises at hs ⊢
  have h0 := hs
  rw [← List.take_append_drop k out, List.pairwise_append] at h0
  rw [List.pairwise_append, List.pairwise_cons]
  refine ⟨h0.1, ⟨?_, h0.2.1⟩, ?_⟩
  · intro b hb
    obtain ⟨j, hj, rfl⟩ := List.getElem_of_mem hb
    rw [List.getElem_drop]
    have := h1 (k + j) (by rw [List.length_drop] at hj; omega) (by omega)
    omega
  · intro a ha b hb
    rcases List.mem_cons.1 hb with rfl | hb
    · obtain ⟨j, hj, rfl⟩ := List.getElem_of_mem ha
      rw [List.length_take] at hj
      rw [List.getElem_take]
      have h3 := h2 (by omega)
      by_cases e : j = k - 1
      · subst e; exact h3
      · have := List.pairwise_iff_getElem.1 hs j (k - 1) (by omega) (by omega) (by omega)
        omega
    · exact h0.2.2 a ha b hb
theorem ins_perm (out : List Int) (x : Int) (k : Nat) : (out.take k ++ x :: out.drop k).Perm (out ++ [x]) := by
  have h1 : (out.take k ++ x :: out.drop k).Perm (x :: (out.take k ++ out.drop k)) := List.perm_middle
  rw [List.take_append_drop] at h1
  exact h1.trans (List.perm_append_singleton x out).symm
theorem rises_eq {l m : List Int} (hp : l.Perm m) (hl : Rises l) (hm : Rises m) : l = m := by
  induction l generalizing m with
  | nil => exact (List.nil_perm.1 hp).symm ▸ rfl
  | cons a l ih =>
    cases m with
    | nil => exact absurd hp.length_eq (by simp)
    | cons b m =>
      unfold Rises at hl hm
      rw [List.pairwise_cons] at hl hm
      have hab : a = b := by
        have ha : a ∈ b :: m := hp.mem_iff.1 (by simp)
        have hb : b ∈ a :: l := hp.mem_iff.2 (by simp)
        rcases List.mem_cons.1 ha with h | h
        · exact h
        · rcases List.mem_cons.1 hb with h' | h'
          · exact h'.symm
          · have := hl.1 b h'
            have := hm.1 a h
            omega
      subst hab
      rw [ih ((List.perm_cons a).1 hp) hl.2 hm.2]
theorem rises_free (n : Nat) (T : List Int) : Rises (freeOf n T) := (freeOf_less n T).imp (by intro a b h; omega)
/-- What rises, has no two alike and the free numbers' members is the free numbers. -/
theorem free_sorted {n : Nat} {T l out : List Int} (hp : out.Perm l) (hs : Rises out) (hn : l.Nodup) (hm : ∀ x, x ∈ l ↔ x ∈ freeOf n T) : out = freeOf n T := by
  refine rises_eq (hp.trans ?_) hs (rises_free n T)
  exact (List.perm_ext_iff_of_nodup hn (freeOf_nodup n T)).2 hm

set_option maxRecDepth 100000 in
set_option maxHeartbeats 2000000 in
theorem sorted_calls {E w : World} {F : Asn} (A : Option Addr) (c : Nat) (l : List Int) (hS : Sat E F w) (hn : l.length ≤ 1000000) (hR : ∀ w, Sat E F w → Reads w 1 A l.length (nums .i64 l)) :
    Calls Try.prog 40 #[.slice A l.length c] w fun e w' => ∃ v out, e = .returned v ∧ out.Perm l ∧ Rises out ∧ Sat E (row 3 1 v l.length (nums .i64 out) * F) w' := by
  go_enter Try.func40, Try.ntmps40
  go_wp2_with fail
  go_loopw [3, 4] (fun v i wr => ∃ (q : Nat) (out : List Int), q ≤ l.length ∧ i = .int .i64 q ∧ Hid (out.Perm (l.take q) ∧ Rises out) ∧ out.length = q ∧ Sat E (row 3 1 v q (nums .i64 out) * F) wr) (fun _ i _ => l.length - (intOf i).toNat)
  case atStart => exact ⟨0, [], by omega, rfl, ⟨by simp, List.Pairwise.nil⟩, rfl, hS.row_nil⟩
  case round =>
    obtain ⟨q, out, hq, rfl, ho, hol, hr⟩ := hrel
    obtain ⟨Av, cv, rfl, hcv, _, hRv⟩ := hr.reads
    by_cases hlt : q < l.length
    · have hqd : (q : Int) < (l.length : Int) := by omega
      obtain ⟨ad, hA, _⟩ := (hR _ hr.right).at (by omega)
      have hc0 : ∀ w, Sat E F w → w.cell? (ad.add q) = some (.int .i64 l[q]) := fun w h => (hR w h).2.2.2 ad hA q _ (nums_at hlt)
      subst hA
      have hnext : l.take (q + 1) = l.take q ++ [l[q]] := by rw [List.take_add_one, List.getElem?_eq_getElem hlt, Option.toList_some]
      have HNX := hid hnext
      clear hnext
      generalize hx : l[q] = x at *
      clear hx
      go_wp2_with fail
      go_loopw [5] (fun i wr => ∃ k : Nat, k ≤ q ∧ i = .int .i64 k ∧ Hid (∀ j (h : j < out.length), k ≤ j → x < out[j]) ∧ Sat E (row 3 1 (.slice Av q cv) q (nums .i64 out) * F) wr) (fun i _ => (intOf i).toNat)
      case atStart => exact ⟨q, by omega, rfl, fun j h hj => by omega, hr⟩
      case round =>
        clear hr hRv
        obtain ⟨k, hk, rfl, hgt, hr⟩ := hrel
        have d0 := hc0 _ hr.right
        have hfin : ∀ (hle : ∀ (h : 0 < k), out[k - 1]'(by omega) ≤ x), Hid ((out.take k ++ x :: out.drop k).Perm (l.take (q + 1)) ∧ Rises (out.take k ++ x :: out.drop k)) := fun hle =>
          ⟨by rw [HNX.out]; exact (ins_perm out x k).trans (ho.out.1.append_right [x]), rises_ins ho.out.2 (by omega) hgt.out hle⟩
        rcases Nat.eq_zero_or_pos k with hk0 | hk0
        · have z1 : ¬ (0 : Int) < (k : Int) := by omega
          have z1n : ¬ 0 < k := by omega
          have zb : decide (0 < k) = false := decide_eq_false z1n
          have HFI := hfin (fun h => by omega)
          clear hfin hk0
          go_wp2_with fail
          go_quiet (fail)
          have hr := hr.drewN nq
          generalize wr.drewN nq = w8 at *
          have hkc : (k : Int) ≤ (cv : Int) := by omega
          obtain ⟨A', hcut, hRc⟩ := cut_from (P := Try.prog) (size := 1) 22 3 .i64 Try.underlying22 (by kernel_rfl) Av q cv k hk hcv
          have hA1 : Sat E (row 3 1 (.slice (some ⟨w8.heap.size, 0, none⟩) 1 1) 1 [.int .i64 x] * (row 3 1 (.slice Av q cv) q (nums .i64 out) * F)) ((w8.alloc (.cells #[.int .i64 x] 3)).drew) := (hr.row_alloc [.int .i64 x] 3 1 1 rfl (by simp [maxLen])).drew
          have hRA : Reads ((w8.alloc (.cells #[.int .i64 x] 3)).drew) 1 A' (q - k) (nums .i64 (out.drop k)) := by
            have := hRc _ _ hA1.right.reads_at
            rwa [Nat.mul_one, show (nums .i64 out).drop k = nums .i64 (out.drop k) by simp [nums, List.map_drop]] at this
          have sA : w8.cell? (ad.add q) = some (.int .i64 x) := hc0 _ hr.right
          have sB : (w8.alloc (.cells #[.int .i64 x] 3)).cell? (ad.add q) = some (.int .i64 x) := hc0 _ (hr.right.alloc_drop _)
          have hlist : (nums .i64 out).take (k * 1) ++ ([.int .i64 x] ++ nums .i64 (out.drop k)) = nums .i64 (out.take k ++ x :: out.drop k) := by rw [Nat.mul_one]; simp [nums, List.map_take, List.map_drop]
          have hlen : k + (1 + (q - k)) = q + 1 := by omega
          have hlen2 : (out.take k ++ x :: out.drop k).length = q + 1 := by rw [List.length_append, List.length_take, List.length_cons, List.length_drop]; omega
          have hone : ∀ u ∈ [Value.int .i64 x] ++ nums .i64 (out.drop k), u.oneCell' = true := by
            intro u hu
            rcases List.mem_append.1 hu with hu | hu
            · rw [List.mem_singleton] at hu; subst hu; rfl
            · exact nums_one _ _ u hu
          have HLI := hid hlist
          have HLE := hid hlen
          have HL2 := hid hlen2
          clear hlist hlen hlen2
          go_wp2_with fail
          go_region_held3 (fun w' => w'.cell? (ad.add q) = some (.int .i64 x))
            (first | exact s7 | exact s6 | exact sB | exact sA)
            (first
              | (refine step_append_sat rfl _ _ 22 3 (.int .i64 0) 1 8 rfl Try.underlying22 Try.info3 rfl (by decide) _ 1 _ A' (q - k) (cv - k) (nums .i64 (out.drop k)) rfl rfl hA1 hRA (nums_one _ _) (by unfold maxLen; omega) (by omega) ?_; intro v1 w6 h6; obtain ⟨A6, c6, rfl, _, _, _⟩ := h6.reads; have s6 := hc0 _ h6.right.right)
              | (refine step_append_sat rfl _ _ 22 3 (.int .i64 0) 1 8 rfl Try.underlying22 Try.info3 rfl (by decide) _ k _ A6 (1 + (q - k)) c6 ([.int .i64 x] ++ nums .i64 (out.drop k)) rfl rfl ((h6.eq (star_left_comm _ _ _)).row_shrink k hk) h6.reads_at hone (by unfold maxLen; omega) (by omega) ?_; intro v2 w7 h7; obtain ⟨A7, c7, rfl, _, _, _⟩ := h7.reads; have s7 := hc0 _ h7.right.right))
          rw [HLI.out, HLE.out] at h7
          have h9 := h7.drop_mid
          simp only [HLE.out]
          go_wp2
          go_roundw
          case rel => exact ⟨q + 1, _, by omega, by go_num, HFI, HL2.out, h9⟩
          case measure => simp [intOf]; omega
        · obtain ⟨p, hp⟩ : ∃ p, p + 1 = k := ⟨k - 1, by omega⟩
          have z1 : (0 : Int) < (k : Int) := by omega
          have zb : decide (0 < k) = true := decide_eq_true hk0
          have ej : (k : Int) - 1 = (p : Int) := by omega
          have ej3 : IntKind.i64.wrap (p : Int) = (p : Int) := i64_wrap (by omega) (by omega)
          have ej2 : IntKind.i64.wrap ((k : Int) - 1) = (p : Int) := by rw [ej]; exact ej3
          obtain ⟨av, hav, hcav⟩ := hr.reads_at.at (by omega)
          have d1 := hcav p _ (nums_at (by omega))
          have hpo : p < out.length := by omega
          subst hav
          have hpq : (p : Int) < (q : Int) := by omega
          clear hcav
          by_cases hle : out[p] ≤ x
          · have z3 : ¬ x < out[p] := by omega
            have HFI := hfin (fun _ => by have e : k - 1 = p := by omega
                                          simp only [e]; exact hle)
            clear hfin hk0
            go_wp2_with fail
            go_quiet (fail)
            have hr := hr.drewN nq
            generalize wr.drewN nq = w8 at *
            have hkc : (k : Int) ≤ (cv : Int) := by omega
            obtain ⟨A', hcut, hRc⟩ := cut_from (P := Try.prog) (size := 1) 22 3 .i64 Try.underlying22 (by kernel_rfl) (some av) q cv k hk hcv
            have hA1 : Sat E (row 3 1 (.slice (some ⟨w8.heap.size, 0, none⟩) 1 1) 1 [.int .i64 x] * (row 3 1 (.slice (some av) q cv) q (nums .i64 out) * F)) ((w8.alloc (.cells #[.int .i64 x] 3)).drew) := (hr.row_alloc [.int .i64 x] 3 1 1 rfl (by simp [maxLen])).drew
            have hRA : Reads ((w8.alloc (.cells #[.int .i64 x] 3)).drew) 1 A' (q - k) (nums .i64 (out.drop k)) := by
              have := hRc _ _ hA1.right.reads_at
              rwa [Nat.mul_one, show (nums .i64 out).drop k = nums .i64 (out.drop k) by simp [nums, List.map_drop]] at this
            have sA : w8.cell? (ad.add q) = some (.int .i64 x) := hc0 _ hr.right
            have sB : (w8.alloc (.cells #[.int .i64 x] 3)).cell? (ad.add q) = some (.int .i64 x) := hc0 _ (hr.right.alloc_drop _)
            have hlist : (nums .i64 out).take (k * 1) ++ ([.int .i64 x] ++ nums .i64 (out.drop k)) = nums .i64 (out.take k ++ x :: out.drop k) := by rw [Nat.mul_one]; simp [nums, List.map_take, List.map_drop]
            have hlen : k + (1 + (q - k)) = q + 1 := by omega
            have hlen2 : (out.take k ++ x :: out.drop k).length = q + 1 := by rw [List.length_append, List.length_take, List.length_cons, List.length_drop]; omega
            have hone : ∀ u ∈ [Value.int .i64 x] ++ nums .i64 (out.drop k), u.oneCell' = true := by
              intro u hu
              rcases List.mem_append.1 hu with hu | hu
              · rw [List.mem_singleton] at hu; subst hu; rfl
              · exact nums_one _ _ u hu
            have HLI := hid hlist
            have HLE := hid hlen
            have HL2 := hid hlen2
            clear hlist hlen hlen2
            go_wp2_with fail
            go_region_held3 (fun w' => w'.cell? (ad.add q) = some (.int .i64 x))
              (first | exact s7 | exact s6 | exact sB | exact sA)
              (first
                | (refine step_append_sat rfl _ _ 22 3 (.int .i64 0) 1 8 rfl Try.underlying22 Try.info3 rfl (by decide) _ 1 _ A' (q - k) (cv - k) (nums .i64 (out.drop k)) rfl rfl hA1 hRA (nums_one _ _) (by unfold maxLen; omega) (by omega) ?_; intro v1 w6 h6; obtain ⟨A6, c6, rfl, _, _, _⟩ := h6.reads; have s6 := hc0 _ h6.right.right)
                | (refine step_append_sat rfl _ _ 22 3 (.int .i64 0) 1 8 rfl Try.underlying22 Try.info3 rfl (by decide) _ k _ A6 (1 + (q - k)) c6 ([.int .i64 x] ++ nums .i64 (out.drop k)) rfl rfl ((h6.eq (star_left_comm _ _ _)).row_shrink k hk) h6.reads_at hone (by unfold maxLen; omega) (by omega) ?_; intro v2 w7 h7; obtain ⟨A7, c7, rfl, _, _, _⟩ := h7.reads; have s7 := hc0 _ h7.right.right))
            rw [HLI.out, HLE.out] at h7
            have h9 := h7.drop_mid
            simp only [HLE.out]
            go_wp2
            go_roundw
            case rel => exact ⟨q + 1, _, by omega, by go_num, HFI, HL2.out, h9⟩
            case measure => simp [intOf]; omega
          · have z3 : x < out[p] := by omega
            have HG : Hid (∀ j (h : j < out.length), p ≤ j → x < out[j]) := fun j h hj => by
              by_cases e : j = p
              · subst e; exact z3
              · exact hgt.out j h (by omega)
            clear hfin
            go_wp2_with fail
            go_quiet (fail)
            have hr := hr.drewN nq
            go_wp2
            go_roundw
            case rel => exact ⟨p, by omega, by go_num, HG, hr⟩
            case measure => simp [intOf]; omega
    · obtain rfl : q = l.length := by omega
      have ho2 := ho.out
      rw [List.take_length] at ho2
      have HO := hid ho2
      clear ho ho2
      go_wp2
      go_ret
      exact ⟨_, out, rfl, HO.out.1, HO.out.2, hr⟩
end Go.Proofs.Ytfphpnccmkggfaa
