import Derived.Test.YtedhcgeglmoacaaRound1
import Derived.Test.YtedhcgeglmoacaaSepClear
namespace Go.Proofs.Ytedhcgeglmoacaa
set_option linter.unusedVariables false
set_option linter.unusedSimpArgs false
open Go.RowKit Go.Proofs.Sep

def slLen : Value → Nat
  | .slice _ n _ => n
  | _ => 0
def padL (m : Nat) (xs : List Int) : List Int := xs.take m ++ List.replicate (m - xs.length) (-1)
theorem padL_length (m : Nat) (xs : List Int) : (padL m xs).length = m := by simp [padL]; omega
theorem padL_lt {xs : List Int} {k : Nat} (h : k < xs.length) : padL (k + 1) xs = padL k xs ++ [xs[k]] := by
  unfold padL
  rw [show k + 1 - xs.length = 0 by omega, show k - xs.length = 0 by omega, List.replicate_zero, List.append_nil, List.append_nil, List.take_add_one, List.getElem?_eq_getElem h]
  rfl
theorem padL_ge {xs : List Int} {k : Nat} (h : xs.length ≤ k) : padL (k + 1) xs = padL k xs ++ [-1] := by
  unfold padL
  rw [List.take_of_length_le (by omega), List.take_of_length_le (by omega), List.append_assoc, show k + 1 - xs.length = (k - xs.length) + 1 by omega, List.replicate_succ']
theorem padL_cut {xs : List Int} {k : Nat} (h : k ≤ xs.length) : padL k xs = xs.take k := by
  unfold padL
  rw [show k - xs.length = 0 by omega, List.replicate_zero, List.append_nil]
theorem bnd_le (x : Int) : bnd x ≤ 65536 := by unfold bnd; omega
theorem reads_take {w : World} {A : Option Addr} {n : Nat} {l : List Int} (h : Reads w 1 A n (nums .i64 l)) (k : Nat) (hk : k ≤ n) : Reads w 1 A k (nums .i64 (l.take k)) := by
  have := h.take k hk
  rwa [Nat.mul_one, show (nums .i64 l).take k = nums .i64 (l.take k) by simp [nums, List.map_take]] at this

set_option maxRecDepth 100000 in
set_option maxHeartbeats 1000000 in
theorem padded_calls {E w : World} {F : Asn} (x : Int) (m : Nat) (A : Option Addr) (c : Nat) (xs : List Int) (hm : bnd x = m) (hS : Sat E F w) (hR : ∀ w, Sat E F w → Reads w 1 A xs.length (nums .i64 xs)) (hn : xs.length ≤ 1000000) (hc : xs.length ≤ c) :
    Calls Try.prog 53 #[.int .i64 x, .slice A xs.length c] w fun e w' => ∃ v, e = .returned v ∧ Sat E (row 3 1 v m (nums .i64 (padL m xs)) * F) w' := by
  have hb := fun w => bound_calls (w := w) x
  have hbl := bnd_le x
  simp only [hm] at hb hbl
  clear hm
  have key : ∀ q : Nat, q = min xs.length m → Reads w 1 A q (nums .i64 (xs.take q)) := fun q hq => reads_take (hR _ hS) q (by omega)
  have loop : ∀ (k : Nat), xs.length ≤ k → padL (k + 1) xs = padL k xs ++ [-1] := fun k h => padL_ge h
  by_cases hle : xs.length ≤ m
  · have h1 : ¬ (m : Int) < (xs.length : Int) := by omega
    have h2 : (xs.length : Int) ≤ (m : Int) := by omega
    have h3 : (xs.length : Int) ≤ (c : Int) := by omega
    have h4 : min (xs.length : Int) (m : Int) = xs.length := by omega
    have hcl := fun w (h : Reads w 1 A xs.length (nums .i64 (xs.take xs.length))) (hs : Sat E F w) => cloneInts (E := E) (F := F) A xs.length c _ hs h (nums_one _ _) (by omega)
    have hpl : xs.take xs.length = padL xs.length xs := (padL_cut (Nat.le_refl _)).symm
    have HP := hid hpl
    clear hpl
    go_enter Try.func53, Try.ntmps53
    go_wp2_with fail
    refine (hb _).mono ?_
    rintro e w1 ⟨rfl, rfl⟩
    go_wp2_with fail
    refine (hcl _ (reads_take (hR _ hS) _ (Nat.le_refl _)) hS).mono ?_
    rw [HP.out]
    rintro e w1 ⟨v, rfl, h1⟩
    go_wp2_with fail
    go_loopw [5] (fun v wr => ∃ k : Nat, xs.length ≤ k ∧ k ≤ m ∧ Sat E (row 3 1 v k (nums .i64 (padL k xs)) * F) wr) (fun v _ => m - (slLen v))
    case atStart => exact ⟨xs.length, by omega, by omega, h1⟩
    case round =>
      clear h1
      obtain ⟨k, hk1, hk2, hr⟩ := hrel
      obtain ⟨Av, cv, rfl, _, _, _⟩ := hr.reads
      by_cases hlt : k < m
      · have hnx := loop k hk1
        have hny : nums .i64 (padL k xs) ++ [.int .i64 (-1)] = nums .i64 (padL (k + 1) xs) := by rw [hnx, nums_append]; rfl
        have HN := hid hny
        clear hnx hny
        go_wp2_with (at_builtin; refine wpList_append_sat rfl _ _ 22 3 (.int .i64 0) 1 8 rfl Try.underlying22 Try.info3 rfl (by decide) _ k _ _ 1 1 [.int .i64 (-1)] rfl rfl (hr.alloc_drop _) (Reads.new 1 1 [.int .i64 (-1)] 3 rfl (by omega)) (by simp [Value.oneCell']) (by unfold maxLen; omega) (by omega) ?_; intro v1 w6 h6)
        rw [HN.out] at h6
        go_wp2
        obtain ⟨Av1, cv1, rfl, _, _, _⟩ := h6.reads
        go_roundw
        case rel => exact ⟨k + 1, by omega, by omega, h6⟩
        case measure => simp [slLen]; omega
      · obtain rfl : k = m := by omega
        go_wp2
        go_ret
        exact ⟨_, rfl, hr⟩
  · have h1 : (m : Int) < (xs.length : Int) := by omega
    have h2 : ¬ (xs.length : Int) ≤ (m : Int) := by omega
    have h3 : (m : Int) ≤ (c : Int) := by omega
    have h4 : min (xs.length : Int) (m : Int) = m := by omega
    have hcl := fun w (h : Reads w 1 A m (nums .i64 (xs.take m))) (hs : Sat E F w) => cloneInts (E := E) (F := F) A m c _ hs h (nums_one _ _) (by omega)
    have hpl : xs.take m = padL m xs := (padL_cut (by omega)).symm
    have HP := hid hpl
    clear hpl
    go_enter Try.func53, Try.ntmps53
    go_wp2_with fail
    refine (hb _).mono ?_
    rintro e w1 ⟨rfl, rfl⟩
    go_wp2_with fail
    refine (hcl _ (reads_take (hR _ hS) _ (by omega)) hS).mono ?_
    rw [HP.out]
    rintro e w1 ⟨v, rfl, h1⟩
    go_wp2_with fail
    go_loopw [5] (fun v wr => Sat E (row 3 1 v m (nums .i64 (padL m xs)) * F) wr) (fun v _ => 0)
    case atStart => exact h1
    case round =>
      clear h1
      obtain ⟨Av, cv, rfl, _, _, _⟩ := hrel.reads
      go_wp2
      go_ret
      exact ⟨_, rfl, hrel⟩

set_option maxRecDepth 100000 in
set_option maxHeartbeats 1000000 in
theorem rpadded_calls {E w : World} {F : Asn} (x : Int) (m : Nat) (A : Option Addr) (c : Nat) (xs : List Int) (hm : bnd x = m) (hx : x ≤ 10000) (hS : Sat E F w) (hR : ∀ w, Sat E F w → Reads w 1 A xs.length (nums .i64 xs)) (hn : xs.length ≤ 1000000) :
    Calls Try.prog 54 #[.int .i64 x, .slice A xs.length c] w fun e w' => ∃ v, e = .returned v ∧ Sat E (row 3 1 v m (nums .i64 (padL m xs)) * F) w' := by
  have hmx : (m : Int) = max x 0 := by unfold bnd at hm; omega
  clear hm
  go_enter Try.func54, Try.ntmps54
  go_wp2_with fail
  go_loopw [5, 6] (fun v i wr => ∃ k : Nat, k ≤ m ∧ i = .int .i64 k ∧ Sat E (row 3 1 v k (nums .i64 (padL k xs)) * F) wr) (fun _ i _ => m - (intOf i).toNat)
  case atStart => exact ⟨0, by omega, rfl, by rw [show padL 0 xs = [] by simp [padL]]; exact hS.row_nil⟩
  case round =>
    obtain ⟨k, hk, rfl, hr⟩ := hrel
    obtain ⟨Av, cv, rfl, _, _, _⟩ := hr.reads
    by_cases hlt : k < m
    · have hk1 : (k : Int) < x := by omega
      have hk2 : (k : Int) < 65536 := by omega
      by_cases hkl : k < xs.length
      · obtain ⟨ad, rfl, hc⟩ := (hR _ hr.right).at (by omega)
        have hca := hc k _ (nums_at hkl)
        clear hc
        have hny : nums .i64 (padL k xs) ++ [.int .i64 xs[k]] = nums .i64 (padL (k + 1) xs) := by rw [padL_lt hkl, nums_append]; rfl
        have HN := hid hny
        clear hny
        go_wp2_with (at_builtin; refine wpList_append_sat rfl _ _ 22 3 (.int .i64 0) 1 8 rfl Try.underlying22 Try.info3 rfl (by decide) _ k _ _ 1 1 [.int .i64 xs[k]] rfl rfl (hr.alloc_drop _) (Reads.new 1 1 [.int .i64 xs[k]] 3 rfl (by omega)) (by simp [Value.oneCell']) (by unfold maxLen; omega) (by omega) ?_; intro v1 w6 h6)
        rw [HN.out] at h6
        go_wp2
        go_roundw
        case rel => exact ⟨k + 1, by omega, by go_num, h6⟩
        case measure => simp [intOf]; omega
      · have hny : nums .i64 (padL k xs) ++ [.int .i64 (-1)] = nums .i64 (padL (k + 1) xs) := by rw [padL_ge (by omega), nums_append]; rfl
        have HN := hid hny
        clear hny
        go_wp2_with (at_builtin; refine wpList_append_sat rfl _ _ 22 3 (.int .i64 0) 1 8 rfl Try.underlying22 Try.info3 rfl (by decide) _ k _ _ 1 1 [.int .i64 (-1)] rfl rfl (hr.alloc_drop _) (Reads.new 1 1 [.int .i64 (-1)] 3 rfl (by omega)) (by simp [Value.oneCell']) (by unfold maxLen; omega) (by omega) ?_; intro v1 w6 h6)
        rw [HN.out] at h6
        go_wp2
        go_roundw
        case rel => exact ⟨k + 1, by omega, by go_num, h6⟩
        case measure => simp [intOf]; omega
    · obtain rfl : k = m := by omega
      have hk1 : ¬ (k : Int) < x := by omega
      go_wp2
      go_ret
      exact ⟨_, rfl, hr⟩
def dup (xs : List Int) : Bool := !decide xs.Nodup
theorem has_sat {E w : World} {F : Asn} (A : Option Addr) (n c : Nat) (xs : List Int) (x : Int) (hS : Sat E F w) (hA : Reads w 1 A n (nums .i64 xs)) :
    Calls Try.prog 57 #[.slice A n c, .int .i64 x] w fun e w' => e = .returned (.bool (decide (x ∈ xs))) ∧ Sat E F w' :=
  (has_calls A n c xs x hA).mono fun _ _ ⟨h1, h2⟩ => ⟨h1, h2 ▸ hS⟩
set_option maxRecDepth 100000 in
set_option maxHeartbeats 1000000 in
theorem twice_calls {E w : World} {F : Asn} (A : Option Addr) (c : Nat) (xs : List Int) (hS : Sat E F w) (hn : xs.length ≤ c) (hR : ∀ w, Sat E F w → Reads w 1 A xs.length (nums .i64 xs)) :
    Calls Try.prog 56 #[.slice A xs.length c] w fun e w' => e = .returned (.bool (dup xs)) ∧ Sat E F w' := by
  have hmm := (hR w hS).2.1
  go_enter Try.func56, Try.ntmps56
  go_wp2_with fail
  go_loopw [3] (fun i wr => ∃ k : Nat, k ≤ xs.length ∧ i = .int .i64 k ∧ Hid ((xs.take k).Nodup) ∧ Sat E F wr) (fun i _ => xs.length - (intOf i).toNat)
  case atStart => exact ⟨0, by omega, rfl, by simp [Hid], hS⟩
  case round =>
    obtain ⟨k, hk, rfl, hnd, hr⟩ := hrel
    by_cases hlt : k < xs.length
    · have hRr := hR _ hr
      have hRt := hRr.take k (by omega)
      rw [Nat.mul_one, show (nums .i64 xs).take k = nums .i64 (xs.take k) by simp [nums, List.map_take]] at hRt
      obtain ⟨ad, rfl, hc⟩ := hRr.at (by omega)
      have hca := hc k _ (nums_at hlt)
      have hct : ∀ s : SW E F, s.w.cell? (ad.add k) = some (.int .i64 xs[k]) := fun s => by
        obtain ⟨ad', h1, h2⟩ := (hR _ s.h).at (by omega)
        injection h1 with h1
        subst h1
        exact h2 k _ (nums_at hlt)
      clear hc hca
      have hkc : (k : Int) ≤ (c : Int) := by omega
      have hRs : ∀ s : SW E F, Reads s.w 1 (some ad) k (nums .i64 (xs.take k)) := fun s => by
        have := (hR _ s.h).take k (by omega)
        rwa [Nat.mul_one, show (nums .i64 xs).take k = nums .i64 (xs.take k) by simp [nums, List.map_take]] at this
      have hnx : (xs.take (k + 1)) = xs.take k ++ [xs[k]] := by rw [List.take_add_one, List.getElem?_eq_getElem hlt]; rfl
      by_cases hm : xs[k] ∈ xs.take k
      · have hdu : dup xs = true := by
          unfold dup
          have : ¬ xs.Nodup := fun h => by
            have h2 : (xs.take (k + 1)).Nodup := (List.take_sublist _ _).nodup h
            rw [hnx, List.nodup_append] at h2
            exact h2.2.2 _ hm _ (List.mem_singleton.2 rfl) rfl
          simp [this]
        have hd := decide_eq_true hm
        have HD := hid hd
        have HU := hid hdu
        clear hm hdu hd hnx
        go_wp2_with fail
        refine wp_region_quietS _ (by kernel_rfl) (by kernel_rfl) hr ?_
        intro hne
        repeat (go_big_quiet_step (first | (go_at_call 57; exact quietS (has_sat _ _ _ _ _ (SW.h _) (hRs _)))))
        refine wpQuiet_nil ?_
        intro w12 hw'
        have h12 := SW.out hw'
        clear hw' hne
        rw [HD.out]
        go_wp2
        go_ret
        exact ⟨ret_bool HU.out.symm, h12⟩
      · have hnd2 : (xs.take (k + 1)).Nodup := by
          rw [hnx, List.nodup_append]
          refine ⟨hnd.out, by simp, ?_⟩
          intro a ha b hb
          rw [List.mem_singleton] at hb
          subst hb
          exact fun h => hm (h ▸ ha)
        have hd := decide_eq_false hm
        have HD := hid hd
        have HU := hid hnd2
        clear hm hnd2 hd hnx
        go_wp2_with fail
        refine wp_region_quietS _ (by kernel_rfl) (by kernel_rfl) hr ?_
        intro hne
        repeat (go_big_quiet_step (first | (go_at_call 57; exact quietS (has_sat _ _ _ _ _ (SW.h _) (hRs _)))))
        refine wpQuiet_nil ?_
        intro w12 hw'
        have h12 := SW.out hw'
        clear hw' hne
        rw [HD.out]
        go_wp2
        go_roundw
        case rel => exact ⟨k + 1, by omega, by go_num, HU, h12⟩
        case measure => simp [intOf]; omega
    · have hall : dup xs = false := by
        have := hnd.out
        rw [List.take_of_length_le (by omega)] at this
        unfold dup
        simpa using this
      have HA := hid hall
      clear hall
      go_wp2
      go_ret
      exact ⟨ret_bool HA.out.symm, hr⟩

end Go.Proofs.Ytedhcgeglmoacaa
