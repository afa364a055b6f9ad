import Derived.Test.YtacfaegljjgneaaTrc2
namespace Go.Proofs.Ytacfaegljjgneaa
set_option linter.unusedVariables false
set_option linter.unusedSimpArgs false
open Go.RowKit Go.Proofs.Sep


set_option maxRecDepth 100000 in
set_option maxHeartbeats 1000000 in
theorem hasInt {w : World} (Aa : Option Addr) (n c : Nat) (xs : List Int) (x : Int) (hA : Reads w 1 Aa n (nums .i64 xs)) :
    Calls Try.prog 67 #[.slice Aa n c, .int .i64 x] w fun e w' => e = .returned (.bool (decide (x ∈ xs))) ∧ w = w' := by
  have hxl : xs.length = n := by have := hA.1; rw [nums_length] at this; omega
  have hn := hA.2.1
  go_enter Try.func67, Try.ntmps67
  go_wp2_with fail
  go_loop [5] (fun i => ∃ k : Nat, k ≤ n ∧ i = .int .i64 k ∧ Hid (x ∉ xs.take k)) (fun i => n - (intOf i).toNat)
  case atStart => exact ⟨0, by omega, rfl, by simp [Hid]⟩
  case round =>
    obtain ⟨k, hk, rfl, he⟩ := hrel
    by_cases hlt : k < n
    · obtain ⟨ad, rfl, hc⟩ := hA.at (by omega)
      have hca := hc k _ (nums_at (by omega))
      clear hc
      by_cases hxy : xs[k] = x
      · have h0 : (xs[k] == x) = true := by simpa using hxy
        have hm : x ∈ xs := hxy ▸ List.getElem_mem _
        have HM := hid hm
        clear hxy hm
        go_wp2
        go_ret
        exact ⟨ret_bool (decide_eq_true HM.out).symm, rfl⟩
      · have h0 : (xs[k] == x) = false := by simpa using hxy
        have hm : x ∉ xs.take (k + 1) := by
          rw [List.take_add_one, List.getElem?_eq_getElem (by omega), List.mem_append]
          rintro (h | h)
          · exact he.out h
          · simp at h; exact hxy h.symm
        have HM := hid hm
        clear hxy hm
        go_wp2
        go_round
        case rel => exact ⟨k + 1, by omega, by go_num, HM⟩
        case measure => simp [intOf]; omega
    · have hm : x ∉ xs := by
        have := he.out
        rwa [List.take_of_length_le (by omega)] at this
      have HM := hid hm
      clear hm
      go_wp2
      go_ret
      exact ⟨ret_bool (decide_eq_false HM.out).symm, rfl⟩

def idxOk (r : Int) (xs : List Int) (x : Int) : Prop := decide (0 ≤ r) = decide (x ∈ xs)
set_option maxRecDepth 100000 in
set_option maxHeartbeats 400000 in
theorem index71 {w : World} (A : Option Addr) (n c : Nat) (xs : List Int) (x : Int) (hA : Reads w 1 A n (nums .i64 xs)) :
    Calls Try.prog 71 #[.slice A n c, .int .i64 x] w fun e w' => (∃ r : Int, e = .returned (.int .i64 r) ∧ idxOk r xs x) ∧ w = w' := by
  have hl : xs.length = n := by have := hA.1; rw [nums_length] at this; omega
  have hmm := hA.2.1
  subst hl
  go_enter Try.func71, Try.ntmps71
  go_wp2_with fail
  go_loopw [8] (fun i wr => ∃ k : Nat, k ≤ xs.length ∧ i = .int .i64 k ∧ Hid (x ∉ xs.take k) ∧ wr = w) (fun i _ => xs.length - (intOf i).toNat)
  case atStart => exact ⟨0, by omega, rfl, by simp [Hid], rfl⟩
  case round =>
    obtain ⟨k, hk, rfl, hno, rfl⟩ := hrel
    by_cases hlt : k < xs.length
    · obtain ⟨ad, rfl, hc⟩ := hA.at (by omega)
      have hca := hc k _ (nums_at hlt)
      have hkd : (k : Int) < (xs.length : Int) := by omega
      have wk := i64_wrap (x := (k : Int) + 1) (by omega) (by omega)
      have hmem := List.getElem_mem hlt
      have hnx : xs.take (k + 1) = xs.take k ++ [xs[k]] := by rw [List.take_add_one, List.getElem?_eq_getElem hlt]; rfl
      by_cases he : x = xs[k]
      · have z1 : (x == xs[k]) = true := by rw [beq_iff_eq]; exact he
        have HD : idxOk (k : Int) xs x := by
          have h1 : x ∈ xs := he ▸ hmem
          unfold idxOk
          rw [decide_eq_true h1, decide_eq_true (by omega)]
        clear hc hnx hmem he
        generalize xs[k] = y at *
        go_wp2
        go_ret
        exact ⟨⟨_, rfl, HD⟩, rfl⟩
      · have z1 : (x == xs[k]) = false := beq_eq_false_iff_ne.2 he
        have HN : Hid (x ∉ xs.take (k + 1)) := by
          show x ∉ xs.take (k + 1)
          rw [hnx, List.mem_append, List.mem_singleton]
          exact fun h => h.elim hno.out he
        clear hc hnx hmem he
        generalize xs[k] = y at *
        go_wp2
        go_roundw
        case rel => exact ⟨k + 1, by omega, by go_num, HN, by first | rfl | trivial⟩
        case measure => simp [intOf]; omega
    · have hkd : ¬ (k : Int) < (xs.length : Int) := by omega
      have HD : idxOk (-1) xs x := by
        have h1 := hno.out
        rw [List.take_of_length_le (by omega)] at h1
        unfold idxOk
        rw [decide_eq_false h1]; rfl
      go_wp2
      go_ret
      exact ⟨⟨_, rfl, HD⟩, rfl⟩
set_option maxRecDepth 100000 in
set_option maxHeartbeats 400000 in
theorem contains66 {w : World} (A : Option Addr) (n c : Nat) (xs : List Int) (x : Int) (hA : Reads w 1 A n (nums .i64 xs)) :
    Calls Try.prog 66 #[.slice A n c, .int .i64 x] w fun e w' => e = .returned (.bool (decide (x ∈ xs))) ∧ w = w' := by
  go_enter Try.func66, Try.ntmps66
  go_wp2_with fail
  refine (index71 A n c xs x hA).mono ?_
  rintro e w1 ⟨⟨r, rfl, hr⟩, rfl⟩
  go_wp2
  go_ret
  exact ⟨ret_bool (by unfold idxOk at hr; rw [← hr]; first | done | simp), rfl⟩
/-- Of these kinds. -/
def ofK (ks : List Int) (x : TOp) : Bool := ks.isEmpty || decide (x.1 ∈ ks)
def count (ks : List Int) (l : List TOp) : Nat := (l.filter (ofK ks)).length
theorem count_succ {ks : List Int} {l : List TOp} {k : Nat} (h : k < l.length) : count ks (l.take (k + 1)) = if ofK ks l[k] = true then count ks (l.take k) + 1 else count ks (l.take k) := by
  unfold count
  rw [List.take_add_one, List.getElem?_eq_getElem h, Option.toList_some, List.filter_append, List.length_append]
  cases hk : ofK ks l[k] <;> simp [hk]
theorem count_le (ks : List Int) (l : List TOp) (k : Nat) : count ks (l.take k) ≤ k := by
  unfold count
  have := List.length_filter_le (ofK ks) (l.take k)
  rw [List.length_take] at this
  omega
set_option maxRecDepth 100000 in
set_option maxHeartbeats 2000000 in
theorem count48 {E w : World} {F : Asn} (A B : Option Addr) (c m d : Nat) (L : List (TOp × Value)) (ks : List Int) (hS : Sat E F w) (hA : ∀ w, Sat E F w → TIn w A L) (hB : ∀ w, Sat E F w → Reads w 1 B m (nums .i64 ks)) :
    Calls Try.prog 48 #[.slice A L.length c, .slice B m d] w fun e w' => e = .returned (.int .i64 (count ks (L.map (·.1)))) ∧ Sat E F w' := by
  have hml := (hA _ hS).1.2.1
  have hkl : ks.length = m := by have := (hB _ hS).1; rw [nums_length] at this; omega
  subst hkl
  go_enter Try.func48, Try.ntmps48
  go_wp2_with fail
  go_loopw [5, 10] (fun s i wr => ∃ k : Nat, k ≤ L.length ∧ i = .int .i64 k ∧ s = .int .i64 (count ks ((L.map (·.1)).take k)) ∧ Sat E F wr) (fun _ i _ => L.length - (intOf i).toNat)
  case atStart => exact ⟨0, by omega, rfl, rfl, hS⟩
  case round =>
    obtain ⟨k, hk, rfl, rfl, hr⟩ := hrel
    have hcl := count_le ks (L.map (·.1)) k
    by_cases hlt : k < L.length
    · have hkd : (k : Int) < (L.length : Int) := by omega
      have wk := i64_wrap (x := (k : Int) + 1) (by omega) (by omega)
      have hcs := count_succ (ks := ks) (l := L.map (·.1)) (k := k) (by simpa using hlt)
      simp only [List.getElem_map] at hcs
      obtain ⟨ad, Ai, ci, hA1, hA2, _, q⟩ := top_at hA hlt hr
      subst hA1
      obtain ⟨x0, x1, x2, _⟩ := q _ hr
      have hRB := (hB _ (hr.alloc_drop (.cells #[.int .i64 L[k].1.1, .int .i64 L[k].1.2.1, .slice Ai L[k].1.2.2.length ci] 61)))
      have hRB0 := hB _ hr
      clear q hA2
      generalize L[k].1 = X at *
      obtain ⟨X1, X2, X3⟩ := X
      simp only at x0 x1 x2 hcs
      generalize hcc : count ks ((L.map (·.1)).take k) = C at *
      have wc := i64_wrap (x := (C : Int) + 1) (by omega) (by omega)
      rcases Nat.eq_zero_or_pos ks.length with h0 | h0
      · have hkn : ks = [] := List.eq_nil_of_length_eq_zero h0
        have z0 : ((ks.length : Int) == 0) = true := by rw [h0]; rfl
        have HC : Hid (count ks ((L.map (·.1)).take (k + 1)) = C + 1) := hcs.trans (if_pos (by rw [hkn]; rfl))
        clear hcs hkn h0
        generalize hkk : ks.length = K at *
        go_wp2
        go_roundw
        case rel => exact ⟨k + 1, by omega, by go_num, by rw [HC.out]; go_num, hr.alloc_drop _⟩
        case measure => simp [intOf]; omega
      · have z0 : ((ks.length : Int) == 0) = false := beq_eq_false_iff_ne.2 (by omega)
        have he : ks.isEmpty = false := by cases ks with | nil => simp at h0 | cons _ _ => rfl
        by_cases hin : X1 ∈ ks
        · have HC : Hid (count ks ((L.map (·.1)).take (k + 1)) = C + 1) := hcs.trans (if_pos (by simp [ofK, hin]))
          have HD := hid (decide_eq_true hin)
          clear hcs hin he
          go_wp2_with fail
          refine (contains66 B ks.length d ks X1 hRB).mono ?_
          rw [HD.out]
          rintro e w5 ⟨rfl, rfl⟩
          go_wp2
          go_roundw
          case rel => exact ⟨k + 1, by omega, by go_num, by rw [HC.out]; go_num, hr.alloc_drop _⟩
          case measure => simp [intOf]; omega
        · have HC : Hid (count ks ((L.map (·.1)).take (k + 1)) = C) := hcs.trans (if_neg (by simp [ofK, hin, he]))
          have HD := hid (decide_eq_false hin)
          clear hcs hin he
          go_wp2_with fail
          refine (contains66 B ks.length d ks X1 hRB).mono ?_
          rw [HD.out]
          rintro e w5 ⟨rfl, rfl⟩
          go_wp2
          go_roundw
          case rel => exact ⟨k + 1, by omega, by go_num, by rw [HC.out], hr.alloc_drop _⟩
          case measure => simp [intOf]; omega
    · obtain rfl : k = L.length := by omega
      have HE : Hid ((L.map (·.1)).take L.length = L.map (·.1)) := List.take_of_length_le (by simp)
      have hkd : ¬ (L.length : Int) < (L.length : Int) := by omega
      go_wp2
      go_ret
      exact ⟨by rw [HE.out]; rfl, hr⟩
set_option maxRecDepth 100000 in
set_option maxHeartbeats 2000000 in
theorem count49 {E w : World} {F : Asn} (A B : Option Addr) (c m d : Nat) (L : List (TOp × Value)) (ks : List Int) (hS : Sat E F w) (hA : ∀ w, Sat E F w → TIn w A L) (hB : ∀ w, Sat E F w → Reads w 1 B m (nums .i64 ks)) :
    Calls Try.prog 49 #[.slice A L.length c, .slice B m d] w fun e w' => e = .returned (.int .i64 (count ks (L.map (·.1)))) ∧ Sat E F w' := by
  have hml := (hA _ hS).1.2.1
  have hkl : ks.length = m := by have := (hB _ hS).1; rw [nums_length] at this; omega
  subst hkl
  go_enter Try.func49, Try.ntmps49
  go_wp2_with fail
  go_loopw [5, 6] (fun s i wr => ∃ k : Nat, k ≤ L.length ∧ i = .int .i64 k ∧ s = .int .i64 (count ks ((L.map (·.1)).take k)) ∧ Sat E F wr) (fun _ i _ => L.length - (intOf i).toNat)
  case atStart => exact ⟨0, by omega, rfl, rfl, hS⟩
  case round =>
    obtain ⟨k, hk, rfl, rfl, hr⟩ := hrel
    have hcl := count_le ks (L.map (·.1)) k
    by_cases hlt : k < L.length
    · have hkd : (k : Int) < (L.length : Int) := by omega
      have wk := i64_wrap (x := (k : Int) + 1) (by omega) (by omega)
      have hcs := count_succ (ks := ks) (l := L.map (·.1)) (k := k) (by simpa using hlt)
      simp only [List.getElem_map] at hcs
      obtain ⟨ad, Ai, ci, hA1, hA2, _, q⟩ := top_at hA hlt hr
      subst hA1
      obtain ⟨x0, x1, x2, _⟩ := q _ hr
      have hRB := (hB _ (hr.alloc_drop (.cells #[.int .i64 L[k].1.1, .int .i64 L[k].1.2.1, .slice Ai L[k].1.2.2.length ci] 61)))
      have hRB0 := hB _ hr
      clear q hA2
      generalize L[k].1 = X at *
      obtain ⟨X1, X2, X3⟩ := X
      simp only at x0 x1 x2 hcs
      generalize hcc : count ks ((L.map (·.1)).take k) = C at *
      have wc := i64_wrap (x := (C : Int) + 1) (by omega) (by omega)
      rcases Nat.eq_zero_or_pos ks.length with h0 | h0
      · have hkn : ks = [] := List.eq_nil_of_length_eq_zero h0
        have z0 : ((ks.length : Int) == 0) = true := by rw [h0]; rfl
        have HC : Hid (count ks ((L.map (·.1)).take (k + 1)) = C + 1) := hcs.trans (if_pos (by rw [hkn]; rfl))
        clear hcs hkn h0
        generalize hkk : ks.length = K at *
        go_wp2
        go_roundw
        case rel => exact ⟨k + 1, by omega, by go_num, by rw [HC.out]; go_num, hr⟩
        case measure => simp [intOf]; omega
      · have z0 : ((ks.length : Int) == 0) = false := beq_eq_false_iff_ne.2 (by omega)
        have he : ks.isEmpty = false := by cases ks with | nil => simp at h0 | cons _ _ => rfl
        by_cases hin : X1 ∈ ks
        · have HC : Hid (count ks ((L.map (·.1)).take (k + 1)) = C + 1) := hcs.trans (if_pos (by simp [ofK, hin]))
          have HD := hid (decide_eq_true hin)
          clear hcs hin he
          go_wp2_with fail
          refine (hasInt B ks.length d ks X1 hRB0).mono ?_
          rw [HD.out]
          rintro e w5 ⟨rfl, rfl⟩
          go_wp2
          go_roundw
          case rel => exact ⟨k + 1, by omega, by go_num, by rw [HC.out]; go_num, hr⟩
          case measure => simp [intOf]; omega
        · have HC : Hid (count ks ((L.map (·.1)).take (k + 1)) = C) := hcs.trans (if_neg (by simp [ofK, hin, he]))
          have HD := hid (decide_eq_false hin)
          clear hcs hin he
          go_wp2_with fail
          refine (hasInt B ks.length d ks X1 hRB0).mono ?_
          rw [HD.out]
          rintro e w5 ⟨rfl, rfl⟩
          go_wp2
          go_roundw
          case rel => exact ⟨k + 1, by omega, by go_num, by rw [HC.out], hr⟩
          case measure => simp [intOf]; omega
    · obtain rfl : k = L.length := by omega
      have HE : Hid ((L.map (·.1)).take L.length = L.map (·.1)) := List.take_of_length_le (by simp)
      have hkd : ¬ (L.length : Int) < (L.length : Int) := by omega
      go_wp2
      go_ret
      exact ⟨by rw [HE.out]; rfl, hr⟩
end Go.Proofs.Ytacfaegljjgneaa
