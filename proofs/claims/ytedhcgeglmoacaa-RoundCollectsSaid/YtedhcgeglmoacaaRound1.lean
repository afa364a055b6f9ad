import Derived.Test.YtedhcgeglmoacaaBase
import Derived.Test.YtedhcgeglmoacaaSepArgs
import Derived.Test.YtedhcgeglmoacaaSepQuiet
import Derived.Test.YtedhcgeglmoacaaRoundLaw
namespace Go.Proofs.Ytedhcgeglmoacaa
set_option linter.unusedVariables false
set_option linter.unusedSimpArgs false
open Go.RowKit Go.Proofs.Sep

set_option maxRecDepth 100000 in
set_option maxHeartbeats 400000 in
theorem has_calls {w : World} (A : Option Addr) (n c : Nat) (xs : List Int) (x : Int) (hR : Reads w 1 A n (nums .i64 xs)) :
    Calls Try.prog 57 #[.slice A n c, .int .i64 x] w fun e w' => e = .returned (.bool (decide (x ∈ xs))) ∧ w' = w := by
  have hmm := hR.2.1
  have hl : xs.length = n := by have := hR.1; simpa [nums] using this
  subst hl
  go_enter Try.func57, Try.ntmps57
  go_wp2_with fail
  go_loopw [5] (fun i wr => ∃ k : Nat, k ≤ xs.length ∧ i = .int .i64 k ∧ Hid (x ∉ xs.take k) ∧ wr = w) (fun i _ => xs.length - (intOf i).toNat)
  case atStart => exact ⟨0, by omega, rfl, (by simp : x ∉ xs.take 0), rfl⟩
  case round =>
    obtain ⟨k, hk, rfl, hno, rfl⟩ := hrel
    by_cases hlt : k < xs.length
    · obtain ⟨ad, rfl, hc⟩ := hR.at (by omega)
      have hca := hc k _ (nums_at hlt)
      clear hc
      by_cases hx : xs[k] = x
      · have hd : decide (x ∈ xs) = true := decide_eq_true (hx ▸ List.getElem_mem _)
        have HD := hid hd
        clear hd
        rw [hx] at hca
        clear hx
        go_wp2
        go_ret
        exact ⟨ret_bool HD.out.symm, rfl⟩
      · have hn1 : x ∉ xs.take (k + 1) := by
          rw [List.take_add_one, List.getElem?_eq_getElem hlt, Option.toList_some, List.mem_append, List.mem_singleton]
          exact fun h => h.elim hno.out (fun h => hx h.symm)
        have HN := hid hn1
        clear hn1
        go_wp2
        go_roundw
        case rel => exact ⟨k + 1, by omega, by go_num, HN, by first | rfl | trivial⟩
        case measure => simp [intOf]; omega
    · have hd : decide (x ∈ xs) = false := decide_eq_false (by have := hno.out; rwa [List.take_of_length_le (by omega)] at this)
      have HD := hid hd
      clear hd
      go_wp2
      go_ret
      exact ⟨ret_bool HD.out.symm, rfl⟩

set_option maxRecDepth 100000 in
set_option maxHeartbeats 400000 in
theorem index_calls {w : World} (A : Option Addr) (n c : Nat) (xs : List Int) (x : Int) (hR : Reads w 1 A n (nums .i64 xs)) :
    Calls Try.prog 65 #[.slice A n c, .int .i64 x] w fun e w' => (∃ i : Int, e = .returned (.int .i64 i) ∧ ((0 ≤ i ∧ x ∈ xs) ∨ (i = -1 ∧ x ∉ xs))) ∧ w' = w := by
  have hmm := hR.2.1
  have hl : xs.length = n := by have := hR.1; simpa [nums] using this
  subst hl
  go_enter Try.func65, Try.ntmps65
  go_wp2_with fail
  go_loopw [8] (fun i wr => ∃ k : Nat, k ≤ xs.length ∧ i = .int .i64 k ∧ Hid (x ∉ xs.take k) ∧ wr = w) (fun i _ => xs.length - (intOf i).toNat)
  case atStart => exact ⟨0, by omega, rfl, (by simp : x ∉ xs.take 0), rfl⟩
  case round =>
    obtain ⟨k, hk, rfl, hno, rfl⟩ := hrel
    by_cases hlt : k < xs.length
    · obtain ⟨ad, rfl, hc⟩ := hR.at (by omega)
      have hca := hc k _ (nums_at hlt)
      clear hc
      by_cases hx : xs[k] = x
      · have hd : x ∈ xs := hx ▸ List.getElem_mem _
        have HD := hid hd
        clear hd
        rw [hx] at hca
        clear hx
        go_wp2
        go_ret
        exact ⟨⟨_, rfl, .inl ⟨by omega, HD.out⟩⟩, rfl⟩
      · have hn1 : x ∉ xs.take (k + 1) := by
          rw [List.take_add_one, List.getElem?_eq_getElem hlt, Option.toList_some, List.mem_append, List.mem_singleton]
          exact fun h => h.elim hno.out (fun h => hx h.symm)
        have HN := hid hn1
        have hx2 : ¬ x = xs[k] := fun h => hx h.symm
        clear hn1
        go_wp2
        go_roundw
        case rel => exact ⟨k + 1, by omega, by go_num, HN, by first | rfl | trivial⟩
        case measure => simp [intOf]; omega
    · have hd : x ∉ xs := by have := hno.out; rwa [List.take_of_length_le (by omega)] at this
      have HD := hid hd
      clear hd
      go_wp2
      go_ret
      exact ⟨⟨_, rfl, .inr ⟨rfl, HD.out⟩⟩, rfl⟩

set_option maxRecDepth 100000 in
set_option maxHeartbeats 400000 in
theorem contains_calls {w : World} (A : Option Addr) (n c : Nat) (xs : List Int) (x : Int) (hR : Reads w 1 A n (nums .i64 xs)) :
    Calls Try.prog 63 #[.slice A n c, .int .i64 x] w fun e w' => e = .returned (.bool (decide (x ∈ xs))) ∧ w' = w := by
  go_enter Try.func63, Try.ntmps63
  go_wp2_with fail
  refine (index_calls A n c xs x hR).mono ?_
  rintro e w' ⟨⟨i, rfl, ⟨hi, hx⟩ | ⟨rfl, hx⟩⟩, rfl⟩
  · have HD := hid (decide_eq_true hx)
    clear hx
    go_wp2
    go_ret
    exact ⟨ret_bool (by rw [HD.out]), rfl⟩
  · have HD := hid (decide_eq_false hx)
    clear hx
    go_wp2
    go_ret
    exact ⟨ret_bool (by rw [HD.out]), rfl⟩

set_option maxRecDepth 100000 in
set_option maxHeartbeats 1000000 in
theorem ints_calls {w : World} (A B : Option Addr) (n m c d : Nat) (xs ys : List Int) (hA : Reads w 1 A n (nums .i64 xs)) (hB : Reads w 1 B m (nums .i64 ys)) :
    Calls Try.prog 51 #[.slice A n c, .slice B m d] w fun e w' => e = .returned (.bool (decide (xs = ys))) ∧ ∃ q, w' = w.drewN q := by
  have hxl : xs.length = n := by have := hA.1; simpa [nums] using this
  have hyl : ys.length = m := by have := hB.1; simpa [nums] using this
  have hn := hA.2.1
  by_cases hnm : n = m
  · subst hnm
    have hfin : ∀ b, b = decide (xs = ys) → Ending.returned (.bool b) = .returned (.bool (decide (xs = ys))) := fun b h => by rw [h]
    have HF := hid hfin
    clear hfin
    go_enter Try.func51, Try.ntmps51
    go_wp2_with fail
    go_loopw [5] (fun i wr => ∃ k : Nat, k ≤ n ∧ i = .int .i64 k ∧ Hid (xs.take k = ys.take k) ∧ ∃ q, wr = w.drewN q) (fun i _ => n - (intOf i).toNat)
    case atStart => exact ⟨0, by omega, rfl, rfl, 0, rfl⟩
    case round =>
      obtain ⟨k, hk, rfl, he, q, rfl⟩ := hrel
      by_cases hlt : k < n
      · obtain ⟨ad, rfl, hc⟩ := hA.at (by omega)
        obtain ⟨bd, rfl, hd⟩ := hB.at (by omega)
        have a0 := hc k _ (nums_at (by omega))
        have b0 := hd k _ (nums_at (by omega))
        clear hc hd
        have hkn : (k : Int) < (n : Int) := by omega
        by_cases hx : xs[k] = ys[k]
        · have hn1 : xs.take (k + 1) = ys.take (k + 1) := by
            rw [List.take_add_one, List.take_add_one, he.out, List.getElem?_eq_getElem (by omega), List.getElem?_eq_getElem (by omega), hx]
          have HN := hid hn1
          rw [hx] at a0
          clear hx hn1
          go_wp2_with fail
          go_quiet (fail)
          go_wp2_with fail
          go_roundw
          case rel => exact ⟨k + 1, by omega, by go_num, HN, _, rfl⟩
          case measure => simp [intOf]; omega
        · have h0 : (xs[k] == ys[k]) = false := by simpa using hx
          have hne : xs ≠ ys := fun h => hx (by subst h; rfl)
          have HNE := hid hne
          clear hx hne
          go_wp2_with fail
          go_quiet (fail)
          go_wp2
          go_ret
          exact ⟨HF.out _ (decide_eq_false HNE.out).symm, _, World.drewN_drewN ..⟩
      · have hfe : xs = ys := by
          have := he.out
          rwa [List.take_of_length_le (by omega), List.take_of_length_le (by omega)] at this
        have HE := hid hfe
        clear hfe
        go_wp2
        go_ret
        exact ⟨HF.out _ (decide_eq_true HE.out).symm, q, rfl⟩
  · have h0 : ((n : Int) == (m : Int)) = false := by simp; omega
    have hne : xs ≠ ys := fun h => hnm (by subst h; omega)
    have HF := hid (decide_eq_false hne)
    clear hne
    go_enter Try.func51, Try.ntmps51
    go_wp2
    go_ret
    exact ⟨ret_bool HF.out.symm, 0, rfl⟩

set_option maxRecDepth 100000 in
set_option maxHeartbeats 1000000 in
theorem yes_calls {w : World} (A B : Option Addr) (n m c d : Nat) (xs ys : List Bool) (hA : Reads w 1 A n (bools xs)) (hB : Reads w 1 B m (bools ys)) :
    Calls Try.prog 52 #[.slice A n c, .slice B m d] w fun e w' => e = .returned (.bool (decide (xs = ys))) ∧ ∃ q, w' = w.drewN q := by
  have hxl : xs.length = n := by have := hA.1; simpa [bools] using this
  have hyl : ys.length = m := by have := hB.1; simpa [bools] using this
  have hn := hA.2.1
  by_cases hnm : n = m
  · subst hnm
    have hfin : ∀ b, b = decide (xs = ys) → Ending.returned (.bool b) = .returned (.bool (decide (xs = ys))) := fun b h => by rw [h]
    have HF := hid hfin
    clear hfin
    go_enter Try.func52, Try.ntmps52
    go_wp2_with fail
    go_loopw [5] (fun i wr => ∃ k : Nat, k ≤ n ∧ i = .int .i64 k ∧ Hid (xs.take k = ys.take k) ∧ ∃ q, wr = w.drewN q) (fun i _ => n - (intOf i).toNat)
    case atStart => exact ⟨0, by omega, rfl, rfl, 0, rfl⟩
    case round =>
      obtain ⟨k, hk, rfl, he, q, rfl⟩ := hrel
      by_cases hlt : k < n
      · obtain ⟨ad, rfl, hc⟩ := hA.at (by omega)
        obtain ⟨bd, rfl, hd⟩ := hB.at (by omega)
        have a0 := hc k _ (bools_at (by omega))
        have b0 := hd k _ (bools_at (by omega))
        clear hc hd
        have hkn : (k : Int) < (n : Int) := by omega
        by_cases hx : xs[k] = ys[k]
        · have hn1 : xs.take (k + 1) = ys.take (k + 1) := by
            rw [List.take_add_one, List.take_add_one, he.out, List.getElem?_eq_getElem (by omega), List.getElem?_eq_getElem (by omega), hx]
          have HN := hid hn1
          rw [hx] at a0
          clear hx hn1
          go_wp2_with fail
          go_quiet (fail)
          go_wp2_with fail
          go_roundw
          case rel => exact ⟨k + 1, by omega, by go_num, HN, _, rfl⟩
          case measure => simp [intOf]; omega
        · have h0 : (xs[k] == ys[k]) = false := by simpa using hx
          have hne : xs ≠ ys := fun h => hx (by subst h; rfl)
          have HNE := hid hne
          clear hx hne
          go_wp2_with fail
          go_quiet (fail)
          go_wp2
          go_ret
          exact ⟨HF.out _ (decide_eq_false HNE.out).symm, _, World.drewN_drewN ..⟩
      · have hfe : xs = ys := by
          have := he.out
          rwa [List.take_of_length_le (by omega), List.take_of_length_le (by omega)] at this
        have HE := hid hfe
        clear hfe
        go_wp2
        go_ret
        exact ⟨HF.out _ (decide_eq_true HE.out).symm, q, rfl⟩
  · have h0 : ((n : Int) == (m : Int)) = false := by simp; omega
    have hne : xs ≠ ys := fun h => hnm (by subst h; omega)
    have HF := hid (decide_eq_false hne)
    clear hne
    go_enter Try.func52, Try.ntmps52
    go_wp2
    go_ret
    exact ⟨ret_bool HF.out.symm, 0, rfl⟩

/-- The bound of a limit. -/
def bnd (x : Int) : Nat := (min (max x 0) 65536).toNat
set_option maxRecDepth 100000 in
set_option maxHeartbeats 400000 in
theorem bound_calls {w : World} (x : Int) : Calls Try.prog 64 #[.int .i64 x] w fun e w' => e = .returned (.int .i64 (bnd x)) ∧ w' = w := by
  have hb : ((bnd x : Nat) : Int) = min (max x 0) 65536 := by unfold bnd; omega
  have HB := hid hb
  clear hb
  by_cases h0 : 0 ≤ x
  · by_cases h1 : x ≤ 65536
    · have e0 : max x 0 = x := by omega
      have e1 : min x 65536 = x := by omega
      go_enter Try.func64, Try.ntmps64
      go_wp2
      go_ret
      exact ⟨ret_int (by rw [HB.out]; first | omega | (split <;> omega) | (split <;> split <;> omega)), rfl⟩
    · have e0 : max x 0 = x := by omega
      have e1 : min x 65536 = 65536 := by omega
      go_enter Try.func64, Try.ntmps64
      go_wp2
      go_ret
      exact ⟨ret_int (by rw [HB.out]; first | omega | (split <;> omega) | (split <;> split <;> omega)), rfl⟩
  · have e0 : max x 0 = 0 := by omega
    go_enter Try.func64, Try.ntmps64
    go_wp2
    go_ret
    exact ⟨ret_int (by rw [HB.out]; first | omega | (split <;> omega) | (split <;> split <;> omega)), rfl⟩

/-- How many are real. -/
def real (xs : List Int) : Nat := (xs.filter fun x => decide (0 ≤ x)).length
theorem real_le (xs : List Int) : real xs ≤ xs.length := List.length_filter_le ..
theorem real_take {xs : List Int} {k : Nat} (h : k < xs.length) : real (xs.take (k + 1)) = real (xs.take k) + if 0 ≤ xs[k] then 1 else 0 := by
  unfold real
  rw [List.take_add_one, List.getElem?_eq_getElem h, Option.toList_some, List.filter_append, List.length_append]
  congr 1
  by_cases hx : 0 ≤ xs[k] <;> simp [List.filter, hx]
set_option maxRecDepth 100000 in
set_option maxHeartbeats 400000 in
theorem real_calls {w : World} (A : Option Addr) (n c : Nat) (xs : List Int) (hR : Reads w 1 A n (nums .i64 xs)) :
    Calls Try.prog 55 #[.slice A n c] w fun e w' => e = .returned (.int .i64 (real xs)) ∧ w' = w := by
  have hmm := hR.2.1
  have hl : xs.length = n := by have := hR.1; simpa [nums] using this
  subst hl
  have HRL := fun k : Nat => real_le (xs.take k)
  go_enter Try.func55, Try.ntmps55
  go_wp2_with fail
  go_loopw [3, 8] (fun s i wr => ∃ k t : Nat, k ≤ xs.length ∧ i = .int .i64 k ∧ s = .int .i64 t ∧ t ≤ k ∧ Hid (t = real (xs.take k)) ∧ wr = w) (fun _ i _ => xs.length - (intOf i).toNat)
  case atStart => exact ⟨0, 0, by omega, rfl, rfl, by omega, rfl, rfl⟩
  case round =>
    obtain ⟨k, t, hk, rfl, rfl, htk, ht, rfl⟩ := hrel
    by_cases hlt : k < xs.length
    · obtain ⟨ad, rfl, hc⟩ := hR.at (by omega)
      have hca := hc k _ (nums_at hlt)
      clear hc
      have hrt := hid (real_take hlt)
      have wt := i64_wrap (x := (t : Int) + 1) (by omega) (by omega)
      by_cases hx : 0 ≤ xs[k]
      · have HX := hid hx
        go_wp2
        go_roundw
        case rel => exact ⟨k + 1, t + 1, by omega, by go_num, by go_num, by omega, by rw [hrt.out, if_pos HX.out, ← ht.out]; rfl, by first | rfl | trivial⟩
        case measure => simp [intOf]; omega
      · have HX := hid hx
        go_wp2
        go_roundw
        case rel => exact ⟨k + 1, t, by omega, by go_num, by go_num, by omega, by rw [hrt.out, if_neg HX.out, ← ht.out]; rfl, by first | rfl | trivial⟩
        case measure => simp [intOf]; omega
    · have hfin : t = real xs := by have := ht.out; rwa [List.take_of_length_le (by omega)] at this
      have HF := hid hfin
      clear hfin
      go_wp2
      go_ret
      exact ⟨ret_int (by rw [HF.out]), rfl⟩
end Go.Proofs.Ytedhcgeglmoacaa
