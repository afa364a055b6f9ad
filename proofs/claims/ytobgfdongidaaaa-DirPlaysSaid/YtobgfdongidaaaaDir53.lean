import Derived.Test.YtobgfdongidaaaaDir52
import Derived.Deep.DeepCutAuto
import Derived.Deep.CutBlock
namespace Go.Proofs.Ytobgfdongidaaaa
set_option linter.unusedVariables false
set_option linter.unusedSimpArgs false
open Go.RowKit Go.Proofs.Sep Go.Lib

theorem bytes_ne' {a b : ByteArray} (h : ¬ a = b) : (a.toList == b.toList) = false := beq_eq_false_iff_ne.2 fun e => h (by
  rw [Lib.toList_data, Lib.toList_data] at e
  exact kcmp_eq (by unfold kcmp; rw [e]; exact cb_refl _))
set_option maxRecDepth 100000 in
set_option maxHeartbeats 4000000 in
theorem at19 {E w : World} {F : Asn} (A : Option Addr) (c : Nat) (m : List Ent) (key : ByteArray) (hl : m.length ≤ 900000) (hS : Sat E F w) (hA : ∀ w, Sat E F w → Reads w 2 A m.length (ents m)) :
    Calls Try.prog 19 #[.slice A m.length c, .string key] w fun r w' => (∃ i : Int, r = .returned (.int .i64 i) ∧ AtP m key i) ∧ w' = w := by
  have hA := hA w hS
  clear hS
  go_enter Try.func19, Try.ntmps19
  go_wp2_with fail
  go_loopw [5] (fun iv wr => wr = w ∧ ∃ k : Nat, k ≤ m.length ∧ iv = .int .i64 k ∧ Hid (∀ (j : Nat) (h : j < k) (h2 : j < m.length), m[j].1 ≠ key)) (fun iv _ => m.length - (intOf iv).toNat)
  case atStart => exact ⟨rfl, 0, by omega, rfl, fun j h _ => absurd h (by omega)⟩
  case round =>
    obtain ⟨rfl, k, hk, rfl, hno⟩ := hrel
    by_cases hlt : k < m.length
    · have hkd : (k : Int) < (m.length : Int) := by omega
      have wk := i64_wrap (x := (k : Int) + 1) (by omega) (by omega)
      obtain ⟨ad, hAd, x0, _⟩ := cells_at hA hlt
      subst hAd
      have hx : m[k].1 = m[k].1 := rfl
      generalize hX : m[k].1 = X at *
      have HX := hid hX
      clear hX hx
      by_cases he : X = key
      · subst he
        have HL := hid hlt
        go_wp2_with fail
        go_ret
        exact ⟨⟨k, rfl, .inl ⟨k, HL.out, rfl, HX.out⟩⟩, rfl⟩
      · have z := bytes_ne' he
        have HE := hid he
        clear he
        go_wp2_with fail
        go_roundw
        case rel =>
          refine ⟨by first | rfl | trivial, k + 1, by omega, by go_num, fun j h h2 => ?_⟩
          rcases Nat.lt_or_ge j k with h3 | h3
          · exact hno j h3 h2
          · obtain rfl : j = k := by omega
            rw [HX.out]
            exact HE.out
        case measure => simp [intOf]; omega
    · obtain rfl : k = m.length := by omega
      have hkd : ¬ (m.length : Int) < (m.length : Int) := by omega
      clear hlt
      go_wp2_with fail
      go_ret
      refine ⟨⟨-1, rfl, .inr ⟨rfl, ?_⟩⟩, rfl⟩
      simp only [hasKey, List.any_eq_false, decide_eq_true_eq]
      intro x hx e
      obtain ⟨j, hj, rfl⟩ := List.getElem_of_mem hx
      exact hno j hj hj e
/-- What 'Few' answers. -/
def FewPost (l : List OpE) (r : Ending) : Prop := ∃ b : Bool, r = .returned (.bool b) ∧ (b = true → l.length ≤ 400)
set_option maxRecDepth 100000 in
set_option maxHeartbeats 4000000 in
theorem few18 {E w : World} {F : Asn} (A : Option Addr) (c : Nat) (l : List OpE) (hz : ∀ x ∈ l, x.2.2.1.size ≤ 140737488351232 ∧ x.2.2.2.size ≤ 140737488351232) (hS : Sat E F w) (hA : ∀ w, Sat E F w → Reads w 4 A l.length (opents l)) :
    Calls Try.prog 18 #[.slice A l.length c] w fun r w' => FewPost l r ∧ Sat E F w' := by
  go_enter Try.func18, Try.ntmps18
  go_wp2_with fail
  go_loopw [3, 4] (fun nv iv wr => ∃ k n : Nat, k ≤ l.length ∧ k ≤ 400 ∧ iv = .int .i64 k ∧ nv = .int .i64 n ∧ n ≤ k * 40002 ∧ Sat E F wr) (fun _ iv _ => l.length - (intOf iv).toNat)
  case atStart => exact ⟨0, 0, by omega, by omega, rfl, rfl, by omega, hS⟩
  case round =>
    clear hS
    obtain ⟨k, n, hk, hk4, rfl, rfl, hn, hq⟩ := hrel
    by_cases hlt : k < l.length ∧ k < 400
    · have hkd : (k : Int) < (l.length : Int) := by omega
      have hkd2 : (k : Int) < 400 := by omega
      have wk := i64_wrap (x := (k : Int) + 1) (by omega) (by omega)
      obtain ⟨ad, hAd, _, _, x2, x3⟩ := op_at (hA _ hq) hlt.1
      subst hAd
      have hzz := hz l[k] (List.getElem_mem _)
      generalize l[k].2.2.1 = X at *
      generalize l[k].2.2.2 = Y at *
      obtain ⟨a, ha1, ha2⟩ : ∃ a : Nat, ((20001 : Int) < (X.size : Int) ∧ a = 20001 ∨ ¬ (20001 : Int) < (X.size : Int) ∧ a = X.size) ∧ a ≤ 20001 := by
        by_cases h : (20001 : Int) < (X.size : Int)
        · exact ⟨20001, .inl ⟨h, rfl⟩, by omega⟩
        · exact ⟨X.size, .inr ⟨h, rfl⟩, by omega⟩
      obtain ⟨b, hb1, hb2⟩ : ∃ b : Nat, ((20001 : Int) < (Y.size : Int) ∧ b = 20001 ∨ ¬ (20001 : Int) < (Y.size : Int) ∧ b = Y.size) ∧ b ≤ 20001 := by
        by_cases h : (20001 : Int) < (Y.size : Int)
        · exact ⟨20001, .inl ⟨h, rfl⟩, by omega⟩
        · exact ⟨Y.size, .inr ⟨h, rfl⟩, by omega⟩
      have HA1 := hid ha1
      have HB1 := hid hb1
      clear ha1 hb1
      obtain ⟨n1, hn1⟩ : ∃ n1, n1 = n + a := ⟨_, rfl⟩
      obtain ⟨n2, hn2⟩ : ∃ n2, n2 = n1 + b := ⟨_, rfl⟩
      have g1 : (n : Int) + (a : Int) = (n1 : Int) := by omega
      have g3 : (n1 : Int) + (b : Int) = (n2 : Int) := by omega
      have g5 := i64_wrap (x := (n1 : Int)) (by omega) (by omega)
      have g6 := i64_wrap (x := (n2 : Int)) (by omega) (by omega)
      have hHN : n2 ≤ (k + 1) * 40002 := by omega
      have HN := hid hHN
      clear hHN
      clear hn1 hn2 hzz
      rcases HA1.out with ⟨c1, rfl⟩ | ⟨c1, rfl⟩
      all_goals
        rcases HB1.out with ⟨c2, rfl⟩ | ⟨c2, rfl⟩
        all_goals
          (try simp only [Int.natCast_ofNat] at g1 g3)
          clear HA1 HB1
          go_wp2_with fail
          go_quiet (fail)
          go_wp2_with fail
          go_roundw
          case rel => exact ⟨k + 1, n2, by omega, by omega, by go_num, congrArg (Value.int .i64) (by omega), HN.out, hq.drewN _⟩
          case measure => simp [intOf]; omega
    · by_cases h1 : (400 < (l.length : Int))
      · have h2 : (k : Int) < (l.length : Int) := by omega
        have h3 : ¬ (k : Int) < 400 := by omega
        have h4 : ¬ (l.length : Int) ≤ 400 := by omega
        clear hlt
        go_wp2_with fail
        go_ret
        exact ⟨⟨false, rfl, fun h => by cases h⟩, hq⟩
      · have h2 : ¬ (k : Int) < (l.length : Int) := by omega
        have h4 : (l.length : Int) ≤ 400 := by omega
        have HB : Hid (l.length ≤ 400) := hid (by omega)
        clear hlt
        by_cases h5 : (n : Int) ≤ 20000
        · go_wp2_with fail
          go_ret
          exact ⟨⟨true, rfl, fun _ => HB.out⟩, hq⟩
        · go_wp2_with fail
          go_ret
          exact ⟨⟨false, rfl, fun h => by cases h⟩, hq⟩
end Go.Proofs.Ytobgfdongidaaaa
