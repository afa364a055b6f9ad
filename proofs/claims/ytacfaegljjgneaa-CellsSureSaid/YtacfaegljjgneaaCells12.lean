import Derived.Test.YtacfaegljjgneaaCells11
namespace Go.Proofs.Ytacfaegljjgneaa
set_option linter.unusedVariables false
set_option linter.unusedSimpArgs false
open Go.RowKit Go.Proofs.Sep

/-- The cells of the k-th operation. -/
theorem sop_at {E : World} {F : Asn} {A : Option Addr} {l : List SOp} {hd : List Value} (hQ : ∀ w, Sat E F w → Reads w 4 A l.length hd) (hO : ∀ w, Sat E F w → SOpsIn w l hd) {k : Nat} (hk : k < l.length) {w0 : World} (h0 : Sat E F w0) :
    ∃ ad Ai ci Bi di, A = some ad ∧ l[k].2.2.1.length ≤ 9223372036854775807 ∧ l[k].2.2.2.length ≤ 9223372036854775807 ∧ ∀ w, Sat E F w → w.cell? (ad.add (k * 4)) = some (.int .i64 l[k].1) ∧ w.cell? { block := (ad.add (k * 4)).block, off := (ad.add (k * 4)).off + 1 } = some (.int .i64 l[k].2.1) ∧ w.cell? { block := (ad.add (k * 4)).block, off := (ad.add (k * 4)).off + 2 } = some (.slice Ai l[k].2.2.1.length ci) ∧
      w.cell? { block := (ad.add (k * 4)).block, off := (ad.add (k * 4)).off + 3 } = some (.slice Bi l[k].2.2.2.length di) ∧ Reads w 1 Ai l[k].2.2.1.length (nums .u8 l[k].2.2.1) ∧ Reads w 1 Bi l[k].2.2.2.length (bools l[k].2.2.2) := by
  obtain ⟨ad, hA, _⟩ := (hQ _ h0).at (by omega)
  obtain ⟨Ai, ci, Bi, di, e0, e1, e2, e3, e4, e5⟩ := hO _ h0 k hk
  refine ⟨ad, Ai, ci, Bi, di, hA, e4.2.1, e5.2.1, fun w hw => ?_⟩
  obtain ⟨Aj, cj, Bj, dj, f0, f1, f2, f3, f4, f5⟩ := hO _ hw k hk
  rw [e2] at f2
  injection f2 with f2
  injection f2 with f2 _ _
  subst f2
  rw [e3] at f3
  injection f3 with f3
  injection f3 with f3 _ _
  subst f3
  have q3 := (hQ _ hw).2.2.2 ad hA _ _ e3
  rw [← addr_add_add] at q3
  exact ⟨(hQ _ hw).2.2.2 ad hA _ _ e0, cell_two ((hQ _ hw).2.2.2 ad hA _ _ e1), cell_three ((hQ _ hw).2.2.2 ad hA _ _ e2), q3, f4, f5⟩

/-- The sum that Few takes. -/
def fewTo (l : List SOp) : Nat → Nat
  | 0 => 0
  | k + 1 => fewTo l k + min (l.getD k default).2.2.1.length 20001 + min (l.getD k default).2.2.2.length 20001
theorem fewTo_succ {l : List SOp} {k : Nat} (h : k < l.length) : fewTo l (k + 1) = fewTo l k + min l[k].2.2.1.length 20001 + min l[k].2.2.2.length 20001 := by
  simp only [fewTo]
  rw [List.getD_eq_getElem?_getD, List.getElem?_eq_getElem h]
  rfl
theorem fewTo_le (l : List SOp) (k : Nat) : fewTo l k ≤ 40002 * k := by
  induction k with
  | zero => simp [fewTo]
  | succ k ih => simp only [fewTo]; omega
theorem fewTo_all {l : List SOp} {k : Nat} (hk : k ≤ l.length) (h : fewTo l k ≤ 20000) : ∀ i (_ : i < k) (hi : i < l.length), l[i].2.2.1.length ≤ 20000 ∧ l[i].2.2.2.length ≤ 20000 := by
  induction k with
  | zero => intro i h; omega
  | succ k ih =>
    intro i h1 h2
    rw [fewTo_succ (by omega)] at h
    by_cases hik : i = k
    · subst hik; omega
    · exact ih (by omega) (by omega) i (by omega) h2
set_option maxRecDepth 100000 in
set_option maxHeartbeats 2000000 in
theorem few24 {E w : World} {F : Asn} (A : Option Addr) (c : Nat) (l : List SOp) (hd : List Value) (hS : Sat E F w) (hQ : ∀ w, Sat E F w → Reads w 4 A l.length hd) (hO : ∀ w, Sat E F w → SOpsIn w l hd) :
    Calls Try.prog 24 #[.slice A l.length c] w fun e w' => ((e = .returned (.bool true) ∧ l.length ≤ 200 ∧ ∀ x ∈ l, x.2.2.1.length ≤ 20000 ∧ x.2.2.2.length ≤ 20000) ∨ e = .returned (.bool false)) ∧ Sat E F w' := by
  have hmm := (hQ w hS).2.1
  go_enter Try.func24, Try.ntmps24
  go_wp2_with fail
  go_loopw [3, 4] (fun s i wr => ∃ k : Nat, k ≤ l.length ∧ k ≤ 200 ∧ i = .int .i64 k ∧ s = .int .i64 (fewTo l k) ∧ Sat E F wr) (fun _ i _ => l.length - (intOf i).toNat)
  case atStart => exact ⟨0, by omega, by omega, rfl, rfl, hS⟩
  case round =>
    obtain ⟨k, hk, hk2, rfl, rfl, hr⟩ := hrel
    by_cases hgo : k < l.length ∧ k < 200
    · obtain ⟨hlt, hlt2⟩ := hgo
      obtain ⟨ad, Ai, ci, Bi, di, rfl, q1, q2, q3⟩ := sop_at hQ hO hlt hr
      obtain ⟨_, _, hca, hcb, _, _⟩ := q3 _ hr
      clear q3
      have hnx := fewTo_succ hlt
      have hle := fewTo_le l k
      have hle2 := fewTo_le l (k + 1)
      generalize l[k].2.2.1.length = x at *
      generalize l[k].2.2.2.length = y at *
      generalize fewTo l k = t at *
      obtain ⟨x', hx'⟩ : ∃ x', x' = min x 20001 := ⟨_, rfl⟩
      obtain ⟨y', hy'⟩ : ∃ y', y' = min y 20001 := ⟨_, rfl⟩
      rw [← hx', ← hy'] at hnx
      have HX := hid hnx
      have wa := i64_wrap (x := (t : Int) + (x' : Int)) (by omega) (by omega)
      have wb := i64_wrap (x := (t : Int) + (x' : Int) + (y' : Int)) (by omega) (by omega)
      have wk := i64_wrap (x := (k : Int) + 1) (by omega) (by omega)
      have hkd : (k : Int) < (l.length : Int) := by omega
      have hk3 : (k : Int) < 200 := by omega
      have hX : x' = x ∧ ¬ (20001 : Int) < (x : Int) ∨ x' = 20001 ∧ (20001 : Int) < (x : Int) := by omega
      have hY : y' = y ∧ ¬ (20001 : Int) < (y : Int) ∨ y' = 20001 ∧ (20001 : Int) < (y : Int) := by omega
      clear hnx hle hle2 hx' hy'
      rcases hX with ⟨rfl, hX⟩ | ⟨rfl, hX⟩ <;> rcases hY with ⟨rfl, hY⟩ | ⟨rfl, hY⟩
      all_goals
        try simp only [show ((20001 : Nat) : Int) = 20001 from rfl] at wa wb
        go_wp2_with fail
        go_quiet (fail)
        go_wp2
        go_roundw
        case rel => exact ⟨k + 1, by omega, by omega, by go_num, by rw [HX.out]; go_num, by first | exact hr | exact hr.drewN _⟩
        case measure => simp [intOf]; omega
    · by_cases hge : k < l.length
      · go_wp2
        go_ret
        exact ⟨.inr rfl, hr⟩
      · have hle : l.length ≤ 200 := by omega
        have hle2 := fewTo_le l k
        have hkl : k = l.length := by omega
        by_cases ht2 : fewTo l k ≤ 20000
        · have hall := hid (fewTo_all hk ht2)
          have HR : Hid (∀ x ∈ l, x.2.2.1.length ≤ 20000 ∧ x.2.2.2.length ≤ 20000) := by
            intro x hx
            obtain ⟨i, hi, rfl⟩ := List.getElem_of_mem hx
            exact hall.out i (by omega) hi
          clear hall
          generalize fewTo l k = t at *
          go_wp2
          go_ret
          exact ⟨.inl ⟨ret_bool (by first | rfl | (simp; omega)), hle, HR.out⟩, hr⟩
        · generalize fewTo l k = t at *
          go_wp2
          go_ret
          exact ⟨.inr (ret_bool (by first | rfl | (simp; omega))), hr⟩
end Go.Proofs.Ytacfaegljjgneaa
