import Derived.Test.YtedhcgeglmoacaaPosRef2
import Derived.Test.YtedhcgeglmoacaaSepStep
namespace Go.Proofs.Ytedhcgeglmoacaa
set_option linter.unusedVariables false
set_option linter.unusedSimpArgs false
open Go.RowKit Go.Proofs.Sep

set_option maxRecDepth 100000 in
set_option maxHeartbeats 1000000 in
theorem cchanges_calls {E w : World} {F : Asn} (A : Option Addr) (c : Nat) (l : List (Int × Int × Int)) (hS : Sat E F w) (hn : l.length ≤ 1000000) (hR : ∀ w, Sat E F w → Reads w 3 A l.length (chs l)) :
    Calls Try.prog 43 #[.slice A l.length c] w fun e w' => ∃ v, e = .returned v ∧ Sat E (row 117 3 v l.length (chs l) * F) w' := by
  go_enter Try.func43, Try.ntmps43
  go_wp2_with fail
  go_loopw [3, 4] (fun v i wr => ∃ k : Nat, k ≤ l.length ∧ i = .int .i64 k ∧ Sat E (row 117 3 v k (chs (l.take k)) * F) wr) (fun _ i _ => l.length - (intOf i).toNat)
  case atStart => exact ⟨0, by omega, rfl, hS.row_nil⟩
  case round =>
    obtain ⟨k, hk, rfl, hr⟩ := hrel
    obtain ⟨Av, cv, rfl, _, _, _⟩ := hr.reads
    by_cases hlt : k < l.length
    · obtain ⟨ad, rfl, hc⟩ := (hR _ hr.right).at (by omega)
      obtain ⟨e0, e1, e2⟩ := chs_at hlt
      have d0 := hc _ _ e0
      have d1 := cell_two (hc _ _ e1)
      have d2 := cell_three (hc _ _ e2)
      clear hc e0 e1 e2
      have hnx : chs (l.take k) ++ [.int .i64 l[k].1, .int .i64 l[k].2.1, .int .i64 l[k].2.2] = chs (l.take (k + 1)) := by
        rw [List.take_add_one, List.getElem?_eq_getElem hlt, Option.toList_some, chs_append]
        rfl
      have HN := hid hnx
      clear hnx
      have hkl : (k : Int) < (l.length : Int) := by omega
      go_wp2_with fail
      have hcs : ∀ w' : World, Sat E F w' → w'.cell? (ad.add (k * 3)) = some (.int .i64 l[k].1) ∧ w'.cell? { block := (ad.add (k * 3)).block, off := (ad.add (k * 3)).off + 1 } = some (.int .i64 l[k].2.1) ∧ w'.cell? { block := (ad.add (k * 3)).block, off := (ad.add (k * 3)).off + 2 } = some (.int .i64 l[k].2.2) := by
        intro w' hw'
        obtain ⟨ad', h1, hc⟩ := (hR _ hw').at (by omega)
        injection h1 with h1
        subst h1
        obtain ⟨e0, e1, e2⟩ := chs_at hlt
        exact ⟨hc _ _ e0, cell_two (hc _ _ e1), cell_three (hc _ _ e2)⟩
      go_region_held3 (fun w' => Sat E F w' ∧ w'.cell? (ad.add (k * 3)) = some (.int .i64 l[k].1) ∧ w'.cell? { block := (ad.add (k * 3)).block, off := (ad.add (k * 3)).off + 1 } = some (.int .i64 l[k].2.1) ∧ w'.cell? { block := (ad.add (k * 3)).block, off := (ad.add (k * 3)).off + 2 } = some (.int .i64 l[k].2.2))
        (first | exact ⟨h6.right, hcs _ h6.right⟩ | exact ⟨hr.right.drew, hcs _ hr.right.drew⟩ | exact ⟨(hr.right.alloc_drop _).drew, hcs _ (hr.right.alloc_drop _).drew⟩ | exact ⟨hr.right.drew.alloc_drop _, hcs _ (hr.right.drew.alloc_drop _)⟩)
        (first
          | (refine step_append_sat rfl _ _ 86 117 (.agg #[.int .i64 0, .int .i64 0, .int .i64 0]) 3 24 rfl Try.underlying86 Try.info117 rfl (by decide) _ k _ _ 1 1 [.int .i64 l[k].1, .int .i64 l[k].2.1, .int .i64 l[k].2.2] rfl rfl ((hr.alloc_drop _).drew) (Reads.drew (Reads.new 3 1 [.int .i64 l[k].1, .int .i64 l[k].2.1, .int .i64 l[k].2.2] 117 rfl (by omega))) (by simp [Value.oneCell']) (by unfold maxLen; omega) (by omega) ?_; intro v1 w6 h6))
      rw [HN.out] at h6
      go_wp2
      go_roundw
      case rel => exact ⟨k + 1, by omega, by go_num, h6⟩
      case measure => simp [intOf]; omega
    · obtain rfl : k = l.length := by omega
      rw [List.take_length] at hr
      go_wp2
      go_ret
      exact ⟨_, rfl, hr⟩
end Go.Proofs.Ytedhcgeglmoacaa
