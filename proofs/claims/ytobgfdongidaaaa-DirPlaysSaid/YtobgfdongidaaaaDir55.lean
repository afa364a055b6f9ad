import Derived.Test.YtobgfdongidaaaaDir53
namespace Go.Proofs.Ytobgfdongidaaaa
set_option linter.unusedVariables false
set_option linter.unusedSimpArgs false
open Go.RowKit Go.Proofs.Sep Go.Lib

set_option maxRecDepth 100000 in
set_option maxHeartbeats 4000000 in
theorem find25 {w : World} (A : Option Addr) (c : Nat) (m : List Ent) (key : ByteArray) (hl : m.length ≤ 900000) (hA : Reads w 2 A m.length (ents m)) :
    Calls Try.prog 25 #[.slice A m.length c, .string key] w fun r w' => (∃ i : Int, r = .returned (.int .i64 i) ∧ AtP m key i) ∧ w' = w := by
  go_enter Try.func25, Try.ntmps25
  go_wp2_with fail
  go_loopw [5] (fun iv wr => wr = w ∧ ∃ k : Nat, k ≤ m.length ∧ iv = .int .i64 k ∧ Hid (∀ (j : Nat) (h : j < k) (h2 : j < m.length), m[j].1 ≠ key)) (fun iv _ => m.length - (intOf iv).toNat)
  case atStart => exact ⟨rfl, 0, by omega, rfl, fun j h _ => absurd h (by omega)⟩
  case round =>
    obtain ⟨rfl, k, hk, rfl, hno⟩ := hrel
    by_cases hlt : k < m.length
    · have hkd : (k : Int) < (m.length : Int) := by omega
      have wk := i64_wrap (x := (k : Int) + 1) (by omega) (by omega)
      obtain ⟨ad, hAd, x0, _⟩ := cells_at hA hlt
      subst hAd
      generalize hX : m[k].1 = X at *
      have HX := hid hX
      clear hX
      by_cases he : X = key
      · subst he
        have HL := hid hlt
        go_wp2_with fail
        go_ret
        exact ⟨⟨k, rfl, .inl ⟨k, HL.out, rfl, HX.out⟩⟩, rfl⟩
      · have z := bytes_ne' he
        have HE := hid he
        clear he
        go_wp2_with fail
        go_roundw
        case rel =>
          refine ⟨by first | rfl | trivial, k + 1, by omega, by go_num, fun j h h2 => ?_⟩
          rcases Nat.lt_or_ge j k with h3 | h3
          · exact hno j h3 h2
          · obtain rfl : j = k := by omega
            rw [HX.out]
            exact HE.out
        case measure => simp [intOf]; omega
    · obtain rfl : k = m.length := by omega
      have hkd : ¬ (m.length : Int) < (m.length : Int) := by omega
      clear hlt
      go_wp2_with fail
      go_ret
      refine ⟨⟨-1, rfl, .inr ⟨rfl, ?_⟩⟩, rfl⟩
      simp only [hasKey, List.any_eq_false, decide_eq_true_eq]
      intro x hx e
      obtain ⟨j, hj, rfl⟩ := List.getElem_of_mem hx
      exact hno j hj hj e
theorem wantR_stay (lo hi : ByteArray) (lim : Int) (L : List Ent) : ∀ (d k : Nat), k + d ≤ L.length → lim ≤ ((wantR lo hi lim L k).length : Int) → wantR lo hi lim L (k + d) = wantR lo hi lim L k
  | 0, _, _, _ => rfl
  | d + 1, k, h, hb => by
    have ih := wantR_stay lo hi lim L d k (by omega) hb
    rw [← Nat.add_assoc, wantR_full lo hi lim L (k + d) (by omega) (by rw [ih]; exact hb), ih]
set_option maxRecDepth 100000 in
set_option maxHeartbeats 8000000 in
theorem refRange24 {E w : World} {F : Asn} (A : Option Addr) (c : Nat) (L : List Ent) (lo hi : ByteArray) (lim : Int) (hr : Rises L) (hl : L.length ≤ 900000) (hS : Sat E F w) (hA : ∀ w, Sat E F w → Reads w 2 A L.length (ents L)) :
    Calls Try.prog 24 #[.slice A L.length c, .string lo, .string hi, .int .i64 lim] w fun r w' => ∃ v, r = .returned v ∧ Sat E (row 32 2 v (rangeR lo hi lim L).length (ents (rangeR lo hi lim L)) * F) w' := by
  have HR := hid hr
  clear hr
  go_enter Try.func24, Try.ntmps24
  go_wp2_with fail
  go_loopw [9, 10] (fun o iv wr => ∃ k : Nat, k ≤ L.length ∧ iv = .int .i64 k ∧ Sat E (row 32 2 o (wantR lo hi lim L k).length (ents (wantR lo hi lim L k)) * F) wr) (fun _ iv _ => L.length - (intOf iv).toNat)
  case atStart => exact ⟨0, by omega, rfl, by rw [wantR_zero]; exact hS.row_nil⟩
  case round =>
    clear hS
    obtain ⟨k, hk, rfl, hq⟩ := hrel
    obtain ⟨O, co, ho, _, _, _⟩ := hq.reads
    subst ho
    have hwl := wantR_le lo hi lim L k
    by_cases hlt : k < L.length
    · have hkd : (k : Int) < (L.length : Int) := by omega
      by_cases hlm : ((wantR lo hi lim L k).length : Int) < lim
      · have wk := i64_wrap (x := (k : Int) + 1) (by omega) (by omega)
        obtain ⟨ad, hAd, x0, x1⟩ := cells_at (hA _ hq.right) hlt
        subst hAd
        have hn1 := wantR_no lo hi lim L k hlt
        have hn3 := wantR_yes lo hi lim L k hlt
        generalize hws : wantR lo hi lim L (k + 1) = WS at *
        generalize hwn : wantR lo hi lim L k = WN at *
        generalize hx : L[k] = X at *
        have HWS := hid hws
        clear hws hwn hx
        obtain ⟨X1, X2⟩ := X
        have H1 := hid hn1
        have H3 := hid hn3
        clear hn1 hn3
        (try simp only at x0 x1)
        have hin : inR lo hi (X1, X2) = (!decide (klt X1 lo) && !decide (klt hi X1)) := rfl
        by_cases a1 : klt X1 lo
        · have z1 : Op.bytesLess X1.toList lo.toList = true := by rw [key_lss]; exact decide_eq_true a1
          have hres := H1.out (by rw [hin]; simp [a1])
          subst hres
          clear a1 hin H1 H3
          go_wp2_with fail
          go_roundw
          case rel => exact ⟨k + 1, by omega, by go_num, by rw [HWS.out]; exact hq⟩
          case measure => simp [intOf]; omega
        · have z1 : Op.bytesLess X1.toList lo.toList = false := by rw [key_lss]; exact decide_eq_false a1
          by_cases a2 : klt hi X1
          · have z2 : Op.bytesLess X1.toList hi.toList = false := by rw [key_lss]; exact decide_eq_false (klt_asymm a2)
            have z3 : (X1.toList == hi.toList) = false := beq_eq_false_iff_ne.2 fun h => by
              have := key_leq X1 hi
              rw [h] at this
              simp [a2] at this
            have hres := H1.out (by rw [hin]; simp [a2])
            subst hres
            clear a1 a2 hin H1 H3
            go_wp2_with fail
            go_roundw
            case rel => exact ⟨k + 1, by omega, by go_num, by rw [HWS.out]; exact hq⟩
            case measure => simp [intOf]; omega
          · have hres := H3.out (by rw [hin]; simp [a1, a2]) hlm
            subst hres
            have HN : Hid (ents (WN ++ [(X1, X2)]) = ents WN ++ [.string X1, .int .i64 X2]) := hid (by rw [ents_append]; rfl)
            have s1 := hq.alloc_drop (.cells #[.string X1, .int .i64 X2] 32)
            have hR : Reads (wr.alloc (.cells [.string X1, .int .i64 X2].toArray 32)) 2 (some ⟨wr.heap.size, 0, none⟩) 1 [.string X1, .int .i64 X2] := Reads.new 2 1 [.string X1, .int .i64 X2] 32 rfl (by omega)
            clear hq hin H1 H3
            rcases klt_or X1 hi with h | rfl | h
            rotate_left 2
            · exact absurd h a2
            · have z2 : Op.bytesLess X1.toList hi.toList = true := by rw [key_lss]; exact decide_eq_true h
              clear h a1 a2
              go_wp2_with (at_builtin; refine wpList_append_sat rfl _ _ 30 32 (.agg #[.string ByteArray.empty, .int .i64 0]) 2 24 rfl Try.underlying30 Try.info32 rfl (by decide) _ WN.length (ents WN) _ 1 1 [.string X1, .int .i64 X2] rfl rfl s1 hR (by simp [Value.oneCell']) (by unfold maxLen; omega) (by omega) ?_; intro v1 w3 q1; rw [← HN.out] at q1)
              go_roundw
              case rel => exact ⟨k + 1, by omega, by go_num, by rw [HWS.out, List.length_append]; exact q1⟩
              case measure => simp [intOf]; omega
            · have z2 : Op.bytesLess X1.toList X1.toList = false := by rw [key_lss]; exact decide_eq_false (klt_irrefl _)
              clear a1 a2
              go_wp2_with (at_builtin; refine wpList_append_sat rfl _ _ 30 32 (.agg #[.string ByteArray.empty, .int .i64 0]) 2 24 rfl Try.underlying30 Try.info32 rfl (by decide) _ WN.length (ents WN) _ 1 1 [.string X1, .int .i64 X2] rfl rfl s1 hR (by simp [Value.oneCell']) (by unfold maxLen; omega) (by omega) ?_; intro v1 w3 q1; rw [← HN.out] at q1)
              go_roundw
              case rel => exact ⟨k + 1, by omega, by go_num, by rw [HWS.out, List.length_append]; exact q1⟩
              case measure => simp [intOf]; omega
      · have hst := wantR_stay lo hi lim L (L.length - k) k (by omega) (by omega)
        rw [show k + (L.length - k) = L.length by omega, wantR_all lo hi lim L HR.out] at hst
        generalize wantR lo hi lim L k = WN at *
        have HST := hid hst
        clear hst hlt
        go_wp2_with fail
        go_ret
        exact ⟨_, rfl, by rw [HST.out]; exact hq⟩
    · obtain rfl : k = L.length := by omega
      have hkd : ¬ (L.length : Int) < (L.length : Int) := by omega
      have HQ := hid hq
      clear hlt hq
      go_wp2_with fail
      go_ret
      exact ⟨_, rfl, by rw [← wantR_all lo hi lim L HR.out]; exact HQ.out⟩
end Go.Proofs.Ytobgfdongidaaaa
