import Derived.Test.YtfphpnccmkggfaaIds3
import Derived.Test.YtfphpnccmkggfaaSepArgs
namespace Go.Proofs.Ytfphpnccmkggfaa
set_option linter.unusedVariables false
set_option linter.unusedSimpArgs false
open Go.RowKit Go.Proofs.Sep

set_option maxRecDepth 100000 in
set_option maxHeartbeats 2000000 in
theorem first18 {E w : World} {F : Asn} (hS : Sat E F w) : Calls Try.prog 28 #[] w fun e w' => e = .returned (.bool true) ∧ Sat E F w' := by
  have h0 := hS.alloc (.cells #[.int .i64 0] 3)
  have hm : mayPool (3 : Nat) [0] = true := by decide
  have hf : freeOf 3 [0] = [1, 2] := by decide
  have hf2 : (freeOf 3 ([0] ++ [1])).length = 1 := by decide
  have hg1 : giveB ([0] ++ [1]) [2] = false := by decide
  have hg2 : giveB ([0] ++ [1]) [0, 1] = true := by decide
  have hf3 : decide ((0 : Int) ∈ freeOf 3 (less ([0] ++ [1]) [0, 1])) = true := by decide
  have HM := hid hm
  have HF := hid hf
  have HF2 := hid hf2
  have HG1 := hid hg1
  have HG2 := hid hg2
  have HF3 := hid hf3
  clear hm hf hf2 hg1 hg2 hf3
  go_enter Try.func28, Try.ntmps28
  go_wp2_with fail
  refine (new_nat (F := blk w.heap.size (.cells #[.int .i64 0] 3) * F) 3 (some ⟨w.heap.size, 0, none⟩) 1 1 [0] (by omega) h0 (fun w h => h.blk_reads (cs := [_]) rfl (by omega))).mono ?_
  rintro e w1 (⟨_, p, rfl, h1⟩ | ⟨hb, _, _⟩)
  · have h2 := h1.drop_mid
    go_wp2_with fail
    refine (take_calls p 3 [0] h2).mono ?_
    rintro e w2 (⟨_, hb, _⟩ | ⟨k, rfl, hk, hfk, h3⟩)
    · rw [HF.out] at hb; cases hb
    · rw [HF.out] at hfk
      injection hfk with hk1 hk2
      have hk3 : k = 1 := by omega
      subst hk3
      clear hk1 hk2
      go_wp2_with fail
      refine (len_calls p 3 _ h3 (by omega)).mono ?_
      rw [show ((1 : Nat) : Int) = 1 from rfl, HF2.out]
      rintro e w3 ⟨rfl, h4⟩
      have h5 : Sat E (bp p 3 (poolOf 3 ([0] ++ [1])) * (blk w3.heap.size (.cells #[.int .i64 2] 3) * F)) _ := (h4.alloc (.cells #[.int .i64 2] 3)).eq (star_left_comm _ _ _)
      have hT : inR 3 ([0] ++ [1]) := by intro x hx; simp at hx; omega
      go_wp2_with fail
      refine (give_calls p 3 ([0] ++ [1]) (some ⟨w3.heap.size, 0, none⟩) 1 1 [2] hT (by omega) h5 (fun w h => h.blk_reads (cs := [_]) rfl (by omega))).mono ?_
      rw [HG1.out, gave_false HG1.out]
      rintro e w4 ⟨rfl, h6⟩
      have h7 : Sat E (bp p 3 (poolOf 3 ([0] ++ [1])) * (blk w4.heap.size (.cells #[.int .i64 0, .int .i64 1] 3) * F)) _ := (h6.drop_mid.alloc (.cells #[.int .i64 0, .int .i64 1] 3)).eq (star_left_comm _ _ _)
      go_wp2_with fail
      refine (give_calls p 3 ([0] ++ [1]) (some ⟨w4.heap.size, 0, none⟩) 2 2 [0, 1] hT (by omega) h7 (fun w h => h.blk_reads (cs := [_, _]) rfl (by omega))).mono ?_
      rw [HG2.out, gave_true HG2.out]
      rintro e w5 ⟨rfl, h8⟩
      go_wp2_with fail
      refine (free_calls p 3 _ 0 h8).mono ?_
      rw [HF3.out]
      rintro e w6 ⟨rfl, h9⟩
      have h10 := h9.right.right
      go_wp2
      go_ret
      exact ⟨rfl, h10⟩
  · rw [HM.out] at hb; cases hb

/-- An operation: kind, numbers. -/
abbrev IOp := Int × List Int
def IOpsIn (w : World) (l : List IOp) (hd : List Value) : Prop := ∀ i (hi : i < l.length), hd[i * 2]? = some (.int .i64 l[i].1) ∧ ∃ Ai ci, hd[i * 2 + 1]? = some (.slice Ai l[i].2.length ci) ∧ l[i].2.length ≤ ci ∧ Reads w 1 Ai l[i].2.length (nums .i64 l[i].2)
theorem IOpsIn.keep {w w' : World} {l : List IOp} {hd : List Value} (h : IOpsIn w l hd) (hk : ∀ k, k < w.heap.size → w'.heap[k]? = w.heap[k]?) : IOpsIn w' l hd := by
  intro i hi
  obtain ⟨e0, Ai, ci, e1, e2, e3⟩ := h i hi
  exact ⟨e0, Ai, ci, e1, e2, e3.keep hk⟩
theorem dec_iops {b1 b2 : Nat} {w : World} {l : List IOp} {cs : List Value} (h : (decSlice b1 (decPair (decInt .i64) (decSlice b2 (decInt .i64)))).rel w l cs) :
    ∃ A c hd, cs = [.slice A l.length c] ∧ l.length ≤ c ∧ c ≤ maxLen ∧ Reads w 2 A l.length hd ∧ IOpsIn w l hd := by
  obtain ⟨A, c, css, h0, h1, h2, h3, h4, h5, h6⟩ := h
  refine ⟨A, c, css.flatten, h0, h1, h2, h6, ?_⟩
  have key : ∀ i (hi : i < l.length) (hi' : i < css.length), ∃ B c, css[i] = [.int .i64 l[i].1, .slice B l[i].2.length c] ∧ l[i].2.length ≤ c ∧ Reads w 1 B l[i].2.length (nums .i64 l[i].2) := by
    intro i hi hi'
    obtain ⟨c1, c2, e, r1, r2⟩ := h5 i hi hi'
    obtain ⟨B, d, e5, q1, _, _, q, _⟩ := dec_ints r2
    exact ⟨B, d, by rw [e, r1.1, e5]; rfl, q1, q⟩
  have hall : ∀ c ∈ css, c.length = 2 := by
    intro c hc
    obtain ⟨j, hj, rfl⟩ := List.getElem_of_mem hc
    obtain ⟨B, d, e, _⟩ := key j (by omega) hj
    rw [e]; rfl
  intro i hi
  obtain ⟨B, d, e, q1, q⟩ := key i hi (by omega)
  have f := fun j hj => flatten_at hall i j (by omega) hj
  have f0 := f 0 (by omega)
  have f1 := f 1 (by omega)
  rw [e] at f0 f1
  exact ⟨f0, B, d, f1, q1, q⟩
/-- The cells of the k-th operation. -/
theorem iop_at {E : World} {F : Asn} {A : Option Addr} {l : List IOp} {hd : List Value} (hQ : ∀ w, Sat E F w → Reads w 2 A l.length hd) (hO : ∀ w, Sat E F w → IOpsIn w l hd) {k : Nat} (hk : k < l.length) {w0 : World} (h0 : Sat E F w0) :
    ∃ ad Ai ci, A = some ad ∧ l[k].2.length ≤ ci ∧ l[k].2.length ≤ 9223372036854775807 ∧ ∀ w, Sat E F w → w.cell? (ad.add (k * 2)) = some (.int .i64 l[k].1) ∧ w.cell? { block := (ad.add (k * 2)).block, off := (ad.add (k * 2)).off + 1 } = some (.slice Ai l[k].2.length ci) ∧ Reads w 1 Ai l[k].2.length (nums .i64 l[k].2) := by
  obtain ⟨ad, hA, _⟩ := (hQ _ h0).at (by omega)
  obtain ⟨e0, Ai, ci, e1, e2, e3⟩ := hO _ h0 k hk
  refine ⟨ad, Ai, ci, hA, e2, e3.2.1, fun w hw => ?_⟩
  obtain ⟨_, Aj, cj, f1, f2, f3⟩ := hO _ hw k hk
  rw [e1] at f1
  injection f1 with f1
  injection f1 with f1 _ f4
  subst f1
  exact ⟨(hQ _ hw).2.2.2 ad hA _ _ e0, cell_two ((hQ _ hw).2.2.2 ad hA _ _ e1), f3⟩

set_option maxRecDepth 100000 in
set_option maxHeartbeats 1000000 in
theorem few18 {E w : World} {F : Asn} (A : Option Addr) (c : Nat) (l : List IOp) (hd : List Value) (hS : Sat E F w) (hQ : ∀ w, Sat E F w → Reads w 2 A l.length hd) (hO : ∀ w, Sat E F w → IOpsIn w l hd) :
    Calls Try.prog 29 #[.slice A l.length c] w fun e w' => ((e = .returned (.bool true) ∧ l.length ≤ 200) ∨ e = .returned (.bool false)) ∧ Sat E F w' := by
  have hmm := (hQ w hS).2.1
  go_enter Try.func29, Try.ntmps29
  go_wp2_with fail
  go_loopw [3, 4] (fun s i wr => ∃ k t : Nat, k ≤ l.length ∧ k ≤ 200 ∧ t ≤ 2001 * k ∧ i = .int .i64 k ∧ s = .int .i64 t ∧ Sat E F wr) (fun _ i _ => l.length - (intOf i).toNat)
  case atStart => exact ⟨0, 0, by omega, by omega, by omega, rfl, rfl, hS⟩
  case round =>
    obtain ⟨k, t, hk, hk2, ht, rfl, rfl, hr⟩ := hrel
    by_cases hgo : k < l.length ∧ k < 200
    · obtain ⟨hlt, hlt2⟩ := hgo
      obtain ⟨ad, Ai, ci, rfl, q1, q2, q3⟩ := iop_at hQ hO hlt hr
      have hca := (q3 _ hr).2.1
      clear q3
      have wa := i64_wrap (x := (t : Int) + (l[k].2.length : Int))
      have wb := i64_wrap (x := (t : Int) + 2001) (by omega) (by omega)
      by_cases hmin : l[k].2.length ≤ 2000
      · have wa2 := wa (by omega) (by omega)
        have hmn2 : ¬ (2001 : Int) < (l[k].2.length : Int) := by omega
        clear wa
        go_wp2
        go_roundw
        case rel => exact ⟨k + 1, t + l[k].2.length, by omega, by omega, by omega, by go_num, by go_num, hr⟩
        case measure => simp [intOf]; omega
      · have hmn2 : (2001 : Int) ≤ (l[k].2.length : Int) := by omega
        clear wa
        go_wp2
        go_roundw
        case rel => exact ⟨k + 1, t + 2001, by omega, by omega, by omega, by go_num, by congr 1; split <;> omega, hr⟩
        case measure => simp [intOf]; omega
    · by_cases hge : k < l.length
      · go_wp2
        go_ret
        exact ⟨.inr rfl, hr⟩
      · have hle : l.length ≤ 200 := by omega
        by_cases ht2 : t ≤ 2000
        · go_wp2
          go_ret
          exact ⟨.inl ⟨ret_bool (by first | rfl | (simp; omega)), hle⟩, hr⟩
        · go_wp2
          go_ret
          exact ⟨.inr (ret_bool (by first | rfl | (simp; omega))), hr⟩
end Go.Proofs.Ytfphpnccmkggfaa
