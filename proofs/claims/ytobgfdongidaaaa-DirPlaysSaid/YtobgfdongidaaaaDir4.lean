import Derived.Test.YtobgfdongidaaaaDir3
namespace Go.Proofs.Sep
set_option linter.unusedVariables false
set_option linter.unusedSimpArgs false
open Go.RowKit
/-- What an insertion leaves. -/
def insAt {α : Type} (k : Nat) (news xs : List α) : List α := xs.take k ++ news ++ xs.drop k
theorem insAt_room {α : Type} {cur : List α} {k s m : Nat} {news : List α} (hs : news.length = s) (hk : k ≤ m) (hm : m + s ≤ cur.length) :
    (((cur.take (k + s) ++ (cur.take m).drop k ++ cur.drop (k + s + ((cur.take m).drop k).length)).take k ++ news ++ (cur.take (k + s) ++ (cur.take m).drop k ++ cur.drop (k + s + ((cur.take m).drop k).length)).drop (k + news.length)).take (m + s)) = insAt k news (cur.take m) := by
  unfold insAt
  have hl1 : (cur.take (k + s)).length = k + s := by rw [List.length_take]; omega
  have hl2 : ((cur.take m).drop k).length = m - k := by rw [List.length_drop, List.length_take]; omega
  have hl3 : (cur.take k).length = k := by rw [List.length_take]; omega
  rw [hs]
  have e1 : (cur.take (k + s) ++ (cur.take m).drop k ++ cur.drop (k + s + ((cur.take m).drop k).length)).take k = cur.take k := by
    rw [List.append_assoc, List.take_append_of_le_length (by omega), List.take_take, Nat.min_eq_left (by omega)]
  have e2 : (cur.take (k + s) ++ (cur.take m).drop k ++ cur.drop (k + s + ((cur.take m).drop k).length)).drop (k + s) = (cur.take m).drop k ++ cur.drop (k + s + ((cur.take m).drop k).length) := by
    rw [List.append_assoc]
    exact List.drop_left' hl1
  rw [e1, e2, List.take_take, Nat.min_eq_left hk, ← List.append_assoc, List.take_append_of_le_length (by simp only [List.length_append, hl2, hl3, hs]; omega)]
  exact List.take_of_length_le (by simp only [List.length_append, hl2, hl3, hs]; omega)
theorem insAt_grow {α : Type} {cur xs : List α} {k s m : Nat} {news : List α} (hs : news.length = s) (hx : xs.length = m) (hk : k ≤ m) (hm : m + s ≤ cur.length) (h0 : cur.take k = xs.take k) :
    (((cur.take k ++ news ++ cur.drop (k + news.length)).take (k + s) ++ xs.drop k ++ (cur.take k ++ news ++ cur.drop (k + news.length)).drop (k + s + (xs.drop k).length)).take (m + s)) = insAt k news xs := by
  unfold insAt
  have hl3 : (cur.take k).length = k := by rw [List.length_take]; omega
  have hl4 : (cur.take k ++ news).length = k + s := by rw [List.length_append, hl3, hs]
  have hl5 : (xs.drop k).length = m - k := by rw [List.length_drop, hx]
  have e1 : (cur.take k ++ news ++ cur.drop (k + news.length)).take (k + s) = cur.take k ++ news := List.take_left' hl4
  rw [e1, h0, List.take_append_of_le_length (by rw [← h0]; simp only [List.length_append, hl4, hl3, hl5, hs]; omega)]
  exact List.take_of_length_le (by rw [← h0]; simp only [List.length_append, hl4, hl3, hl5, hs]; omega)
theorem len_splice {α : Type} (xs ys : List α) (o : Nat) (h : o + ys.length ≤ xs.length) : (xs.take o ++ ys ++ xs.drop (o + ys.length)).length = xs.length := by
  rw [List.length_append, List.length_append, List.length_take, List.length_drop]; omega
theorem cut_hi {P : Program} (t e : TypeId) (ht : P.underlying t = some (.slice e)) (s : Nat) (hsz : (P.info? e).map (·.size) = some s) (A : Option Addr) (n c m : Nat) (hm : m ≤ c) (W : World) :
    (Instr.slice t (.slice A n c) none (some (.int .i64 (m : Int))) none).run P W = .ok (.slice A m c) W := by
  obtain ⟨i, hi, hsi⟩ := Option.map_eq_some_iff.1 hsz
  have hel : P.elem t = e := by simp [Program.elem, ht]
  have hu : P.underlying t = some (.slice (P.elem t)) := by rw [hel]; exact ht
  rw [run_slice_h W t A n c hu .i64 (m : Int) (Int.natCast_nonneg _) (by omega), hel]
  have ha : A.map (fun x => x.add 0) = A := by cases A with | none => rfl | some a => simp [Addr.add]
  simp [sizeOf, typeInfo, hi, hsi, sliced, Result.andThen, ha]
/-- 'x[m:]' of a row, m ahead of its capacity: the address is told. -/
theorem cut_lo {P : Program} (t e : TypeId) (ht : P.underlying t = some (.slice e)) (s : Nat) (hsz : (P.info? e).map (·.size) = some s) (g n c m : Nat) (hm : m ≤ n) (hmc : m < c) (W : World) :
    (Instr.slice t (.slice (some ⟨g, 0, none⟩) n c) (some (.int .i64 (m : Int))) none none).run P W = .ok (.slice (some ⟨g, m * s, none⟩) (n - m) (c - m)) W := by
  obtain ⟨i, hi, hsi⟩ := Option.map_eq_some_iff.1 hsz
  have hel : P.elem t = e := by simp [Program.elem, ht]
  have hu : P.underlying t = some (.slice (P.elem t)) := by rw [hel]; exact ht
  rw [run_slice_l W t (some ⟨g, 0, none⟩) n c hu .i64 (m : Int) (Int.natCast_nonneg _) (by omega), hel]
  have h1 : ¬ c = m := by omega
  simp [sizeOf, typeInfo, hi, hsi, sliced, Result.andThen, addr_plain, h1]
theorem cut_at {P : Program} (t e : TypeId) (ht : P.underlying t = some (.slice e)) (s : Nat) (hsz : (P.info? e).map (·.size) = some s) (g n c m off l cc : Nat) (k : Int) (hk : k = m) (hm : m ≤ n) (hmc : m < c) (ho : m * s = off) (hl : n - m = l) (hcc : c - m = cc) (W : World) :
    (Instr.slice t (.slice (some ⟨g, 0, none⟩) n c) (some (.int .i64 k)) none none).run P W = .ok (.slice (some ⟨g, off, none⟩) l cc) W := by
  subst ho
  subst hl
  subst hcc
  subst hk
  exact cut_lo t e ht s hsz g n c m hm hmc W
end Go.Proofs.Sep
namespace Go.Proofs.Ytobgfdongidaaaa
set_option linter.unusedVariables false
set_option linter.unusedSimpArgs false
open Go.RowKit Go.Proofs.Sep Go.Lib

set_option maxRecDepth 100000 in
set_option maxHeartbeats 4000000 in
theorem insEnt {E w : World} {F : Asn} (v : Value) (n i b : Nat) (xs news : List Value) (hi : i ≤ n) (hn : n ≤ 1000000) (hnl : news.length = 2) (h1 : ∀ u ∈ news, u.oneCell' = true) (hx1 : ∀ u ∈ xs, u.oneCell' = true)
    (hS : Sat E (row 25 2 v n xs * (blk b (.cells news.toArray 25) * F)) w) :
    Calls Try.prog 42 #[v, .int .i64 i, .slice (some ⟨b, 0, none⟩) 1 1] w fun e w' => ∃ v', e = .returned v' ∧ Sat E (row 25 2 v' (n + 1) (insAt (i * 2) news xs) * (blk b (.cells news.toArray 25) * F)) w' := by
  have hR := hS.right.blk_reads (n := 1) (size := 2) (by simpa using hnl) (by omega)
  have hxl := hS.row_len
  have z0 : ((1 : Int) == 0) = false := rfl
  have hsz : (Try.prog.info? 25).map (·.size) = some 2 := by kernel_rfl
  by_cases hin : i = n
  · obtain ⟨A, c, rfl, hnc, hcm, _⟩ := hS.reads
    obtain ⟨A', hcut, _⟩ := cut_from (P := Try.prog) 22 25 .i64 Try.underlying22 hsz A n c i (by omega) hnc
    have z1 : ((i : Int) == (n : Int)) = true := by rw [hin]; simp
    have hres : insAt (i * 2) news xs = xs ++ news := by
      unfold insAt
      rw [List.take_of_length_le (by rw [hin]; omega), List.drop_of_length_le (by rw [hin]; omega), List.append_nil]
    rw [hres]
    clear hin hres
    go_enter Try.func42, Try.ntmps42
    go_wp2_with (at_builtin; refine wpList_append_sat rfl _ _ 22 25 (.agg #[.string ByteArray.empty, .int .i64 0]) 2 24 rfl Try.underlying22 Try.info25 rfl (by decide) _ n xs _ 1 1 news rfl rfl hS hR h1 (by unfold maxLen; omega) (by omega) ?_; intro v1 w1 hS1)
    go_ret
    exact ⟨v1, rfl, hS1⟩
  · have hlt : i < n := by omega
    have z1 : ((i : Int) == (n : Int)) = false := beq_eq_false_iff_ne.2 (by omega)
    have ws := i64_wrap (x := (n : Int) + 1) (by omega) (by omega)
    have wi := i64_wrap (x := (i : Int) + 1) (by omega) (by omega)
    obtain ⟨g, c, cur, rfl, hnc, hcm, hcs, hct, hB⟩ := hS.row_blk (by omega)
    have hcut1 := fun W => cut_at (P := Try.prog) 22 25 Try.underlying22 2 hsz g n c i (i * 2) (n - i) (c - i) (i : Int) rfl (by omega) (by omega) (by omega) rfl rfl W
    clear hin
    by_cases hroom : n + 1 ≤ c
    · have z2 : ¬ (c : Int) < (n : Int) + 1 := by omega
      have hcut2 := fun W => cut_hi (P := Try.prog) 22 25 Try.underlying22 2 hsz (some ⟨g, 0, none⟩) n c (n + 1) hroom W
      have hcut3 := fun W => cut_at (P := Try.prog) 22 25 Try.underlying22 2 hsz g (n + 1) c (i + 1) (i * 2 + 2) (n - i) (c - (i + 1)) ((i : Int) + 1) (by omega) (by omega) (by omega) (by omega) (by omega) rfl W
      have hcut4 := fun W => cut_at (P := Try.prog) 22 25 Try.underlying22 2 hsz g (n + 1) c i (i * 2) (n + 1 - i) (c - i) (i : Int) rfl (by omega) (by omega) (by omega) rfl rfl W
      simp only [Int.natCast_add, Int.natCast_one] at hcut2
      have hss : ∀ w, (sizeOf 25).run Try.prog w = .ok 2 w := fun w => by
        obtain ⟨i0, q1, q2⟩ := Option.map_eq_some_iff.1 hsz
        simp [sizeOf, typeInfo, q1, q2]
      have hov := run_overlaps_apart (P := Try.prog) w 22 4 25 Try.underlying22 2 hss ⟨b, 0, none⟩ ⟨g, (i * 2 + 2), none⟩ 1 1 (n - i) (c - (i + 1)) (Ne.symm hB.ne_blk) 25 25 news.length cur.size (by simp [World.shape?, hB.right.at_blk]) (by simp [World.shape?, hB.at_blk]) (by omega) hB.right.free_blk hB.right.free_blk
      have hmn : Nat.min (n + 1 - i) (n - i) = n - i := by simp only [Nat.min_def]; split <;> omega
      have hmn2 : Nat.min 1 (n + 1 - i) = 1 := by simp only [Nat.min_def]; split <;> omega
      have hcl : cur.toList.length = c * 2 := by simpa using hcs
      have hc1 : ((cur.toList.take (n * 2)).drop (i * 2)).length = (n - i) * 2 := by rw [List.length_drop, List.length_take]; omega
      have hone1 : ∀ u ∈ (cur.toList.take (n * 2)).drop (i * 2), u.oneCell' = true := fun u hu => hx1 u (by rw [← hct]; first | exact List.mem_of_mem_drop hu | (rw [Nat.mul_one]; exact List.mem_of_mem_drop hu))
      have hsrc1 : ∀ j u, ((cur.toList.take (n * 2)).drop (i * 2))[j]? = some u → w.drew.cell? ((⟨g, (i * 2), none⟩ : Addr).add j) = some u := fun j u hj => by
        rw [Addr.add_lit, hB.drew.cell_blk]
        rw [List.getElem?_drop, List.getElem?_take] at hj
        split at hj
        · simpa using hj
        · cases hj
      have hBd := hB.drew
      have HR := hid (insAt_room (cur := cur.toList) (k := (i * 2)) (s := 2) (m := (n * 2)) (news := news) hnl (by omega) (by omega))
      have HCT := hid (show cur.toList.take (n * 2) = xs from by first | exact hct | (rw [Nat.mul_one] at hct; exact hct))
      clear hB hS hct
      go_enter Try.func42, Try.ntmps42
      go_wp2
      rw [run_callFunc_extern Try.func50 (by kernel_rfl) (by kernel_rfl) (by kernel_rfl) (e := Extern.SlicesOverlaps.overlaps #[22, 22] #[4]) (by kernel_rfl), hov]
      simp only [Result.andThen]
      rw [Oper.upon_value]
      go_wp2_with fail
      refine wp_region_tail 8 (by kernel_rfl) (by kernel_rfl) ?_
      simp only [List.take_succ_cons, List.take_zero, List.drop_succ_cons, List.drop_zero]
      repeat still_step
      refine wpStill_nil ?_
      refine wpList_copy_blk rfl _ _ 22 22 rfl 25 Try.underlying22 2 hsz g (i * 2 + 2) (n - i) (c - (i + 1)) ⟨g, (i * 2), none⟩ (n + 1 - i) (c - i) rfl rfl cur _ hBd (by rw [hmn]; exact hc1) hsrc1 (by rw [hc1]; omega) hone1 ?_
      intro w1 hw1
      have hl1 : (cur.toList.take (i * 2 + 2) ++ (cur.toList.take (n * 2)).drop (i * 2) ++ cur.toList.drop ((i * 2 + 2) + ((cur.toList.take (n * 2)).drop (i * 2)).length)).length = c * 2 := by
        rw [len_splice _ _ _ (by rw [hc1, hcl]; omega), hcl]
      have hsrc2 : ∀ j u, news[j]? = some u → w1.cell? ((⟨b, 0, none⟩ : Addr).add j) = some u := fun j u hj => by
        rw [Addr.add_lit, hw1.right.cell_blk]
        simpa using hj
      clear hsrc1 hBd
      go_wp2_with (first | (refine wpList_copy_blk rfl _ _ 22 22 rfl 25 Try.underlying22 2 hsz g (i * 2) (n + 1 - i) (c - i) ⟨b, 0, none⟩ 1 1 rfl rfl _ news hw1 (by rw [hmn2]; omega) hsrc2 (by rw [List.size_toArray, hl1]; omega) h1 ?_; intro w2 hw2))
      go_ret
      refine ⟨_, rfl, ?_⟩
      have hrow := hw2.blk_row (n := n + 1) (size := 2) (cap := c) (by omega) hcm (by
        rw [List.size_toArray, List.toList_toArray, len_splice _ _ _ (by rw [hl1, hnl]; omega), hl1])
      rw [List.toList_toArray, List.toList_toArray, show (n + 1) * 2 = (n * 2) + 2 by omega, HR.out, HCT.out] at hrow
      exact hrow
    · have z2 : (c : Int) < (n : Int) + 1 := by omega
      have hcut2 := fun W => cut_hi (P := Try.prog) 22 25 Try.underlying22 2 hsz (some ⟨g, 0, none⟩) n c i (by omega) W
      have hkk : (n : Int) + 1 - (i : Int) = ((n + 1 - i : Nat) : Int) := by omega
      have hik : i + (n + 1 - i) = n + 1 := by omega
      obtain ⟨i0, hi0, hzz⟩ := Option.map_eq_some_iff.1 Try.info25
      simp only [Prod.mk.injEq] at hzz
      obtain ⟨hz0, hzs, hzb⟩ := hzz
      have hcell : ∀ j u, xs[j]? = some u → w.cell? ⟨g, j, none⟩ = some u := fun j u hj => by
        rw [hB.cell_blk]
        rw [← hct, List.getElem?_take] at hj
        split at hj
        · simpa using hj
        · cases hj
      have hold : (Builtin.firstCells i0.size i (.slice (some ⟨g, 0, none⟩) i c)).run Try.prog w.drew = .ok (xs.take (i * 2)).toArray w.drew := by
        rw [hzs]
        exact run_firstCells_some w.drew 2 i ⟨g, 0, none⟩ i c (xs.take (i * 2)) (by rw [List.length_take]; omega) (fun j v hj => by
          rw [Addr.add_lit, Nat.zero_add]
          rw [List.getElem?_take] at hj
          split at hj
          · exact hcell j v hj
          · cases hj)
      have hzc : (Value.cells (.agg #[.string ByteArray.empty, .int .i64 0])).size = 2 := rfl
      obtain ⟨big, cap2, hc2, hcm2, hbs, hbt, hrz⟩ : ∃ big : Array Value, ∃ cap2, n + 1 ≤ cap2 ∧ cap2 ≤ maxLen ∧ big.size = cap2 * 2 ∧ big.toList.take (i * 2) = xs.take (i * 2) ∧ ∀ ty, (Builtin.append_ #[22, 3] ty #[.slice (some ⟨g, 0, none⟩) i c, .int .i64 ((n : Int) + 1 - (i : Int))]).run Try.prog w =
          .ok (.slice (some ⟨w.heap.size, 0, none⟩) (n + 1) cap2) (w.drew.alloc (.cells big 25)) := by
        have h := fun ty => Lib.run_append_grow_zeros w 22 3 ty 25 i0 _ .i64 .i64 Try.underlying22 Try.underlying3 hi0 hz0 (some ⟨g, 0, none⟩) i c (xs.take (i * 2)) hold (n + 1 - i) (by omega) (by omega) (by omega) (by omega) (by rw [hzb]; omega) (by rw [hzb, hik]; exact growslice_fits (by omega) (by omega))
        rw [hik] at h
        have hge := grownCap_ge w (n + 1) c 25
        refine ⟨_, _, hge, grownCap_le_maxLen w (n + 1) c 25 (by unfold maxLen; omega), ?_, ?_, fun ty => by rw [hkk]; exact h ty⟩
        · rw [Array.size_append, Array.size_append, List.size_toArray, List.length_take, size_zeroCells, size_zeroCells, hzc]
          omega
        · rw [Array.toList_append, Array.toList_append, List.append_assoc]
          first
            | exact List.take_left' (by rw [List.toList_toArray, List.length_take]; omega)
            | (rw [Nat.mul_one]; exact List.take_left' (by rw [List.toList_toArray, List.length_take]; omega))
      have hN1 : Sat E (blk w.heap.size (.cells big 25) * (blk g (.cells cur 25 (0, 0)) * (blk b (.cells news.toArray 25) * F))) (w.alloc (.cells big 25)).drew := (hB.alloc (.cells big 25)).drew
      have hN2 : Sat E (blk w.heap.size (.cells big 25) * (blk g (.cells cur 25 (0, 0)) * (blk b (.cells news.toArray 25) * F))) (w.drew.alloc (.cells big 25)) := hB.drew.alloc (.cells big 25)
      have HG := hid (insAt_grow (cur := big.toList) (xs := xs) (k := (i * 2)) (s := 2) (m := (n * 2)) (news := news) hnl (by omega) (by omega) (by rw [Array.length_toList, hbs]; omega) hbt)
      generalize hNw : w.heap.size = N at *
      have hcut3 := fun W => cut_at (P := Try.prog) 22 25 Try.underlying22 2 hsz N (n + 1) cap2 i (i * 2) (n + 1 - i) (cap2 - i) (i : Int) rfl (by omega) (by omega) (by omega) rfl rfl W
      have hcut4 := fun W => cut_at (P := Try.prog) 22 25 Try.underlying22 2 hsz N (n + 1) cap2 (i + 1) (i * 2 + 2) (n - i) (cap2 - (i + 1)) ((i : Int) + 1) (by omega) (by omega) (by omega) (by omega) (by omega) rfl W
      have hmn2 : Nat.min 1 (n + 1 - i) = 1 := by simp only [Nat.min_def]; split <;> omega
      have hmn : Nat.min (n - i) (n - i) = n - i := by simp only [Nat.min_def]; split <;> omega
      have hbl : big.toList.length = cap2 * 2 := by simpa using hbs
      have hsrcA : ∀ w1, Sat E (blk N (.cells big 25) * (blk g (.cells cur 25 (0, 0)) * (blk b (.cells news.toArray 25) * F))) w1 → ∀ j u, news[j]? = some u → w1.cell? ((⟨b, 0, none⟩ : Addr).add j) = some u := fun w1 h1 j u hj => by
        rw [Addr.add_lit, h1.right.right.cell_blk]
        simpa using hj
      have hwi0 : IntKind.i64.wrap ((n : Int) + 1 - (i : Int)) = (n : Int) + 1 - (i : Int) := i64_wrap (by omega) (by omega)
      have hone1 : ∀ u ∈ xs.drop (i * 2), u.oneCell' = true := fun u hu => hx1 u (List.mem_of_mem_drop hu)
      have hc1 : (xs.drop (i * 2)).length = (n - i) * 2 := by rw [List.length_drop]; omega
      have hl1 : (big.toList.take (i * 2) ++ news ++ big.toList.drop ((i * 2) + news.length)).length = cap2 * 2 := by
        rw [len_splice _ _ _ (by rw [hnl, hbl]; omega), hbl]
      clear hold hcell hB hS hNw hR hi0 hz0 hzs hzb hbt hkk hik
      go_enter Try.func42, Try.ntmps42
      go_wp2_with (first
        | (at_builtin; refine Lib.wpList_append_run _ rfl _ _ _ _ rfl _ _ rfl rfl _ _ (hrz _) ?_)
        | (refine wpList_copy_blk rfl _ _ 22 22 rfl 25 Try.underlying22 2 hsz N (i * 2) (n + 1 - i) (cap2 - i) ⟨b, 0, none⟩ 1 1 rfl rfl big news (by first | exact hN1 | exact hN2) (by rw [hmn2]; omega) (by first | exact hsrcA _ hN1 | exact hsrcA _ hN2) (by rw [hbs, hnl]; omega) h1 ?_; intro w1 hw1))
      have hsrc2 : ∀ j u, (xs.drop (i * 2))[j]? = some u → w1.drew.cell? ((⟨g, (i * 2), none⟩ : Addr).add j) = some u := fun j u hj => by
        rw [Addr.add_lit, hw1.right.drew.cell_blk]
        rw [← hct, List.getElem?_drop, List.getElem?_take] at hj
        split at hj
        · simpa using hj
        · cases hj
      have hBd := hw1.drew
      refine wp_region_tail 8 (by kernel_rfl) (by kernel_rfl) ?_
      simp only [List.take_succ_cons, List.take_zero, List.drop_succ_cons, List.drop_zero]
      repeat still_step
      refine wpStill_nil ?_
      refine wpList_copy_blk rfl _ _ 22 22 rfl 25 Try.underlying22 2 hsz N (i * 2 + 2) (n - i) (cap2 - (i + 1)) ⟨g, (i * 2), none⟩ (n - i) (c - i) rfl rfl _ (xs.drop (i * 2)) hBd (by rw [hmn]; exact hc1) hsrc2 (by rw [List.size_toArray, hl1, hc1]; omega) hone1 ?_
      intro w2 hw2
      clear hsrc2 hBd
      go_wp2_with fail
      go_ret
      refine ⟨_, rfl, ?_⟩
      have hrow := hw2.drop_mid.blk_row (n := n + 1) (size := 2) (cap := cap2) (by omega) hcm2 (by
        rw [List.size_toArray, List.toList_toArray, len_splice _ _ _ (by rw [hl1, hc1]; omega), hl1])
      rw [List.toList_toArray, List.toList_toArray, show (n + 1) * 2 = (n * 2) + 2 by omega, HG.out] at hrow
      exact hrow
set_option maxRecDepth 100000 in
set_option maxHeartbeats 4000000 in
theorem insNode {E w : World} {F : Asn} (v : Value) (n i b : Nat) (xs news : List Value) (hi : i ≤ n) (hn : n ≤ 1000000) (hnl : news.length = 1) (h1 : ∀ u ∈ news, u.oneCell' = true) (hx1 : ∀ u ∈ xs, u.oneCell' = true)
    (hS : Sat E (row 56 1 v n xs * (blk b (.cells news.toArray 56) * F)) w) :
    Calls Try.prog 45 #[v, .int .i64 i, .slice (some ⟨b, 0, none⟩) 1 1] w fun e w' => ∃ v', e = .returned v' ∧ Sat E (row 56 1 v' (n + 1) (insAt i news xs) * (blk b (.cells news.toArray 56) * F)) w' := by
  have hR := hS.right.blk_reads (n := 1) (size := 1) (by simpa using hnl) (by omega)
  have hxl := hS.row_len
  have z0 : ((1 : Int) == 0) = false := rfl
  have hsz : (Try.prog.info? 56).map (·.size) = some 1 := by kernel_rfl
  by_cases hin : i = n
  · obtain ⟨A, c, rfl, hnc, hcm, _⟩ := hS.reads
    obtain ⟨A', hcut, _⟩ := cut_from (P := Try.prog) 57 56 .i64 Try.underlying57 hsz A n c i (by omega) hnc
    have z1 : ((i : Int) == (n : Int)) = true := by rw [hin]; simp
    have hres : insAt i news xs = xs ++ news := by
      unfold insAt
      rw [List.take_of_length_le (by rw [hin]; omega), List.drop_of_length_le (by rw [hin]; omega), List.append_nil]
    rw [hres]
    clear hin hres
    go_enter Try.func45, Try.ntmps45
    go_wp2_with (at_builtin; refine wpList_append_sat rfl _ _ 57 56 (.pointer none) 1 8 rfl Try.underlying57 Try.info56 rfl (by decide) _ n xs _ 1 1 news rfl rfl hS hR h1 (by unfold maxLen; omega) (by omega) ?_; intro v1 w1 hS1)
    go_ret
    exact ⟨v1, rfl, hS1⟩
  · have hlt : i < n := by omega
    have z1 : ((i : Int) == (n : Int)) = false := beq_eq_false_iff_ne.2 (by omega)
    have ws := i64_wrap (x := (n : Int) + 1) (by omega) (by omega)
    have wi := i64_wrap (x := (i : Int) + 1) (by omega) (by omega)
    obtain ⟨g, c, cur, rfl, hnc, hcm, hcs, hct, hB⟩ := hS.row_blk (by omega)
    have hcut1 := fun W => cut_at (P := Try.prog) 57 56 Try.underlying57 1 hsz g n c i i (n - i) (c - i) (i : Int) rfl (by omega) (by omega) (by omega) rfl rfl W
    clear hin
    by_cases hroom : n + 1 ≤ c
    · have z2 : ¬ (c : Int) < (n : Int) + 1 := by omega
      have hcut2 := fun W => cut_hi (P := Try.prog) 57 56 Try.underlying57 1 hsz (some ⟨g, 0, none⟩) n c (n + 1) hroom W
      have hcut3 := fun W => cut_at (P := Try.prog) 57 56 Try.underlying57 1 hsz g (n + 1) c (i + 1) (i + 1) (n - i) (c - (i + 1)) ((i : Int) + 1) (by omega) (by omega) (by omega) (by omega) (by omega) rfl W
      have hcut4 := fun W => cut_at (P := Try.prog) 57 56 Try.underlying57 1 hsz g (n + 1) c i i (n + 1 - i) (c - i) (i : Int) rfl (by omega) (by omega) (by omega) rfl rfl W
      simp only [Int.natCast_add, Int.natCast_one] at hcut2
      have hss : ∀ w, (sizeOf 56).run Try.prog w = .ok 1 w := fun w => by
        obtain ⟨i0, q1, q2⟩ := Option.map_eq_some_iff.1 hsz
        simp [sizeOf, typeInfo, q1, q2]
      have hov := run_overlaps_apart (P := Try.prog) w 57 4 56 Try.underlying57 1 hss ⟨b, 0, none⟩ ⟨g, (i + 1), none⟩ 1 1 (n - i) (c - (i + 1)) (Ne.symm hB.ne_blk) 56 56 news.length cur.size (by simp [World.shape?, hB.right.at_blk]) (by simp [World.shape?, hB.at_blk]) (by omega) hB.right.free_blk hB.right.free_blk
      have hmn : Nat.min (n + 1 - i) (n - i) = n - i := by simp only [Nat.min_def]; split <;> omega
      have hmn2 : Nat.min 1 (n + 1 - i) = 1 := by simp only [Nat.min_def]; split <;> omega
      have hcl : cur.toList.length = c * 1 := by simpa using hcs
      have hc1 : ((cur.toList.take n).drop i).length = (n - i) * 1 := by rw [List.length_drop, List.length_take]; omega
      have hone1 : ∀ u ∈ (cur.toList.take n).drop i, u.oneCell' = true := fun u hu => hx1 u (by rw [← hct]; first | exact List.mem_of_mem_drop hu | (rw [Nat.mul_one]; exact List.mem_of_mem_drop hu))
      have hsrc1 : ∀ j u, ((cur.toList.take n).drop i)[j]? = some u → w.drew.cell? ((⟨g, i, none⟩ : Addr).add j) = some u := fun j u hj => by
        rw [Addr.add_lit, hB.drew.cell_blk]
        rw [List.getElem?_drop, List.getElem?_take] at hj
        split at hj
        · simpa using hj
        · cases hj
      have hBd := hB.drew
      have HR := hid (insAt_room (cur := cur.toList) (k := i) (s := 1) (m := n) (news := news) hnl (by omega) (by omega))
      have HCT := hid (show cur.toList.take n = xs from by first | exact hct | (rw [Nat.mul_one] at hct; exact hct))
      clear hB hS hct
      go_enter Try.func45, Try.ntmps45
      go_wp2
      rw [run_callFunc_extern Try.func52 (by kernel_rfl) (by kernel_rfl) (by kernel_rfl) (e := Extern.SlicesOverlaps.overlaps #[57, 57] #[4]) (by kernel_rfl), hov]
      simp only [Result.andThen]
      rw [Oper.upon_value]
      go_wp2_with fail
      refine wp_region_tail 8 (by kernel_rfl) (by kernel_rfl) ?_
      simp only [List.take_succ_cons, List.take_zero, List.drop_succ_cons, List.drop_zero]
      repeat still_step
      refine wpStill_nil ?_
      refine wpList_copy_blk rfl _ _ 57 57 rfl 56 Try.underlying57 1 hsz g (i + 1) (n - i) (c - (i + 1)) ⟨g, i, none⟩ (n + 1 - i) (c - i) rfl rfl cur _ hBd (by rw [hmn]; exact hc1) hsrc1 (by rw [hc1]; omega) hone1 ?_
      intro w1 hw1
      have hl1 : (cur.toList.take (i + 1) ++ (cur.toList.take n).drop i ++ cur.toList.drop ((i + 1) + ((cur.toList.take n).drop i).length)).length = c * 1 := by
        rw [len_splice _ _ _ (by rw [hc1, hcl]; omega), hcl]
      have hsrc2 : ∀ j u, news[j]? = some u → w1.cell? ((⟨b, 0, none⟩ : Addr).add j) = some u := fun j u hj => by
        rw [Addr.add_lit, hw1.right.cell_blk]
        simpa using hj
      clear hsrc1 hBd
      go_wp2_with (first | (refine wpList_copy_blk rfl _ _ 57 57 rfl 56 Try.underlying57 1 hsz g i (n + 1 - i) (c - i) ⟨b, 0, none⟩ 1 1 rfl rfl _ news hw1 (by rw [hmn2]; omega) hsrc2 (by rw [List.size_toArray, hl1]; omega) h1 ?_; intro w2 hw2))
      go_ret
      refine ⟨_, rfl, ?_⟩
      have hrow := hw2.blk_row (n := n + 1) (size := 1) (cap := c) (by omega) hcm (by
        rw [List.size_toArray, List.toList_toArray, len_splice _ _ _ (by rw [hl1, hnl]; omega), hl1])
      rw [List.toList_toArray, List.toList_toArray, show (n + 1) * 1 = n + 1 by omega, HR.out, HCT.out] at hrow
      exact hrow
    · have z2 : (c : Int) < (n : Int) + 1 := by omega
      have hcut2 := fun W => cut_hi (P := Try.prog) 57 56 Try.underlying57 1 hsz (some ⟨g, 0, none⟩) n c i (by omega) W
      have hkk : (n : Int) + 1 - (i : Int) = ((n + 1 - i : Nat) : Int) := by omega
      have hik : i + (n + 1 - i) = n + 1 := by omega
      obtain ⟨i0, hi0, hzz⟩ := Option.map_eq_some_iff.1 Try.info56
      simp only [Prod.mk.injEq] at hzz
      obtain ⟨hz0, hzs, hzb⟩ := hzz
      have hcell : ∀ j u, xs[j]? = some u → w.cell? ⟨g, j, none⟩ = some u := fun j u hj => by
        rw [hB.cell_blk]
        rw [← hct, List.getElem?_take] at hj
        split at hj
        · simpa using hj
        · cases hj
      have hold : (Builtin.firstCells i0.size i (.slice (some ⟨g, 0, none⟩) i c)).run Try.prog w.drew = .ok (xs.take (i * 1)).toArray w.drew := by
        rw [hzs]
        exact run_firstCells_some w.drew 1 i ⟨g, 0, none⟩ i c (xs.take (i * 1)) (by rw [List.length_take]; omega) (fun j v hj => by
          rw [Addr.add_lit, Nat.zero_add]
          rw [List.getElem?_take] at hj
          split at hj
          · exact hcell j v hj
          · cases hj)
      have hzc : (Value.cells (.pointer none)).size = 1 := rfl
      obtain ⟨big, cap2, hc2, hcm2, hbs, hbt, hrz⟩ : ∃ big : Array Value, ∃ cap2, n + 1 ≤ cap2 ∧ cap2 ≤ maxLen ∧ big.size = cap2 * 1 ∧ big.toList.take i = xs.take i ∧ ∀ ty, (Builtin.append_ #[57, 3] ty #[.slice (some ⟨g, 0, none⟩) i c, .int .i64 ((n : Int) + 1 - (i : Int))]).run Try.prog w =
          .ok (.slice (some ⟨w.heap.size, 0, none⟩) (n + 1) cap2) (w.drew.alloc (.cells big 56)) := by
        have h := fun ty => Lib.run_append_grow_zeros w 57 3 ty 56 i0 _ .i64 .i64 Try.underlying57 Try.underlying3 hi0 hz0 (some ⟨g, 0, none⟩) i c (xs.take (i * 1)) hold (n + 1 - i) (by omega) (by omega) (by omega) (by omega) (by rw [hzb]; omega) (by rw [hzb, hik]; exact growslice_fits (by omega) (by omega))
        rw [hik] at h
        have hge := grownCap_ge w (n + 1) c 56
        refine ⟨_, _, hge, grownCap_le_maxLen w (n + 1) c 56 (by unfold maxLen; omega), ?_, ?_, fun ty => by rw [hkk]; exact h ty⟩
        · rw [Array.size_append, Array.size_append, List.size_toArray, List.length_take, size_zeroCells, size_zeroCells, hzc]
          omega
        · rw [Array.toList_append, Array.toList_append, List.append_assoc]
          first
            | exact List.take_left' (by rw [List.toList_toArray, List.length_take]; omega)
            | (rw [Nat.mul_one]; exact List.take_left' (by rw [List.toList_toArray, List.length_take]; omega))
      have hN1 : Sat E (blk w.heap.size (.cells big 56) * (blk g (.cells cur 56 (0, 0)) * (blk b (.cells news.toArray 56) * F))) (w.alloc (.cells big 56)).drew := (hB.alloc (.cells big 56)).drew
      have hN2 : Sat E (blk w.heap.size (.cells big 56) * (blk g (.cells cur 56 (0, 0)) * (blk b (.cells news.toArray 56) * F))) (w.drew.alloc (.cells big 56)) := hB.drew.alloc (.cells big 56)
      have HG := hid (insAt_grow (cur := big.toList) (xs := xs) (k := i) (s := 1) (m := n) (news := news) hnl (by omega) (by omega) (by rw [Array.length_toList, hbs]; omega) hbt)
      generalize hNw : w.heap.size = N at *
      have hcut3 := fun W => cut_at (P := Try.prog) 57 56 Try.underlying57 1 hsz N (n + 1) cap2 i i (n + 1 - i) (cap2 - i) (i : Int) rfl (by omega) (by omega) (by omega) rfl rfl W
      have hcut4 := fun W => cut_at (P := Try.prog) 57 56 Try.underlying57 1 hsz N (n + 1) cap2 (i + 1) (i + 1) (n - i) (cap2 - (i + 1)) ((i : Int) + 1) (by omega) (by omega) (by omega) (by omega) (by omega) rfl W
      have hmn2 : Nat.min 1 (n + 1 - i) = 1 := by simp only [Nat.min_def]; split <;> omega
      have hmn : Nat.min (n - i) (n - i) = n - i := by simp only [Nat.min_def]; split <;> omega
      have hbl : big.toList.length = cap2 * 1 := by simpa using hbs
      have hsrcA : ∀ w1, Sat E (blk N (.cells big 56) * (blk g (.cells cur 56 (0, 0)) * (blk b (.cells news.toArray 56) * F))) w1 → ∀ j u, news[j]? = some u → w1.cell? ((⟨b, 0, none⟩ : Addr).add j) = some u := fun w1 h1 j u hj => by
        rw [Addr.add_lit, h1.right.right.cell_blk]
        simpa using hj
      have hwi0 : IntKind.i64.wrap ((n : Int) + 1 - (i : Int)) = (n : Int) + 1 - (i : Int) := i64_wrap (by omega) (by omega)
      have hone1 : ∀ u ∈ xs.drop i, u.oneCell' = true := fun u hu => hx1 u (List.mem_of_mem_drop hu)
      have hc1 : (xs.drop i).length = (n - i) * 1 := by rw [List.length_drop]; omega
      have hl1 : (big.toList.take i ++ news ++ big.toList.drop (i + news.length)).length = cap2 * 1 := by
        rw [len_splice _ _ _ (by rw [hnl, hbl]; omega), hbl]
      clear hold hcell hB hS hNw hR hi0 hz0 hzs hzb hbt hkk hik
      go_enter Try.func45, Try.ntmps45
      go_wp2_with (first
        | (at_builtin; refine Lib.wpList_append_run _ rfl _ _ _ _ rfl _ _ rfl rfl _ _ (hrz _) ?_)
        | (refine wpList_copy_blk rfl _ _ 57 57 rfl 56 Try.underlying57 1 hsz N i (n + 1 - i) (cap2 - i) ⟨b, 0, none⟩ 1 1 rfl rfl big news (by first | exact hN1 | exact hN2) (by rw [hmn2]; omega) (by first | exact hsrcA _ hN1 | exact hsrcA _ hN2) (by rw [hbs, hnl]; omega) h1 ?_; intro w1 hw1))
      have hsrc2 : ∀ j u, (xs.drop i)[j]? = some u → w1.drew.cell? ((⟨g, i, none⟩ : Addr).add j) = some u := fun j u hj => by
        rw [Addr.add_lit, hw1.right.drew.cell_blk]
        rw [← hct, List.getElem?_drop, List.getElem?_take] at hj
        split at hj
        · simpa using hj
        · cases hj
      have hBd := hw1.drew
      refine wp_region_tail 8 (by kernel_rfl) (by kernel_rfl) ?_
      simp only [List.take_succ_cons, List.take_zero, List.drop_succ_cons, List.drop_zero]
      repeat still_step
      refine wpStill_nil ?_
      refine wpList_copy_blk rfl _ _ 57 57 rfl 56 Try.underlying57 1 hsz N (i + 1) (n - i) (cap2 - (i + 1)) ⟨g, i, none⟩ (n - i) (c - i) rfl rfl _ (xs.drop i) hBd (by rw [hmn]; exact hc1) hsrc2 (by rw [List.size_toArray, hl1, hc1]; omega) hone1 ?_
      intro w2 hw2
      clear hsrc2 hBd
      go_wp2_with fail
      go_ret
      refine ⟨_, rfl, ?_⟩
      have hrow := hw2.drop_mid.blk_row (n := n + 1) (size := 1) (cap := cap2) (by omega) hcm2 (by
        rw [List.size_toArray, List.toList_toArray, len_splice _ _ _ (by rw [hl1, hc1]; omega), hl1])
      rw [List.toList_toArray, List.toList_toArray, show (n + 1) * 1 = n + 1 by omega, HG.out] at hrow
      exact hrow
end Go.Proofs.Ytobgfdongidaaaa
