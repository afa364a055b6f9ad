import Derived.Test.YtobgfdongidaaaaDir26
namespace Go.Proofs.Ytobgfdongidaaaa
set_option linter.unusedVariables false
set_option linter.unusedSimpArgs false
open Go.RowKit Go.Proofs.Sep Go.Lib

/-- How many bytes the first keys have (each counted to 20001). -/
def wsum (l : List Ent) (k : Nat) : Nat := ((l.take k).map fun x => Nat.min x.1.size 20001).sum
theorem wsum_succ (l : List Ent) (k : Nat) (h : k < l.length) : wsum l (k + 1) = wsum l k + Nat.min l[k].1.size 20001 := by
  unfold wsum
  rw [List.take_succ_eq_append_getElem h, List.map_append, List.sum_append]
  simp
theorem wsum_le (l : List Ent) (k : Nat) : wsum l k ≤ k * 20001 := by
  induction k with
  | zero => simp [wsum]
  | succ k ih =>
    by_cases h : k < l.length
    · rw [wsum_succ l k h]
      have : Nat.min l[k].1.size 20001 ≤ 20001 := Nat.min_le_right _ _
      omega
    · have : wsum l (k + 1) = wsum l k := by
        unfold wsum
        rw [List.take_of_length_le (by omega), List.take_of_length_le (by omega)]
      omega
/-- What DirRanges' loop gathers. -/
def wantR (lo hi : ByteArray) (lim : Int) (L : List Ent) (k : Nat) : List Ent := (within lo hi (L.take k)).take lim.toNat
def inR (lo hi : ByteArray) (x : Ent) : Bool := !decide (klt x.1 lo) && !decide (klt hi x.1)
theorem within_snoc (lo hi : ByteArray) (L : List Ent) (k : Nat) (h : k < L.length) : within lo hi (L.take (k + 1)) = within lo hi (L.take k) ++ if inR lo hi L[k] then [L[k]] else [] := by
  unfold within
  rw [List.take_succ_eq_append_getElem h, List.filter_append]
  congr 1
  by_cases hb : inR lo hi L[k] = true
  · rw [if_pos hb, List.filter_cons_of_pos (by exact hb)]; rfl
  · rw [if_neg hb, List.filter_cons_of_neg (by exact hb)]; rfl
theorem wantR_no (lo hi : ByteArray) (lim : Int) (L : List Ent) (k : Nat) (h : k < L.length) (hb : inR lo hi L[k] = false) : wantR lo hi lim L (k + 1) = wantR lo hi lim L k := by
  unfold wantR
  rw [within_snoc lo hi L k h, hb]
  simp
theorem wantR_full (lo hi : ByteArray) (lim : Int) (L : List Ent) (k : Nat) (h : k < L.length) (hb : lim ≤ ((wantR lo hi lim L k).length : Int)) : wantR lo hi lim L (k + 1) = wantR lo hi lim L k := by
  unfold wantR at *
  rw [within_snoc lo hi L k h]
  rw [List.length_take] at hb
  exact List.take_append_of_le_length (by omega)
theorem wantR_yes (lo hi : ByteArray) (lim : Int) (L : List Ent) (k : Nat) (h : k < L.length) (hb : inR lo hi L[k] = true) (hl : ((wantR lo hi lim L k).length : Int) < lim) : wantR lo hi lim L (k + 1) = wantR lo hi lim L k ++ [L[k]] := by
  unfold wantR at *
  rw [within_snoc lo hi L k h]
  rw [List.length_take] at hl
  rw [if_pos hb]
  generalize within lo hi (L.take k) = W at *
  rw [List.take_of_length_le (l := W ++ [L[k]]) (by rw [List.length_append]; simp; omega), List.take_of_length_le (l := W) (by omega)]
theorem wantR_zero (lo hi : ByteArray) (lim : Int) (L : List Ent) : wantR lo hi lim L 0 = [] := by simp [wantR, within]
theorem wantR_all (lo hi : ByteArray) (lim : Int) (L : List Ent) (hr : Rises L) : wantR lo hi lim L L.length = rangeR lo hi lim L := by
  rw [rangeR_eq lo hi lim L hr]
  unfold wantR
  rw [List.take_length]
theorem wantR_le (lo hi : ByteArray) (lim : Int) (L : List Ent) (k : Nat) : (wantR lo hi lim L k).length ≤ k := by
  unfold wantR within
  refine Nat.le_trans (List.length_take_le' ..) (Nat.le_trans (List.length_filter_le ..) (List.length_take_le ..))
theorem rangeR_le (lo hi : ByteArray) (lim : Int) (L : List Ent) (hr : Rises L) : (rangeR lo hi lim L).length ≤ L.length := by
  rw [rangeR_eq lo hi lim L hr]
  exact Nat.le_trans (List.length_take_le' ..) (List.length_filter_le ..)
theorem rangeR_whole (lo hi : ByteArray) (L : List Ent) (hr : Rises L) (hl : L.length ≤ 500) : rangeR lo hi 500 L = within lo hi L := by
  rw [rangeR_eq lo hi 500 L hr]
  refine List.take_of_length_le (Nat.le_trans (List.length_filter_le ..) ?_)
  exact hl
/-- Two ranges one behind the other. -/
def nextKey (m : ByteArray) : ByteArray := m ++ ⟨#[0]⟩
theorem rangeR_two (lo mid hi : ByteArray) (L : List Ent) (hr : Rises L) (hl : L.length ≤ 500) (h1 : ¬ klt mid lo) (h2 : ¬ klt hi mid) : rangeR lo mid 500 L ++ rangeR (nextKey mid) hi 500 L = rangeR lo hi 500 L := by
  rw [rangeR_whole _ _ L hr hl, rangeR_whole _ _ L hr hl, rangeR_whole _ _ L hr hl]
  refine within_two hr h1 h2 fun x => ?_
  unfold klt kcmp nextKey
  have := cb_next x.data.toList mid.data.toList
  simpa using this
end Go.Proofs.Ytobgfdongidaaaa
