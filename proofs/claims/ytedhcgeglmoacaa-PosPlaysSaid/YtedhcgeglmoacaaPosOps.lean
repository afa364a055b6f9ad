import Derived.Test.YtedhcgeglmoacaaPosAll
namespace Go.Proofs.Ytedhcgeglmoacaa
set_option linter.unusedVariables false
set_option linter.unusedSimpArgs false
open Go.RowKit Go.Proofs.Sep

/-- An operation: kind, number, place, changes. -/
abbrev POp := Int × (Int × ((Int × Int) × (List (Int × (Int × Int)))))
/-- What the cells of a slice of operations hold. -/
def OpsIn (R : Option Addr → Nat → List Value → Prop) (l : List POp) (hd : List Value) : Prop :=
  ∀ i (hi : i < l.length), hd[i * 5]? = some (.int .i64 l[i].1) ∧ hd[i * 5 + 1]? = some (.int .i64 l[i].2.1) ∧ hd[i * 5 + 2]? = some (.int .i64 l[i].2.2.1.1) ∧ hd[i * 5 + 3]? = some (.int .i64 l[i].2.2.1.2) ∧
    ∃ B c, hd[i * 5 + 4]? = some (.slice B l[i].2.2.2.length c) ∧ R B l[i].2.2.2.length (chs l[i].2.2.2)
theorem dec_ops {b1 b2 : Nat} {w : World} {l : List POp} {cs : List Value} (h : (decSlice b1 (decPair (decInt .i64) (decPair (decInt .i64) (decPair (decPair (decInt .i64) (decInt .i64)) (decSlice b2 (decPair (decInt .i64) (decPair (decInt .i64) (decInt .i64)))))))).rel w l cs) :
    ∃ A c hd, cs = [.slice A l.length c] ∧ l.length ≤ c ∧ c ≤ maxLen ∧ Reads w 5 A l.length hd ∧ OpsIn (Reads w 3) l hd := by
  obtain ⟨A, c, css, h0, h1, h2, h3, h4, h5, h6⟩ := h
  refine ⟨A, c, css.flatten, h0, h1, h2, h6, ?_⟩
  have key : ∀ i (hi : i < l.length) (hi' : i < css.length), ∃ B c, css[i] = [.int .i64 l[i].1, .int .i64 l[i].2.1, .int .i64 l[i].2.2.1.1, .int .i64 l[i].2.2.1.2, .slice B l[i].2.2.2.length c] ∧ Reads w 3 B l[i].2.2.2.length (chs l[i].2.2.2) := by
    intro i hi hi'
    obtain ⟨c1, c2, e, r1, c3, c4, e2, r2, c5, c6, e3, ⟨c7, c8, e4, r3, r4⟩, r5⟩ := h5 i hi hi'
    obtain ⟨B, d, e5, _, _, _, q⟩ := dec_chs r5
    refine ⟨B, d, ?_, q⟩
    rw [e, e2, e3, e4, r1.1, r2.1, r3.1, r4.1, e5]; rfl
  have hall : ∀ c ∈ css, c.length = 5 := by
    intro c hc
    obtain ⟨j, hj, rfl⟩ := List.getElem_of_mem hc
    obtain ⟨B, d, e, _⟩ := key j (by omega) hj
    rw [e]; rfl
  intro i hi
  obtain ⟨B, d, e, q⟩ := key i hi (by omega)
  have f := fun j hj => flatten_at hall i j (by omega) hj
  have f0 := f 0 (by omega)
  have f1 := f 1 (by omega)
  have f2 := f 2 (by omega)
  have f3 := f 3 (by omega)
  have f4 := f 4 (by omega)
  rw [e] at f0 f1 f2 f3 f4
  exact ⟨f0, f1, f2, f3, B, d, f4, q⟩

set_option maxRecDepth 100000 in
set_option maxHeartbeats 1000000 in
theorem few8 {E w : World} {F : Asn} (A : Option Addr) (c : Nat) (l : List POp) (hd : List Value) (hS : Sat E F w) (hR : ∀ w, Sat E F w → Reads w 5 A l.length hd) (hO : ∀ w, Sat E F w → OpsIn (Reads w 3) l hd) :
    Calls Try.prog 37 #[.slice A l.length c] w fun e w' => ((e = .returned (.bool true) ∧ l.length ≤ 200) ∨ e = .returned (.bool false)) ∧ Sat E F w' := by
  have hmm := (hR w hS).2.1
  go_enter Try.func37, Try.ntmps37
  go_wp2_with fail
  go_loopw [3, 4] (fun s i wr => ∃ k t : Nat, k ≤ l.length ∧ k ≤ 200 ∧ t ≤ 2001 * k ∧ i = .int .i64 k ∧ s = .int .i64 t ∧ Sat E F wr) (fun _ i _ => l.length - (intOf i).toNat)
  case atStart => exact ⟨0, 0, by omega, by omega, by omega, rfl, rfl, hS⟩
  case round =>
    obtain ⟨k, t, hk, hk2, ht, rfl, rfl, hr⟩ := hrel
    by_cases hgo : k < l.length ∧ k < 200
    · obtain ⟨hlt, hlt2⟩ := hgo
      obtain ⟨ad, rfl, hc⟩ := (hR _ hr).at (by omega)
      obtain ⟨_, _, _, _, B, d, e1, e2⟩ := hO _ hr k hlt
      have hca := hc _ _ e1
      have hli := e2.2.1
      have hadd : ad.add (k * 5 + 4) = ⟨(ad.add (k * 5)).block, (ad.add (k * 5)).off + 4, none⟩ := by rw [← addr_add_add]; rfl
      rw [hadd] at hca
      clear hc e1 e2 hadd
      have wa := i64_wrap (x := (t : Int) + (l[k].2.2.2.length : Int))
      have wb := i64_wrap (x := (t : Int) + 2001) (by omega) (by omega)
      by_cases hmin : l[k].2.2.2.length ≤ 2000
      · have wa2 := wa (by omega) (by omega)
        have hmn2 : ¬ (2001 : Int) < (l[k].2.2.2.length : Int) := by omega
        clear wa
        go_wp2
        go_roundw
        case rel => exact ⟨k + 1, t + l[k].2.2.2.length, by omega, by omega, by omega, by go_num, by go_num, hr⟩
        case measure => simp [intOf]; omega
      · have hmn2 : (2001 : Int) ≤ (l[k].2.2.2.length : Int) := by omega
        clear wa
        go_wp2
        go_roundw
        case rel => exact ⟨k + 1, t + 2001, by omega, by omega, by omega, by go_num, by congr 1; split <;> omega, hr⟩
        case measure => simp [intOf]; omega
    · by_cases hge : k < l.length
      · go_wp2
        go_ret
        exact ⟨.inr rfl, hr⟩
      · have hle : l.length ≤ 200 := by omega
        by_cases ht2 : t ≤ 2000
        · go_wp2
          go_ret
          exact ⟨.inl ⟨ret_bool (by first | rfl | (simp; omega)), hle⟩, hr⟩
        · go_wp2
          go_ret
          exact ⟨.inr (ret_bool (by first | rfl | (simp; omega))), hr⟩

/-! ### The plain law of changes applied -/
theorem chTo_ids (l : List (Int × Int)) (c : List Bool) (k : Nat) : (∀ x ∈ chTo l c k, 0 ≤ x.1 ∧ x.1 < k) ∧ (chTo l c k).Pairwise (fun a b => a.1 < b.1) := by
  induction k with
  | zero => simp [chTo]
  | succ k ih =>
    simp only [chTo]
    obtain ⟨h1, h2⟩ := ih
    split
    · refine ⟨?_, ?_⟩
      · intro x hx
        rw [List.mem_append, List.mem_singleton] at hx
        rcases hx with hx | rfl
        · have := h1 x hx; omega
        · simp only; omega
      · rw [List.pairwise_append]
        refine ⟨h2, by simp, ?_⟩
        intro a ha b hb
        rw [List.mem_singleton] at hb
        subst hb
        exact (h1 a ha).2
    · rw [List.append_nil]
      exact ⟨fun x hx => by have := h1 x hx; omega, h2⟩
theorem chgs_less (l : List (Int × Int)) (c : List Bool) (i : Nat) (h0 : 0 < i) (h : i < (chgs l c).length) : ((chgs l c)[i - 1]'(by omega)).1 < ((chgs l c)[i]).1 := by
  have hp : (chgs l c).Pairwise (fun a b => a.1 < b.1) := (chTo_ids l c l.length).2
  exact List.pairwise_iff_getElem.1 hp (i - 1) i (by omega) h (by omega)
/-- What the sets of the second half leave: where nothing was marked, all is as it was; what is marked may be set. -/
def Half (L1 L2 : List (Int × Int)) (C : List Bool) : Prop :=
  L2.length = L1.length ∧ C.length = L1.length ∧ (∀ j, C.getD j false = false → L2.getD j (0, 0) = L1.getD j (0, 0)) ∧ ∀ j, C.getD j false = true → okP (L2.getD j (0, 0)) = true
theorem half_start (L : List (Int × Int)) : Half L L (List.replicate L.length false) := by
  refine ⟨rfl, by simp, fun _ _ => rfl, fun j h => ?_⟩
  rw [List.getD_eq_getElem?_getD, List.getElem?_replicate] at h
  split at h <;> simp at h
theorem half_set {L1 L2 : List (Int × Int)} {C : List Bool} (h : Half L1 L2 C) (k : Int) (p : Int × Int) : Half L1 (setL L2 k p) (setC L2.length C k p) := by
  obtain ⟨h1, h2, h3, h4⟩ := h
  by_cases hm : mayP L2.length k p = true
  · have hk : 0 ≤ k ∧ k < L2.length ∧ okP p = true := by
      unfold mayP inP at hm
      unfold okP
      simp only [Bool.and_eq_true, decide_eq_true_eq] at hm ⊢
      exact ⟨hm.1.1.1, hm.1.1.2, hm.1.2, hm.2⟩
    obtain ⟨k', rfl⟩ := Int.eq_ofNat_of_zero_le hk.1
    unfold setL setC
    rw [if_pos hm, if_pos hm, Int.toNat_natCast]
    refine ⟨by simpa using h1, by simpa using h2, fun j hj => ?_, fun j hj => ?_⟩
    · rw [List.getD_eq_getElem?_getD, List.getElem?_set] at hj ⊢
      by_cases hkj : k' = j
      · subst hkj
        have : k' < C.length := by omega
        simp [this] at hj
      · simp only [hkj, if_false] at hj ⊢
        rw [← List.getD_eq_getElem?_getD] at hj ⊢
        exact h3 j hj
    · rw [List.getD_eq_getElem?_getD, List.getElem?_set] at hj ⊢
      by_cases hkj : k' = j
      · subst hkj
        have : k' < L2.length := by omega
        simpa [this] using hk.2.2
      · simp only [hkj, if_false] at hj ⊢
        rw [← List.getD_eq_getElem?_getD] at hj ⊢
        exact h4 j hj
  · unfold setL setC
    rw [if_neg hm, if_neg hm]
    exact ⟨h1, h2, h3, h4⟩
theorem put_chTo {L1 L2 : List (Int × Int)} {C : List Bool} (h : Half L1 L2 C) (k : Nat) (hk : k ≤ L2.length) (j : Nat) :
    (putTo L1 (chTo L2 C k)).getD j (0, 0) = if j < k then L2.getD j (0, 0) else L1.getD j (0, 0) := by
  obtain ⟨h1, h2, h3, h4⟩ := h
  induction k with
  | zero => simp [chTo, putTo]
  | succ k ih =>
    have ih := ih (by omega)
    simp only [chTo]
    by_cases hc : C.getD k false = true
    · rw [if_pos hc, putTo_snoc, List.getD_eq_getElem?_getD, List.getElem?_set, Int.toNat_natCast]
      by_cases hkj : k = j
      · subst hkj
        have : k < (putTo L1 (chTo L2 C k)).length := by rw [putTo_length]; omega
        simp [this]
      · simp only [hkj, if_false]
        rw [← List.getD_eq_getElem?_getD, ih]
        by_cases hlt : j < k
        · rw [if_pos hlt, if_pos (by omega)]
        · rw [if_neg hlt, if_neg (by omega)]
    · rw [if_neg hc, List.append_nil, ih]
      by_cases hkj : k = j
      · subst hkj
        rw [if_neg (by omega), if_pos (by omega), h3 k (by simpa using hc)]
      · by_cases hlt : j < k
        · rw [if_pos hlt, if_pos (by omega)]
        · rw [if_neg hlt, if_neg (by omega)]
theorem apply_chgs {L1 L2 : List (Int × Int)} {C : List Bool} (h : Half L1 L2 C) : fitsP L1.length (chgs L2 C) = true ∧ applyL L1 (chgs L2 C) = L2 := by
  have hl := h.1
  have hf : fitsP L1.length (chgs L2 C) = true := by
    unfold fitsP
    rw [List.all_eq_true]
    intro x hx
    have key : ∀ k, ∀ x ∈ chTo L2 C k, ∃ j : Nat, x = ((j : Int), L2.getD j (0, 0)) ∧ j < k ∧ C.getD j false = true := by
      intro k
      induction k with
      | zero => simp [chTo]
      | succ k ih =>
        intro x hx
        simp only [chTo] at hx
        split at hx
        · rename_i hc
          rw [List.mem_append, List.mem_singleton] at hx
          rcases hx with hx | rfl
          · obtain ⟨j, q1, q2, q3⟩ := ih x hx; exact ⟨j, q1, by omega, q3⟩
          · exact ⟨k, rfl, by omega, hc⟩
        · rw [List.append_nil] at hx
          obtain ⟨j, q1, q2, q3⟩ := ih x hx; exact ⟨j, q1, by omega, q3⟩
    obtain ⟨j, rfl, q2, q3⟩ := key _ x hx
    rw [mayP_ok _ j (by omega)]
    exact h.2.2.2 j q3
  refine ⟨hf, ?_⟩
  unfold applyL
  rw [if_pos hf]
  apply List.ext_getElem
  · rw [putTo_length, hl]
  · intro i a b
    have := put_chTo h L2.length (Nat.le_refl _) i
    rw [if_pos b, List.getD_eq_getElem?_getD, List.getD_eq_getElem?_getD, List.getElem?_eq_getElem b] at this
    rw [← chgs] at this
    rw [List.getElem?_eq_getElem a] at this
    exact this
end Go.Proofs.Ytedhcgeglmoacaa
