import Derived.Test.YtobgfdongidaaaaDir22
namespace Go.Proofs.Ytobgfdongidaaaa
set_option linter.unusedVariables false
set_option linter.unusedSimpArgs false
open Go.RowKit Go.Proofs.Sep Go.Lib

/-- A measure that is no slot: the least one that the relation lets in. -/
theorem exists_least {P : Nat → Prop} (h : ∃ j, P j) : ∃ j, P j ∧ ∀ i, P i → j ≤ i := by
  obtain ⟨j, hj⟩ := h
  induction j using Nat.strongRecOn with
  | ind j ih =>
    by_cases hx : ∃ i, P i ∧ i < j
    · obtain ⟨i, h1, h2⟩ := hx
      exact ih i h2 h1
    · exact ⟨j, hj, fun i hi => Nat.le_of_not_lt fun hlt => hx ⟨i, hi, hlt⟩⟩
open Classical in
noncomputable def leastOf (P : Nat → Prop) : Nat := if h : ∃ j, P j then Classical.choose (exists_least h) else 0
theorem leastOf_is {P : Nat → Prop} (h : ∃ j, P j) : P (leastOf P) := by
  unfold leastOf
  rw [dif_pos h]
  exact (Classical.choose_spec (exists_least h)).1
theorem leastOf_le {P : Nat → Prop} {j : Nat} (h : P j) : leastOf P ≤ j := by
  unfold leastOf
  rw [dif_pos ⟨j, h⟩]
  exact (Classical.choose_spec (exists_least ⟨j, h⟩)).2 j h

/-- What a key has. -/
def getR (key : ByteArray) (L : List Ent) : Int := ((L.find? fun x => decide (x.1 = key)).map (·.2)).getD 0
theorem getR_skip {key : ByteArray} {A M : List Ent} (hA : ∀ x ∈ A, x.1 ≠ key) : getR key (A ++ M) = getR key M := by
  unfold getR
  rw [List.find?_append, List.find?_eq_none.2 (by intro x hx; simpa using hA x hx)]
  rfl
theorem getR_no {key : ByteArray} {L : List Ent} (h : hasKey key L = false) : getR key L = 0 := by
  unfold getR
  rw [List.find?_eq_none.2 (by
    intro x hx
    simp only [hasKey, List.any_eq_false] at h
    exact h x hx)]
  rfl
theorem getR_hit {key : ByteArray} {L : List Ent} (hr : Rises L) {x : Ent} (hx : x ∈ L) (hk : x.1 = key) : getR key L = x.2 := by
  obtain ⟨A, B, rfl⟩ := List.append_of_mem hx
  have h2 := List.pairwise_append.1 hr
  rw [getR_skip fun y hy => by
    have := h2.2.2 y hy x (by simp)
    intro e
    rw [e, hk] at this
    exact klt_irrefl _ this]
  unfold getR
  simp [hk]
theorem getR_end {key : ByteArray} {M B : List Ent} (hB : ∀ x ∈ B, x.1 ≠ key) : getR key (M ++ B) = getR key M := by
  unfold getR
  have h : B.find? (fun x => decide (x.1 = key)) = none := List.find?_eq_none.2 (by intro x hx; simpa using hB x hx)
  rw [List.find?_append, h, Option.or_none]
theorem getR_mid {key : ByteArray} {A M B : List Ent} (hA : ∀ x ∈ A, klt x.1 key) (hB : ∀ x ∈ B, klt key x.1) : getR key (A ++ (M ++ B)) = getR key M := by
  rw [getR_skip fun x hx e => by have := hA x hx; rw [e] at this; exact klt_irrefl _ this]
  exact getR_end fun x hx e => by have := hB x hx; rw [e] at this; exact klt_irrefl _ this

/-- A round of Get's way down. -/
def GetAt (E : World) (R : Asn) (lo hi : Nat) (key : ByteArray) (V : Int) (B : Bool) (nv : Value) (wr : World) (j : Nat) : Prop :=
  ∃ (tj : Tr j) (p : Nat) (G : Asn), okT lo hi j tj ∧ Rises (inord j tj) ∧ (inord j tj).length ≤ 900000 ∧ hasKey key (inord j tj) = B ∧ getR key (inord j tj) = V ∧ nv = ptrv p ∧ Sat E (tree j p tj * G) wr ∧
    ∀ w, Sat E (tree j p tj * G) w → Sat E R w

set_option maxRecDepth 100000 in
set_option maxHeartbeats 4000000 in
theorem get13 {E w : World} {F : Asn} (T m : Nat) (L : List Ent) (key : ByteArray) (hl : L.length ≤ 900000) (hS : Sat E (dir T m L * F) w) :
    Calls Try.prog 13 #[ptrv T, .string key] w fun r w' => r = .returned (.tuple #[.int .i64 (getR key L), .bool (hasKey key L)]) ∧ Sat E (dir T m L * F) w' := by
  obtain ⟨h, r, t, hs, s1⟩ := hS.dir_open
  obtain ⟨_, t1, _, _, _⟩ := three_cells (s1.eq (show _ = blk T (.cells #[.int .i64 m, ptrv r, .int .i64 L.length] 61) * (tree h r t * F) by unfold top; ac_rfl))
  have HS := hid hs
  obtain ⟨q1, q2, q3, _, _⟩ := hs
  have HSH := hid (fun (w : World) (h1 : Sat E (tree h r t * (top T m (ptrv r) (.int .i64 L.length) * F)) w) => Sat.dir_shut HS.out h1)
  have h0 : GetAt E (dir T m L * F) ((m - 1) / 2) (m - 1) key (getR key L) (hasKey key L) (ptrv r) w h := ⟨t, r, _, q3, by rw [q1]; exact q2, by rw [q1]; exact hl, by rw [q1], by rw [q1], rfl, s1, HSH.out⟩
  generalize hasKey key L = B at *
  generalize getR key L = V at *
  generalize dir T m L * F = R at *
  clear hS s1 HS HSH q1 q2 q3 hl
  unfold ptrv at t1 h0 ⊢
  go_enter Try.func13, Try.ntmps13
  go_wp2_with fail
  go_loopw [6] (fun nv wr => ∃ j, GetAt E R ((m - 1) / 2) (m - 1) key V B nv wr j) (fun nv wr => leastOf (GetAt E R ((m - 1) / 2) (m - 1) key V B nv wr))
  case atStart => exact ⟨h, h0⟩
  case round =>
    have hj := leastOf_is hrel
    obtain ⟨j, hjj⟩ : ∃ j, j = leastOf (GetAt E R ((m - 1) / 2) (m - 1) key V B u6 wr) := ⟨_, rfl⟩
    rw [← hjj] at hj
    have HJ := hid hjj
    clear hjj hrel
    obtain ⟨tj, p, G, g1, g2, g3, g4, g5, rfl, g6, g7⟩ := hj
    have hrL := own_rises g2
    have hle := own_le tj
    obtain ⟨qs, s1⟩ := g6.tree_open
    have HSH := hid (fun (w : World) (hs : Sat E (node p (ownE j tj) qs * (kids j qs tj * G)) w) => g7 w (Sat.tree_shut rfl hs))
    obtain ⟨A1, c1, A2, c2, e1, e2, s2⟩ := s1.node_open
    have y0 := (node_facts rfl rfl s2).1
    have hcall := find29 p A1 c1 (ownE j tj) key hrL (by omega) s2 (fun w h => (node_facts rfl rfl h).2.2.2.2.1) y0
    cases hk : hasKey key (ownE j tj) with
    | true =>
      obtain ⟨hi, hx⟩ := (has_spec hrL).1 hk
      have hmem : (ownE j tj)[ahead key (ownE j tj)] ∈ inord j tj := by
        have : (ownE j tj).Sublist (inord j tj) := by
          cases j with
          | zero => exact List.Sublist.refl _
          | succ j => exact weave_sub _ _
        exact this.subset (List.getElem_mem _)
      have hV := (getR_hit g2 hmem hx).symm.trans g5
      have hB : B = true := by
        rw [← g4]
        simp only [hasKey, List.any_eq_true, decide_eq_true_eq]
        exact ⟨_, hmem, hx⟩
      subst hB
      rw [hk] at hcall
      generalize hi0 : ahead key (ownE j tj) = i at *
      have hii : (i : Int) < ((ownE j tj).length : Int) := by omega
      have HHI := hid hi
      obtain ⟨ad, hAd, q⟩ := ent_at (fun w h => (node_facts rfl rfl h).2.2.2.2.1) hi s2
      rw [hV] at q
      subst hAd
      have Q := hid q
      clear g1 g2 g4 g5 g6 g7 s1 hrL hk hx hmem hV q hi0
      unfold ptrv
      generalize ownE j tj = L at *
      go_wp2_with fail
      refine hcall.mono ?_
      clear hcall y0 s2
      rintro e w1 ⟨rfl, s4⟩
      have y0 := (node_facts rfl rfl s4).1
      obtain ⟨x0, x1⟩ := Q.out _ s4
      go_wp2_with fail
      go_ret2
      exact ⟨rfl, HSH.out _ s4.node_shut⟩
    | false =>
      rw [hk] at hcall
      cases j with
      | zero =>
        obtain ⟨rfl, _⟩ := Sat.pur_left (s1.eq (star_left_comm _ _ _))
        have hB : B = false := by rw [← g4]; exact hk
        have hV : V = 0 := by rw [← g5]; exact getR_no hk
        subst hB hV
        clear g1 g2 g4 g5 g6 g7 s1 hrL hk
        unfold ptrv
        generalize ownE 0 tj = L at *
        generalize ahead key L = i at *
        have z1 : ((([] : List Nat).length : Int) == 0) = true := rfl
        go_wp2_with fail
        refine hcall.mono ?_
        clear hcall y0 s2
        rintro e w1 ⟨rfl, s4⟩
        obtain ⟨_, x1, _, _, _, _⟩ := node_facts rfl rfl s4
        have hlf := leaf30 p ([] : List Nat).length c2 A2 x1
        go_wp2_with fail
        refine hlf.mono ?_
        clear hlf
        rintro e' w2 ⟨rfl, rfl⟩
        go_wp2_with fail
        go_ret2
        exact ⟨rfl, HSH.out _ s4.node_shut⟩
      | succ j =>
        obtain ⟨es, ks⟩ := tj
        have hk : hasKey key es = false := hk
        have hl1 : ks.length = es.length + 1 := g1.1
        have hia := ahead_le key es
        obtain ⟨K1, k, K2, rfl, hK⟩ := cut_list ks (ahead key es) (es.length - ahead key es) (by omega)
        simp only [List.length_append, List.length_cons] at hl1
        have hpl := stars_len (tree j) s1.right
        simp only [List.length_append, List.length_cons] at hpl
        obtain ⟨P1, q, P2, rfl, hP1⟩ := cut_list qs K1.length K2.length (by omega)
        obtain ⟨A, C, a1, a2, a3, a4, _, _⟩ := kid_parts (K1 := K1) (K2 := K2) (by omega) g2 hk hK
        have hkl := kid_le (k := k) (K1 := K1) (K2 := K2) (es := es) (by omega)
        have hkok := (own_le_kid g1 (k := k) (by simp)).2
        rw [a4, has_mid a1 a2] at g4
        rw [a4, getR_mid a1 a2] at g5
        have HST := hid (stars_app (tree j) P1 K1 (q :: P2) (k :: K2) hP1)
        have hz : (((P1 ++ q :: P2).length : Int) == 0) = false := beq_eq_false_iff_ne.2 (by simp only [List.length_append, List.length_cons]; omega)
        have hiq : (P1 ++ q :: P2)[ahead key es]? = some q := by rw [← hK, ← hP1]; simp
        have hii : ((ahead key es : Nat) : Int) < ((P1 ++ q :: P2).length : Int) := by simp only [List.length_append, List.length_cons]; omega
        have hcall : Calls Try.prog 29 #[.pointer (some ⟨p, 0, none⟩), .string key] wr fun e w' => e = .returned (.tuple #[.int .i64 (ahead key es), .bool false]) ∧ Sat E (nodeAt p (.slice A1 es.length c1) (.slice A2 (P1 ++ q :: P2).length c2) es (P1 ++ q :: P2) * (stars (tree j) (P1 ++ q :: P2) (K1 ++ k :: K2) * G)) w' := hcall
        have HSH : Hid (∀ (w : World) (hs : Sat E (node p es (P1 ++ q :: P2) * (stars (tree j) (P1 ++ q :: P2) (K1 ++ k :: K2) * G)) w), Sat E R w) := HSH
        have GAT := hid (fun (w : World) (s : Sat E (tree j q k * (node p es (P1 ++ q :: P2) * (stars (tree j) P1 K1 * (stars (tree j) P2 K2 * G)))) w) => (⟨k, q, _, hkok, a3, by omega, g4, g5, rfl, s, fun w' s' => HSH.out w' (by
          rw [HST.out]
          refine s'.eq ?_
          show _ = _ * ((_ * (tree j q k * _)) * _)
          ac_rfl)⟩ : GetAt E R ((m - 1) / 2) (m - 1) key V B (ptrv q) w j))
        have y0 : wr.cell? ⟨p, 0, none⟩ = some (.slice A1 es.length c1) := y0
        generalize hQ : P1 ++ q :: P2 = Q at *
        generalize hi0 : ahead key es = i at *
        clear g1 g2 g3 g4 g5 g6 g7 s1 s2 hrL hk hl1 hia hK hpl hP1 a1 a2 a3 a4 hkl hkok hle hi0 e1 e2 HSH
        unfold ptrv at GAT ⊢
        go_wp2_with fail
        refine hcall.mono ?_
        clear hcall y0
        rintro e w1 ⟨rfl, s4⟩
        obtain ⟨_, x1, _, _, _, x5⟩ := node_facts rfl rfl s4
        obtain ⟨ad, rfl, xq⟩ := ptr_at x5 hiq
        unfold ptrv at xq
        have hlf := leaf30 p Q.length c2 (some ad) x1
        have s5 := s4.node_shut
        rw [HST.out] at s5
        have s6 : Sat E (tree j q k * (node p es Q * (stars (tree j) P1 K1 * (stars (tree j) P2 K2 * G)))) w1 := s5.eq (by
          show _ * ((_ * (tree j q k * _)) * _) = _
          ac_rfl)
        have hg := hid (GAT.out w1 s6)
        clear s4 s5 s6 x5 GAT
        go_wp2_with fail
        refine hlf.mono ?_
        clear hlf
        rintro e' w2 ⟨rfl, rfl⟩
        go_wp2_with fail
        go_roundw
        case rel => exact ⟨j, hg.out⟩
        case measure =>
          have h1 := leastOf_le (P := GetAt E R ((m - 1) / 2) (m - 1) key V B (.pointer (some ⟨q, 0, none⟩)) w2) hg.out
          have h2 := HJ.out
          unfold ptrv at h2
          refine Nat.lt_of_le_of_lt h1 ?_
          show j < leastOf _
          rw [← h2]
          exact Nat.lt_succ_self j
end Go.Proofs.Ytobgfdongidaaaa

namespace Go.Proofs.Ytobgfdongidaaaa
set_option linter.unusedVariables false
set_option linter.unusedSimpArgs false
open Go.RowKit Go.Proofs.Sep Go.Lib

def ka : ByteArray := ⟨#[97]⟩
def kb : ByteArray := ⟨#[98]⟩
def kc : ByteArray := ⟨#[99]⟩
def three : List Ent := [(kb, 1), (ka, 2), (kc, 3)]
def three2 : List Ent := [(ka, 2), (kb, 1), (kc, 3)]
theorem three_all : insAll three = three2 := by decide
theorem three_a : getR ka three2 = 2 ∧ hasKey ka three2 = true := by decide
theorem three_r : rangeR ka kb 9 three2 = [(ka, 2), (kb, 1)] := by decide
set_option maxRecDepth 100000 in
set_option maxHeartbeats 4000000 in
theorem first7 {E w : World} {F : Asn} (hS : Sat E F w) : Calls Try.prog 7 #[] w fun r w' => r = .returned (.bool true) ∧ Sat E F w' := by
  have s1 := hS.alloc (.cells #[.string kb, .int .i64 1, .string ka, .int .i64 2, .string kc, .int .i64 3] 25)
  have hn := new_yes 3 (some ⟨w.heap.size, 0, none⟩) 3 three (by decide) (by decide) (by decide) s1 (fun w h => h.blk_reads (n := 3) (size := 2) (cs := ents three) rfl (by omega))
  rw [three_all] at hn
  unfold ka kb kc at hn
  clear s1 hS
  go_enter Try.func7, Try.ntmps7
  go_wp2_with fail
  refine hn.mono ?_
  clear hn
  rintro e w1 ⟨T, rfl, s1⟩
  have hg := get13 T 3 three2 ka (by decide) s1
  rw [three_a.1, three_a.2] at hg
  unfold ka at hg
  unfold ptrv
  unfold ptrv at hg
  go_wp2_with fail
  refine hg.mono ?_
  clear hg s1
  rintro e w2 ⟨rfl, s2⟩
  have hd := depth_some T 3 three2 (by decide) (by decide) (by decide) s2
  unfold ptrv at hd
  go_wp2_with fail
  refine hd.mono ?_
  clear hd
  rintro e w3 ⟨⟨h, t, hs, rfl⟩, rfl⟩
  obtain rfl := shape_three hs rfl
  clear hs
  have hl := len15 T 3 three2 s2
  unfold ptrv at hl
  rw [show ((three2.length : Nat) : Int) = 3 from rfl] at hl
  go_wp2_with fail
  refine hl.mono ?_
  clear hl
  rintro e w4 ⟨rfl, rfl⟩
  have hr := range12 T 3 three2 ka kb 9 (by decide) s2
  rw [three_r] at hr
  unfold ptrv ka kb at hr
  go_wp2_with fail
  refine hr.mono ?_
  clear hr s2
  rintro e w5 ⟨v, rfl, s5⟩
  obtain ⟨A, c, rfl, _, _, _⟩ := s5.reads
  have z : ((([((⟨#[97]⟩ : ByteArray), (2 : Int)), (⟨#[98]⟩, 1)] : List Ent).length : Nat) : Int) = 2 := rfl
  go_wp2_with fail
  go_ret
  exact ⟨rfl, s5.right.right.right⟩
end Go.Proofs.Ytobgfdongidaaaa

namespace Go.Proofs.Ytobgfdongidaaaa
set_option linter.unusedVariables false
set_option linter.unusedSimpArgs false
open Go.RowKit Go.Proofs.Sep Go.Lib

/-- How many bytes the first keys have (each counted to 20001). -/
def wsum (l : List Ent) (k : Nat) : Nat := ((l.take k).map fun x => Nat.min x.1.size 20001).sum
theorem wsum_succ (l : List Ent) (k : Nat) (h : k < l.length) : wsum l (k + 1) = wsum l k + Nat.min l[k].1.size 20001 := by
  unfold wsum
  rw [List.take_succ_eq_append_getElem h, List.map_append, List.sum_append]
  simp
theorem wsum_le (l : List Ent) (k : Nat) : wsum l k ≤ k * 20001 := by
  induction k with
  | zero => simp [wsum]
  | succ k ih =>
    by_cases h : k < l.length
    · rw [wsum_succ l k h]
      have : Nat.min l[k].1.size 20001 ≤ 20001 := Nat.min_le_right _ _
      omega
    · have : wsum l (k + 1) = wsum l k := by
        unfold wsum
        rw [List.take_of_length_le (by omega), List.take_of_length_le (by omega)]
      omega
/-- What DirRanges' loop gathers. -/
def wantR (lo hi : ByteArray) (lim : Int) (L : List Ent) (k : Nat) : List Ent := (within lo hi (L.take k)).take lim.toNat
def inR (lo hi : ByteArray) (x : Ent) : Bool := !decide (klt x.1 lo) && !decide (klt hi x.1)
theorem within_snoc (lo hi : ByteArray) (L : List Ent) (k : Nat) (h : k < L.length) : within lo hi (L.take (k + 1)) = within lo hi (L.take k) ++ if inR lo hi L[k] then [L[k]] else [] := by
  unfold within
  rw [List.take_succ_eq_append_getElem h, List.filter_append]
  congr 1
  by_cases hb : inR lo hi L[k] = true
  · rw [if_pos hb, List.filter_cons_of_pos (by exact hb)]; rfl
  · rw [if_neg hb, List.filter_cons_of_neg (by exact hb)]; rfl
theorem wantR_no (lo hi : ByteArray) (lim : Int) (L : List Ent) (k : Nat) (h : k < L.length) (hb : inR lo hi L[k] = false) : wantR lo hi lim L (k + 1) = wantR lo hi lim L k := by
  unfold wantR
  rw [within_snoc lo hi L k h, hb]
  simp
theorem wantR_full (lo hi : ByteArray) (lim : Int) (L : List Ent) (k : Nat) (h : k < L.length) (hb : lim ≤ ((wantR lo hi lim L k).length : Int)) : wantR lo hi lim L (k + 1) = wantR lo hi lim L k := by
  unfold wantR at *
  rw [within_snoc lo hi L k h]
  rw [List.length_take] at hb
  exact List.take_append_of_le_length (by omega)
theorem wantR_yes (lo hi : ByteArray) (lim : Int) (L : List Ent) (k : Nat) (h : k < L.length) (hb : inR lo hi L[k] = true) (hl : ((wantR lo hi lim L k).length : Int) < lim) : wantR lo hi lim L (k + 1) = wantR lo hi lim L k ++ [L[k]] := by
  unfold wantR at *
  rw [within_snoc lo hi L k h]
  rw [List.length_take] at hl
  rw [if_pos hb]
  generalize within lo hi (L.take k) = W at *
  rw [List.take_of_length_le (l := W ++ [L[k]]) (by rw [List.length_append]; simp; omega), List.take_of_length_le (l := W) (by omega)]
theorem wantR_zero (lo hi : ByteArray) (lim : Int) (L : List Ent) : wantR lo hi lim L 0 = [] := by simp [wantR, within]
theorem wantR_all (lo hi : ByteArray) (lim : Int) (L : List Ent) (hr : Rises L) : wantR lo hi lim L L.length = rangeR lo hi lim L := by
  rw [rangeR_eq lo hi lim L hr]
  unfold wantR
  rw [List.take_length]
theorem wantR_le (lo hi : ByteArray) (lim : Int) (L : List Ent) (k : Nat) : (wantR lo hi lim L k).length ≤ k := by
  unfold wantR within
  refine Nat.le_trans (List.length_take_le' ..) (Nat.le_trans (List.length_filter_le ..) (List.length_take_le ..))
theorem rangeR_le (lo hi : ByteArray) (lim : Int) (L : List Ent) (hr : Rises L) : (rangeR lo hi lim L).length ≤ L.length := by
  rw [rangeR_eq lo hi lim L hr]
  exact Nat.le_trans (List.length_take_le' ..) (List.length_filter_le ..)
theorem rangeR_whole (lo hi : ByteArray) (L : List Ent) (hr : Rises L) (hl : L.length ≤ 500) : rangeR lo hi 500 L = within lo hi L := by
  rw [rangeR_eq lo hi 500 L hr]
  refine List.take_of_length_le (Nat.le_trans (List.length_filter_le ..) ?_)
  exact hl
/-- Two ranges one behind the other. -/
def nextKey (m : ByteArray) : ByteArray := m ++ ⟨#[0]⟩
theorem rangeR_two (lo mid hi : ByteArray) (L : List Ent) (hr : Rises L) (hl : L.length ≤ 500) (h1 : ¬ klt mid lo) (h2 : ¬ klt hi mid) : rangeR lo mid 500 L ++ rangeR (nextKey mid) hi 500 L = rangeR lo hi 500 L := by
  rw [rangeR_whole _ _ L hr hl, rangeR_whole _ _ L hr hl, rangeR_whole _ _ L hr hl]
  refine within_two hr h1 h2 fun x => ?_
  unfold klt kcmp nextKey
  have := cb_next x.data.toList mid.data.toList
  simpa using this
end Go.Proofs.Ytobgfdongidaaaa
