import Derived.Test.YtobgfdongidaaaaDir13
namespace Go.Proofs.Ytobgfdongidaaaa
set_option linter.unusedVariables false
set_option linter.unusedSimpArgs false
open Go.RowKit Go.Proofs.Sep Go.Lib

def fromK (lo : ByteArray) (L : List Ent) : List Ent := L.dropWhile fun x => decide (klt x.1 lo)
def runs {σ : Type} (stp : σ → Ent → σ × Bool) : List Ent → σ → σ × Bool
  | [], s => (s, true)
  | e :: l, s => if (stp s e).2 then runs stp l (stp s e).1 else ((stp s e).1, false)
theorem runs_append {σ : Type} (stp : σ → Ent → σ × Bool) : ∀ (a b : List Ent) (s : σ), runs stp (a ++ b) s = if (runs stp a s).2 then runs stp b (runs stp a s).1 else runs stp a s
  | [], b, s => by simp [runs]
  | e :: a, b, s => by
    simp only [List.cons_append, runs]
    split
    · exact runs_append stp a b _
    · simp
theorem runs_sz {σ : Type} {stp : σ → Ent → σ × Bool} {sz : σ → Nat} (h : ∀ s e, sz (stp s e).1 ≤ sz s + 1) : ∀ (l : List Ent) (s : σ), sz (runs stp l s).1 ≤ sz s + l.length
  | [], s => by simp [runs]
  | e :: l, s => by
    have h1 := h s e
    have h2 := runs_sz h l (stp s e).1
    simp only [runs, List.length_cons]
    split
    · omega
    · show sz (stp s e).1 ≤ _
      omega
theorem fromK_le (lo : ByteArray) (L : List Ent) : (fromK lo L).length ≤ L.length := (List.dropWhile_sublist _).length_le
theorem fromK_app {lo : ByteArray} : ∀ {A B : List Ent}, (∀ x ∈ A, klt x.1 lo) → fromK lo (A ++ B) = fromK lo B
  | [], _, _ => rfl
  | a :: A, B, h => by
    have h1 := h a (by simp)
    have ih := fromK_app (A := A) (B := B) fun x hx => h x (by simp [hx])
    simp only [fromK, List.cons_append, List.dropWhile_cons, h1, decide_true, ↓reduceIte] at ih ⊢
    exact ih
theorem fromK_keep {lo : ByteArray} {L : List Ent} (h : ∀ x ∈ L, ¬ klt x.1 lo) : fromK lo L = L := by
  cases L with
  | nil => rfl
  | cons a L =>
    have h1 := h a (by simp)
    simp [fromK, List.dropWhile_cons, h1]
theorem fromK_left {lo : ByteArray} : ∀ {A B : List Ent}, (∀ x ∈ B, ¬ klt x.1 lo) → fromK lo (A ++ B) = fromK lo A ++ B
  | [], _, h => fromK_keep h
  | a :: A, B, h => by
    have ih := fromK_left (A := A) (B := B) h
    simp only [fromK, List.cons_append, List.dropWhile_cons] at ih ⊢
    split
    · exact ih
    · rfl
theorem fromK_drop {lo : ByteArray} {L : List Ent} (hr : Rises L) : fromK lo L = L.drop (ahead lo L) := by
  have h1 : fromK lo (L.take (ahead lo L) ++ L.drop (ahead lo L)) = fromK lo (L.drop (ahead lo L)) := fromK_app (ahead_lt hr)
  rw [List.take_append_drop] at h1
  rw [h1]
  refine fromK_keep fun x hx hlt => ?_
  obtain ⟨j, hj, rfl⟩ := List.getElem_of_mem hx
  rw [List.length_drop] at hj
  rw [List.getElem_drop] at hlt
  have := (ahead_spec hr (ahead lo L + j) (by omega)).1 hlt
  omega
theorem wpost_ge {lo : ByteArray} (es : List Ent) (K : List (List Ent)) (hr : Rises (wpost es K)) (he : ∀ x, es[0]? = some x → ¬ klt x.1 lo) : ∀ x ∈ wpost es K, ¬ klt x.1 lo := by
  cases es with
  | nil => simp [wpost]
  | cons e es =>
    cases K with
    | nil => simp [wpost]
    | cons k K =>
      intro x hx hlt
      have h0 := he e rfl
      simp only [wpost] at hr hx
      rcases List.mem_cons.1 hx with rfl | hx
      · exact h0 hlt
      · exact h0 (klt_trans ((List.pairwise_cons.1 hr).1 x hx) hlt)

set_option maxRecDepth 100000 in
set_option maxHeartbeats 8000000 in
theorem walk_leaf {E w : World} {G : Asn} {σ : Type} (A : σ → Asn) (stp : σ → Ent → σ × Bool) (K : Nat) (caps : Array Value) (hK : ∀ args w, (callFunc K args).run Try.prog w = .ok (.enter K args) w)
    (sz : σ → Nat) (N : Nat) (hz1 : ∀ s e, sz (stp s e).1 ≤ sz s + 1)
    (hT : ∀ {w : World} {G : Asn} (s : σ) (e : Ent), sz s < N → Sat E (A s * G) w → Calls Try.prog K (#[entv e] ++ caps) w fun r w' => r = .returned (.bool (stp s e).2) ∧ Sat E (A (stp s e).1 * G) w')
    (p : Nat) (L : List Ent) (lo : ByteArray) (s : σ) (hr : Rises L) (hl : L.length ≤ 900000) (hN : sz s + (fromK lo L).length ≤ N) (hS : Sat E (node p L [] * (A s * G)) w) :
    Calls Try.prog 26 #[ptrv p, .string lo, .func (.func K) #[] caps] w fun r w' => r = .returned (.bool (runs stp (fromK lo L) s).2) ∧ Sat E (node p L [] * (A (runs stp (fromK lo L) s).1 * G)) w' := by
  have hal := ahead_le lo L
  obtain ⟨A1, c1, A2, c2, g1, g2, s2⟩ := hS.node_open
  have y0 := (node_facts rfl rfl s2).1
  have hcall := find29 p A1 c1 L lo hr (by omega) s2 (fun w h => (node_facts rfl rfl h).2.2.2.2.1) y0
  rw [fromK_drop hr] at hN ⊢
  have HZ := hid hz1
  clear hz1
  generalize hasKey lo L = hb at *
  generalize ahead lo L = i at *
  unfold ptrv
  clear hS s2 y0 hr
  go_enter Try.func26, Try.ntmps26
  go_wp2_with fail
  refine hcall.mono ?_
  clear hcall
  rintro e' w1 ⟨rfl, s3⟩
  go_wp2_with fail
  go_loopw [7] (fun iv wr => ∃ j : Nat, ∃ s' : σ, i ≤ j ∧ j ≤ L.length ∧ iv = .int .i64 j ∧ runs stp (L.drop j) s' = runs stp (L.drop i) s ∧ sz s' + (L.drop j).length ≤ N ∧ Sat E (nodeAt p (.slice A1 L.length c1) (.slice A2 ([] : List Nat).length c2) L [] * (A s' * G)) wr) (fun iv _ => L.length - (intOf iv).toNat)
  case atStart => exact ⟨i, s, by omega, by omega, rfl, rfl, hN, s3⟩
  case round =>
    obtain ⟨j, s', hij, hjl, rfl, hrun, hN', hq⟩ := hrel
    rw [List.length_drop] at hN'
    obtain ⟨x0, x1, _, _, x4, _⟩ := node_facts rfl rfl hq
    have hlf := leaf30 p ([] : List Nat).length c2 A2 x1
    have z0 : ((([] : List Nat).length : Int) == 0) = true := rfl
    have HR := hid hrun
    clear hrun s3
    by_cases hlt : j < L.length
    · have z1 : ((j : Int) == (L.length : Int)) = false := beq_eq_false_iff_ne.2 (by omega)
      have hjj : (j : Int) < (L.length : Int) := by omega
      have wj := i64_wrap (x := (j : Int) + 1) (by omega) (by omega)
      obtain ⟨ad, rfl, hat⟩ := x4.at (by omega)
      have e0 := hat _ _ (ents_at hlt).1
      have e1 := cell_two (hat _ _ (ents_at hlt).2)
      have hd : L.drop j = L[j] :: L.drop (j + 1) := List.drop_eq_getElem_cons hlt
      have HD := hid hd
      have htell := hT s' L[j] (by omega) (hq.eq (star_left_comm _ _ _))
      clear hat x4 hd
      generalize L[j] = X at *
      obtain ⟨X1, X2⟩ := X
      unfold entv at htell
      simp only at e0 e1 htell
      go_wp2_with fail
      refine hlf.mono ?_
      clear hlf
      rintro e' w2 ⟨rfl, rfl⟩
      go_wp2_with fail
      refine htell.mono ?_
      clear htell
      rintro e' w3 ⟨rfl, q1⟩
      cases hs : (stp s' (X1, X2)).2
      · have hfin : runs stp (L.drop i) s = ((stp s' (X1, X2)).1, false) := by
          rw [← HR.out, HD.out]
          simp [runs, hs]
        have q2 := q1.eq (star_left_comm _ _ _)
        clear hs
        have HF := hid hfin
        clear hfin
        go_wp2_with fail
        go_ret
        rw [HF.out]
        exact ⟨rfl, q2.node_shut⟩
      · have hnx : runs stp (L.drop (j + 1)) (stp s' (X1, X2)).1 = runs stp (L.drop i) s := by
          rw [← HR.out, HD.out]
          simp [runs, hs]
        have HN := hid hnx
        clear hnx hs
        have q2 := q1.eq (star_left_comm _ _ _)
        go_wp2_with fail
        go_roundw
        case rel => exact ⟨j + 1, _, by omega, by omega, by go_num, HN.out, by have := HZ.out s' (X1, X2); rw [List.length_drop]; omega, q2⟩
        case measure => simp [intOf]; omega
    · obtain rfl : j = L.length := by omega
      have z1 : ((L.length : Int) == (L.length : Int)) = true := by simp
      have hfin : runs stp (L.drop i) s = (s', true) := by
        rw [← HR.out, List.drop_length]
        rfl
      have HF := hid hfin
      clear hfin hT
      go_wp2_with fail
      refine hlf.mono ?_
      clear hlf
      rintro e' w2 ⟨rfl, rfl⟩
      go_wp2_with fail
      go_ret
      rw [HF.out]
      exact ⟨rfl, hq.node_shut⟩
end Go.Proofs.Ytobgfdongidaaaa
