import Derived.Test.YtobgfdongidaaaaDir49
namespace Go.Proofs.Ytobgfdongidaaaa
set_option linter.unusedVariables false
set_option linter.unusedSimpArgs false
open Go.RowKit Go.Proofs.Sep Go.Lib

/-! DirMap, plain: a list of entries with different keys, and the sorted one. -/
def NK (m : List Ent) : Prop := (m.map (·.1)).Nodup
structure MapOK (L m : List Ent) : Prop where
  rises : Rises L
  keys : NK m
  mem : ∀ x, x ∈ L ↔ x ∈ m
  len : L.length = m.length
theorem mapok_nil : MapOK [] [] := ⟨List.Pairwise.nil, List.nodup_nil, fun x => Iff.rfl, rfl⟩
theorem NK.inj {m : List Ent} (h : NK m) {i j : Nat} (hi : i < m.length) (hj : j < m.length) (e : m[i].1 = m[j].1) : i = j := by
  have := (List.getElem_inj (h₀ := by rw [List.length_map]; exact hi) (h₁ := by rw [List.length_map]; exact hj) h).1 (by simpa using e)
  exact this
theorem has_mem {key : ByteArray} {m : List Ent} : hasKey key m = true ↔ ∃ x ∈ m, x.1 = key := by simp [hasKey]
theorem MapOK.has {L m : List Ent} (h : MapOK L m) (key : ByteArray) : hasKey key L = hasKey key m := by
  rw [Bool.eq_iff_iff, has_mem, has_mem]
  exact ⟨fun ⟨x, hx, e⟩ => ⟨x, (h.mem x).1 hx, e⟩, fun ⟨x, hx, e⟩ => ⟨x, (h.mem x).2 hx, e⟩⟩
theorem MapOK.get {L m : List Ent} (h : MapOK L m) {k : Nat} (hk : k < m.length) : getR m[k].1 L = m[k].2 := getR_hit h.rises ((h.mem _).2 (List.getElem_mem _)) rfl
theorem insR_mem_all {e : Ent} {L : List Ent} (hr : Rises L) (x : Ent) : x ∈ insR e L ↔ x = e ∨ (x ∈ L ∧ x.1 ≠ e.1) := by
  by_cases hk : hasKey e.1 L = true
  · obtain ⟨y, hy, hye⟩ := has_mem.1 hk
    obtain ⟨A, B, rfl⟩ := List.append_of_mem hy
    rw [insR_hit hr hye]
    have h2 := List.pairwise_append.1 hr
    have h3 := List.pairwise_cons.1 h2.2.1
    constructor
    · intro hx
      rcases List.mem_append.1 hx with hx | hx
      · exact .inr ⟨by simp [hx], fun e2 => by have := h2.2.2 x hx y (by simp); rw [e2, hye] at this; exact klt_irrefl _ this⟩
      · rcases List.mem_cons.1 hx with rfl | hx
        · exact .inl rfl
        · exact .inr ⟨by simp [hx], fun e2 => by have := h3.1 x hx; rw [e2, hye] at this; exact klt_irrefl _ this⟩
    · rintro (rfl | ⟨hx, hne⟩)
      · simp
      · rcases List.mem_append.1 hx with hx | hx
        · simp [hx]
        · rcases List.mem_cons.1 hx with rfl | hx
          · exact absurd hye hne
          · simp [hx]
  · have hk : hasKey e.1 L = false := by simpa using hk
    rw [insR_new hr hk]
    constructor
    · rintro (rfl | hx)
      · exact .inl rfl
      · exact .inr ⟨hx, fun e2 => by
          have := has_mem.2 ⟨x, hx, e2⟩
          rw [hk] at this
          cases this⟩
    · rintro (rfl | ⟨hx, _⟩)
      · exact .inl rfl
      · exact .inr hx
theorem erase_mem {m : List Ent} (h : NK m) {k : Nat} (hk : k < m.length) (x : Ent) : x ∈ m.take k ++ m.drop (k + 1) ↔ x ∈ m ∧ x.1 ≠ m[k].1 := by
  constructor
  · intro hx
    rcases List.mem_append.1 hx with hx | hx
    · refine ⟨List.mem_of_mem_take hx, fun e => ?_⟩
      obtain ⟨i, hi, rfl⟩ := List.getElem_of_mem hx
      rw [List.length_take] at hi
      rw [List.getElem_take] at e
      have := h.inj (by omega) hk e
      omega
    · refine ⟨List.mem_of_mem_drop hx, fun e => ?_⟩
      obtain ⟨i, hi, rfl⟩ := List.getElem_of_mem hx
      rw [List.length_drop] at hi
      rw [List.getElem_drop] at e
      have := h.inj (by omega) hk e
      omega
  · rintro ⟨hx, hne⟩
    obtain ⟨i, hi, rfl⟩ := List.getElem_of_mem hx
    rcases Nat.lt_trichotomy i k with h1 | h1 | h1
    · exact List.mem_append.2 (.inl (List.mem_take_iff_getElem.2 ⟨i, by omega, rfl⟩))
    · subst h1; exact absurd rfl hne
    · exact List.mem_append.2 (.inr (List.mem_drop_iff_getElem.2 ⟨i - (k + 1), by omega, by simp only [show k + 1 + (i - (k + 1)) = i by omega]⟩))
theorem MapOK.del {L m : List Ent} (h : MapOK L m) {k : Nat} (hk : k < m.length) : MapOK (delR m[k].1 L) (m.take k ++ m.drop (k + 1)) := by
  have hh : hasKey m[k].1 L = true := has_mem.2 ⟨m[k], (h.mem _).2 (List.getElem_mem _), rfl⟩
  have hl := delR_length h.rises hh
  refine ⟨delR_rises _ _ h.rises, ?_, fun x => ?_, ?_⟩
  · unfold NK
    refine List.Nodup.sublist ?_ h.keys
    refine List.Sublist.map _ ?_
    have : (m.take k ++ m.drop (k + 1)).Sublist (m.take k ++ m.drop k) := List.Sublist.append (List.Sublist.refl _) (by
      rw [← List.drop_drop]
      exact List.drop_sublist _ _)
    rwa [List.take_append_drop] at this
  · unfold delR
    rw [erase_mem h.keys hk, List.mem_filter, h.mem]
    simp
  · have := h.len
    rw [List.length_append, List.length_take, List.length_drop]
    omega
theorem MapOK.set {L m : List Ent} (h : MapOK L m) {k : Nat} (hk : k < m.length) (id : Int) : MapOK (insR (m[k].1, id) L) (m.set k (m[k].1, id)) := by
  have hh : hasKey m[k].1 L = true := has_mem.2 ⟨m[k], (h.mem _).2 (List.getElem_mem _), rfl⟩
  refine ⟨insR_rises _ _ h.rises, ?_, fun x => ?_, ?_⟩
  · unfold NK
    rw [List.map_set]
    have : (m.map (·.1)).set k m[k].1 = m.map (·.1) := by
      have e : (m.map (·.1))[k]'(by rw [List.length_map]; exact hk) = m[k].1 := by simp
      rw [← e]
      exact List.set_getElem_self _
    show ((m.map (·.1)).set k m[k].1).Nodup
    rw [this]
    exact h.keys
  · rw [insR_mem_all h.rises, h.mem]
    constructor
    · rintro (rfl | ⟨hx, hne⟩)
      · exact List.mem_set hk _
      · obtain ⟨i, hi, rfl⟩ := List.getElem_of_mem hx
        have hik : k ≠ i := fun e => by subst e; exact hne rfl
        have : (m.set k (m[k].1, id))[i]'(by rw [List.length_set]; exact hi) = m[i] := List.getElem_set_ne hik _
        rw [← this]
        exact List.getElem_mem _
    · intro hx
      obtain ⟨i, hi, rfl⟩ := List.getElem_of_mem hx
      rw [List.length_set] at hi
      by_cases hik : k = i
      · subst hik
        exact .inl (List.getElem_set_self _)
      · rw [List.getElem_set_ne hik]
        exact .inr ⟨List.getElem_mem _, fun e => hik (h.keys.inj hi hk e).symm⟩
  · rw [insR_length _ _ h.rises, hh, List.length_set, h.len]
    rfl
theorem MapOK.new {L m : List Ent} (h : MapOK L m) {key : ByteArray} (hk : hasKey key m = false) (id : Int) : MapOK (insR (key, id) L) (m ++ [(key, id)]) := by
  have hkL : hasKey key L = false := by rw [h.has]; exact hk
  refine ⟨insR_rises _ _ h.rises, ?_, fun x => ?_, ?_⟩
  · unfold NK
    rw [List.map_append, List.nodup_append]
    refine ⟨h.keys, by simp, fun a ha b hb => ?_⟩
    simp only [List.map_cons, List.map_nil, List.mem_cons, List.not_mem_nil, or_false] at hb
    subst hb
    obtain ⟨x, hx, rfl⟩ := List.mem_map.1 ha
    intro e
    have := has_mem.2 ⟨x, hx, e⟩
    rw [hk] at this
    cases this
  · rw [insR_new h.rises hkL, h.mem, List.mem_append]
    simp only [List.mem_cons, List.not_mem_nil, or_false]
    exact or_comm
  · rw [insR_length _ _ h.rises, hkL, List.length_append, h.len]
    rfl
/-- Put back from behind. -/
theorem insR_drop {L : List Ent} (hr : Rises L) {i : Nat} (hi : i < L.length) : insR L[i] (L.drop (i + 1)) = L.drop i ∧ hasKey L[i].1 (L.drop (i + 1)) = false := by
  have hd : ∀ x ∈ L.drop (i + 1), klt L[i].1 x.1 := fun x hx => by
    obtain ⟨j, hj, rfl⟩ := List.getElem_of_mem hx
    rw [List.length_drop] at hj
    rw [List.getElem_drop]
    exact hr.lt (by omega) (by omega)
  constructor
  · rw [List.drop_eq_getElem_cons hi]
    have := insR_left L[i] [] (L.drop (i + 1)) hd
    rw [List.nil_append] at this
    rw [this]
    rfl
  · simp only [hasKey, List.any_eq_false, decide_eq_true_eq]
    intro x hx e
    have := hd x hx
    rw [e] at this
    exact klt_irrefl _ this
/-- What 'at' answers. -/
def AtP (m : List Ent) (key : ByteArray) (i : Int) : Prop := (∃ (k : Nat) (h : k < m.length), i = k ∧ m[k].1 = key) ∨ (i = -1 ∧ hasKey key m = false)

abbrev OpE := Int × (Int × (ByteArray × ByteArray))
def opents (l : List OpE) : List Value := l.flatMap fun o => [.int .i64 o.1, .int .i64 o.2.1, .string o.2.2.1, .string o.2.2.2]
theorem opents_at {l : List OpE} {k : Nat} (h : k < l.length) : (opents l)[k * 4]? = some (.int .i64 l[k].1) ∧ (opents l)[k * 4 + 1]? = some (.int .i64 l[k].2.1) ∧ (opents l)[k * 4 + 2]? = some (.string l[k].2.2.1) ∧ (opents l)[k * 4 + 3]? = some (.string l[k].2.2.2) := by
  induction l generalizing k with
  | nil => simp at h
  | cons a l ih =>
    cases k with
    | zero => simp [opents]
    | succ k =>
      obtain ⟨h1, h2, h3, h4⟩ := ih (k := k) (by simpa using h)
      rw [show (k + 1) * 4 = k * 4 + 4 by omega]
      exact ⟨by simpa [opents] using h1, by simpa [opents] using h2, by simpa [opents] using h3, by simpa [opents] using h4⟩
theorem cell_four {w : World} {ad : Addr} {j : Nat} {u : Value} (h : w.cell? (ad.add (j + 3)) = some u) : w.cell? { block := (ad.add j).block, off := (ad.add j).off + 3 } = some u := by
  rw [← addr_add_add] at h
  exact h
theorem op_at {w : World} {A : Option Addr} {l : List OpE} (hR : Reads w 4 A l.length (opents l)) {k : Nat} (hk : k < l.length) :
    ∃ ad, A = some ad ∧ w.cell? (ad.add (k * 4)) = some (.int .i64 l[k].1) ∧ w.cell? { block := (ad.add (k * 4)).block, off := (ad.add (k * 4)).off + 1 } = some (.int .i64 l[k].2.1)
      ∧ w.cell? { block := (ad.add (k * 4)).block, off := (ad.add (k * 4)).off + 2 } = some (.string l[k].2.2.1) ∧ w.cell? { block := (ad.add (k * 4)).block, off := (ad.add (k * 4)).off + 3 } = some (.string l[k].2.2.2) := by
  obtain ⟨ad, h1, h2⟩ := hR.at (by omega)
  obtain ⟨e0, e1, e2, e3⟩ := opents_at hk
  exact ⟨ad, h1, h2 _ _ e0, cell_two (h2 _ _ e1), cell_three (h2 _ _ e2), cell_four (h2 _ _ e3)⟩
theorem dec_ops {w : World} {l : List OpE} {A : Option Addr} {n c : Nat} (h : (decSlice 48 (decPair (decInt .i64) (decPair (decInt .i64) (decPair decStr decStr)))).rel w l [.slice A n c]) :
    n = l.length ∧ l.length ≤ c ∧ Reads w 4 A l.length (opents l) ∧ (∀ x ∈ l, x.2.2.1.size ≤ 140737488351232 ∧ x.2.2.2.size ≤ 140737488351232) ∧ (∀ x ∈ l, (Lit.int .i64 x.2.1).wf = true) := by
  obtain ⟨A', c', css, he, h1, _, _, h4, h5, h6⟩ := h
  simp at he
  obtain ⟨rfl, rfl, rfl⟩ := he
  have hx : ∀ i (hi : i < l.length) (hj : i < css.length), css[i] = [.int .i64 l[i].1, .int .i64 l[i].2.1, .string l[i].2.2.1, .string l[i].2.2.2] ∧ (l[i].2.2.1.size ≤ 140737488351232 ∧ l[i].2.2.2.size ≤ 140737488351232) ∧ (Lit.int .i64 l[i].2.1).wf = true := fun i hi hj => by
    obtain ⟨c1, c2, e, ⟨e1, _⟩, ⟨c3, c4, e', ⟨e3, e4⟩, ⟨c5, c6, e'', ⟨e5, e6⟩, ⟨e7, e8⟩⟩⟩⟩ := h5 i hi hj
    exact ⟨by rw [e, e1, e', e3, e'', e5, e7]; rfl, ⟨e6, e8⟩, e4⟩
  have hf : css.flatten = opents l := by
    have : css = l.map fun x => [.int .i64 x.1, .int .i64 x.2.1, .string x.2.2.1, .string x.2.2.2] := by
      refine List.ext_getElem (by simpa using h4) fun i hi hj => ?_
      rw [(hx i (by omega) hi).1]
      simp
    rw [this]
    unfold opents
    rw [List.flatMap_def]
  refine ⟨rfl, h1, by rw [← hf]; exact h6, fun x hx' => ?_, fun x hx' => ?_⟩
  · obtain ⟨i, hi, rfl⟩ := List.getElem_of_mem hx'
    exact (hx i hi (by omega)).2.1
  · obtain ⟨i, hi, rfl⟩ := List.getElem_of_mem hx'
    exact (hx i hi (by omega)).2.2
end Go.Proofs.Ytobgfdongidaaaa
