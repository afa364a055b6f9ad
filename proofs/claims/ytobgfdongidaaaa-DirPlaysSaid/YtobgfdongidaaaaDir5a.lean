import Derived.Test.YtobgfdongidaaaaDir4
import Derived.Deep.RegionLaw
namespace Go.Proofs.Ytobgfdongidaaaa
set_option linter.unusedVariables false
set_option linter.unusedSimpArgs false
open Go.RowKit Go.Proofs.Sep Go.Lib

def ptrv (p : Nat) : Value := .pointer (some ⟨p, 0, none⟩)
theorem ptrs_one (l : List Nat) : ∀ u ∈ l.map ptrv, u.oneCell' = true := by
  intro u hu
  obtain ⟨k, _, rfl⟩ := List.mem_map.1 hu
  rfl
theorem two_cells {E w : World} {F : Asn} {p e : Nat} {a b : Value} (h : Sat E (blk p (.cells #[a, b] e) * F) w) : w.cell? ⟨p, 0, none⟩ = some a ∧ w.cell? ⟨p, 1, none⟩ = some b ∧ w.frozen? ⟨p, 0, none⟩ = false ∧ w.frozen? ⟨p, 1, none⟩ = false :=
  ⟨by rw [h.cell_blk]; rfl, by rw [h.cell_blk]; rfl, h.free_blk, h.free_blk⟩
/-- A node, laid open. -/
def nodeAt (p : Nat) (v1 v2 : Value) (L : List Ent) (ps : List Nat) : Asn := blk p (.cells #[v1, v2] 59) * (row 25 2 v1 L.length (ents L) * row 56 1 v2 ps.length (ps.map ptrv))
theorem nodeAt_eq (p : Nat) (v1 v2 : Value) (L : List Ent) (ps : List Nat) : nodeAt p v1 v2 L ps = blk p (.cells #[v1, v2] 59) * (row 25 2 v1 L.length (ents L) * row 56 1 v2 ps.length (ps.map ptrv)) := rfl
def node (p : Nat) (L : List Ent) (ps : List Nat) : Asn := ex fun v1 => ex fun v2 => nodeAt p v1 v2 L ps
/-- The tree's own block. -/
def top (t : Nat) (m : Nat) (u1 u2 : Value) : Asn := blk t (.cells #[.int .i64 m, u1, u2] 61)
theorem _root_.Go.Proofs.Sep.Sat.node_open {E w : World} {F : Asn} {p : Nat} {L : List Ent} {ps : List Nat} (h : Sat E (node p L ps * F) w) : ∃ A1 c1 A2 c2, L.length ≤ c1 ∧ ps.length ≤ c2 ∧ Sat E (nodeAt p (.slice A1 L.length c1) (.slice A2 ps.length c2) L ps * F) w := by
  obtain ⟨v1, h⟩ := h.ex_left
  obtain ⟨v2, h⟩ := h.ex_left
  unfold nodeAt at h
  have h1 : Sat E (row 25 2 v1 L.length (ents L) * (blk p (.cells #[v1, v2] 59) * (row 56 1 v2 ps.length (ps.map ptrv) * F))) w := h.eq (by ac_rfl)
  have h2 : Sat E (row 56 1 v2 ps.length (ps.map ptrv) * (blk p (.cells #[v1, v2] 59) * (row 25 2 v1 L.length (ents L) * F))) w := h.eq (by ac_rfl)
  obtain ⟨A1, c1, rfl, g1, _, _⟩ := h1.reads
  obtain ⟨A2, c2, rfl, g2, _, _⟩ := h2.reads
  exact ⟨A1, c1, A2, c2, g1, g2, h⟩
theorem _root_.Go.Proofs.Sep.Sat.node_shut {E w : World} {F : Asn} {p : Nat} {v1 v2 : Value} {L : List Ent} {ps : List Nat} (h : Sat E (nodeAt p v1 v2 L ps * F) w) : Sat E (node p L ps * F) w := by
  unfold node
  refine Sat.intro_left v1 ?_
  exact Sat.intro_left v2 h
/-- What a node's cells hold. -/
theorem node_facts {E w : World} {F : Asn} {p : Nat} {A1 A2 : Option Addr} {n1 c1 n2 c2 : Nat} {L : List Ent} {ps : List Nat} (h1 : n1 = L.length) (h2 : n2 = ps.length) (h : Sat E (nodeAt p (.slice A1 n1 c1) (.slice A2 n2 c2) L ps * F) w) :
    w.cell? ⟨p, 0, none⟩ = some (.slice A1 n1 c1) ∧ w.cell? ⟨p, 1, none⟩ = some (.slice A2 n2 c2) ∧ w.frozen? ⟨p, 0, none⟩ = false ∧ w.frozen? ⟨p, 1, none⟩ = false ∧ Reads w 2 A1 n1 (ents L) ∧ Reads w 1 A2 n2 (ps.map ptrv) := by
  subst h1 h2
  unfold nodeAt at h
  have g0 : Sat E (blk p (.cells #[.slice A1 L.length c1, .slice A2 ps.length c2] 59) * (row 25 2 (.slice A1 L.length c1) L.length (ents L) * (row 56 1 (.slice A2 ps.length c2) ps.length (ps.map ptrv) * F))) w := h.eq (by ac_rfl)
  obtain ⟨x0, x1, x2, x3⟩ := two_cells g0
  exact ⟨x0, x1, x2, x3, g0.right.reads_at, g0.right.right.reads_at⟩
theorem ptr_at {w : World} {A : Option Addr} {n : Nat} {ps : List Nat} (hR : Reads w 1 A n (ps.map ptrv)) {i q : Nat} (hq : ps[i]? = some q) : ∃ ad, A = some ad ∧ w.cell? (ad.add i) = some (ptrv q) := by
  have hi : i < ps.length := (List.getElem?_eq_some_iff.1 hq).1
  have hl := hR.1
  simp only [List.length_map] at hl
  obtain ⟨ad, h1, h2⟩ := hR.at (by omega)
  exact ⟨ad, h1, h2 i _ (by simp [hq])⟩

set_option maxRecDepth 100000 in
set_option maxHeartbeats 1000000 in
/-- split: there is room. -/
theorem split_room {E w : World} {F : Asn} (t m p q i : Nat) (u1 u2 : Value) (L M : List Ent) (ps qs : List Nat) (hq : ps[i]? = some q) (hm : M.length < m) (hps : ps.length ≤ 1000000)
    (hS : Sat E (node p L ps * (node q M qs * (top t m u1 u2 * F))) w) :
    Calls Try.prog 34 #[ptrv t, ptrv p, .int .i64 i] w fun e w' => (∃ v, e = .returned v) ∧ Sat E (node p L ps * (node q M qs * (top t m u1 u2 * F))) w' := by
  have hi : i < ps.length := (List.getElem?_eq_some_iff.1 hq).1
  have hii : (i : Int) < (ps.length : Int) := by omega
  have z1 : ((M.length : Nat) : Int) < (m : Int) := by omega
  obtain ⟨A1, c1, A2, c2, g1, g2, h1⟩ := hS.node_open
  obtain ⟨A3, c3, A4, c4, g3, g4, h2⟩ := (h1.eq (star_left_comm _ _ _)).node_open
  obtain ⟨y0, y1, _, _, y4, y5⟩ := node_facts rfl rfl h2
  obtain ⟨x0, x1, _, _, x4, x5⟩ := node_facts rfl rfl h2.right
  have t0 : w.cell? ⟨t, 0, none⟩ = some (.int .i64 m) := by
    have := h2.right.right
    unfold top at this
    rw [this.cell_blk]; rfl
  obtain ⟨ad, rfl, xq⟩ := ptr_at x5 hq
  clear h1 h2 y4 y5 x4 x5
  unfold ptrv at *
  go_enter Try.func34, Try.ntmps34
  go_wp2_with fail
  go_quiet (fail)
  go_wp2
  (try simp only [Exit.inBlock, Exit.then]); refine bodyPost_ret (results_none rfl _ _ _) rfl ?_
  exact ⟨⟨_, rfl⟩, hS.drewN _⟩
theorem ents_ins (L : List Ent) (x : Ent) (i : Nat) : ents (insAt i [x] L) = insAt (i * 2) [.string x.1, .int .i64 x.2] (ents L) := by
  have ht : ∀ (L : List Ent) i, ents (L.take i) = (ents L).take (i * 2) := by
    intro L
    induction L with
    | nil => intro i; simp [ents]
    | cons a l ih =>
      intro i
      cases i with
      | zero => simp [ents]
      | succ i => rw [show (i + 1) * 2 = i * 2 + 2 by omega]; simpa [ents] using ih i
  have hd : ∀ (L : List Ent) i, ents (L.drop i) = (ents L).drop (i * 2) := by
    intro L
    induction L with
    | nil => intro i; simp [ents]
    | cons a l ih =>
      intro i
      cases i with
      | zero => simp [ents]
      | succ i => rw [show (i + 1) * 2 = i * 2 + 2 by omega]; simpa [ents] using ih i
  unfold insAt
  rw [ents_append, ents_append, ht, hd]
  rfl
theorem ents_take (L : List Ent) : ∀ i, ents (L.take i) = (ents L).take (i * 2) := by
  induction L with
  | nil => intro i; simp [ents]
  | cons a l ih =>
    intro i
    cases i with
    | zero => simp [ents]
    | succ i => rw [show (i + 1) * 2 = i * 2 + 2 by omega]; simpa [ents] using ih i
theorem ents_drop (L : List Ent) : ∀ i, ents (L.drop i) = (ents L).drop (i * 2) := by
  induction L with
  | nil => intro i; simp [ents]
  | cons a l ih =>
    intro i
    cases i with
    | zero => simp [ents]
    | succ i => rw [show (i + 1) * 2 = i * 2 + 2 by omega]; simpa [ents] using ih i
theorem ptrs_ins (ps : List Nat) (r i : Nat) : (insAt i [r] ps).map ptrv = insAt i [ptrv r] (ps.map ptrv) := by
  unfold insAt
  simp [List.map_take, List.map_drop]
theorem insAt_length {α : Type} (xs : List α) (x : α) (i : Nat) (h : i ≤ xs.length) : (insAt i [x] xs).length = xs.length + 1 := by
  unfold insAt
  simp only [List.length_append, List.length_take, List.length_drop, List.length_cons, List.length_nil]
  omega

end Go.Proofs.Ytobgfdongidaaaa
