import Derived.Test.YtobgfdongidaaaaDir5a
import Derived.Test.YtobgfdongidaaaaDir6
namespace Go.Proofs.Ytobgfdongidaaaa
set_option linter.unusedVariables false
set_option linter.unusedSimpArgs false
open Go.RowKit Go.Proofs.Sep Go.Lib

def stars {α : Type} (T : Nat → α → Asn) : List Nat → List α → Asn
  | [], [] => emp
  | p :: ps, k :: ks => T p k * stars T ps ks
  | _, _ => pur False
theorem stars_app {α : Type} (T : Nat → α → Asn) : ∀ (P1 : List Nat) (K1 : List α) (P2 : List Nat) (K2 : List α), P1.length = K1.length → stars T (P1 ++ P2) (K1 ++ K2) = stars T P1 K1 * stars T P2 K2
  | [], [], P2, K2, _ => by simp only [List.nil_append, stars, emp_star]
  | p :: P1, k :: K1, P2, K2, h => by
    simp only [List.cons_append, stars]
    rw [stars_app T P1 K1 P2 K2 (by simpa using h), star_assoc]
  | [], _ :: _, _, _, h => by simp at h
  | _ :: _, [], _, _, h => by simp at h
theorem stars_len {α : Type} (T : Nat → α → Asn) {E w : World} {F : Asn} : ∀ {ps : List Nat} {ks : List α}, Sat E (stars T ps ks * F) w → ps.length = ks.length
  | [], [], _ => rfl
  | p :: ps, k :: ks, h => by
    simp only [stars] at h
    rw [star_assoc] at h
    simpa using stars_len T h.right
  | [], _ :: _, h => by simp only [stars] at h; exact (Sat.pur_left h).1.elim
  | _ :: _, [], h => by simp only [stars] at h; exact (Sat.pur_left h).1.elim
def kids : (h : Nat) → List Nat → Tr h → Asn
  | 0, qs, _ => pur (qs = [])
  | h + 1, qs, t => stars (fun q k => ex fun qs' => node q (ownE h k) qs' * kids h qs' k) qs t.2
def tree (h : Nat) (q : Nat) (t : Tr h) : Asn := ex fun qs => node q (ownE h t) qs * kids h qs t
theorem kids_succ (h : Nat) (qs : List Nat) (t : Tr (h + 1)) : kids (h + 1) qs t = stars (tree h) qs t.2 := rfl
theorem _root_.Go.Proofs.Sep.Sat.tree_open {E w : World} {F : Asn} {h q : Nat} {t : Tr h} (hS : Sat E (tree h q t * F) w) : ∃ qs, Sat E (node q (ownE h t) qs * (kids h qs t * F)) w := by
  obtain ⟨qs, h1⟩ := hS.ex_left
  exact ⟨qs, h1.eq (star_assoc _ _ _)⟩
theorem _root_.Go.Proofs.Sep.Sat.tree_shut {E w : World} {F : Asn} {h q : Nat} {t : Tr h} {qs : List Nat} {L : List Ent} (hL : L = ownE h t) (hS : Sat E (node q L qs * (kids h qs t * F)) w) : Sat E (tree h q t * F) w := by
  subst hL
  exact Sat.intro_left qs (hS.eq (star_assoc _ _ _).symm)
/-- The halves of a node. -/
def takeT : (h : Nat) → Nat → Tr h → Tr h
  | 0, n, t => List.take n t
  | _ + 1, n, t => (t.1.take n, t.2.take (n + 1))
def dropT : (h : Nat) → Nat → Tr h → Tr h
  | 0, n, t => List.drop (n + 1) t
  | _ + 1, n, t => (t.1.drop (n + 1), t.2.drop (n + 1))
theorem own_takeT (h n : Nat) (t : Tr h) : ownE h (takeT h n t) = (ownE h t).take n := by cases h <;> rfl
theorem own_dropT (h n : Nat) (t : Tr h) : ownE h (dropT h n t) = (ownE h t).drop (n + 1) := by cases h <;> rfl
theorem weave_cut : ∀ (M : List Ent) (K : List (List Ent)) (n : Nat) (hn : n < M.length), K.length = M.length + 1 → weave M K = weave (M.take n) (K.take (n + 1)) ++ M[n] :: weave (M.drop (n + 1)) (K.drop (n + 1))
  | x :: M, k :: K, 0, _, _ => by simp [weave]
  | x :: M, k :: K, n + 1, hn, h => by
    have ih := weave_cut M K n (by simpa using hn) (by simpa using h)
    simp only [weave, List.take_succ_cons, List.drop_succ_cons, List.getElem_cons_succ]
    rw [ih]
    simp
  | [], _, _, hn, _ => by simp at hn
  | _ :: _, [], _, _, h => by simp at h
theorem inord_cut {lo hi h : Nat} {t : Tr h} (hok : okT lo hi h t) (n : Nat) (hn : n < (ownE h t).length) : inord h t = inord h (takeT h n t) ++ (ownE h t)[n] :: inord h (dropT h n t) := by
  cases h with
  | zero =>
    have h1 : ∀ (L : List Ent) (hn : n < L.length), L = L.take n ++ L[n] :: L.drop (n + 1) := fun L hn => by
      rw [← List.drop_eq_getElem_cons hn, List.take_append_drop]
    exact h1 t hn
  | succ h =>
    have := weave_cut t.1 (t.2.map (inord h)) n hn (by rw [List.length_map]; exact hok.1)
    rw [← List.map_take, ← List.map_drop] at this
    exact this
theorem okT_take {lo hi h : Nat} {t : Tr h} (hok : okT lo hi h t) (n : Nat) (hn : n < (ownE h t).length) : okT lo hi h (takeT h n t) ∧ okT lo hi h (dropT h n t) := by
  cases h with
  | zero => exact ⟨trivial, trivial⟩
  | succ h =>
    obtain ⟨h1, h2⟩ := hok
    have hn' : n < t.1.length := hn
    refine ⟨⟨?_, fun k hk => h2 k (List.mem_of_mem_take hk)⟩, ⟨?_, fun k hk => h2 k (List.mem_of_mem_drop hk)⟩⟩
    · show (t.2.take (n + 1)).length = (t.1.take n).length + 1
      rw [List.length_take, List.length_take]; omega
    · show (t.2.drop (n + 1)).length = (t.1.drop (n + 1)).length + 1
      rw [List.length_drop, List.length_drop]; omega
theorem kids_cut {E w : World} {F : Asn} {lo hi h : Nat} {t : Tr h} (hok : okT lo hi h t) (n : Nat) (hn : n < (ownE h t).length) {qs : List Nat} (hS : Sat E (kids h qs t * F) w) :
    (qs = [] ∨ n + 1 ≤ qs.length) ∧ Sat E (kids h (qs.take (n + 1)) (takeT h n t) * (kids h (qs.drop (n + 1)) (dropT h n t) * F)) w := by
  cases h with
  | zero =>
    obtain ⟨rfl, h1⟩ := Sat.pur_left hS
    exact ⟨.inl rfl, (h1.add_pur rfl).add_pur rfl⟩
  | succ h =>
    have hl := stars_len _ hS
    have hn' : n < t.1.length := hn
    have h2 : t.2.length = t.1.length + 1 := hok.1
    refine ⟨.inr (by omega), ?_⟩
    have e := stars_app (tree h) (qs.take (n + 1)) (t.2.take (n + 1)) (qs.drop (n + 1)) (t.2.drop (n + 1)) (by rw [List.length_take, List.length_take]; omega)
    rw [List.take_append_drop, List.take_append_drop] at e
    rw [kids_succ, e, star_assoc] at hS
    exact hS
end Go.Proofs.Ytobgfdongidaaaa
