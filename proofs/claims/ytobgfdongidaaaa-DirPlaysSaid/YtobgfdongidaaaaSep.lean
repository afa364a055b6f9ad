/- A small separation logic over the model's heap: which blocks an assertion speaks of, and that what is apart stays as it was. No project text; nothing here is trusted. -/
import Derived.WalkKit
import Derived.Maps.AppendAt
import Derived.Deep.Draws
namespace Go.Proofs.Sep
set_option linter.unusedVariables false
set_option linter.unusedSimpArgs false
open Go.RowKit

/-- A piece of heap: some blocks, each with what it holds. -/
abbrev Hl := Nat → Option Obj

/-- An assertion on a piece of heap. -/
def Asn : Type := Hl → Prop

def hdisj (a b : Hl) : Prop := ∀ k, a k = none ∨ b k = none
def hun (a b : Hl) : Hl := fun k => (a k).or (b k)
def hnone : Hl := fun _ => none
def hone (k : Nat) (o : Obj) : Hl := fun j => if j = k then some o else none

theorem hun_none_right (a : Hl) : hun a hnone = a := by funext k; simp [hun, hnone]
theorem hun_none_left (a : Hl) : hun hnone a = a := by funext k; simp [hun, hnone]
theorem hdisj.symm {a b : Hl} (h : hdisj a b) : hdisj b a := fun k => (h k).symm
theorem hun_comm {a b : Hl} (h : hdisj a b) : hun a b = hun b a := by
  funext k
  rcases h k with e | e <;> simp [hun, e]
theorem hun_assoc (a b c : Hl) : hun (hun a b) c = hun a (hun b c) := by funext k; simp [hun, Option.or_assoc]
theorem hdisj_hun_left {a b c : Hl} : hdisj (hun a b) c ↔ hdisj a c ∧ hdisj b c := by
  constructor
  · intro h
    refine ⟨fun k => ?_, fun k => ?_⟩
    · rcases h k with e | e
      · simp [hun] at e; exact .inl e.1
      · exact .inr e
    · rcases h k with e | e
      · simp [hun] at e; exact .inl e.2
      · exact .inr e
  · rintro ⟨h1, h2⟩ k
    rcases h1 k with e | e
    · rcases h2 k with e' | e'
      · exact .inl (by simp [hun, e, e'])
      · exact .inr e'
    · exact .inr e
theorem hdisj_hun_right {a b c : Hl} : hdisj a (hun b c) ↔ hdisj a b ∧ hdisj a c := by
  constructor
  · intro h
    have := hdisj_hun_left.1 h.symm
    exact ⟨this.1.symm, this.2.symm⟩
  · intro h
    exact (hdisj_hun_left.2 ⟨h.1.symm, h.2.symm⟩).symm

/-- Both, apart from each other. -/
def star (P Q : Asn) : Asn := fun h => ∃ a b, hdisj a b ∧ h = hun a b ∧ P a ∧ Q b
instance : Mul Asn := ⟨star⟩
def emp : Asn := fun h => h = hnone
def pur (p : Prop) : Asn := fun h => p ∧ h = hnone
def ex {α : Type} (P : α → Asn) : Asn := fun h => ∃ x, P x h
def blk (k : Nat) (o : Obj) : Asn := fun h => h = hone k o
/-- All blocks of a world, as they are there. -/
def own (W : World) : Asn := fun h => h = fun k => W.heap[k]?
/-- Whatever. -/
def junk : Asn := fun _ => True

theorem star_def (P Q : Asn) (h : Hl) : (P * Q) h ↔ ∃ a b, hdisj a b ∧ h = hun a b ∧ P a ∧ Q b := Iff.rfl
theorem Asn.ext {P Q : Asn} (h : ∀ a, P a ↔ Q a) : P = Q := funext fun a => propext (h a)
theorem star_comm (P Q : Asn) : P * Q = Q * P := by
  apply Asn.ext
  intro h
  constructor <;>
  · rintro ⟨a, b, hd, rfl, ha, hb⟩
    exact ⟨b, a, hd.symm, hun_comm hd, hb, ha⟩
theorem star_assoc (P Q R : Asn) : P * Q * R = P * (Q * R) := by
  apply Asn.ext
  intro h
  constructor
  · rintro ⟨ab, c, hd, rfl, ⟨a, b, hd', rfl, ha, hb⟩, hc⟩
    obtain ⟨h1, h2⟩ := hdisj_hun_left.1 hd
    exact ⟨a, hun b c, hdisj_hun_right.2 ⟨hd', h1⟩, hun_assoc .., ha, b, c, h2, rfl, hb, hc⟩
  · rintro ⟨a, bc, hd, rfl, ha, b, c, hd', rfl, hb, hc⟩
    obtain ⟨h1, h2⟩ := hdisj_hun_right.1 hd
    exact ⟨hun a b, c, hdisj_hun_left.2 ⟨h2, hd'⟩, (hun_assoc ..).symm, ⟨a, b, h1, rfl, ha, hb⟩, hc⟩
instance : Std.Associative (α := Asn) (· * ·) := ⟨star_assoc⟩
instance : Std.Commutative (α := Asn) (· * ·) := ⟨star_comm⟩
theorem star_left_comm (P Q R : Asn) : P * (Q * R) = Q * (P * R) := by rw [← star_assoc, star_comm P Q, star_assoc]
theorem emp_star (P : Asn) : emp * P = P := by
  apply Asn.ext
  intro h
  constructor
  · rintro ⟨a, b, _, rfl, rfl, hb⟩
    rwa [hun_none_left]
  · intro hp
    exact ⟨hnone, h, fun _ => .inl rfl, (hun_none_left h).symm, rfl, hp⟩
theorem star_emp (P : Asn) : P * emp = P := by rw [star_comm, emp_star]
theorem ex_star {α : Type} (P : α → Asn) (Q : Asn) : ex P * Q = ex fun x => P x * Q := by
  apply Asn.ext
  intro h
  constructor
  · rintro ⟨a, b, hd, rfl, ⟨x, ha⟩, hb⟩
    exact ⟨x, a, b, hd, rfl, ha, hb⟩
  · rintro ⟨x, a, b, hd, rfl, ha, hb⟩
    exact ⟨a, b, hd, rfl, ⟨x, ha⟩, hb⟩

/-- In the world w the assertion P holds of some of its blocks; the streams are E's. -/
structure Sat (E : World) (P : Asn) (w : World) : Prop where
  os : w.os = E.os
  tape : w.tape = E.tape
  output : w.output = E.output
  heap : ∃ h, (∀ k o, h k = some o → w.heap[k]? = some o) ∧ P h

section
variable {E w w1 : World} {P Q R F : Asn}

theorem Sat.imp (h : Sat E P w) (f : ∀ a, P a → Q a) : Sat E Q w :=
  ⟨h.os, h.tape, h.output, let ⟨a, h1, h2⟩ := h.heap; ⟨a, h1, f a h2⟩⟩
theorem Sat.eq (h : Sat E P w) (e : P = Q) : Sat E Q w := e ▸ h
/-- What the frame keeps may be turned while what stands ahead of it is not. -/
theorem Sat.imp_left (h : Sat E (P * F) w) (f : ∀ a, P a → Q a) : Sat E (Q * F) w :=
  h.imp fun _ ⟨a, b, hd, e, ha, hb⟩ => ⟨a, b, hd, e, f a ha, hb⟩
theorem Sat.right (h : Sat E (P * Q) w) : Sat E Q w :=
  ⟨h.os, h.tape, h.output, by
    obtain ⟨x, h1, a, b, hd, rfl, _, hb⟩ := h.heap
    refine ⟨b, fun k o hk => h1 k o ?_, hb⟩
    rcases hd k with e | e
    · simp [hun, e, hk]
    · rw [hk] at e; cases e⟩
theorem Sat.left (h : Sat E (P * Q) w) : Sat E P w := by rw [star_comm] at h; exact h.right
theorem Sat.ex {α : Type} {P : α → Asn} (h : Sat E (ex P) w) : ∃ x, Sat E (P x) w := by
  obtain ⟨a, h1, x, h2⟩ := h.heap
  exact ⟨x, h.os, h.tape, h.output, a, h1, h2⟩
theorem Sat.ex_left {α : Type} {P : α → Asn} (h : Sat E (Sep.ex P * F) w) : ∃ x, Sat E (P x * F) w := by
  rw [ex_star] at h; exact h.ex
theorem Sat.intro {α : Type} {P : α → Asn} (x : α) (h : Sat E (P x) w) : Sat E (Sep.ex P) w := h.imp fun _ h => ⟨x, h⟩
theorem Sat.intro_left {α : Type} {P : α → Asn} (x : α) (h : Sat E (P x * F) w) : Sat E (Sep.ex P * F) w := h.imp_left fun _ h => ⟨x, h⟩
theorem Sat.pur_left {p : Prop} (h : Sat E (pur p * F) w) : p ∧ Sat E F w :=
  ⟨by obtain ⟨_, _, a, _, _, _, ha, _⟩ := h.heap; exact ha.1, h.right⟩
theorem Sat.add_pur {p : Prop} (h : Sat E F w) (hp : p) : Sat E (pur p * F) w :=
  h.imp fun a ha => ⟨hnone, a, fun _ => .inl rfl, (hun_none_left a).symm, ⟨hp, rfl⟩, ha⟩
theorem Sat.drop_mid (h : Sat E (P * (Q * R)) w) : Sat E (P * R) w := by rw [star_left_comm] at h; exact h.right

/-- Where no block of the old world has turned. -/
theorem Sat.keep (h : Sat E P w) (ho : w1.os = w.os) (ht : w1.tape = w.tape) (hp : w1.output = w.output)
    (hb : ∀ k, k < w.heap.size → w1.heap[k]? = w.heap[k]?) : Sat E P w1 :=
  ⟨ho.trans h.os, ht.trans h.tape, hp.trans h.output, by
    obtain ⟨a, h1, h2⟩ := h.heap
    refine ⟨a, fun k o hk => ?_, h2⟩
    have := h1 k o hk
    rw [hb k (Array.getElem?_eq_some_iff.1 this).1]; exact this⟩
theorem Sat.below (h : Sat E P w) (hb : Below w.heap.size w w1) : Sat E P w1 := h.keep hb.os hb.tape hb.output hb.block
theorem Sat.drew (h : Sat E P w) : Sat E P w.drew := ⟨h.os, h.tape, h.output, h.heap⟩
theorem Sat.drewN (h : Sat E P w) (n : Nat) : Sat E P (w.drewN n) := ⟨h.os, h.tape, h.output, h.heap⟩
theorem Sat.alloc_drop (h : Sat E P w) (o : Obj) : Sat E P (w.alloc o) :=
  h.keep rfl rfl rfl fun k hk => Below.heap_alloc w o k hk

/-- One block turns, or comes anew: what is apart from it stays. -/
theorem Sat.turn {b : Nat} {o o1 : Obj} (h : Sat E (blk b o * F) w) (ho : w1.os = w.os) (ht : w1.tape = w.tape) (hp : w1.output = w.output)
    (hb : ∀ k, k < w.heap.size → k ≠ b → w1.heap[k]? = w.heap[k]?) (h1 : w1.heap[b]? = some o1) : Sat E (blk b o1 * F) w1 :=
  ⟨ho.trans h.os, ht.trans h.tape, hp.trans h.output, by
    obtain ⟨x, h0, a, f, hd, rfl, rfl, hf⟩ := h.heap
    refine ⟨hun (hone b o1) f, fun k u hk => ?_, hone b o1, f, fun k => ?_, rfl, rfl, hf⟩
    · by_cases hkb : k = b
      · subst hkb
        simp [hun, hone] at hk
        rw [← hk]; exact h1
      · have hfk : f k = some u := by simpa [hun, hone, hkb] using hk
        have := h0 k u (by simp [hun, hone, hkb, hfk])
        rw [hb k (Array.getElem?_eq_some_iff.1 this).1 hkb]; exact this
    · rcases hd k with e | e
      · by_cases hkb : k = b
        · subst hkb; simp [hone] at e
        · exact .inl (by simp [hone, hkb])
      · exact .inr e⟩
/-- A new block beside what is there. -/
theorem Sat.add {b : Nat} {o : Obj} (h : Sat E F w) (ho : w1.os = w.os) (ht : w1.tape = w.tape) (hp : w1.output = w.output)
    (hs : w.heap.size ≤ b) (hb : ∀ k, k < w.heap.size → w1.heap[k]? = w.heap[k]?) (h1 : w1.heap[b]? = some o) : Sat E (blk b o * F) w1 :=
  ⟨ho.trans h.os, ht.trans h.tape, hp.trans h.output, by
    obtain ⟨f, h0, hf⟩ := h.heap
    have hfb : f b = none := by
      cases e : f b with
      | none => rfl
      | some u => have := (Array.getElem?_eq_some_iff.1 (h0 b u e)).1; omega
    refine ⟨hun (hone b o) f, fun k u hk => ?_, hone b o, f, fun k => ?_, rfl, rfl, hf⟩
    · by_cases hkb : k = b
      · subst hkb
        simp [hun, hone] at hk
        rw [← hk]; exact h1
      · have hfk : f k = some u := by simpa [hun, hone, hkb] using hk
        have := h0 k u hfk
        rw [hb k (Array.getElem?_eq_some_iff.1 this).1]; exact this
    · by_cases hkb : k = b
      · subst hkb; exact .inr hfb
      · exact .inl (by simp [hone, hkb])⟩
theorem Sat.alloc (h : Sat E F w) (o : Obj) : Sat E (blk w.heap.size o * F) (w.alloc o) :=
  h.add rfl rfl rfl (Nat.le_refl _) (fun k hk => Below.heap_alloc w o k hk) (heap_alloc_new w o)
theorem Sat.at_blk {b : Nat} {o : Obj} (h : Sat E (blk b o * F) w) : w.heap[b]? = some o := by
  obtain ⟨x, h0, a, f, hd, rfl, rfl, hf⟩ := h.heap
  exact h0 b o (by simp [hun, hone])
theorem Sat.lt_blk {b : Nat} {o : Obj} (h : Sat E (blk b o * F) w) : b < w.heap.size := (Array.getElem?_eq_some_iff.1 h.at_blk).1
theorem Sat.ne_blk {b c : Nat} {o u : Obj} (h : Sat E (blk b o * (blk c u * F)) w) : b ≠ c := by
  obtain ⟨x, h0, a, f, hd, rfl, rfl, a', f', hd', rfl, rfl, _⟩ := h.heap
  rintro rfl
  rcases hd b with e | e <;> simp [hone, hun] at e
theorem Sat.cell_blk {b i : Nat} {cs : Array Value} {e : TypeId} {fr : Nat × Nat} (h : Sat E (blk b (.cells cs e fr) * F) w) : w.cell? ⟨b, i, none⟩ = cs[i]? :=
  cell_of_row w b i cs e fr h.at_blk
theorem Sat.free_blk {b i : Nat} {cs : Array Value} {e : TypeId} (h : Sat E (blk b (.cells cs e (0, 0)) * F) w) : w.frozen? ⟨b, i, none⟩ = false :=
  frozen_of_row w b i cs e h.at_blk
theorem Sat.setCell {b i : Nat} {cs : Array Value} {e : TypeId} {fr : Nat × Nat} (h : Sat E (blk b (.cells cs e fr) * F) w) (v : Value) :
    Sat E (blk b (.cells (cs.setIfInBounds i v) e fr) * F) (w.setCell ⟨b, i, none⟩ v) :=
  h.turn rfl rfl rfl (fun k _ hk => heap_setCell_other w _ k v (by simpa using hk)) (by
    have := h.at_blk
    simp only [World.setCell, Array.getElem?_modify, ↓reduceIte, this, Option.map_some]
    simp)
/-- A block that is told twice is told alike. -/
theorem Sat.old {W : World} (h : Sat E (own W * F) w) {k : Nat} (hk : k < W.heap.size) : w.heap[k]? = W.heap[k]? := by
  obtain ⟨x, h0, a, f, hd, rfl, rfl, hf⟩ := h.heap
  obtain ⟨o, ho⟩ : ∃ o, W.heap[k]? = some o := ⟨W.heap[k], Array.getElem?_eq_getElem hk⟩
  rw [ho]
  exact h0 k o (by simp [hun, ho])
theorem Sat.old_size {W : World} (h : Sat E (own W * F) w) : W.heap.size ≤ w.heap.size := by
  rcases Nat.eq_zero_or_pos W.heap.size with e | e
  · omega
  · have h1 := h.old (k := W.heap.size - 1) (by omega)
    rw [Array.getElem?_eq_getElem (show W.heap.size - 1 < W.heap.size by omega)] at h1
    obtain ⟨h2, _⟩ := Array.getElem?_eq_some_iff.1 h1
    omega
theorem Sat.start (W : World) : Sat W (own W) W := ⟨rfl, rfl, rfl, _, fun _ _ h => h, rfl⟩
theorem Sat.start' (W : World) : Sat W (own W * emp) W := by rw [star_emp]; exact Sat.start W
theorem Sat.old1 {W : World} (h : Sat E (own W) w) {k : Nat} (hk : k < W.heap.size) : w.heap[k]? = W.heap[k]? := by
  rw [← star_emp (own W)] at h; exact h.old hk
theorem Sat.finish1 {W : World} (h : Sat W (own W) w) : Below W.heap.size W w := by
  have h' := h
  rw [← star_emp (own W)] at h'
  exact ⟨h.os, h.tape, h.output, h'.old_size, fun _ hk => h.old1 hk⟩
theorem Sat.finish {W : World} (h : Sat W (own W * F) w) : Below W.heap.size W w :=
  ⟨h.os, h.tape, h.output, h.old_size, fun _ hk => h.old hk⟩
end

/-! ### Rows -/
/-- The slice v of n elements (type e, size cells each) owns the cells xs. -/
def row (e : TypeId) (size : Nat) (v : Value) (n : Nat) (xs : List Value) : Asn := fun h =>
  xs.length = n * size ∧ ((v = .slice none 0 0 ∧ n = 0 ∧ h = hnone) ∨
    ∃ g cap cur, v = .slice (some ⟨g, 0, none⟩) n cap ∧ n ≤ cap ∧ cap ≤ maxLen ∧ cur.size = cap * size ∧ cur.toList.take (n * size) = xs ∧ h = hone g (.cells cur e (0, 0)))

section
variable {E w w1 : World} {P Q R F : Asn} {e size n : Nat} {v : Value} {xs : List Value}

theorem Sat.owns (h : Sat E (row e size v n xs * F) w) : w.ownsRow 0 e size v n xs := by
  obtain ⟨x, h0, a, f, hd, rfl, ⟨hl, hr⟩, hf⟩ := h.heap
  refine ⟨hl, ?_⟩
  rcases hr with ⟨hv, hn, _⟩ | ⟨g, cap, cur, hv, h1, h2, h3, h4, rfl⟩
  · exact .inl ⟨hv, hn⟩
  · exact .inr ⟨g, cap, cur, hv, Nat.zero_le _, h0 g _ (by simp [hun, hone]), h1, h2, h3, h4⟩
theorem Sat.row_nil (h : Sat E F w) : Sat E (row e size (.slice none 0 0) 0 [] * F) w :=
  h.imp fun a ha => ⟨hnone, a, fun _ => .inl rfl, (hun_none_left a).symm, ⟨by simp, .inl ⟨rfl, rfl, rfl⟩⟩, ha⟩
/-- What is apart from the row's block stays where the row's block alone has been written. -/
theorem Sat.row_frame (h : Sat E (row e size v n xs * F) w) (hg : w.grownBy w1 v.ownBlock) : Sat E F w1 :=
  ⟨hg.os.trans h.os, hg.tape.trans h.tape, hg.output.trans h.output, by
    obtain ⟨x, h0, a, f, hd, rfl, ⟨hl, hr⟩, hf⟩ := h.heap
    refine ⟨f, fun k o hk => ?_, hf⟩
    have ha : a k = none := by
      rcases hd k with e | e
      · exact e
      · rw [hk] at e; cases e
    have hw := h0 k o (by simp [hun, ha, hk])
    rw [hg.block k (Array.getElem?_eq_some_iff.1 hw).1 ?_]; exact hw
    intro hk'
    rcases hr with ⟨rfl, _, rfl⟩ | ⟨g, cap, cur, rfl, h1, h2, h3, h4, rfl⟩
    · simp [Value.ownBlock] at hk'
    · simp [Value.ownBlock] at hk'
      subst hk'
      simp [hone] at ha⟩
/-- Behind an append, a make, a store: the row as it is now. -/
theorem Sat.row_turn {v1 : Value} {n1 : Nat} {xs1 : List Value} (h : Sat E (row e size v n xs * F) w) (hg : w.grownBy w1 v.ownBlock)
    (ho : w1.ownsRow 0 e size v1 n1 xs1) (hat : v1.ownBlock = v.ownBlock ∨ ∃ b, v1.ownBlock = some b ∧ w.heap.size ≤ b) : Sat E (row e size v1 n1 xs1 * F) w1 := by
  have hF := h.row_frame hg
  obtain ⟨x, h0, a, f, hd, rfl, ⟨hl, hr⟩, hf⟩ := h.heap
  refine ⟨hF.os, hF.tape, hF.output, ?_⟩
  obtain ⟨hl1, ho⟩ := ho
  have hfw : ∀ k o, f k = some o → w.heap[k]? = some o := fun k o hk => by
    refine h0 k o ?_
    rcases hd k with e | e
    · simp [hun, e, hk]
    · rw [hk] at e; cases e
  have hfb : ∀ k o, f k = some o → v.ownBlock ≠ some k := fun k o hk hv => by
    have ha : a k = none := by
      rcases hd k with e | e
      · exact e
      · rw [hk] at e; cases e
    rcases hr with ⟨rfl, _, rfl⟩ | ⟨g, cap, cur, rfl, h1, h2, h3, h4, rfl⟩
    · simp [Value.ownBlock] at hv
    · simp [Value.ownBlock] at hv
      subst hv
      simp [hone] at ha
  have hfw1 : ∀ k o, f k = some o → w1.heap[k]? = some o := fun k o hk => by
    rw [hg.block k (Array.getElem?_eq_some_iff.1 (hfw k o hk)).1 (fun e => hfb k o hk e.symm)]; exact hfw k o hk
  rcases ho with ⟨rfl, hn⟩ | ⟨g, cap, cur, rfl, _, hh, h1, h2, h3, h4⟩
  · exact ⟨f, hfw1, hnone, f, fun _ => .inl rfl, (hun_none_left f).symm, ⟨hl1, .inl ⟨rfl, hn, rfl⟩⟩, hf⟩
  · have hfg : f g = none := by
      cases hfg : f g with
      | none => rfl
      | some o =>
        exfalso
        rcases hat with hat | ⟨b, hb, hs⟩
        · exact hfb g o hfg (by rw [← hat]; rfl)
        · simp [Value.ownBlock] at hb
          have := (Array.getElem?_eq_some_iff.1 (hfw g o hfg)).1
          omega
    refine ⟨hun (hone g (.cells cur e (0, 0))) f, fun k o hk => ?_, _, f, fun k => ?_, rfl, ⟨hl1, .inr ⟨g, cap, cur, rfl, h1, h2, h3, h4, rfl⟩⟩, hf⟩
    · by_cases hkg : k = g
      · subst hkg
        simp [hun, hone] at hk
        rw [← hk]; exact hh
      · exact hfw1 k o (by simpa [hun, hone, hkg] using hk)
    · by_cases hkg : k = g
      · subst hkg; exact .inr hfg
      · exact .inl (by simp [hone, hkg])
/-- A row that came into being: nothing that was there has turned. -/
theorem Sat.row_new (h : Sat E F w) (hg : w.grownBy w1 none) (ho : w1.ownsRow w.heap.size e size v n xs) : Sat E (row e size v n xs * F) w1 := by
  refine (h.row_nil (e := e) (size := size)).row_turn (v := .slice none 0 0) hg ⟨ho.1, ?_⟩ ?_
  · rcases ho.2 with h | ⟨g, cap, cur, h1, h2, h3⟩
    · exact .inl h
    · exact .inr ⟨g, cap, cur, h1, Nat.zero_le _, h3⟩
  · rcases ho.2 with ⟨rfl, _⟩ | ⟨g, cap, cur, rfl, h2, h3⟩
    · exact .inl rfl
    · exact .inr ⟨g, rfl, h2⟩
theorem Sat.row_blk (h : Sat E (row e size v n xs * F) w) (hn : 0 < n) : ∃ g cap cur, v = .slice (some ⟨g, 0, none⟩) n cap ∧ n ≤ cap ∧ cap ≤ maxLen ∧ cur.size = cap * size ∧ cur.toList.take (n * size) = xs ∧
    Sat E (blk g (.cells cur e (0, 0)) * F) w := by
  obtain ⟨x, h0, a, f, hd, rfl, ⟨hl, hr⟩, hf⟩ := h.heap
  rcases hr with ⟨hv, hn', _⟩ | ⟨g, cap, cur, hv, h1, h2, h3, h4, rfl⟩
  · omega
  · exact ⟨g, cap, cur, hv, h1, h2, h3, h4, h.os, h.tape, h.output, _, h0, _, f, hd, rfl, rfl, hf⟩
theorem Sat.blk_row {g cap : Nat} {cur : Array Value} (h : Sat E (blk g (.cells cur e (0, 0)) * F) w) (h1 : n ≤ cap) (h2 : cap ≤ maxLen) (h3 : cur.size = cap * size) :
    Sat E (row e size (.slice (some ⟨g, 0, none⟩) n cap) n (cur.toList.take (n * size)) * F) w := by
  refine h.imp_left fun a ha => ⟨?_, .inr ⟨g, cap, cur, rfl, h1, h2, h3, rfl, ha⟩⟩
  rw [List.length_take, Array.length_toList, h3]
  exact Nat.min_eq_left (Nat.mul_le_mul_right _ h1)
end

end Go.Proofs.Sep
