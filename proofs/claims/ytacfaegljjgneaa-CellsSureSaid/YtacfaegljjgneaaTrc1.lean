import Derived.Test.YtacfaegljjgneaaCells12
namespace Go.Proofs.Ytacfaegljjgneaa
set_option linter.unusedVariables false
set_option linter.unusedSimpArgs false
open Go.RowKit Go.Proofs.Sep

theorem Try.info61 : (Try.prog.info? 61).map (fun i => (i.zero, i.size, i.bytes)) = some (some (.agg #[.int .i64 0, .int .i64 0, .slice none 0 0]), 3, 40) := by kernel_rfl
theorem Try.info65 : (Try.prog.info? 65).map (fun i => (i.zero, i.size, i.bytes)) = some (some (.agg #[.int .i64 0, .int .i64 0, .slice none 0 0]), 3, 40) := by kernel_rfl

/-- An operation of a trace: kind, address, data. -/
abbrev TOp := Int × Int × List Int
def VIn (w : World) (v : Value) (b : List Int) : Prop := ∃ A c, v = .slice A b.length c ∧ Reads w 1 A b.length (nums .u8 b)
/-- Operations with the slices that hold their data, in cells. -/
def tf (L : List (TOp × Value)) : List Value := L.flatMap fun x => [.int .i64 x.1.1, .int .i64 x.1.2.1, x.2]
theorem tf_length (L : List (TOp × Value)) : (tf L).length = L.length * 3 := by
  induction L with
  | nil => rfl
  | cons a l ih => simp only [tf, List.flatMap_cons, List.length_append, List.length_cons, List.length_nil] at ih ⊢; omega
theorem tf_append (l m : List (TOp × Value)) : tf (l ++ m) = tf l ++ tf m := by simp [tf]
theorem tf_at {l : List (TOp × Value)} {k : Nat} (h : k < l.length) :
    (tf l)[k * 3]? = some (.int .i64 l[k].1.1) ∧ (tf l)[k * 3 + 1]? = some (.int .i64 l[k].1.2.1) ∧ (tf l)[k * 3 + 2]? = some l[k].2 := by
  induction l generalizing k with
  | nil => simp at h
  | cons a l ih =>
    cases k with
    | zero => simp [tf]
    | succ k =>
      obtain ⟨h1, h2, h3⟩ := ih (k := k) (by simpa using h)
      rw [show (k + 1) * 3 = k * 3 + 3 by omega]
      exact ⟨by simpa [tf] using h1, by simpa [tf] using h2, by simpa [tf] using h3⟩
def TIn (w : World) (A : Option Addr) (L : List (TOp × Value)) : Prop := Reads w 3 A L.length (tf L) ∧ ∀ x ∈ L, VIn w x.2 x.1.2.2
theorem VIn.keep {w w' : World} {v : Value} {b : List Int} (h : VIn w v b) (hk : ∀ k, k < w.heap.size → w'.heap[k]? = w.heap[k]?) : VIn w' v b := by
  obtain ⟨A, c, e, r⟩ := h
  exact ⟨A, c, e, r.keep hk⟩
theorem TIn.keep {w w' : World} {A : Option Addr} {L : List (TOp × Value)} (h : TIn w A L) (hk : ∀ k, k < w.heap.size → w'.heap[k]? = w.heap[k]?) : TIn w' A L :=
  ⟨h.1.keep hk, fun x hx => (h.2 x hx).keep hk⟩
theorem TIn.take {w : World} {A : Option Addr} {L : List (TOp × Value)} (h : TIn w A L) (m : Nat) (hm : m ≤ L.length) : TIn w A (L.take m) := by
  refine ⟨?_, fun x hx => h.2 x (List.mem_of_mem_take hx)⟩
  have := h.1.take m hm
  rw [List.length_take, Nat.min_eq_left hm]
  have e : tf (L.take m) = (tf L).take (m * 3) := by
    have h2 := congrArg tf (List.take_append_drop m L)
    rw [tf_append] at h2
    have h3 : (tf (L.take m)).length = m * 3 := by rw [tf_length, List.length_take, Nat.min_eq_left hm]
    have h4 := congrArg (List.take (m * 3)) h2
    rw [← h3, List.take_left' rfl, h3] at h4
    exact h4
  rw [e]; exact this
/-- The cells of the k-th operation. -/
theorem top_at {E : World} {F : Asn} {A : Option Addr} {L : List (TOp × Value)} (hT : ∀ w, Sat E F w → TIn w A L) {k : Nat} (hk : k < L.length) {w0 : World} (h0 : Sat E F w0) :
    ∃ ad Ai ci, A = some ad ∧ L[k].2 = .slice Ai L[k].1.2.2.length ci ∧ L[k].1.2.2.length ≤ 9223372036854775807 ∧ ∀ w, Sat E F w → w.cell? (ad.add (k * 3)) = some (.int .i64 L[k].1.1) ∧ w.cell? { block := (ad.add (k * 3)).block, off := (ad.add (k * 3)).off + 1 } = some (.int .i64 L[k].1.2.1) ∧
      w.cell? { block := (ad.add (k * 3)).block, off := (ad.add (k * 3)).off + 2 } = some (.slice Ai L[k].1.2.2.length ci) ∧ Reads w 1 Ai L[k].1.2.2.length (nums .u8 L[k].1.2.2) := by
  obtain ⟨ad, hA, _⟩ := (hT _ h0).1.at (by omega)
  obtain ⟨Ai, ci, e, r⟩ := (hT _ h0).2 _ (List.getElem_mem hk)
  refine ⟨ad, Ai, ci, hA, e, r.2.1, fun w hw => ?_⟩
  obtain ⟨e0, e1, e2⟩ := tf_at hk
  obtain ⟨Aj, cj, e', r'⟩ := (hT _ hw).2 _ (List.getElem_mem hk)
  rw [e] at e'
  injection e' with e' _ _
  subst e'
  rw [e] at e2
  exact ⟨(hT _ hw).1.2.2.2 ad hA _ _ e0, cell_two ((hT _ hw).1.2.2.2 ad hA _ _ e1), cell_three ((hT _ hw).1.2.2.2 ad hA _ _ e2), r'⟩
theorem dec_tops {b1 : Nat} {w : World} {l : List TOp} {cs : List Value} (h : (decSlice b1 (decPair (decInt .i64) (decPair (decInt .i64) (decSlice 1 (decInt .u8))))).rel w l cs) :
    ∃ A c L, cs = [.slice A l.length c] ∧ l.length ≤ c ∧ c ≤ maxLen ∧ l = L.map (·.1) ∧ TIn w A L ∧ ∀ x ∈ l, ByteR x.2.2 := by
  obtain ⟨A, c, css, h0, h1, h2, h3, h4, h5, h6⟩ := h
  have key : ∀ i (hi : i < l.length) (hi' : i < css.length), ∃ B c, css[i] = [.int .i64 l[i].1, .int .i64 l[i].2.1, .slice B l[i].2.2.length c] ∧ Reads w 1 B l[i].2.2.length (nums .u8 l[i].2.2) ∧ ByteR l[i].2.2 := by
    intro i hi hi'
    obtain ⟨c1, c2, e, r1, c3, c4, e2, r2, r3⟩ := h5 i hi hi'
    obtain ⟨B, d, e5, _, _, _, q, hw⟩ := dec_ints r3
    exact ⟨B, d, by rw [e, r1.1, e2, r2.1, e5]; rfl, q, byteR_wf hw⟩
  obtain ⟨L, hL, hf, hV⟩ : ∃ L : List (TOp × Value), l = L.map (·.1) ∧ tf L = css.flatten ∧ ∀ x ∈ L, VIn w x.2 x.1.2.2 := by
    clear h0 h1 h2 h3 h5 h6
    induction l generalizing css with
    | nil =>
      obtain rfl := List.eq_nil_of_length_eq_zero (show css.length = 0 by simpa using h4)
      exact ⟨[], rfl, rfl, by simp⟩
    | cons a l ih =>
      match css, h4 with
      | x :: css, h4 =>
        obtain ⟨L, e1, e2, e3⟩ := ih css (by simpa using h4) (fun i hi hi' => key (i + 1) (by simp; omega) (by simp; omega))
        obtain ⟨B, c, q1, q2, _⟩ := key 0 (by simp) (by simp)
        simp only [List.getElem_cons_zero] at q1 q2
        refine ⟨(a, .slice B a.2.2.length c) :: L, by simp [e1], by simp [tf, q1] at e2 ⊢; exact e2, ?_⟩
        intro y hy
        rcases List.mem_cons.1 hy with rfl | hy
        · exact ⟨B, c, rfl, q2⟩
        · exact e3 y hy
  refine ⟨A, c, L, h0, h1, h2, hL, ⟨?_, hV⟩, fun x hx => ?_⟩
  · rw [hf, show L.length = l.length by rw [hL]; simp]; exact h6
  · obtain ⟨i, hi, rfl⟩ := List.getElem_of_mem hx
    obtain ⟨_, _, _, _, hb⟩ := key i hi (by omega)
    exact hb


set_option maxRecDepth 100000 in
set_option maxHeartbeats 400000 in
theorem bytesEq64 {w : World} (A B : Option Addr) (n m c d : Nat) (xs ys : List Int) (hA : Reads w 1 A n (nums .u8 xs)) (hB : Reads w 1 B m (nums .u8 ys)) (hx : ByteR xs) (hy : ByteR ys) :
    Calls Try.prog 64 #[.slice A n c, .slice B m d] w fun e w' => e = .returned (.bool (decide (xs = ys))) ∧ w = w' := by
  have ka : (convert 22 9 (.slice A n c)).run Try.prog w = .ok (.string (strOfNums xs)) w := run_bytes_string 22 5 9 Try.underlying22 Try.underlying5 Try.underlying9 hA
  have kb : (convert 22 9 (.slice B m d)).run Try.prog w = .ok (.string (strOfNums ys)) w := run_bytes_string 22 5 9 Try.underlying22 Try.underlying5 Try.underlying9 hB
  rw [← strOfNums_beq hx hy]
  go_enter Try.func64, Try.ntmps64
  go_wp2
  go_ret
  exact ⟨rfl, rfl⟩

/-- Are two alike? -/
def teq (x y : TOp) : Bool := decide (x = y)
theorem teq_true {x y : TOp} (h : x = y) : teq x y = true := decide_eq_true h
theorem teq_false {x y : TOp} (h : x ≠ y) : teq x y = false := decide_eq_false h
theorem top_ne1 {k l a b : Int} {x y : List Int} (h : k ≠ l) : teq (k, a, x) (l, b, y) = false := decide_eq_false (fun e => h (congrArg Prod.fst e))
theorem top_ne2 {k l a b : Int} {x y : List Int} (h : a ≠ b) : teq (k, a, x) (l, b, y) = false := decide_eq_false (fun e => h (congrArg (fun z => z.2.1) e))
theorem top_dec {k a : Int} {x y : List Int} : teq (k, a, x) (k, a, y) = decide (x = y) := by simp [teq]
set_option maxRecDepth 100000 in
set_option maxHeartbeats 1000000 in
theorem same42 {E w : World} {F : Asn} (k l a b : Int) (x y : List Int) (A B : Option Addr) (n m c d : Nat) (hx : ByteR x) (hy : ByteR y) (hS : Sat E F w) (hA : ∀ w, Sat E F w → Reads w 1 A n (nums .u8 x)) (hB : ∀ w, Sat E F w → Reads w 1 B m (nums .u8 y)) :
    Calls Try.prog 42 #[.agg #[.int .i64 k, .int .i64 a, .slice A n c], .agg #[.int .i64 l, .int .i64 b, .slice B m d]] w fun e w' => e = .returned (.bool (teq (k, a, x) (l, b, y))) ∧ Sat E F w' := by
  have h2 := (hS.alloc_drop (.cells #[.int .i64 k, .int .i64 a, .slice A n c] 61)).alloc_drop (.cells #[.int .i64 l, .int .i64 b, .slice B m d] 61)
  by_cases h : k = l
  · subst h
    by_cases h1 : a = b
    · subst h1
      rw [top_dec]
      go_enter Try.func42, Try.ntmps42
      go_wp2_with fail
      refine (bytesEq64 A B n m c d x y (hA _ h2) (hB _ h2) hx hy).mono ?_
      rintro e w3 ⟨rfl, rfl⟩
      go_wp2
      go_ret
      exact ⟨rfl, h2⟩
    · rw [top_ne2 h1]
      have z1 : (a == b) = false := beq_eq_false_iff_ne.2 h1
      clear h1
      go_enter Try.func42, Try.ntmps42
      go_wp2
      go_ret
      exact ⟨rfl, h2⟩
  · rw [top_ne1 h]
    have z1 : (k == l) = false := beq_eq_false_iff_ne.2 h
    clear h
    go_enter Try.func42, Try.ntmps42
    go_wp2
    go_ret
    exact ⟨rfl, h2⟩
set_option maxRecDepth 100000 in
set_option maxHeartbeats 1000000 in
theorem same43 {E w : World} {F : Asn} (k l a b : Int) (x y : List Int) (A B : Option Addr) (n m c d : Nat) (hx : ByteR x) (hy : ByteR y) (hS : Sat E F w) (hA : ∀ w, Sat E F w → Reads w 1 A n (nums .u8 x)) (hB : ∀ w, Sat E F w → Reads w 1 B m (nums .u8 y)) :
    Calls Try.prog 43 #[.agg #[.int .i64 k, .int .i64 a, .slice A n c], .agg #[.int .i64 l, .int .i64 b, .slice B m d]] w fun e w' => e = .returned (.bool (teq (k, a, x) (l, b, y))) ∧ Sat E F w' := by
  have h2 := (hS.alloc_drop (.cells #[.int .i64 k, .int .i64 a, .slice A n c] 65)).alloc_drop (.cells #[.int .i64 l, .int .i64 b, .slice B m d] 65)
  by_cases h : k = l
  · subst h
    by_cases h1 : a = b
    · subst h1
      rw [top_dec]
      go_enter Try.func43, Try.ntmps43
      go_wp2_with fail
      refine (bytesEq A B n m c d x y (hA _ h2) (hB _ h2) hx hy).mono ?_
      rintro e w3 ⟨rfl, rfl⟩
      go_wp2
      go_ret
      exact ⟨rfl, h2⟩
    · rw [top_ne2 h1]
      have z1 : (a == b) = false := beq_eq_false_iff_ne.2 h1
      clear h1
      go_enter Try.func43, Try.ntmps43
      go_wp2
      go_ret
      exact ⟨rfl, h2⟩
  · rw [top_ne1 h]
    have z1 : (k == l) = false := beq_eq_false_iff_ne.2 h
    clear h
    go_enter Try.func43, Try.ntmps43
    go_wp2
    go_ret
    exact ⟨rfl, h2⟩

end Go.Proofs.Ytacfaegljjgneaa
