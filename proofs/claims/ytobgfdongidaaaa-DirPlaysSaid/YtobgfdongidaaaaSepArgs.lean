/- What comes in, read as data of Lean's own: numbers, bools, texts, slices and structs of these, out of the form's reading. No project text; nothing here is trusted. -/
import Derived.Test.YtobgfdongidaaaaSepLaws
import Derived.SizedLaws
import Derived.ChangeSlices
import Derived.ChangeArms
import Derived.Deep.Slices
namespace Go.Proofs.Sep
set_option linter.unusedVariables false
set_option linter.unusedSimpArgs false
open Go.RowKit Go.ChangeShapes Go.WideShapes

/-- How cells read as data. -/
structure Dec (α : Type) where
  size : Nat
  rel : World → α → List Value → Prop
  len : ∀ {w x cs}, rel w x cs → cs.length = size
  keep : ∀ {w w1 x cs}, rel w x cs → (∀ k, k < w.heap.size → w1.heap[k]? = w.heap[k]?) → rel w1 x cs
  one : ∀ {w x cs}, rel w x cs → ∀ u ∈ cs, u.oneCell' = true

def decInt (k : IntKind) : Dec Int where
  size := 1
  rel _ x cs := cs = [.int k x] ∧ (Lit.int k x).wf = true
  len h := by rw [h.1]; rfl
  keep h _ := h
  one h := by rw [h.1]; intro u hu; simp at hu; subst hu; rfl
def decBool : Dec Bool where
  size := 1
  rel _ x cs := cs = [.bool x]
  len h := by rw [h]; rfl
  keep h _ := h
  one h := by rw [h]; intro u hu; simp at hu; subst hu; rfl
def decStr : Dec ByteArray where
  size := 1
  rel _ x cs := cs = [.string x] ∧ x.size ≤ 140737488351232
  len h := by rw [h.1]; rfl
  keep h _ := h
  one h := by rw [h.1]; intro u hu; simp at hu; subst hu; rfl
def decPair {α β : Type} (d1 : Dec α) (d2 : Dec β) : Dec (α × β) where
  size := d1.size + d2.size
  rel w x cs := ∃ c1 c2, cs = c1 ++ c2 ∧ d1.rel w x.1 c1 ∧ d2.rel w x.2 c2
  len := fun ⟨c1, c2, h, h1, h2⟩ => by rw [h, List.length_append, d1.len h1, d2.len h2]
  keep := fun ⟨c1, c2, h, h1, h2⟩ hk => ⟨c1, c2, h, d1.keep h1 hk, d2.keep h2 hk⟩
  one := fun ⟨c1, c2, h, h1, h2⟩ u hu => by
    rw [h, List.mem_append] at hu
    rcases hu with hu | hu
    · exact d1.one h1 u hu
    · exact d2.one h2 u hu

theorem flatten_length {size : Nat} : ∀ {css : List (List Value)}, (∀ c ∈ css, c.length = size) → css.flatten.length = css.length * size
  | [], _ => by simp
  | c :: css, h => by
    rw [List.flatten_cons, List.length_append, h c (by simp), flatten_length (fun c hc => h c (by simp [hc])), List.length_cons, Nat.add_mul, Nat.one_mul, Nat.add_comm]
theorem flatten_at {size : Nat} : ∀ {css : List (List Value)} (_ : ∀ c ∈ css, c.length = size) (i j : Nat) (hi : i < css.length) (_ : j < size), css.flatten[i * size + j]? = css[i][j]?
  | [], _, _, _, hi, _ => by simp at hi
  | c :: css, h, 0, j, _, hj => by
    have := h c (by simp)
    simp [List.getElem?_append_left (show j < c.length by omega)]
  | c :: css, h, i + 1, j, hi, hj => by
    have hc := h c (by simp)
    rw [List.flatten_cons, List.getElem?_append_right (by rw [hc, Nat.add_mul]; omega)]
    rw [show (i + 1) * size + j - c.length = i * size + j by rw [hc, Nat.add_mul]; omega]
    rw [flatten_at (fun c hc => h c (by simp [hc])) i j (by simpa using hi) hj]
    simp

/-- A slice that came in (elements of so many bytes). -/
def decSlice {α : Type} (bytes : Nat) (d : Dec α) : Dec (List α) where
  size := 1
  rel w l cs := ∃ (A : Option Addr) (c : Nat) (css : List (List Value)), cs = [.slice A l.length c] ∧ l.length ≤ c ∧ c ≤ maxLen ∧ l.length * bytes ≤ 140737488351232 ∧ css.length = l.length ∧
    (∀ i (h1 : i < l.length) (h2 : i < css.length), d.rel w l[i] css[i]) ∧ Reads w d.size A l.length css.flatten
  len := fun ⟨_, _, _, h, _⟩ => by rw [h]; rfl
  keep := fun ⟨A, c, css, h, h1, h2, h3, h4, h5, h6⟩ hk => ⟨A, c, css, h, h1, h2, h3, h4, fun i a b => d.keep (h5 i a b) hk, h6.keep hk⟩
  one := fun ⟨_, _, _, h, _⟩ => by rw [h]; intro u hu; simp at hu; subst hu; rfl

/-- Whatever the form reads at type t reads so. -/
def From (P : Program) (t : TypeId) {α : Type} (d : Dec α) : Prop :=
  ∀ (H : Type) (enc : TypeId × Value → H) (w : World) (base : Nat) (spare : Nat → Bool) (held : Bool) (fuel : Nat) (cs : List Value) (x : DataW H × List MemPlace),
    DataW.trod enc P w base spare held fuel t cs = some x → (∀ n ∈ x.1.weights P t, n ≤ reachBytes) → ∃ v, d.rel w v cs

theorem from_int {P : Program} {t : TypeId} {k : IntKind} (ht : P.underlying t = some (.int k)) : From P t (decInt k) := by
  intro H enc w base spare held fuel cs x h _
  obtain ⟨n, rfl, _, hw⟩ := DataW.trod_int ht h
  exact ⟨n, rfl, hw⟩
theorem from_bool {P : Program} {t : TypeId} (ht : P.underlying t = some .bool) : From P t decBool := by
  intro H enc w base spare held fuel cs x h _
  obtain ⟨n, rfl, _⟩ := DataW.trod_bool ht h
  exact ⟨n, rfl⟩
theorem from_str {P : Program} {t : TypeId} (ht : P.underlying t = some .string) : From P t decStr := by
  intro H enc w base spare held fuel cs x h hw
  obtain ⟨s, rfl, rfl, _⟩ := DataW.trod_string ht h
  refine ⟨s, rfl, ?_⟩
  have := hw s.data.toList.length (by simp [DataW.weights])
  simpa [reachBytes] using this

theorem mem_weightsAll {H : Type} {P : Program} {e : TypeId} {d : DataW H} {n : Nat} : ∀ {l : List (DataW H)}, d ∈ l → n ∈ d.weights P e → n ∈ DataW.weightsAll P e l
  | [], h, _ => by simp at h
  | a :: l, h, hn => by
    rw [DataW.weightsAll, List.mem_append]
    rcases List.mem_cons.1 h with rfl | h
    · exact .inl hn
    · exact .inr (mem_weightsAll h hn)

theorem from_slice {P : Program} {t e : TypeId} {α : Type} [Inhabited α] {d : Dec α} {bytes : Nat} (ht : P.underlying t = some (.slice e)) (hs : P.cellsOf e = d.size) (hb : P.bytesOf e = bytes) (hd : From P e d) : From P t (decSlice bytes d) := by
  intro H enc w base spare held fuel cs x h hw
  rcases Deep.open_slice ht h with ⟨rfl, rfl⟩ | ⟨a, len, cap, m, n, D, Pl, rfl, hba, hl, hm, hmm, rfl, hx⟩
  · exact ⟨[], none, 0, [], rfl, Nat.le_refl _, by unfold maxLen; omega, by simp, rfl, fun i h => by simp at h, by simp, by simp, fun _ => rfl, fun _ h => by cases h⟩
  · have hlm : len ≤ m := by rw [hmm]; split <;> omega
    have hch : ∀ i, i < len → ∃ y : α × List Value, w.cells? base (a.add (i * P.cellsOf e)) (P.cellsOf e) = some y.2 ∧ d.rel w y.1 y.2 := fun i hi => by
      obtain ⟨cs', h1, h2⟩ := hx i (by omega)
      obtain ⟨v, hv⟩ := hd H enc w base spare held n cs' _ h2 (fun k hk => by
        refine hw k ?_
        simp only [DataW.weights, ht, List.mem_cons, List.mem_append]
        exact .inr (.inl (mem_weightsAll (d := D i) (List.mem_map.2 ⟨i, List.mem_range.2 hi, rfl⟩) hk)))
      exact ⟨(v, cs'), h1, hv⟩
    haveI : Inhabited (α × List Value) := ⟨(default, [])⟩
    obtain ⟨f, hf⟩ := Deep.choose_lt hch
    have hlen : ∀ c ∈ (List.range len).map (fun i => (f i).2), c.length = d.size := by
      intro c hc
      obtain ⟨i, hi, rfl⟩ := List.mem_map.1 hc
      exact d.len (hf i (List.mem_range.1 hi)).2
    refine ⟨(List.range len).map fun i => (f i).1, some a, cap, (List.range len).map fun i => (f i).2, by simp, by simpa using hl, hm, ?_, by simp, fun i h1 h2 => ?_, ?_, ?_, fun h => (by cases h), fun ad had j u hu => ?_⟩
    · have := hw ((((List.range len).map D).length + ((List.range (m - len)).map fun j => D (len + j)).length) * P.bytesOf e) (by simp [DataW.weights, ht])
      simp [reachBytes, hb] at this ⊢
      have hle : len * bytes ≤ (len + (m - len)) * bytes := Nat.mul_le_mul_right _ (by omega)
      omega
    · simp at h1
      simpa using (hf i h1).2
    · rw [flatten_length hlen]; simp
    · unfold maxLen at hm; simp; omega
    · cases had
      have hj : j < len * d.size := by
        have := (List.getElem?_eq_some_iff.1 hu).1
        rw [flatten_length hlen] at this
        simpa using this
      have hp : 0 < d.size := by
        rcases Nat.eq_zero_or_pos d.size with h | h
        · rw [h] at hj; omega
        · exact h
      have hi : j / d.size < len := (Nat.div_lt_iff_lt_mul hp).2 hj
      have hr : j % d.size < d.size := Nat.mod_lt _ hp
      have he : j = (j / d.size) * d.size + j % d.size := by rw [Nat.mul_comm]; exact (Nat.div_add_mod j d.size).symm
      obtain ⟨_, hcl, hcc⟩ := World.cells?_some (hf _ hi).1
      rw [hs] at hcc
      have h2 := hcc _ hr
      rw [Deep.add_add, ← he] at h2
      rw [h2]
      rw [he, flatten_at hlen _ _ (by simpa using hi) hr] at hu
      simpa using hu

theorem weightsEach_get {H : Type} {P : Program} {n : Nat} : ∀ {ts : List TypeId} {ds : List (DataW H)} (i : Nat) (t : TypeId) (d : DataW H), ts[i]? = some t → ds[i]? = some d → n ∈ d.weights P t → n ∈ DataW.weightsEach P ts ds
  | [], _, _, _, _, h, _, _ => by simp at h
  | _ :: _, [], _, _, _, _, h, _ => by simp at h
  | t :: ts, d :: ds, 0, t', d', h1, h2, hn => by
    simp at h1 h2; subst h1; subst h2
    rw [DataW.weightsEach, List.mem_append]; exact .inl hn
  | t :: ts, d :: ds, i + 1, t', d', h1, h2, hn => by
    rw [DataW.weightsEach, List.mem_append]; exact .inr (weightsEach_get i t' d' (by simpa using h1) (by simpa using h2) hn)

/-- A struct's fields from some offset on. -/
def FromFields (P : Program) (fs : List Field) (off : Nat) {α : Type} (d : Dec α) : Prop :=
  ∀ (H : Type) (enc : TypeId × Value → H) (w : World) (base : Nat) (spare : Nat → Bool) (held : Bool) (fuel : Nat) (cs : List Value) (xs : List (DataW H × List MemPlace)),
    xs.length = fs.length → (∀ (i : Nat) (f : Field), fs[i]? = some f → DataW.trod enc P w base spare held fuel f.type ((cs.drop f.offset).take (P.cellsOf f.type)) = xs[i]?) →
    (∀ n ∈ DataW.weightsEach P (fs.map (·.type)) (xs.map (·.1)), n ≤ reachBytes) → cs.length = off + d.size → ∃ v, d.rel w v (cs.drop off)

theorem from_field {P : Program} {f : Field} {α : Type} {d : Dec α} {off : Nat} (ho : f.offset = off) (hs : P.cellsOf f.type = d.size) (hd : From P f.type d) : FromFields P [f] off d := by
  intro H enc w base spare held fuel cs xs hl h hw hcs
  have h0 := h 0 f rfl
  match xs, hl with
  | [x], _ =>
    simp only [List.getElem?_cons_zero] at h0
    obtain ⟨v, hv⟩ := hd H enc w base spare held fuel _ x h0 (fun n hn => hw n (by simp [DataW.weightsEach, hn]))
    refine ⟨v, ?_⟩
    rw [ho, hs, List.take_of_length_le (by rw [List.length_drop, hcs]; omega)] at hv
    exact hv
theorem from_fields {P : Program} {f : Field} {fs : List Field} {α β : Type} {d1 : Dec α} {d2 : Dec β} {off : Nat} (ho : f.offset = off) (hs : P.cellsOf f.type = d1.size) (hd : From P f.type d1) (hf : FromFields P fs (off + d1.size) d2) :
    FromFields P (f :: fs) off (decPair d1 d2) := by
  intro H enc w base spare held fuel cs xs hl h hw hcs
  match xs, hl with
  | x :: xs, hl =>
    have h0 := h 0 f rfl
    simp only [List.getElem?_cons_zero] at h0
    obtain ⟨v, hv⟩ := hd H enc w base spare held fuel _ x h0 (fun n hn => hw n (by simp [DataW.weightsEach, hn]))
    rw [ho, hs] at hv
    obtain ⟨v2, hv2⟩ := hf H enc w base spare held fuel cs xs (by simpa using hl) (fun i g hg => by simpa using h (i + 1) g (by simpa using hg)) (fun n hn => hw n (by
      simp only [List.map_cons, DataW.weightsEach, List.mem_append]; exact .inr hn)) (by rw [hcs]; simp [decPair]; omega)
    refine ⟨(v, v2), _, _, ?_, hv, hv2⟩
    rw [← List.drop_drop]
    exact (List.take_append_drop _ _).symm
theorem from_struct {P : Program} {t : TypeId} {fs : Array Field} {α : Type} {d : Dec α} (ht : P.underlying t = some (.struct fs)) (hs : P.cellsOf t = d.size) (hf : FromFields P fs.toList 0 d) : From P t d := by
  intro H enc w base spare held fuel cs x h hw
  obtain ⟨xs, n, rfl, rfl, hcl, hxl, hx⟩ := DataW.trod_struct ht h
  have := hf H enc w base spare held n cs xs (by simpa using hxl) (fun i f hi => hx i f (by simpa using hi)) (fun k hk => hw k (by simpa [DataW.weights, ht] using hk)) (by rw [hcl, hs]; omega)
  simpa using this

/-- Of an argument: out of the form's 'Trod', the bounds off the weights. -/
theorem From.arg {P : Program} {t : TypeId} {α : Type} {d : Dec α} (hd : From P t d) {H : Type} {enc : TypeId × Value → H} {w : World} {base : Nat} {spare : Nat → Bool} {held : Bool} {v : Value} {x : DataW H} {ps : List MemPlace}
    (h : DataW.Trod enc P w base spare held t v x ps) {ts : List TypeId} {ds : List (DataW H)} (hsz : (DataW.weightsEach P ts ds).all (· ≤ reachBytes) = true) (j : Nat) (hts : ts[j]? = some t) (hds : ds[j]? = some x) : ∃ y, d.rel w y v.cells.toList := by
  obtain ⟨fuel, hf⟩ := h
  refine hd H enc w base spare held fuel _ _ hf fun n hn => ?_
  have := List.all_eq_true.1 hsz n (weightsEach_get j t x hts hds hn)
  simpa using this

/-- A slice of numbers. -/
theorem dec_ints {k : IntKind} {bytes : Nat} {w : World} {l : List Int} {cs : List Value} (h : (decSlice bytes (decInt k)).rel w l cs) :
    ∃ A c, cs = [.slice A l.length c] ∧ l.length ≤ c ∧ c ≤ maxLen ∧ l.length * bytes ≤ 140737488351232 ∧ Reads w 1 A l.length (nums k l) ∧ ∀ x ∈ l, (Lit.int k x).wf = true := by
  obtain ⟨A, c, css, h0, h1, h2, h3, h4, h5, h6⟩ := h
  have he : css.flatten = nums k l := by
    have : css = l.map fun x => [Value.int k x] := by
      apply List.ext_getElem
      · simpa using h4
      · intro i a b
        rw [(h5 i (by simpa using b) a).1]; simp
    rw [this]
    clear this h0 h1 h2 h3 h4 h5 h6
    induction l with
    | nil => rfl
    | cons a l ih => simp [nums] at ih ⊢; exact ih
  refine ⟨A, c, h0, h1, h2, h3, he ▸ h6, fun x hx => ?_⟩
  obtain ⟨i, hi, rfl⟩ := List.getElem_of_mem hx
  exact (h5 i hi (by omega)).2

/-- A slice of pairs of numbers. -/
def pairs (l : List (Int × Int)) : List Value := l.flatMap fun p => [.int .i64 p.1, .int .i64 p.2]
theorem pairs_length (l : List (Int × Int)) : (pairs l).length = l.length * 2 := by
  induction l with
  | nil => rfl
  | cons a l ih => simp [pairs] at ih ⊢; omega
theorem pairs_at0 {l : List (Int × Int)} {k : Nat} (h : k < l.length) : (pairs l)[k * 2]? = some (.int .i64 l[k].1) := by
  induction l generalizing k with
  | nil => simp at h
  | cons a l ih =>
    cases k with
    | zero => simp [pairs]
    | succ k =>
      have := ih (k := k) (by simpa using h)
      rw [show (k + 1) * 2 = k * 2 + 2 by omega]
      simpa [pairs] using this
theorem pairs_at1 {l : List (Int × Int)} {k : Nat} (h : k < l.length) : (pairs l)[k * 2 + 1]? = some (.int .i64 l[k].2) := by
  induction l generalizing k with
  | nil => simp at h
  | cons a l ih =>
    cases k with
    | zero => simp [pairs]
    | succ k =>
      have := ih (k := k) (by simpa using h)
      rw [show (k + 1) * 2 + 1 = k * 2 + 1 + 2 by omega]
      simpa [pairs] using this
theorem dec_pairs {bytes : Nat} {w : World} {l : List (Int × Int)} {cs : List Value} (h : (decSlice bytes (decPair (decInt .i64) (decInt .i64))).rel w l cs) :
    ∃ A c, cs = [.slice A l.length c] ∧ l.length ≤ c ∧ c ≤ maxLen ∧ l.length * bytes ≤ 140737488351232 ∧ Reads w 2 A l.length (pairs l) ∧ ∀ x ∈ l, (Lit.int .i64 x.1).wf = true ∧ (Lit.int .i64 x.2).wf = true := by
  obtain ⟨A, c, css, h0, h1, h2, h3, h4, h5, h6⟩ := h
  have he : css.flatten = pairs l := by
    have : css = l.map fun p => [Value.int .i64 p.1, Value.int .i64 p.2] := by
      apply List.ext_getElem
      · simpa using h4
      · intro i a b
        obtain ⟨c1, c2, e, r1, r2⟩ := h5 i (by simpa using b) a
        rw [e, r1.1, r2.1]; simp
    rw [this, pairs, List.flatMap_def]
  refine ⟨A, c, h0, h1, h2, h3, he ▸ h6, fun x hx => ?_⟩
  obtain ⟨i, hi, rfl⟩ := List.getElem_of_mem hx
  obtain ⟨c1, c2, e, r1, r2⟩ := h5 i hi (by omega)
  exact ⟨r1.2, r2.2⟩
end Go.Proofs.Sep
