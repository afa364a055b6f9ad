import Derived.Test.YtacfaegljjgneaaCBase
namespace Go.Proofs.Ytacfaegljjgneaa
set_option linter.unusedVariables false
set_option linter.unusedSimpArgs false
open Go.RowKit Go.Proofs.Sep

/-- Rows of bytes that nobody turns any more. -/
def bag : List (Value × List Int) → Asn
  | [] => emp
  | x :: P => row 5 1 x.1 x.2.length (nums .u8 x.2) * bag P
theorem bag_at {E w : World} {P : List (Value × List Int)} : ∀ {G : Asn}, Sat E (bag P * G) w → ∀ x ∈ P, ∃ A c, x.1 = .slice A x.2.length c ∧ Reads w 1 A x.2.length (nums .u8 x.2) := by
  induction P with
  | nil => intro G h x hx; simp at hx
  | cons a P ih =>
    intro G h x hx
    have h' : Sat E (row 5 1 a.1 a.2.length (nums .u8 a.2) * (bag P * G)) w := h.eq (star_assoc _ _ _)
    rcases List.mem_cons.1 hx with rfl | hx
    · obtain ⟨A, c, e1, _, _, e4⟩ := h'.reads
      exact ⟨A, c, e1, e4⟩
    · exact ih h'.right x hx
theorem bag_add {E w : World} {P : List (Value × List Int)} {G : Asn} {v : Value} {b : List Int} (h : Sat E (row 5 1 v b.length (nums .u8 b) * (bag P * G)) w) : Sat E (bag ((v, b) :: P) * G) w :=
  h.eq (star_assoc _ _ _).symm

/-- What a store is, in plain lists. -/
structure St where
  n : Nat
  size : Nat
  cs : List (List Int)
  fl : List (Int × List Int)
  left : Int
  keep : List Bool
  ops : Int
  down : Bool
/-- How it lies in memory. -/
structure Rep where
  P : List (Value × List Int)
  cv : Value
  cvals : List Value
  fv : Value
  fl : List (Int × Value)
  kv : Value
/-- A cell's value and its bytes. -/
def Val (P : List (Value × List Int)) (size : Nat) (v : Value) (b : List Int) : Prop := (v = .slice none 0 0 ∧ b = List.replicate size 0) ∨ ((v, b) ∈ P ∧ b.length = size)
structure Rep.Ok (r : Rep) (σ : St) : Prop where
  n1 : r.cvals.length = σ.n
  n2 : σ.cs.length = σ.n
  cells : ∀ i (h1 : i < r.cvals.length) (h2 : i < σ.cs.length), Val r.P σ.size r.cvals[i] σ.cs[i]
  f1 : r.fl.length = σ.fl.length
  fly : ∀ i (h1 : i < r.fl.length) (h2 : i < σ.fl.length), r.fl[i].1 = σ.fl[i].1 ∧ (r.fl[i].2, σ.fl[i].2) ∈ r.P ∧ σ.fl[i].2.length = σ.size ∧ 0 ≤ σ.fl[i].1 ∧ σ.fl[i].1 < σ.n
def flat (l : List (Int × Value)) : List Value := l.flatMap fun x => [.int .i64 x.1, x.2]
theorem flat_length (l : List (Int × Value)) : (flat l).length = l.length * 2 := by
  induction l with
  | nil => rfl
  | cons a l ih => simp only [flat, List.flatMap_cons, List.length_append, List.length_cons, List.length_nil] at ih ⊢; omega
theorem flat_append (l m : List (Int × Value)) : flat (l ++ m) = flat l ++ flat m := by simp [flat]
theorem flat_at {l : List (Int × Value)} {k : Nat} (h : k < l.length) : (flat l)[k * 2]? = some (.int .i64 l[k].1) ∧ (flat l)[k * 2 + 1]? = some l[k].2 := by
  induction l generalizing k with
  | nil => simp at h
  | cons a l ih =>
    cases k with
    | zero => simp [flat]
    | succ k =>
      obtain ⟨h1, h2⟩ := ih (k := k) (by simpa using h)
      rw [show (k + 1) * 2 = k * 2 + 2 by omega]
      exact ⟨by simpa [flat] using h1, by simpa [flat] using h2⟩
def stBlk (s : Nat) (σ : St) (r : Rep) : Asn := blk s (.cells #[r.cv, .int .i64 σ.size, r.fv, .int .i64 σ.left, r.kv, .int .i64 σ.ops, .bool σ.down] 84)
def stRest (σ : St) (r : Rep) : Asn := row 22 1 r.cv σ.n r.cvals * (row 87 2 r.fv σ.fl.length (flat r.fl) * (row 4 1 r.kv σ.keep.length (bools σ.keep) * bag r.P))
def store (s : Nat) (σ : St) : Asn := ex fun r : Rep => pur (r.Ok σ) * (stBlk s σ r * stRest σ r)
theorem store_open {E w : World} {F : Asn} {s : Nat} {σ : St} (h : Sat E (store s σ * F) w) : ∃ r : Rep, r.Ok σ ∧ Sat E (stBlk s σ r * (row 22 1 r.cv σ.n r.cvals * (row 87 2 r.fv σ.fl.length (flat r.fl) * (row 4 1 r.kv σ.keep.length (bools σ.keep) * (bag r.P * F))))) w := by
  obtain ⟨r, h⟩ := h.ex_left
  have h1 : Sat E (pur (r.Ok σ) * (stBlk s σ r * (row 22 1 r.cv σ.n r.cvals * (row 87 2 r.fv σ.fl.length (flat r.fl) * (row 4 1 r.kv σ.keep.length (bools σ.keep) * (bag r.P * F)))))) w := h.eq (by unfold stRest; ac_rfl)
  exact ⟨r, h1.pur_left.1, h1.pur_left.2⟩
theorem store_shut {E w : World} {F : Asn} {s : Nat} {σ : St} {r : Rep} (hr : r.Ok σ) (h : Sat E (stBlk s σ r * (row 22 1 r.cv σ.n r.cvals * (row 87 2 r.fv σ.fl.length (flat r.fl) * (row 4 1 r.kv σ.keep.length (bools σ.keep) * (bag r.P * F))))) w) : Sat E (store s σ * F) w :=
  Sat.intro_left r ((h.add_pur hr).eq (by unfold stRest; ac_rfl))
/-- The block's seven cells. -/
theorem store_cells {E w : World} {F : Asn} {s : Nat} {σ : St} {r : Rep} (h : Sat E (stBlk s σ r * F) w) : w.cell? ⟨s, 0, none⟩ = some r.cv ∧ w.cell? ⟨s, 1, none⟩ = some (.int .i64 σ.size) ∧ w.cell? ⟨s, 2, none⟩ = some r.fv ∧ w.cell? ⟨s, 3, none⟩ = some (.int .i64 σ.left) ∧ w.cell? ⟨s, 4, none⟩ = some r.kv ∧ w.cell? ⟨s, 5, none⟩ = some (.int .i64 σ.ops) ∧ w.cell? ⟨s, 6, none⟩ = some (.bool σ.down) :=
  ⟨h.cell_blk, h.cell_blk, h.cell_blk, h.cell_blk, h.cell_blk, h.cell_blk, h.cell_blk⟩

theorem perm4 (A B C D F : Asn) : A * (B * (C * (D * F))) = C * (D * (B * (A * F))) := by ac_rfl
/-- A new store. -/
def St.new (n size : Nat) : St := ⟨n, size, List.replicate n (List.replicate size 0), [], 0, [], 0, false⟩
set_option maxRecDepth 100000 in
set_option maxHeartbeats 400000 in
theorem cellsNew_bad {w : World} (n size : Int) (h : n < 1 ∨ 65536 < n ∨ size < 1 ∨ 4096 < size) : Calls Try.prog 14 #[.int .i64 n, .int .i64 size] w fun e w' => e = .returned (.tuple #[.pointer none, .int .i64 1]) ∧ w' = w := by
  rcases h with h | h | h | h
  all_goals
    by_cases h1 : n < 1
    · go_enter Try.func14, Try.ntmps14
      go_wp2
      go_ret2
      exact ⟨rfl, rfl⟩
    · by_cases h2 : 65536 < n
      · go_enter Try.func14, Try.ntmps14
        go_wp2
        go_ret2
        exact ⟨rfl, rfl⟩
      · by_cases h3 : size < 1
        · go_enter Try.func14, Try.ntmps14
          go_wp2
          go_ret2
          exact ⟨rfl, rfl⟩
        · have h4 : 4096 < size := by omega
          go_enter Try.func14, Try.ntmps14
          go_wp2
          go_ret2
          exact ⟨rfl, rfl⟩
set_option maxRecDepth 100000 in
set_option maxHeartbeats 1000000 in
theorem cellsNew {E w : World} {F : Asn} (n size : Nat) (h1 : 1 ≤ n) (h2 : n ≤ 65536) (h3 : 1 ≤ size) (h4 : size ≤ 4096) (hS : Sat E F w) :
    Calls Try.prog 14 #[.int .i64 n, .int .i64 size] w fun e w' => ∃ s, e = .returned (.tuple #[.pointer (some ⟨s, 0, none⟩), .int .i64 0]) ∧ Sat E (store s (St.new n size) * F) w' := by
  have hmk := fun w => run_make_row' (P := Try.prog) 42 22 (.slice none 0 0) 24 Try.underlying42 Try.info22 rfl .i64 .i64 n (by omega) (by omega) w
  have a1 := hS.row_made (.slice none 0 0) 22 n (by omega)
  have a2 := a1.alloc (.cells #[.slice (some ⟨w.heap.size, 0, none⟩) n n, .int .i64 size, .slice none 0 0, .int .i64 0, .slice none 0 0, .int .i64 0, .bool false] 84)
  rw [show (w.alloc (.cells (madeCells #[.slice none 0 0] n) 22)).heap.size = w.heap.size + 1 by simp] at a2
  have a3 : Sat E (row 4 1 (.slice none 0 0) 0 (bools []) * (row 87 2 (.slice none 0 0) 0 (flat []) * _)) _ := (a2.row_nil (e := 87) (size := 2)).row_nil (e := 4) (size := 1)
  have z1 : ¬ (65536 : Int) < (n : Int) := by omega
  have z2 : ¬ (4096 : Int) < (size : Int) := by omega
  have z3 : ¬ (n : Int) < 1 := by omega
  have z4 : ¬ (size : Int) < 1 := by omega
  have H3 := hid a3
  clear a1 a2 a3
  go_enter Try.func14, Try.ntmps14
  go_wp2
  go_ret2
  have hok : (Rep.mk [] (.slice (some ⟨w.heap.size, 0, none⟩) n n) (List.replicate n (.slice none 0 0)) (.slice none 0 0) [] (.slice none 0 0)).Ok (St.new n size) :=
    ⟨by simp [St.new], by simp [St.new], fun i g1 g2 => .inl ⟨by simp, by simp [St.new]⟩, rfl, fun i g1 _ => by simp at g1⟩
  refine ⟨w.heap.size + 1, by simp, store_shut hok ?_⟩
  have h5 := H3.out.eq (perm4 _ _ _ _ _)
  rw [← emp_star F] at h5
  exact h5
end Go.Proofs.Ytacfaegljjgneaa
