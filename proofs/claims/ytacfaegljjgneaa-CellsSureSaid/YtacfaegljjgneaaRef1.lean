import Derived.Test.YtacfaegljjgneaaTrc8
namespace Go.Proofs.Ytacfaegljjgneaa
set_option linter.unusedVariables false
set_option linter.unusedSimpArgs false
open Go.RowKit Go.Proofs.Sep

theorem Try.info91 : (Try.prog.info? 91).map (fun i => (i.zero, i.size, i.bytes)) = some (some (.agg #[.int .i64 0, .slice none 0 0]), 2, 32) := by kernel_rfl
/-- What the document's store has beside. -/
structure RExt where
  ar : Bool
  after : Int
  kb : List Bool
  tv : Value
  t : TRep
structure RExt.Ok (x : RExt) (σ : St) (tr : List TOp) : Prop where
  ar : x.ar = decide (0 < σ.left)
  on : 0 < σ.left → x.after = σ.left ∧ x.kb = σ.keep
  t : x.t.Ok tr
def rsBlk (s : Nat) (σ : St) (r : Rep) (x : RExt) : Asn := blk s (.cells #[.int .i64 σ.size, .int .i64 x.after, .int .i64 σ.ops, .bool x.ar, .bool σ.down, r.kv, r.cv, r.fv, x.tv] 56)
def rsRest (σ : St) (tr : List TOp) (r : Rep) (x : RExt) : Asn := row 22 1 r.cv σ.n r.cvals * (row 91 2 r.fv σ.fl.length (flat r.fl) * (row 4 1 r.kv x.kb.length (bools x.kb) * (row 65 3 x.tv tr.length (tf x.t.L) * (bag x.t.P * bag r.P))))
def rstore (s : Nat) (σ : St) (tr : List TOp) : Asn := ex fun r : Rep => ex fun x : RExt => pur (r.Ok σ ∧ x.Ok σ tr) * (rsBlk s σ r x * rsRest σ tr r x)
abbrev ROP (s : Nat) (σ : St) (tr : List TOp) (r : Rep) (x : RExt) (F : Asn) : Asn := rsBlk s σ r x * (row 22 1 r.cv σ.n r.cvals * (row 91 2 r.fv σ.fl.length (flat r.fl) * (row 4 1 r.kv x.kb.length (bools x.kb) * (row 65 3 x.tv tr.length (tf x.t.L) * (bag x.t.P * (bag r.P * F))))))
theorem rop_eq (s : Nat) (σ : St) (tr : List TOp) (r : Rep) (x : RExt) (F : Asn) : rsBlk s σ r x * rsRest σ tr r x * F = ROP s σ tr r x F := by
  unfold rsRest ROP; ac_rfl
theorem rstore_open {E w : World} {F : Asn} {s : Nat} {σ : St} {tr : List TOp} (h : Sat E (rstore s σ tr * F) w) : ∃ (r : Rep) (x : RExt), r.Ok σ ∧ x.Ok σ tr ∧ Sat E (ROP s σ tr r x F) w := by
  obtain ⟨r, h⟩ := h.ex_left
  obtain ⟨x, h⟩ := h.ex_left
  have h1 : Sat E (pur (r.Ok σ ∧ x.Ok σ tr) * ROP s σ tr r x F) w := h.eq (by rw [← rop_eq]; exact star_assoc _ _ _)
  exact ⟨r, x, h1.pur_left.1.1, h1.pur_left.1.2, h1.pur_left.2⟩
theorem rstore_shut {E w : World} {F : Asn} {s : Nat} {σ : St} {tr : List TOp} {r : Rep} {x : RExt} (hr : r.Ok σ) (hx : x.Ok σ tr) (h : Sat E (ROP s σ tr r x F) w) : Sat E (rstore s σ tr * F) w :=
  Sat.intro_left r (Sat.intro_left x ((h.add_pur (p := r.Ok σ ∧ x.Ok σ tr) ⟨hr, hx⟩).eq (by rw [← rop_eq]; exact (star_assoc _ _ _).symm)))
theorem rstore_cells {E w : World} {F : Asn} {s : Nat} {σ : St} {r : Rep} {x : RExt} (h : Sat E (rsBlk s σ r x * F) w) : w.cell? ⟨s, 0, none⟩ = some (.int .i64 σ.size) ∧ w.cell? ⟨s, 1, none⟩ = some (.int .i64 x.after) ∧ w.cell? ⟨s, 2, none⟩ = some (.int .i64 σ.ops) ∧ w.cell? ⟨s, 3, none⟩ = some (.bool x.ar) ∧ w.cell? ⟨s, 4, none⟩ = some (.bool σ.down) ∧ w.cell? ⟨s, 5, none⟩ = some r.kv ∧ w.cell? ⟨s, 6, none⟩ = some r.cv ∧ w.cell? ⟨s, 7, none⟩ = some r.fv ∧ w.cell? ⟨s, 8, none⟩ = some x.tv :=
  ⟨h.cell_blk, h.cell_blk, h.cell_blk, h.cell_blk, h.cell_blk, h.cell_blk, h.cell_blk, h.cell_blk, h.cell_blk⟩
theorem rstore_slices {E w : World} {F : Asn} {s : Nat} {σ : St} {tr : List TOp} {r : Rep} {x : RExt} (h : Sat E (ROP s σ tr r x F) w) :
    ∃ A1 c1 A2 c2 A3 c3 A4 c4, r.cv = .slice A1 σ.n c1 ∧ r.fv = .slice A2 σ.fl.length c2 ∧ r.kv = .slice A3 x.kb.length c3 ∧ x.tv = .slice A4 tr.length c4 ∧ Reads w 1 A1 σ.n r.cvals ∧ Reads w 2 A2 σ.fl.length (flat r.fl) ∧ Reads w 1 A3 x.kb.length (bools x.kb) ∧ σ.fl.length ≤ c2 ∧ tr.length ≤ c4 := by
  obtain ⟨A1, c1, e1, _, _, r1⟩ := h.right.reads
  obtain ⟨A2, c2, e2, q2, _, r2⟩ := h.right.right.reads
  obtain ⟨A3, c3, e3, _, _, r3⟩ := h.right.right.right.reads
  obtain ⟨A4, c4, e4, q4, _, r4⟩ := h.right.right.right.right.reads
  exact ⟨A1, c1, A2, c2, A3, c3, A4, c4, e1, e2, e3, e4, r1, r2, r3, q2, q4⟩

set_option maxRecDepth 100000 in
set_option maxHeartbeats 400000 in
theorem rnew_bad {w : World} (n size : Int) (h : n < 1 ∨ 65536 < n ∨ size < 1 ∨ 4096 < size) : Calls Try.prog 28 #[.int .i64 n, .int .i64 size] w fun e w' => e = .returned (.tuple #[.pointer none, .int .i64 1]) ∧ w' = w := by
  by_cases h1 : n < 1
  · go_enter Try.func28, Try.ntmps28
    go_wp2
    go_ret2
    exact ⟨rfl, rfl⟩
  · by_cases h2 : 65536 < n
    · go_enter Try.func28, Try.ntmps28
      go_wp2
      go_ret2
      exact ⟨rfl, rfl⟩
    · by_cases h3 : size < 1
      · go_enter Try.func28, Try.ntmps28
        go_wp2
        go_ret2
        exact ⟨rfl, rfl⟩
      · have h4 : 4096 < size := by omega
        go_enter Try.func28, Try.ntmps28
        go_wp2
        go_ret2
        exact ⟨rfl, rfl⟩
theorem perm5 (A B C D G F : Asn) : A * (B * (C * (D * (G * F)))) = D * (G * (C * (B * (A * F)))) := by ac_rfl
set_option maxRecDepth 100000 in
set_option maxHeartbeats 1000000 in
theorem rnew {E w : World} {F : Asn} (n size : Nat) (h1 : 1 ≤ n) (h2 : n ≤ 65536) (h3 : 1 ≤ size) (h4 : size ≤ 4096) (hS : Sat E F w) :
    Calls Try.prog 28 #[.int .i64 n, .int .i64 size] w fun e w' => ∃ s, e = .returned (.tuple #[.pointer (some ⟨s, 0, none⟩), .int .i64 0]) ∧ Sat E (rstore s (St.new n size) [] * F) w' := by
  have hmk := fun w => run_make_row' (P := Try.prog) 42 22 (.slice none 0 0) 24 Try.underlying42 Try.info22 rfl .i64 .i64 n (by omega) (by omega) w
  have a1 := hS.row_made (.slice none 0 0) 22 n (by omega)
  have a2 := a1.alloc (.cells #[.int .i64 size, .int .i64 0, .int .i64 0, .bool false, .bool false, .slice none 0 0, .slice (some ⟨w.heap.size, 0, none⟩) n n, .slice none 0 0, .slice none 0 0] 56)
  rw [show (w.alloc (.cells (madeCells #[.slice none 0 0] n) 22)).heap.size = w.heap.size + 1 by simp] at a2
  have a3 : Sat E (row 65 3 (.slice none 0 0) 0 (tf []) * (row 4 1 (.slice none 0 0) 0 (bools []) * (row 91 2 (.slice none 0 0) 0 (flat []) * _))) _ := ((a2.row_nil (e := 91) (size := 2)).row_nil (e := 4) (size := 1)).row_nil (e := 65) (size := 3)
  have z1 : ¬ (65536 : Int) < (n : Int) := by omega
  have z2 : ¬ (4096 : Int) < (size : Int) := by omega
  have z3 : ¬ (n : Int) < 1 := by omega
  have z4 : ¬ (size : Int) < 1 := by omega
  have H3 := hid a3
  clear a1 a2 a3
  go_enter Try.func28, Try.ntmps28
  go_wp2
  go_ret2
  have hok : (Rep.mk [] (.slice (some ⟨w.heap.size, 0, none⟩) n n) (List.replicate n (.slice none 0 0)) (.slice none 0 0) [] (.slice none 0 0)).Ok (St.new n size) :=
    ⟨by simp [St.new], by simp [St.new], fun i g1 g2 => .inl ⟨by simp, by simp [St.new]⟩, rfl, fun i g1 _ => by simp at g1⟩
  have hxk : (RExt.mk false 0 [] (.slice none 0 0) ⟨[], []⟩).Ok (St.new n size) [] := ⟨rfl, fun h => by simp [St.new] at h, ⟨rfl, by simp⟩⟩
  refine ⟨w.heap.size + 1, by simp, rstore_shut hok hxk ?_⟩
  have h5 := H3.out.eq (perm5 _ _ _ _ _ _)
  rw [← emp_star F, ← emp_star (emp * F)] at h5
  exact h5
set_option maxRecDepth 100000 in
set_option maxHeartbeats 400000 in
theorem rflight_calls {E w : World} {F : Asn} (s : Nat) (σ : St) (tr : List TOp) (hS : Sat E (rstore s σ tr * F) w) :
    Calls Try.prog 36 #[.pointer (some ⟨s, 0, none⟩)] w fun e w' => e = .returned (.int .i64 σ.fl.length) ∧ w' = w := by
  obtain ⟨r, x, hr, hx, h⟩ := rstore_open hS
  obtain ⟨A1, c1, A2, c2, A3, c3, A4, c4, e1, e2, e3, e4, _, _, _, _, _⟩ := rstore_slices h
  obtain ⟨d0, d1, d2, d3, d4, d5, d6, d7, d8⟩ := rstore_cells h
  rw [e2] at d7
  clear e1 e2 e3 e4 hr hx
  go_enter Try.func36, Try.ntmps36
  go_wp2
  go_ret
  exact ⟨rfl, rfl⟩
set_option maxRecDepth 100000 in
set_option maxHeartbeats 400000 in
theorem rup_calls {E w : World} {F : Asn} (s : Nat) (σ : St) (tr : List TOp) (hS : Sat E (rstore s σ tr * F) w) :
    Calls Try.prog 35 #[.pointer (some ⟨s, 0, none⟩)] w fun e w' => e = .returned (.bool (!σ.down)) ∧ w' = w := by
  obtain ⟨r, x, hr, hx, h⟩ := rstore_open hS
  obtain ⟨d0, d1, d2, d3, d4, d5, d6, d7, d8⟩ := rstore_cells h
  clear hr hx
  go_enter Try.func35, Try.ntmps35
  go_wp2
  go_ret
  exact ⟨rfl, rfl⟩
theorem rops_cell {E w : World} {F : Asn} {s : Nat} {σ : St} {tr : List TOp} (hS : Sat E (rstore s σ tr * F) w) : w.cell? ⟨s, 2, none⟩ = some (.int .i64 σ.ops) := by
  obtain ⟨r, x, hr, hx, h⟩ := rstore_open hS
  exact (rstore_cells h).2.2.1
theorem rtrace_cell {E w : World} {F : Asn} {s : Nat} {σ : St} {tr : List TOp} (hS : Sat E (rstore s σ tr * F) w) : ∃ A c, tr.length ≤ c ∧ w.cell? ⟨s, 8, none⟩ = some (.slice A tr.length c) := by
  obtain ⟨r, x, hr, hx, h⟩ := rstore_open hS
  obtain ⟨A1, c1, A2, c2, A3, c3, A4, c4, e1, e2, e3, e4, _, _, _, _, h4⟩ := rstore_slices h
  have := (rstore_cells h).2.2.2.2.2.2.2.2
  rw [e4] at this
  exact ⟨A4, c4, h4, this⟩
set_option maxRecDepth 100000 in
set_option maxHeartbeats 400000 in
theorem rreboot_calls {E w : World} {F : Asn} (s : Nat) (σ : St) (tr : List TOp) (hS : Sat E (rstore s σ tr * F) w) :
    Calls Try.prog 34 #[.pointer (some ⟨s, 0, none⟩)] w fun e w' => e = .returned (.bool σ.down) ∧ Sat E (rstore s { σ with down := false } tr * F) w' := by
  obtain ⟨r, x, hr, hx, h⟩ := rstore_open hS
  obtain ⟨d0, d1, d2, d3, d4, d5, d6, d7, d8⟩ := rstore_cells h
  have f4 := h.free_blk (i := 4)
  have lt := h.lt_blk
  have h2 := h.setCell (i := 4) (.bool false)
  have hok : r.Ok { σ with down := false } := ⟨hr.n1, hr.n2, hr.cells, hr.f1, hr.fly⟩
  have hxk : x.Ok { σ with down := false } tr := ⟨hx.ar, hx.on, hx.t⟩
  have H3 := hid (rstore_shut (s := s) (σ := { σ with down := false }) (r := r) (x := x) (tr := tr) (F := F) hok hxk h2)
  have HS := hid hS
  rcases Bool.eq_false_or_eq_true σ.down with hd | hd
  · rw [hd] at d4
    have HD := hid hd
    clear h2 hok hxk h hr hx hd hS
    go_enter Try.func34, Try.ntmps34
    go_wp2
    go_ret
    rw [HD.out]
    exact ⟨rfl, H3.out⟩
  · rw [hd] at d4
    have HD := hid hd
    clear h2 hok hxk h hr hx hd hS H3
    go_enter Try.func34, Try.ntmps34
    go_wp2
    go_ret
    rw [HD.out]
    refine ⟨rfl, ?_⟩
    have := HS.out
    rwa [show ({ σ with down := false } : St) = σ by have := HD.out; cases σ; simp_all]
end Go.Proofs.Ytacfaegljjgneaa
