import Derived.Test.YtacfaegljjgneaaCells4
namespace Go.Proofs.Ytacfaegljjgneaa
set_option linter.unusedVariables false
set_option linter.unusedSimpArgs false
open Go.RowKit Go.Proofs.Sep

theorem permK (A B C D X F : Asn) : A * (B * (C * (D * (X * F)))) = D * (A * (B * (C * (X * F)))) := by ac_rfl
theorem permK2 (D A B C X F : Asn) : D * (A * (B * (C * (X * F)))) = A * (B * (C * (D * (X * F)))) := by ac_rfl
def keepFn (ka : List Bool) : Nat → Bool := fun i => ka.getD i false
/-- Down it goes. -/
def crash (ka : List Bool) (σ : St) : St := if σ.down = true then σ else { lands (keepFn ka) σ with left := 0, keep := [], down := true }
theorem crash_down {ka : List Bool} {σ : St} (h : σ.down = true) : crash ka σ = σ := if_pos h
theorem crash_up {ka : List Bool} {σ : St} (h : σ.down = false) : crash ka σ = { lands (keepFn ka) σ with left := 0, keep := [], down := true } := if_neg (by simp [h])

set_option maxRecDepth 100000 in
set_option maxHeartbeats 1000000 in
theorem crash_open {E w : World} {F : Asn} (s : Nat) (σ : St) (A : Option Addr) (n c : Nat) (ka : List Bool) (r : Rep) (hr : r.Ok σ) (h : Sat E (stBlk s σ r * (row 22 1 r.cv σ.n r.cvals * (row 87 2 r.fv σ.fl.length (flat r.fl) * (row 4 1 r.kv σ.keep.length (bools σ.keep) * (bag r.P * F))))) w)
    (hK : ∀ w, Sat E (row 4 1 r.kv σ.keep.length (bools σ.keep) * F) w → Reads w 1 A n (bools ka)) :
    Calls Try.prog 18 #[.pointer (some ⟨s, 0, none⟩), .slice A n c] w fun e w' => e = .returned (.bool (!σ.down)) ∧ Sat E (store s (crash ka σ) * F) w' := by
  obtain ⟨d0, d1, d2, d3, d4, d5, d6⟩ := store_cells h
  have hb := h.alloc (.cells #[.slice A n c] 23)
  have h2 : Sat E (stBlk s σ r * (row 22 1 r.cv σ.n r.cvals * (row 87 2 r.fv σ.fl.length (flat r.fl) * (row 4 1 r.kv σ.keep.length (bools σ.keep) * (bag r.P * (blk w.heap.size (.cells #[.slice A n c] 23) * F)))))) (w.alloc (.cells #[.slice A n c] 23)) := hb.eq (by ac_rfl)
  obtain ⟨y0, y1, y2, y3, y4, y5, y6⟩ := store_cells h2
  rcases Bool.eq_false_or_eq_true σ.down with hd | hd
  · have HD := hid hd
    have hfin := store_shut hr h2
    rw [hd] at y6 d6
    clear h h2 hb hd
    go_enter Try.func18, Try.ntmps18
    go_wp2
    go_ret
    rw [HD.out, crash_down HD.out]
    exact ⟨rfl, (hfin.eq (star_left_comm _ _ _)).right⟩
  · have HD := hid hd
    have hl := lands_some s σ (keepFn ka) w.heap.size r hr h2 (fun i w' hw => some_keep i w.heap.size A n c ka hw.right.cell_blk (hK w' hw.drop_mid))
    rw [hd] at y6 d6
    have hmf : ∀ (fn : Fn) (first cap : Array Value) (w : World), (Instr.makeFunc fn first cap).run Try.prog w = .ok (.func fn first cap) w := fun _ _ _ _ => rfl
    clear h h2 hb hd hr hK
    go_enter Try.func18, Try.ntmps18
    go_wp2_with fail
    refine hl.mono ?_
    clear hl
    rintro e w2 ⟨rfl, g⟩
    obtain ⟨r2, hr2, h3⟩ := store_open g
    have f3 := h3.free_blk (i := 3)
    have f4 := h3.free_blk (i := 4)
    have f6 := h3.free_blk (i := 6)
    obtain ⟨z0, z1, z2, z3, z4, z5, z6⟩ := store_cells h3
    have lt := h3.lt_blk
    have q1 := ((h3.setCell (i := 3) (.int .i64 0)).setCell (i := 4) (.slice none 0 0)).setCell (i := 6) (.bool true)
    have hok : ({ r2 with kv := .slice none 0 0 } : Rep).Ok { lands (keepFn ka) σ with left := 0, keep := [], down := true } := ⟨hr2.n1, hr2.n2, hr2.cells, hr2.f1, hr2.fly⟩
    have q2 : Sat E (row 4 1 (.slice none 0 0) 0 (bools []) * _) _ := (q1.eq (permK _ _ _ _ _ _)).right.row_nil
    have q3 := store_shut hok (q2.eq (permK2 _ _ _ _ _ _))
    have Q3 := hid (q3.eq (star_left_comm _ _ _)).right
    clear q1 q2 q3 hok hr2 h3 g
    go_wp2
    go_ret
    rw [HD.out, crash_up HD.out]
    exact ⟨rfl, Q3.out⟩
end Go.Proofs.Ytacfaegljjgneaa
