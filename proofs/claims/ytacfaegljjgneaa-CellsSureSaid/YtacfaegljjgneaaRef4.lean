import Derived.Test.YtacfaegljjgneaaRef3
import Derived.Deep.RegionLaw
namespace Go.Proofs.Ytacfaegljjgneaa
set_option linter.unusedVariables false
set_option linter.unusedSimpArgs false
open Go.RowKit Go.Proofs.Sep

theorem rcrash_calls {E w : World} {F : Asn} (s : Nat) (σ : St) (tr : List TOp) (A : Option Addr) (c : Nat) (ka : List Bool) (hS : Sat E (rstore s σ tr * F) w) (hK : ∀ w, Sat E F w → Reads w 1 A ka.length (bools ka)) :
    Calls Try.prog 33 #[.pointer (some ⟨s, 0, none⟩), .slice A ka.length c] w fun e w' => e = .returned (.bool (!σ.down)) ∧ Sat E (rstore s (crash ka σ) tr * F) w' := by
  obtain ⟨r, x, hr, hx, h⟩ := rstore_open hS
  exact rcrash_open s σ tr A c ka r x hr (fun _ => hx) hx.t h (fun w hw => hK w hw.right)
set_option maxRecDepth 100000 in
set_option maxHeartbeats 600000 in
theorem rbegin_calls {E w : World} {F : Asn} (s : Nat) (σ : St) (tr : List TOp) (ho : 0 ≤ σ.ops) (ho2 : σ.ops ≤ 1000000) (hl : 0 ≤ σ.left) (hl2 : σ.left ≤ 9223372036854775807) (hS : Sat E (rstore s σ tr * F) w) :
    Calls Try.prog 63 #[.pointer (some ⟨s, 0, none⟩)] w fun e w' => e = .returned (.bool (begins σ).1) ∧ Sat E (rstore s (begins σ).2 tr * F) w' := by
  rcases Bool.eq_false_or_eq_true σ.down with hd | hd
  · rw [begins_down hd]
    obtain ⟨r, x, hr, hx, h⟩ := rstore_open hS
    obtain ⟨d0, d1, d2, d3, d4, d5, d6, d7, d8⟩ := rstore_cells h
    rw [hd] at d4
    clear hd hr hx
    go_enter Try.func63, Try.ntmps63
    go_wp2
    go_ret
    exact ⟨rfl, hS⟩
  · obtain ⟨r, x, hr, hx, h⟩ := rstore_open hS
    obtain ⟨d0, d1, d2, d3, d4, d5, d6, d7, d8⟩ := rstore_cells h
    have f2 := h.free_blk (i := 2)
    have lt := h.lt_blk
    have wo := i64_wrap (x := σ.ops + 1) (by omega) (by omega)
    have h2 := h.setCell (i := 2) (.int .i64 (σ.ops + 1))
    have hok : r.Ok { σ with ops := σ.ops + 1 } := ⟨hr.n1, hr.n2, hr.cells, hr.f1, hr.fly⟩
    have hxk : x.Ok { σ with ops := σ.ops + 1 } tr := ⟨hx.ar, hx.on, hx.t⟩
    have h3 : Sat E (ROP s { σ with ops := σ.ops + 1 } tr r x F) _ := h2
    obtain ⟨z0, z1, z2, z3, z4, z5, z6, z7, z8⟩ := rstore_cells h3
    simp only at z0 z1 z2 z3 z4 z5 z6 z7 z8
    rw [hd] at d4
    rcases Int.lt_or_le 0 σ.left with hpos | hpos
    · have har : x.ar = true := hx.ar.trans (decide_eq_true hpos)
      obtain ⟨ha1, ha2⟩ := hx.on hpos
      rw [har] at z3
      rw [ha1] at z1
      have f1 := h3.free_blk (i := 1)
      have lt1 := h3.lt_blk
      have wl := i64_wrap (x := σ.left - 1) (by omega) (by omega)
      by_cases h1 : σ.left = 1
      · rw [begins_falls hd h1]
        have h4 := h3.setCell (i := 1) (.int .i64 (0))
        have h5 : Sat E (ROP s { σ with ops := σ.ops + 1 } tr r { x with after := 0 } F) _ := h4
        obtain ⟨y0, y1, y2, y3, y4, y5, y6, y7, y8⟩ := rstore_cells h5
        simp only at y0 y1 y2 y3 y4 y5 y6 y7 y8
        obtain ⟨A1, c1, A2, c2, A3, c3, A4, c4, e1, e2, e3, e4, _, _, _, _, _⟩ := rstore_slices h5
        simp only at e1 e2 e3 e4
        have hkb : Hid (x.kb = σ.keep) := ha2
        have hc := rcrash_open (F := F) s { σ with ops := σ.ops + 1 } tr A3 c3 σ.keep r { x with after := 0 } hok (fun h => by rw [hd] at h; cases h) hx.t h5 (fun w hw => by rw [e3, ← ha2] at *; exact hw.reads_at)
        rw [e3, ha2] at y5
        rw [h1] at z1 wl
        have wl2 : IntKind.i64.wrap 0 = 0 := by decide
        have HC := hid hc
        simp only [har] at y3
        clear hc e1 e2 e3 e4 h2 h3 h4 h5 h hok hxk hr hx hS hd h1 hl hl2 har ha1 ha2 wl hpos
        go_enter Try.func63, Try.ntmps63
        go_wp2_with fail
        refine HC.out.mono ?_
        rintro e w2 ⟨rfl, g⟩
        go_wp2
        go_ret
        exact ⟨rfl, g⟩
      · rw [begins_on hd h1]
        have h4 := h3.setCell (i := 1) (.int .i64 (σ.left - 1))
        have h5 : Sat E (ROP s { σ with ops := σ.ops + 1 } tr r { x with after := σ.left - 1 } F) _ := h4
        obtain ⟨y0, y1, y2, y3, y4, y5, y6, y7, y8⟩ := rstore_cells h5
        simp only at y0 y1 y2 y3 y4 y5 y6 y7 y8
        have hm : max (σ.left - 1) 0 = σ.left - 1 := by omega
        have hxn : ({ x with after := σ.left - 1 } : RExt).Ok { σ with ops := σ.ops + 1, left := σ.left - 1 } tr := ⟨har.trans (decide_eq_true (show 0 < σ.left - 1 by omega)).symm, fun _ => ⟨rfl, ha2⟩, hx.t⟩
        have H5 := hid (rstore_shut (s := s) (σ := { σ with ops := σ.ops + 1, left := σ.left - 1 }) (tr := tr) (F := F) (r := r) ⟨hr.n1, hr.n2, hr.cells, hr.f1, hr.fly⟩ hxn h5)
        rw [hm]
        have b1 : (σ.left - 1 == 0) = false := by rw [beq_eq_false_iff_ne]; omega
        clear h5 h4 h3 h2 h hr hok hxk hS hm hd hx hxn ha2
        go_enter Try.func63, Try.ntmps63
        go_wp2
        go_ret
        exact ⟨rfl, H5.out⟩
    · have h1 : ¬ σ.left = 1 := by omega
      have hl0 : σ.left = 0 := by omega
      have har : x.ar = false := hx.ar.trans (decide_eq_false (by omega))
      rw [begins_on hd h1]
      rw [har] at z3
      have hm : max (σ.left - 1) 0 = σ.left := by omega
      have H5 := hid (rstore_shut (s := s) (σ := { σ with ops := σ.ops + 1 }) (tr := tr) (F := F) (r := r) hok hxk h3)
      rw [hm]
      clear h3 h2 h hr hok hxk hS hm hd hx hl0 h1
      go_enter Try.func63, Try.ntmps63
      go_wp2
      go_ret
      exact ⟨rfl, H5.out⟩
end Go.Proofs.Ytacfaegljjgneaa
