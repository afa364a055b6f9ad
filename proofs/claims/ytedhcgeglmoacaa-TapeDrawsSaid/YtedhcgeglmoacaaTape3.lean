import Derived.Test.YtedhcgeglmoacaaTape2
namespace Go.Proofs.Ytedhcgeglmoacaa
set_option linter.unusedVariables false
set_option linter.unusedSimpArgs false
open Go.RowKit Go.Proofs.Sep

/-- The leaf that is drawn. -/
def leafAt (ls : List Int) (d : Nat) (h : Int) : Int := if hd : d < ls.length then (if ls[d] < 0 then 0 else ls[d] % 2 ^ h.toNat) else 0

theorem draw_any {E w : World} {F : Asn} (b d s : Nat) (ls : List Int) (hg : Int) (h0 : 0 ≤ hg) (h6 : hg ≤ 6) (hS : Sat E (leaves b d s ls * F) w) (hb : d < 4611686018427387904) :
    Calls Try.prog 17 #[.pointer (some ⟨b, 0, none⟩), .int .i64 hg] w fun e w' => e = .returned (.tuple #[.int .i64 (leafAt ls d hg), .int .i64 d]) ∧ Sat E (leaves b (d + 1) s ls * F) w' := by
  unfold leafAt
  by_cases hd : d < ls.length
  · by_cases hx : ls[d] < 0
    · rw [dif_pos hd, if_pos hx]; exact draw_neg b d s ls hg h0 h6 hS hd hx
    · rw [dif_pos hd, if_neg hx]; exact draw_ok b d s ls hg h0 h6 hS hd (by omega)
  · rw [dif_neg hd]; exact draw_end b d s ls hg h0 h6 hS (by omega) hb

set_option maxRecDepth 100000 in
set_option maxHeartbeats 400000 in
theorem reel_drawn {w : World} (b d : Nat) (hc : w.cell? ⟨b, 0, none⟩ = some (.int .i64 d)) :
    Calls Try.prog 19 #[.pointer (some ⟨b, 0, none⟩)] w fun e w' => e = .returned (.int .i64 d) ∧ w = w' := by
  go_enter Try.func19, Try.ntmps19
  go_wp2
  go_ret
  exact ⟨rfl, rfl⟩

set_option maxRecDepth 100000 in
set_option maxHeartbeats 400000 in
theorem reel_left {w : World} (b d s : Nat) (hc : w.cell? ⟨b, 0, none⟩ = some (.int .i64 d)) (hs : w.cell? ⟨b, 1, none⟩ = some (.int .i64 s)) (hd : d < 4611686018427387904) (hs1 : s < 4611686018427387904) :
    Calls Try.prog 18 #[.pointer (some ⟨b, 0, none⟩)] w fun e w' => e = .returned (.int .i64 ((s - d : Nat) : Int)) ∧ ∃ n, w' = w.drewN n := by
  go_enter Try.func18, Try.ntmps18
  go_wp2_with fail
  go_quiet (fail)
  go_wp2
  all_goals (go_ret; exact ⟨ret_int (by omega), _, rfl⟩)

theorem drawn_sat {E w : World} {F : Asn} (b d s : Nat) (ls : List Int) (hS : Sat E (leaves b d s ls * F) w) :
    Calls Try.prog 19 #[.pointer (some ⟨b, 0, none⟩)] w fun e w' => e = .returned (.int .i64 d) ∧ Sat E (leaves b d s ls * F) w' := by
  obtain ⟨A, c, hlc, hc, h5, hR⟩ := leaves_open hS
  have c0 := h5.cell_blk (i := 0)
  exact (reel_drawn b d (by simpa using c0)).mono fun e w' ⟨he, hw⟩ => ⟨he, hw ▸ hS⟩
theorem left_sat {E w : World} {F : Asn} (b d s : Nat) (ls : List Int) (hS : Sat E (leaves b d s ls * F) w) (hd : d < 4611686018427387904) (hs1 : s < 4611686018427387904) :
    Calls Try.prog 18 #[.pointer (some ⟨b, 0, none⟩)] w fun e w' => e = .returned (.int .i64 ((s - d : Nat) : Int)) ∧ Sat E (leaves b d s ls * F) w' := by
  obtain ⟨A, c, hlc, hc, h5, hR⟩ := leaves_open hS
  have c0 := h5.cell_blk (i := 0)
  have c1 := h5.cell_blk (i := 1)
  exact (reel_left b d s (by simpa using c0) (by simpa using c1) hd hs1).mono fun e w' ⟨he, n, hw⟩ => ⟨he, hw ▸ hS.drewN n⟩

set_option maxRecDepth 100000 in
set_option maxHeartbeats 1000000 in
theorem first1 {E w : World} {F : Asn} (hS : Sat E F w) : Calls Try.prog 15 #[] w fun e w' => e = .returned (.bool true) ∧ Sat E F w' := by
  have l0 : leafAt [5, 2] 0 1 = 1 := by decide
  have l1 : leafAt [5, 2] 1 2 = 2 := by decide
  have l2 : leafAt [5, 2] 2 2 = 0 := by decide
  go_enter Try.func15, Try.ntmps15
  go_wp2_with fail
  refine (newLeaves _ _ _ [5, 2] (hS.alloc_drop _) (Reads.new 1 2 _ _ rfl (by omega)) (by omega)).mono ?_
  rintro e w1 ⟨b, rfl, h1⟩
  go_wp2_with fail
  refine (draw_any b 0 2 _ 1 (by omega) (by omega) h1 (by omega)).mono ?_
  rw [l0]
  rintro e w2 ⟨rfl, h2⟩
  go_wp2_with fail
  refine (draw_any b 1 2 _ 2 (by omega) (by omega) h2 (by omega)).mono ?_
  rw [l1]
  rintro e w3 ⟨rfl, h3⟩
  go_wp2_with fail
  refine (draw_any b 2 2 _ 2 (by omega) (by omega) h3 (by omega)).mono ?_
  rw [l2]
  rintro e w4 ⟨rfl, h4⟩
  go_wp2_with fail
  refine (drawn_sat b _ _ _ h4).mono ?_
  rintro e w5 ⟨rfl, h5⟩
  go_wp2_with fail
  refine (left_sat b _ _ _ h5 (by omega) (by omega)).mono ?_
  rintro e w6 ⟨rfl, h6⟩
  go_wp2
  go_ret
  exact ⟨rfl, h6.right⟩
end Go.Proofs.Ytedhcgeglmoacaa
