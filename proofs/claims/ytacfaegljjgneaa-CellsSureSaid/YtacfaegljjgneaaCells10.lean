import Derived.Test.YtacfaegljjgneaaCells9
namespace Go.Proofs.Ytacfaegljjgneaa
set_option linter.unusedVariables false
set_option linter.unusedSimpArgs false
open Go.RowKit Go.Proofs.Sep

set_option maxRecDepth 100000 in
set_option maxHeartbeats 400000 in
theorem ops_calls {E w : World} {F : Asn} (s : Nat) (σ : St) (hS : Sat E (store s σ * F) w) :
    Calls Try.prog 27 #[.pointer (some ⟨s, 0, none⟩)] w fun e w' => e = .returned (.int .i64 σ.ops) ∧ w' = w := by
  obtain ⟨r, hr, h⟩ := store_open hS
  obtain ⟨d0, d1, d2, d3, d4, d5, d6⟩ := store_cells h
  go_enter Try.func27, Try.ntmps27
  go_wp2
  go_ret
  exact ⟨rfl, rfl⟩
set_option maxRecDepth 100000 in
set_option maxHeartbeats 400000 in
theorem size_calls {E w : World} {F : Asn} (s : Nat) (σ : St) (hS : Sat E (store s σ * F) w) :
    Calls Try.prog 38 #[.pointer (some ⟨s, 0, none⟩)] w fun e w' => e = .returned (.int .i64 σ.size) ∧ w' = w := by
  obtain ⟨r, hr, h⟩ := store_open hS
  obtain ⟨d0, d1, d2, d3, d4, d5, d6⟩ := store_cells h
  go_enter Try.func38, Try.ntmps38
  go_wp2
  go_ret
  exact ⟨rfl, rfl⟩
set_option maxRecDepth 100000 in
set_option maxHeartbeats 400000 in
theorem cells_calls {E w : World} {F : Asn} (s : Nat) (σ : St) (hS : Sat E (store s σ * F) w) :
    Calls Try.prog 37 #[.pointer (some ⟨s, 0, none⟩)] w fun e w' => e = .returned (.int .i64 σ.n) ∧ w' = w := by
  obtain ⟨r, hr, h⟩ := store_open hS
  obtain ⟨A1, c1, A2, c2, A3, c3, e1, e2, e3, _, _, _, _⟩ := store_slices h
  obtain ⟨d0, d1, d2, d3, d4, d5, d6⟩ := store_cells h
  rw [e1] at d0
  go_enter Try.func37, Try.ntmps37
  go_wp2
  go_ret
  exact ⟨rfl, rfl⟩

def rd (σ : St) (a : Int) : Int × List Int × St :=
  if (begins σ).1 = false then (6, [], (begins σ).2) else if inN (begins σ).2.n a = false then (1, [], (begins σ).2) else (0, peek (begins σ).2 a, (begins σ).2)
set_option maxRecDepth 100000 in
set_option maxHeartbeats 1000000 in
theorem read_calls {E w : World} {F : Asn} (s : Nat) (σ : St) (a : Int) (ho : 0 ≤ σ.ops) (ho2 : σ.ops ≤ 1000000) (hl : 0 ≤ σ.left) (hl2 : σ.left ≤ 9223372036854775807) (hsz : (begins σ).2.size ≤ 4096) (hS : Sat E (store s σ * F) w) :
    Calls Try.prog 21 #[.pointer (some ⟨s, 0, none⟩), .int .i64 a] w fun e w' => ∃ v, e = .returned (.tuple #[v, .int .i64 (rd σ a).1]) ∧ Sat E (row 5 1 v (rd σ a).2.1.length (nums .u8 (rd σ a).2.1) * (store s (rd σ a).2.2 * F)) w' := by
  have hbg := begins_calls s σ ho ho2 hl hl2 hS
  unfold rd
  generalize hq : begins σ = q at *
  obtain ⟨ok, σ1⟩ := q
  simp only at hbg hsz ⊢
  clear hq hS ho ho2 hl hl2
  cases ok with
  | false =>
    rw [if_pos rfl]
    go_enter Try.func21, Try.ntmps21
    go_wp2_with fail
    refine hbg.mono ?_
    rintro e w1 ⟨rfl, g1⟩
    go_wp2
    go_ret2
    exact ⟨_, rfl, g1.row_nil⟩
  | true =>
    rw [if_neg (by simp)]
    rcases Bool.eq_false_or_eq_true (inN σ1.n a) with hin | hin
    · rw [hin, if_neg (by simp)]
      have HIN := hid hin
      clear hin
      go_enter Try.func21, Try.ntmps21
      go_wp2_with fail
      refine hbg.mono ?_
      clear hbg
      rintro e w1 ⟨rfl, g1⟩
      obtain ⟨r, hr, h⟩ := store_open g1
      obtain ⟨A1, c1, A2, c2, A3, c3, e1, e2, e3, _, _, _, _⟩ := store_slices h
      obtain ⟨d0, _⟩ := store_cells h
      rw [e1] at d0
      clear h hr e1 e2 e3
      go_wp2_with fail
      refine (is_calls s A1 σ1.n c1 a d0).mono ?_
      rw [HIN.out]
      rintro e w2 ⟨rfl, rfl⟩
      go_wp2_with fail
      refine (peek_calls s σ1 a hsz g1).mono ?_
      rintro e w3 ⟨v3, rfl, g3⟩
      go_wp2
      go_ret2
      exact ⟨_, rfl, g3⟩
    · rw [hin, if_pos rfl]
      have HIN := hid hin
      clear hin
      go_enter Try.func21, Try.ntmps21
      go_wp2_with fail
      refine hbg.mono ?_
      clear hbg
      rintro e w1 ⟨rfl, g1⟩
      obtain ⟨r, hr, h⟩ := store_open g1
      obtain ⟨A1, c1, A2, c2, A3, c3, e1, e2, e3, _, _, _, _⟩ := store_slices h
      obtain ⟨d0, _⟩ := store_cells h
      rw [e1] at d0
      clear h hr e1 e2 e3
      go_wp2_with fail
      refine (is_calls s A1 σ1.n c1 a d0).mono ?_
      rw [HIN.out]
      rintro e w2 ⟨rfl, rfl⟩
      go_wp2
      go_ret2
      exact ⟨_, rfl, g1.row_nil⟩

def sync (σ : St) : Int × St := if (begins σ).1 = false then (6, (begins σ).2) else (0, lands (fun _ => true) (begins σ).2)
set_option maxRecDepth 100000 in
set_option maxHeartbeats 1000000 in
theorem sync_calls {E w : World} {F : Asn} (s : Nat) (σ : St) (ho : 0 ≤ σ.ops) (ho2 : σ.ops ≤ 1000000) (hl : 0 ≤ σ.left) (hl2 : σ.left ≤ 9223372036854775807) (hS : Sat E (store s σ * F) w) :
    Calls Try.prog 23 #[.pointer (some ⟨s, 0, none⟩)] w fun e w' => e = .returned (.int .i64 (sync σ).1) ∧ Sat E (store s (sync σ).2 * F) w' := by
  have hbg := begins_calls s σ ho ho2 hl hl2 hS
  unfold sync
  generalize hq : begins σ = q at *
  obtain ⟨ok, σ1⟩ := q
  simp only at hbg ⊢
  clear hq hS ho ho2 hl hl2
  cases ok with
  | false =>
    rw [if_pos rfl]
    go_enter Try.func23, Try.ntmps23
    go_wp2_with fail
    refine hbg.mono ?_
    rintro e w1 ⟨rfl, g1⟩
    go_wp2
    go_ret
    exact ⟨rfl, g1⟩
  | true =>
    rw [if_neg (by simp)]
    go_enter Try.func23, Try.ntmps23
    go_wp2_with fail
    refine hbg.mono ?_
    clear hbg
    rintro e w1 ⟨rfl, g1⟩
    obtain ⟨r, hr, h⟩ := store_open g1
    have hla := lands_all s σ1 (fun _ => true) r hr h (fun i w _ => all_keep i)
    clear h hr g1
    go_wp2_with fail
    refine hla.mono ?_
    rintro e w2 ⟨rfl, g2⟩
    go_wp2
    go_ret
    exact ⟨rfl, g2⟩

def arm (σ : St) (after : Int) (ka : List Bool) : Bool × St := if after < 1 then (false, σ) else (true, { σ with left := after, keep := ka })
theorem permA (V B C K G X F : Asn) : V * (B * (C * (K * (G * (X * F))))) = G * (V * (C * (K * (B * (X * F))))) := by ac_rfl
set_option maxRecDepth 100000 in
set_option maxHeartbeats 1000000 in
theorem arm_calls {E w : World} {F : Asn} (s : Nat) (σ : St) (after : Int) (A : Option Addr) (n c : Nat) (ka : List Bool) (hn : n ≤ 1000000) (hS : Sat E (store s σ * F) w) (hK : ∀ w, Sat E F w → Reads w 1 A n (bools ka)) :
    Calls Try.prog 26 #[.pointer (some ⟨s, 0, none⟩), .int .i64 after, .slice A n c] w fun e w' => e = .returned (.bool (arm σ after ka).1) ∧ Sat E (store s (arm σ after ka).2 * F) w' := by
  have hkl : ka.length = n := by have := (hK w hS.right).1; simpa [bools] using this
  subst hkl
  unfold arm
  by_cases ha : after < 1
  · rw [if_pos ha]
    go_enter Try.func26, Try.ntmps26
    go_wp2
    go_ret
    exact ⟨rfl, hS⟩
  · rw [if_neg ha]
    obtain ⟨r, hr, h⟩ := store_open hS
    go_enter Try.func26, Try.ntmps26
    go_wp2_with fail
    refine (cloneBools A ka.length c (bools ka) h (hK _ h.right.right.right.right.right) (bools_one _) (by omega)).mono ?_
    rintro e w1 ⟨v1, rfl, h1⟩
    obtain ⟨A5, c5, rfl, _, _, _⟩ := h1.reads
    have h3 := h1.right
    have f3 := h3.free_blk (i := 3)
    have f4 := h3.free_blk (i := 4)
    obtain ⟨z0, z1, z2, z3, z4, z5, z6⟩ := store_cells h3
    have lt := h3.lt_blk
    have q1 := ((h1.eq (star_left_comm _ _ _)).setCell (i := 3) (.int .i64 after)).setCell (i := 4) (.slice A5 ka.length c5)
    have hok : ({ r with kv := .slice A5 ka.length c5 } : Rep).Ok { σ with left := after, keep := ka } := ⟨hr.n1, hr.n2, hr.cells, hr.f1, hr.fly⟩
    have q2 := (q1.eq (permA _ _ _ _ _ _ _)).right
    have q3 := store_shut hok q2
    have Q3 := hid q3
    clear q1 q2 q3 hok hr h3 h1 h hS hK
    go_wp2
    go_ret
    exact ⟨rfl, Q3.out⟩
end Go.Proofs.Ytacfaegljjgneaa
