import Derived.Test.YtobgfdongidaaaaDir12
namespace Go.Proofs.Ytobgfdongidaaaa
set_option linter.unusedVariables false
set_option linter.unusedSimpArgs false
open Go.RowKit Go.Proofs.Sep Go.Lib

def insAll (L : List Ent) : List Ent := L.foldl (fun acc e => insR e acc) []
theorem insAll_snoc (L : List Ent) (e : Ent) : insAll (L ++ [e]) = insR e (insAll L) := by simp [insAll]
theorem insAll_rises (L : List Ent) : Rises (insAll L) := by
  have : ∀ (L acc : List Ent), Rises acc → Rises (L.foldl (fun acc e => insR e acc) acc) := by
    intro L
    induction L with
    | nil => exact fun _ h => h
    | cons e L ih => exact fun acc h => ih _ (insR_rises e acc h)
  exact this L [] List.Pairwise.nil
theorem insAll_le (L : List Ent) : (insAll L).length ≤ L.length := by
  have : ∀ (L acc : List Ent), Rises acc → (L.foldl (fun acc e => insR e acc) acc).length ≤ acc.length + L.length := by
    intro L
    induction L with
    | nil => intro acc _; simp
    | cons e L ih =>
      intro acc h
      have h1 := ih _ (insR_rises e acc h)
      have h2 := insR_length e acc h
      simp only [List.foldl_cons, List.length_cons]
      split at h2 <;> omega
  simpa [insAll] using this L [] List.Pairwise.nil
theorem shape_nil (m : Nat) : Shape m 0 ([] : List Ent) [] where
  ord := rfl
  rises := List.Pairwise.nil
  ok := trivial
  most := Nat.zero_le _
  least := fun h => by cases h

set_option maxRecDepth 100000 in
set_option maxHeartbeats 4000000 in
theorem new_no {w : World} (m : Int) (v : Value) (h : m < 3 ∨ 64 < m) : Calls Try.prog 8 #[.int .i64 m, v] w fun r w' => r = .returned (.tuple #[.pointer none, .int .i64 1]) ∧ w' = w := by
  by_cases h3 : m < 3
  · go_enter Try.func8, Try.ntmps8
    go_wp2
    go_ret2
    exact ⟨rfl, rfl⟩
  · have h4 : 64 < m := by omega
    go_enter Try.func8, Try.ntmps8
    go_wp2
    go_ret2
    exact ⟨rfl, rfl⟩

set_option maxRecDepth 100000 in
set_option maxHeartbeats 8000000 in
theorem new_yes {E w : World} {F : Asn} (m : Nat) (A : Option Addr) (c : Nat) (L : List Ent) (hm3 : 3 ≤ m) (hm : m ≤ 64) (hl : L.length ≤ 900000) (hS : Sat E F w) (hA : ∀ w, Sat E F w → Reads w 2 A L.length (ents L)) :
    Calls Try.prog 8 #[.int .i64 m, .slice A L.length c] w fun r w' => ∃ T, r = .returned (.tuple #[ptrv T, .int .i64 0]) ∧ Sat E (dir T m (insAll L) * F) w' := by
  have z3 : ¬ (m : Int) < 3 := by omega
  have z4 : ¬ 64 < (m : Int) := by omega
  have b1 := hS.alloc (.cells #[.slice none 0 0, .slice none 0 0] 59)
  have b2 := b1.alloc (.cells #[.int .i64 m, ptrv w.heap.size, .int .i64 0] 61)
  have hpz : (w.alloc (.cells #[.slice none 0 0, .slice none 0 0] 59)).heap.size = w.heap.size + 1 := Array.size_push ..
  rw [hpz] at b2
  have b3 : Sat E (row 25 2 (.slice none 0 0) 0 [] * _) _ := b2.row_nil
  have b4 : Sat E (row 56 1 (.slice none 0 0) 0 [] * _) _ := b3.row_nil
  have b5 : Sat E (nodeAt w.heap.size (.slice none 0 0) (.slice none 0 0) [] [] * (kids 0 [] ([] : List Ent) * (top (w.heap.size + 1) m (ptrv w.heap.size) (.int .i64 ([] : List Ent).length) * F))) ((w.alloc (.cells #[.slice none 0 0, .slice none 0 0] 59)).alloc (.cells #[.int .i64 m, ptrv w.heap.size, .int .i64 0] 61)) := ((b4.add_pur (p := ([] : List Nat) = []) rfl)).eq (by
    rw [nodeAt_eq]
    show _ = (_ * (row 25 2 (.slice none 0 0) 0 [] * row 56 1 (.slice none 0 0) 0 [])) * (pur (([] : List Nat) = []) * (blk (w.heap.size + 1) (.cells #[.int .i64 m, ptrv w.heap.size, .int .i64 0] 61) * F))
    ac_rfl)
  have b6 : Sat E (dir (w.heap.size + 1) m [] * F) _ := Sat.dir_shut (shape_nil m) (Sat.tree_shut (h := 0) (t := ([] : List Ent)) (qs := []) rfl b5.node_shut)
  have B6 := hid b6
  clear b1 b2 b3 b4 b5 b6
  generalize hT : w.heap.size + 1 = T at *
  unfold ptrv at *
  go_enter Try.func8, Try.ntmps8
  go_wp2_with fail
  go_loopw [22] (fun i wr => ∃ k : Nat, k ≤ L.length ∧ i = .int .i64 k ∧ Sat E (dir T m (insAll (L.take k)) * F) wr) (fun i _ => L.length - (intOf i).toNat)
  case atStart => exact ⟨0, by omega, rfl, B6.out⟩
  case round =>
    obtain ⟨k, hk, rfl, hq⟩ := hrel
    by_cases hlt : k < L.length
    · have hkd : (k : Int) < (L.length : Int) := by omega
      have wk := i64_wrap (x := (k : Int) + 1) (by omega) (by omega)
      have hle := insAll_le (L.take k)
      rw [List.length_take] at hle
      obtain ⟨ad, hAd, q⟩ := ent_at hA hlt hq.right
      obtain ⟨x0, x1⟩ := q _ hq.right
      subst hAd
      have hnx : insAll (L.take (k + 1)) = insR L[k] (insAll (L.take k)) := by rw [← insAll_snoc, List.take_succ_eq_append_getElem hlt]
      clear q
      generalize L[k] = X at *
      obtain ⟨X1, X2⟩ := X
      simp only at x0 x1
      have hu := hid hq
      clear hq B6 hS hpz hT
      have hput := put20 T m _ (X1, X2) hm3 hm (by omega) (hu.out.alloc_drop (.cells #[.string X1, .int .i64 X2] 25))
      rw [← hnx] at hput
      have hnx := hid hnx
      go_wp2_with fail
      refine hput.mono ?_
      clear hput
      rintro e' w5 ⟨rfl, g5⟩
      generalize (!hasKey X1 (insAll (L.take k))) = B at *
      go_wp2_with fail
      go_roundw
      case rel => exact ⟨k + 1, by omega, by go_num, g5⟩
      case measure => simp [intOf]; omega
    · obtain rfl : k = L.length := by omega
      have hkd : ¬ (L.length : Int) < (L.length : Int) := by omega
      clear hlt
      go_wp2_with fail
      go_ret2
      rw [List.take_length] at hq
      exact ⟨T, rfl, hq⟩
end Go.Proofs.Ytobgfdongidaaaa
