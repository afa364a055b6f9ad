import Derived.Test.YtacfaegljjgneaaCells7
import Derived.Test.YtacfaegljjgneaaSepArgs
namespace Go.Proofs.Ytacfaegljjgneaa
set_option linter.unusedVariables false
set_option linter.unusedSimpArgs false
open Go.RowKit Go.Proofs.Sep

theorem reads_drop {w : World} {size n c m : Nat} {A : Option Addr} {xs : List Value} (hm : m ≤ n) (hnc : n ≤ c) (h : Reads w size A n xs) : Reads w size (if c = m then A else A.map (·.add (m * size))) (n - m) (xs.drop (m * size)) := by
  refine ⟨?_, by have := h.2.1; omega, fun ha => ?_, fun ad ha j u hu => ?_⟩
  · rw [List.length_drop, h.1, Nat.sub_mul]
  · split at ha
    · have := h.2.2.1 ha; omega
    · cases A with
      | none => have := h.2.2.1 rfl; omega
      | some ad => simp at ha
  · have hj : j < (n - m) * size := by
      have := (List.getElem?_eq_some_iff.1 hu).1
      rw [List.length_drop, h.1] at this
      rw [Nat.sub_mul]; exact this
    have hnm : m < n := by
      rcases Nat.lt_or_ge m n with h' | h'
      · exact h'
      · rw [Nat.sub_eq_zero_of_le h', Nat.zero_mul] at hj; omega
    rw [if_neg (by omega)] at ha
    cases A with
    | none => have := h.2.2.1 rfl; omega
    | some a0 =>
      simp at ha
      subst ha
      rw [addr_add_add]
      exact h.2.2.2 a0 rfl _ u (by rwa [List.getElem?_drop] at hu)
/-- 'x[k:k+1]': the address is a letter. -/
theorem cut_one {P : Program} (t e : TypeId) (ht : P.underlying t = some (.slice e)) (hsz : (P.info? e).map (·.size) = some 1) (A : Option Addr) (n c k : Nat) (hk : k < n) (hnc : n ≤ c) :
    ∃ A' : Option Addr, (∀ W : World, (Instr.slice t (.slice A n c) (some (.int .i64 (k : Int))) (some (.int .i64 ((k : Int) + 1))) none).run P W = .ok (.slice A' 1 (c - k)) W) ∧
      ∀ (w : World) (xs : List Int) (h : k < xs.length), Reads w 1 A n (nums .u8 xs) → Reads w 1 A' 1 (nums .u8 [xs[k]]) := by
  obtain ⟨i, hi, hsi⟩ := Option.map_eq_some_iff.1 hsz
  refine ⟨if c = k then A else A.map (·.add k), fun W => ?_, fun w xs h hr => ?_⟩
  · have hel : P.elem t = e := by simp [Program.elem, ht]
    have hu : P.underlying t = some (.slice (P.elem t)) := by rw [hel]; exact ht
    rw [run_slice_lh W t A n c hu .i64 .i64 (k : Int) ((k : Int) + 1) (Int.natCast_nonneg _) (by omega) (by omega), hel]
    have e1 : ((k : Int) + 1).toNat = k + 1 := by omega
    simp [sizeOf, typeInfo, hi, hsi, sliced, Result.andThen, e1]
  · have h1 := (reads_drop (c := c) (m := k) (by omega) hnc hr).take 1 (by omega)
    rwa [Nat.mul_one, Nat.mul_one, show ((nums .u8 xs).drop k).take 1 = nums .u8 [xs[k]] by
      unfold nums
      rw [← List.map_drop, ← List.map_take, List.drop_eq_getElem_cons h]; rfl] at h1

def s21 : St := St.new 2 1
def t21 : St := (write s21 0 [7]).2
theorem first_facts : (write s21 0 [7]).1 = 0 ∧ (begins s21).2.fl.length ≤ 1000000 ∧ t21.down = false ∧ peek (crash [] t21) 0 = [0] ∧ peek (crash [true] t21) 0 = [7] ∧ (crash [] t21).down = true ∧ (crash [] t21).size = 1 ∧ (crash [true] t21).size = 1 := by
  refine ⟨rfl, by decide, rfl, rfl, rfl, rfl, rfl, rfl⟩
theorem nil_reads (w : World) (xs : List Value) (size : Nat) (h : xs = []) : Reads w size none 0 xs := by
  subst h
  exact ⟨by simp, by omega, fun _ => rfl, fun _ h => by cases h⟩
set_option maxRecDepth 100000 in
set_option maxHeartbeats 2000000 in
theorem first2 {E w : World} {F : Asn} (hS : Sat E F w) : Calls Try.prog 13 #[] w fun e w' => e = .returned (.bool true) ∧ Sat E F w' := by
  obtain ⟨k1, k2, k3, k4, k5, k6, k7, k8⟩ := first_facts
  have K1 := hid k1
  have K3 := hid k3
  have K4 := hid k4
  have K5 := hid k5
  have K6 := hid k6
  clear k1 k3 k4 k5 k6
  go_enter Try.func13, Try.ntmps13
  go_wp2_with fail
  refine (cellsNew 2 1 (by omega) (by omega) (by omega) (by omega) hS).mono ?_
  rintro e w1 ⟨s, rfl, g1⟩
  go_wp2_with fail
  refine (cellsNew 2 1 (by omega) (by omega) (by omega) (by omega) g1).mono ?_
  rintro e w2 ⟨t, rfl, g2⟩
  clear g1 hS
  have g3 : Sat E (store s s21 * (blk w2.heap.size (.cells #[.int .u8 7] 5) * (store t s21 * F))) (w2.alloc (.cells #[.int .u8 7] 5)) := (g2.alloc (.cells #[.int .u8 7] 5)).eq (show _ = _ by unfold s21; ac_rfl)
  go_wp2_with fail
  refine (write_calls s s21 0 (some ⟨w2.heap.size, 0, none⟩) 1 1 [7] (by decide) (by decide) (by decide) (by decide) k2 (by simp) g3 (fun w h => h.blk_reads (cs := [_]) rfl (by omega))).mono ?_
  rw [K1.out]
  rintro e w3 ⟨rfl, g4⟩
  have g5 : Sat E (store s t21 * (store t s21 * F)) w3 := g4.drop_mid
  have g6 : Sat E (store t s21 * (blk w3.heap.size (.cells #[.int .u8 7] 5) * (store s t21 * F))) (w3.alloc (.cells #[.int .u8 7] 5)) := (g5.alloc (.cells #[.int .u8 7] 5)).eq (by ac_rfl)
  clear g2 g3 g4 g5
  go_wp2_with fail
  refine (write_calls t s21 0 (some ⟨w3.heap.size, 0, none⟩) 1 1 [7] (by decide) (by decide) (by decide) (by decide) k2 (by simp) g6 (fun w h => h.blk_reads (cs := [_]) rfl (by omega))).mono ?_
  rw [K1.out]
  rintro e w4 ⟨rfl, g7⟩
  have g8 : Sat E (store t t21 * (store s t21 * F)) w4 := g7.drop_mid
  clear g6 g7
  go_wp2_with fail
  refine (crash_calls s t21 none 0 0 [] (g8.eq (star_left_comm _ _ _)) (fun w _ => nil_reads w _ 1 rfl)).mono ?_
  rw [K3.out]
  rintro e w5 ⟨rfl, g9⟩
  have g10 : Sat E (store t t21 * (blk w5.heap.size (.cells #[.bool true] 4) * (store s (crash [] t21) * F))) (w5.alloc (.cells #[.bool true] 4)) := (g9.alloc (.cells #[.bool true] 4)).eq (by ac_rfl)
  clear g8 g9
  go_wp2_with fail
  refine (crash_calls t t21 (some ⟨w5.heap.size, 0, none⟩) 1 1 [true] g10 (fun w h => h.blk_reads (cs := [_]) rfl (by omega))).mono ?_
  rw [K3.out]
  rintro e w6 ⟨rfl, g11⟩
  have g12 : Sat E (store s (crash [] t21) * (store t (crash [true] t21) * F)) w6 := g11.drop_mid.eq (star_left_comm _ _ _)
  clear g10 g11
  go_wp2_with fail
  refine (peek_calls s (crash [] t21) 0 (by rw [k7]; omega) g12).mono ?_
  rw [K4.out]
  rintro e w7 ⟨v7, rfl, g13⟩
  obtain ⟨A7, c7, rfl, _, _, _⟩ := g13.reads
  have g14 := g13.alloc_drop (.cells #[.int .u8 0] 5)
  go_wp2_with fail
  refine (bytesEq A7 (some ⟨w7.heap.size, 0, none⟩) 1 1 c7 1 [0] [0] g14.reads_at (Reads.new 1 1 [.int .u8 0] 5 rfl (by omega)) (by intro x hx; simp at hx; omega) (by intro x hx; simp at hx; omega)).mono ?_
  rw [decide_eq_true (rfl : ([0] : List Int) = [0])]
  rintro e w8 ⟨rfl, hw8⟩
  subst hw8
  have g15 : Sat E (store t (crash [true] t21) * (store s (crash [] t21) * F)) _ := g14.right.eq (star_left_comm _ _ _)
  clear g12 g13 g14
  go_wp2_with fail
  refine (peek_calls t (crash [true] t21) 0 (by rw [k8]; omega) g15).mono ?_
  rw [K5.out]
  rintro e w9 ⟨v9, rfl, g16⟩
  obtain ⟨A9, c9, rfl, _, _, _⟩ := g16.reads
  have g17 := g16.alloc_drop (.cells #[.int .u8 7] 5)
  go_wp2_with fail
  refine (bytesEq A9 (some ⟨w9.heap.size, 0, none⟩) 1 1 c9 1 [7] [7] g17.reads_at (Reads.new 1 1 [.int .u8 7] 5 rfl (by omega)) (by intro x hx; simp at hx; omega) (by intro x hx; simp at hx; omega)).mono ?_
  rw [decide_eq_true (rfl : ([7] : List Int) = [7])]
  rintro e w10 ⟨rfl, hw10⟩
  subst hw10
  have g18 : Sat E (store s (crash [] t21) * (store t (crash [true] t21) * F)) _ := g17.right.eq (star_left_comm _ _ _)
  clear g15 g16 g17
  go_wp2_with fail
  refine (up_calls s (crash [] t21) g18).mono ?_
  rw [K6.out]
  rintro e w11 ⟨rfl, rfl⟩
  have g19 := g18.right.right
  go_wp2
  go_ret
  exact ⟨rfl, g19⟩
end Go.Proofs.Ytacfaegljjgneaa
