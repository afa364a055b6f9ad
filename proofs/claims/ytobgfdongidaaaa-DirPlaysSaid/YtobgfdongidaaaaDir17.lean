import Derived.Test.YtobgfdongidaaaaDir16
import Derived.Laws.Cover1
namespace Go.Proofs.Ytobgfdongidaaaa
set_option linter.unusedVariables false
set_option linter.unusedSimpArgs false
open Go.RowKit Go.Proofs.Sep Go.Lib

theorem less_cb : ∀ a b : List UInt8, Op.bytesLess a b = decide (compareBytes a b < 0)
  | [], [] => by simp [Op.bytesLess, compareBytes]
  | [], _ :: _ => by simp [Op.bytesLess, compareBytes]
  | _ :: _, [] => by simp [Op.bytesLess, compareBytes]
  | a :: xs, b :: ys => by
    simp only [Op.bytesLess, compareBytes, less_cb xs ys]
    by_cases h1 : a < b
    · simp [h1]
    · by_cases h2 : b < a
      · have hne : ¬ a = b := fun h => by rw [h] at h2; exact UInt8.lt_irrefl _ h2
        simp [h1, h2, hne]
      · have : a = b := UInt8.le_antisymm (UInt8.not_lt.1 h2) (UInt8.not_lt.1 h1)
        subst this
        simp
/-- The program's '<', '>', '<=', '>=' on keys. -/
theorem key_lss (a b : ByteArray) : Op.bytesLess a.toList b.toList = decide (klt a b) := by
  rw [Lib.toList_data, Lib.toList_data]
  exact less_cb _ _
theorem key_leq (a b : ByteArray) : (Op.bytesLess a.toList b.toList || a.toList == b.toList) = !decide (klt b a) := by
  rw [key_lss, Lib.toList_data, Lib.toList_data]
  rcases klt_or a b with h | rfl | h
  · simp [h, klt_asymm h]
  · simp [klt_irrefl]
  · have h1 := klt_asymm h
    have h2 : ¬ a.data.toList = b.data.toList := fun e => by
      have : a = b := kcmp_eq (by unfold kcmp; rw [e]; exact cb_refl _)
      rw [this] at h
      exact klt_irrefl _ h
    have h3 : ¬ a.data = b.data := fun e => h2 (by rw [e])
    simp [h, h1, h3]
def stpR (hi : ByteArray) (lim : Int) (s : List Ent) (e : Ent) : List Ent × Bool := if klt hi e.1 then (s, false) else (s ++ [e], decide ((s.length : Int) + 1 < lim))
def accR (l bh bl : Nat) (hi : ByteArray) (lim : Int) (s : List Ent) : Asn := acc l s * (blk bh (.cells #[.string hi] 9) * blk bl (.cells #[.int .i64 lim] 3))

theorem accR_shut {E w : World} {G : Asn} {l bh bl : Nat} {hi : ByteArray} {lim : Int} {s : List Ent} {v : Value} (h : Sat E (blk l (.cells #[v] 22) * row 25 2 v s.length (ents s) * (blk bh (.cells #[.string hi] 9) * (blk bl (.cells #[.int .i64 lim] 3) * G))) w) : Sat E (accR l bh bl hi lim s * G) w := by
  have h1 : Sat E (acc l s * (blk bh (.cells #[.string hi] 9) * (blk bl (.cells #[.int .i64 lim] 3) * G))) w := Sat.intro_left v h
  exact h1.eq (by unfold accR; ac_rfl)
set_option maxRecDepth 100000 in
set_option maxHeartbeats 4000000 in
theorem tell28 {E w : World} {G : Asn} (l bh bl : Nat) (hi : ByteArray) (lim : Int) (s : List Ent) (e : Ent) (hs : s.length < 900000) (hS : Sat E (accR l bh bl hi lim s * G) w) :
    Calls Try.prog 28 #[entv e, ptrv bh, ptrv l, ptrv bl] w fun r w' => r = .returned (.bool (stpR hi lim s e).2) ∧ Sat E (accR l bh bl hi lim (stpR hi lim s e).1 * G) w' := by
  have s0 : Sat E (acc l s * (blk bh (.cells #[.string hi] 9) * (blk bl (.cells #[.int .i64 lim] 3) * G))) w := hS.eq (by unfold accR; ac_rfl)
  obtain ⟨v, s1⟩ := s0.ex_left
  have s1 : Sat E (blk l (.cells #[v] 22) * row 25 2 v s.length (ents s) * (blk bh (.cells #[.string hi] 9) * (blk bl (.cells #[.int .i64 lim] 3) * G))) w := s1
  obtain ⟨A, c, rfl, g1, _, _⟩ := (s1.eq (show _ = row 25 2 v s.length (ents s) * (blk l (.cells #[v] 22) * (blk bh (.cells #[.string hi] 9) * (blk bl (.cells #[.int .i64 lim] 3) * G))) by ac_rfl)).reads
  obtain ⟨e1, e2⟩ := e
  have b1 := s1.alloc_drop (.cells #[.string e1, .int .i64 e2] 25)
  have s2 : Sat E (row 25 2 (.slice A s.length c) s.length (ents s) * (blk l (.cells #[.slice A s.length c] 22) * (blk bh (.cells #[.string hi] 9) * (blk bl (.cells #[.int .i64 lim] 3) * G)))) ((w.alloc (.cells #[.string e1, .int .i64 e2] 25)).alloc (.cells #[.string e1, .int .i64 e2] 25)) := ((s1.eq (by ac_rfl)).alloc_drop _).alloc_drop _
  have hR : Reads ((w.alloc (.cells #[.string e1, .int .i64 e2] 25)).alloc (.cells [.string e1, .int .i64 e2].toArray 25)) 2 (some ⟨w.heap.size + 1, 0, none⟩) 1 [.string e1, .int .i64 e2] := Reads.newAt 2 1 _ 25 rfl (by omega) (Array.size_push ..)
  obtain ⟨x2, _⟩ := one_cell (b1.eq (star_assoc _ _ _))
  obtain ⟨x3, _⟩ := one_cell b1.right
  unfold entv ptrv
  simp only
  have hs1 : s.length + 1 ≤ 900000 := by omega
  have hq : (!(Op.bytesLess e1.toList hi.toList || e1.toList == hi.toList)) = decide (klt hi e1) := by rw [key_leq]; simp
  by_cases hc : klt hi e1
  · have z0 : (!(Op.bytesLess e1.toList hi.toList || e1.toList == hi.toList)) = true := by rw [hq]; simp [hc]
    have hres : stpR hi lim s (e1, e2) = (s, false) := by simp [stpR, hc]
    have HC := hid hres
    have B1 := hid b1
    generalize hX : (!(Op.bytesLess e1.toList hi.toList || e1.toList == hi.toList)) = X at *
    clear hc hres hq s1 s0 hS s2 hR b1
    go_enter Try.func28, Try.ntmps28
    go_wp2_with fail
    go_ret
    rw [HC.out]
    exact ⟨rfl, accR_shut B1.out⟩
  · have z0 : (!(Op.bytesLess e1.toList hi.toList || e1.toList == hi.toList)) = false := by rw [hq]; simp [hc]
    have hres : stpR hi lim s (e1, e2) = (s ++ [(e1, e2)], decide ((s.length : Int) + 1 < lim)) := by simp [stpR, hc]
    have HC := hid hres
    generalize hX : (!(Op.bytesLess e1.toList hi.toList || e1.toList == hi.toList)) = X at *
    clear hc hres hq s1 s0 hS b1
    have hnl : (ents s ++ [.string e1, .int .i64 e2] : List Value) = ents (s ++ [(e1, e2)]) := by rw [ents_append]; rfl
    have HNL := hid hnl
    clear hnl
    go_enter Try.func28, Try.ntmps28
    go_wp2_with (at_builtin; refine wpList_append_sat rfl _ _ 22 25 (.agg #[.string ByteArray.empty, .int .i64 0]) 2 24 rfl Try.underlying22 Try.info25 rfl (by decide) _ s.length (ents s) _ 1 1 [.string e1, .int .i64 e2] rfl rfl s2 hR (by simp [Value.oneCell']) (by unfold maxLen; omega) (by omega) ?_; intro v1 w1 hS1; obtain ⟨A1, c1, rfl, _, _, _⟩ := hS1.reads; obtain ⟨d0, d1⟩ := one_cell hS1.right; obtain ⟨d2, d3⟩ := one_cell hS1.right.right.right; have q1 := (hS1.eq (star_left_comm _ _ _)).setCell (i := 0) (.slice A1 (s.length + 1) c1); obtain ⟨d4, _⟩ := one_cell (show Sat E (blk l (.cells #[.slice A1 (s.length + 1) c1] 22) * _) _ from q1); obtain ⟨d5, _⟩ := one_cell q1.right.right.right)
    go_ret
    rw [HC.out]
    refine ⟨?_, accR_shut (v := .slice A1 (s.length + 1) c1) ?_⟩
    · simp
    · have q2 : Sat E (blk l (.cells #[.slice A1 (s.length + 1) c1] 22) * _) _ := q1
      exact q2.eq (by
        rw [HNL.out, show (s ++ [(e1, e2)]).length = s.length + 1 by simp]
        ac_rfl)
end Go.Proofs.Ytobgfdongidaaaa
