import Derived.Test.YtobgfdongidaaaaDir1
import Derived.Laws.Externs
namespace Go.Proofs.Ytobgfdongidaaaa
set_option linter.unusedVariables false
set_option linter.unusedSimpArgs false
open Go.RowKit Go.Proofs.Sep Go.Lib

theorem Try.info25 : (Try.prog.info? 25).map (fun i => (i.zero, i.size, i.bytes)) = some (some (.agg #[.string ByteArray.empty, .int .i64 0]), 2, 24) := by kernel_rfl
theorem Try.info56 : (Try.prog.info? 56).map (fun i => (i.zero, i.size, i.bytes)) = some (some (.pointer none), 1, 8) := by kernel_rfl
def ents (L : List Ent) : List Value := L.flatMap fun x => [.string x.1, .int .i64 x.2]
theorem ents_length (L : List Ent) : (ents L).length = L.length * 2 := by
  induction L with
  | nil => rfl
  | cons a l ih => simp only [ents, List.flatMap_cons, List.length_append, List.length_cons, List.length_nil] at ih ⊢; omega
theorem ents_append (l m : List Ent) : ents (l ++ m) = ents l ++ ents m := by simp [ents]
theorem ents_one (l : List Ent) : ∀ u ∈ ents l, u.oneCell' = true := by
  intro u hu
  simp only [ents, List.mem_flatMap, List.mem_cons, List.not_mem_nil, or_false] at hu
  obtain ⟨p, _, rfl | rfl⟩ := hu <;> rfl
theorem ents_at {l : List Ent} {k : Nat} (h : k < l.length) : (ents l)[k * 2]? = some (.string l[k].1) ∧ (ents l)[k * 2 + 1]? = some (.int .i64 l[k].2) := by
  induction l generalizing k with
  | nil => simp at h
  | cons a l ih =>
    cases k with
    | zero => simp [ents]
    | succ k =>
      obtain ⟨h1, h2⟩ := ih (k := k) (by simpa using h)
      rw [show (k + 1) * 2 = k * 2 + 2 by omega]
      exact ⟨by simpa [ents] using h1, by simpa [ents] using h2⟩
/-- The cells of the k-th entry. -/
theorem ent_at {E : World} {F : Asn} {A : Option Addr} {L : List Ent} (hA : ∀ w, Sat E F w → Reads w 2 A L.length (ents L)) {k : Nat} (hk : k < L.length) {w0 : World} (h0 : Sat E F w0) :
    ∃ ad, A = some ad ∧ ∀ w, Sat E F w → w.cell? (ad.add (k * 2)) = some (.string L[k].1) ∧ w.cell? { block := (ad.add (k * 2)).block, off := (ad.add (k * 2)).off + 1 } = some (.int .i64 L[k].2) := by
  obtain ⟨ad, hAd, _⟩ := (hA _ h0).at (by omega)
  obtain ⟨e0, e1⟩ := ents_at hk
  exact ⟨ad, hAd, fun w hw => ⟨(hA _ hw).2.2.2 ad hAd _ _ e0, cell_two ((hA _ hw).2.2.2 ad hAd _ _ e1)⟩⟩
set_option maxRecDepth 100000 in
set_option maxHeartbeats 400000 in
theorem cmp46 {w : World} (a b : ByteArray) : Calls Try.prog 46 #[.string a, .string b] w fun e w' => e = .returned (.int .i64 (kcmp a b)) ∧ w' = w := by
  go_enter Try.func46, Try.ntmps46
  go_wp2
  rw [run_callFunc_extern Try.func54 (by kernel_rfl) (by kernel_rfl) (by kernel_rfl) (e := Extern.BytealgCompare.compare) (by kernel_rfl), Lib.run_compareString]
  simp only [Result.andThen]
  rw [Oper.upon_value]
  go_wp2
  go_ret
  exact ⟨rfl, rfl⟩
set_option maxRecDepth 100000 in
set_option maxHeartbeats 400000 in
theorem cmp38 {w : World} (a b : ByteArray) : Calls Try.prog 38 #[.string a, .string b] w fun e w' => e = .returned (.int .i64 (kcmp a b)) ∧ w' = w := by
  go_enter Try.func38, Try.ntmps38
  go_wp2_with fail
  refine (cmp46 a b).mono ?_
  rintro e w1 ⟨rfl, rfl⟩
  go_wp2
  go_ret
  exact ⟨rfl, rfl⟩
set_option maxRecDepth 100000 in
set_option maxHeartbeats 400000 in
theorem cmp37 {E w : World} {F : Asn} (a b : ByteArray) (x : Int) (hS : Sat E F w) : Calls Try.prog 37 #[.agg #[.string a, .int .i64 x], .string b] w fun e w' => e = .returned (.int .i64 (kcmp a b)) ∧ Sat E F w' := by
  have h1 := hS.alloc_drop (.cells #[.string a, .int .i64 x] 25)
  go_enter Try.func37, Try.ntmps37
  go_wp2_with fail
  refine (cmp38 a b).mono ?_
  rintro e w1 ⟨rfl, rfl⟩
  go_wp2
  go_ret
  exact ⟨rfl, h1⟩
set_option maxRecDepth 100000 in
set_option maxHeartbeats 2000000 in
theorem bsf36 {E w : World} {F : Asn} (A : Option Addr) (c : Nat) (L : List Ent) (key : ByteArray) (hr : Rises L) (hl : L.length ≤ 1000000) (hS : Sat E F w) (hA : ∀ w, Sat E F w → Reads w 2 A L.length (ents L)) :
    Calls Try.prog 36 #[.slice A L.length c, .string key, .func (.func 37) #[] #[]] w fun e w' => e = .returned (.tuple #[.int .i64 (ahead key L), .bool (hasKey key L)]) ∧ Sat E F w' := by
  have hal := ahead_le key L
  go_enter Try.func36, Try.ntmps36
  go_wp2_with fail
  go_loopw [9, 10] (fun i j wr => ∃ a b : Nat, a ≤ b ∧ b ≤ L.length ∧ a ≤ ahead key L ∧ ahead key L ≤ b ∧ i = .int .i64 a ∧ j = .int .i64 b ∧ Sat E F wr) (fun i j _ => (intOf j).toNat - (intOf i).toNat)
  case atStart => exact ⟨0, L.length, by omega, by omega, by omega, by omega, rfl, rfl, hS⟩
  case round =>
    obtain ⟨a, b, hab, hbl, h1, h2, rfl, rfl, hq⟩ := hrel
    by_cases hlt : a < b
    · have hkd : (a : Int) < (b : Int) := by omega
      have ws := i64_wrap (x := (a : Int) + (b : Int)) (by omega) (by omega)
      obtain ⟨h, hh⟩ : ∃ h : Nat, h = (a + b) / 2 := ⟨_, rfl⟩
      have hdv : ((a : Int) + (b : Int)) / 2 = (h : Int) := by omega
      have hha : a ≤ h := by omega
      have hhb : h < b := by omega
      have hhL : h < L.length := by omega
      have hkL : (h : Int) < (L.length : Int) := by omega
      have wh := i64_wrap (x := (h : Int) + 1) (by omega) (by omega)
      obtain ⟨ad, hAd, q⟩ := ent_at hA hhL hq
      obtain ⟨x0, x1⟩ := q _ hq
      have hsp := ahead_spec (key := key) hr h hhL
      subst hAd
      clear hh q
      generalize L[h] = X at *
      obtain ⟨X1, X2⟩ := X
      simp only at x0 x1 hsp
      have hcall := cmp37 X1 key X2 hq
      by_cases hc : kcmp X1 key < 0
      · have hn : h + 1 ≤ ahead key L := hsp.1 hc
        clear hsp
        generalize kcmp X1 key = C at *
        go_wp2_with fail
        refine hcall.mono ?_
        rintro e w5 ⟨rfl, g5⟩
        go_wp2
        go_roundw
        case rel => exact ⟨h + 1, b, by omega, by omega, by omega, by omega, by go_num, rfl, g5⟩
        case measure => simp [intOf]; omega
      · have hn : ahead key L ≤ h := Nat.le_of_not_lt fun h' => hc (hsp.2 h')
        clear hsp
        generalize kcmp X1 key = C at *
        go_wp2_with fail
        refine hcall.mono ?_
        rintro e w5 ⟨rfl, g5⟩
        go_wp2
        go_roundw
        case rel => exact ⟨a, h, by omega, by omega, by omega, by omega, rfl, rfl, g5⟩
        case measure => simp [intOf]; omega
    · obtain rfl : a = b := by omega
      have ha : a = ahead key L := by omega
      have hkd : ¬ (a : Int) < (a : Int) := by omega
      by_cases hlt2 : a < L.length
      · have hkL : (a : Int) < (L.length : Int) := by omega
        obtain ⟨ad, hAd, q⟩ := ent_at hA hlt2 hq
        obtain ⟨x0, x1⟩ := q _ hq
        have hh : hasKey key L = (kcmp L[a].1 key == 0) := by
          rw [Bool.eq_iff_iff, has_spec hr, beq_iff_eq]
          constructor
          · rintro ⟨hi, he⟩
            have : L[a] = L[ahead key L] := by simp only [ha]
            rw [this, he, kcmp_refl]
          · intro h0
            exact ⟨by omega, by have := kcmp_eq h0; simp only [← ha]; exact this⟩
        have HH := hid hh
        have HA := hid ha
        subst hAd
        clear q hh ha h1 h2
        generalize L[a] = X at *
        obtain ⟨X1, X2⟩ := X
        simp only at x0 x1 HH
        have hcall := cmp37 X1 key X2 hq
        generalize kcmp X1 key = C at *
        go_wp2_with fail
        refine hcall.mono ?_
        rintro e w5 ⟨rfl, g5⟩
        go_wp2
        go_ret2
        exact ⟨by rw [HH.out, ← HA.out]; rfl, g5⟩
      · have hkL : ¬ (a : Int) < (L.length : Int) := by omega
        have hh : hasKey key L = false := by
          rw [Bool.eq_false_iff]
          intro ht
          obtain ⟨hi, _⟩ := (has_spec hr).1 ht
          omega
        have HH := hid hh
        have HA := hid ha
        clear hh ha h1 h2
        go_wp2
        go_ret2
        exact ⟨by rw [HH.out, ← HA.out]; rfl, hq⟩
end Go.Proofs.Ytobgfdongidaaaa
