import Derived.Test.YtacfaegljjgneaaSure0
import Derived.BigRegion
import Derived.Deep.RegionLaw
import Derived.Deep.DeepCutAuto
import Derived.Deep.CutBlock
import Derived.Laws.Cover3
namespace Go.Proofs.Ytacfaegljjgneaa
set_option linter.unusedVariables false
set_option linter.unusedSimpArgs false
open Go.RowKit Go.Proofs.Sep

theorem _root_.Go.Proofs.Sep.Sat.ne_row_blk {E w : World} {F : Asn} {e size n cap g b : Nat} {xs : List Value} {o : Obj} (h : Sat E (row e size (.slice (some ⟨g, 0, none⟩) n cap) n xs * (blk b o * F)) w) (hn : 0 < n) : g ≠ b := by
  obtain ⟨g', cap', cur, hv, _, _, _, _, hs⟩ := h.row_blk hn
  injection hv with hv _ _
  injection hv with hv
  injection hv with hv _ _
  subst hv
  exact hs.ne_blk
theorem _root_.Go.Proofs.Sep.Sat.ne_row_row {E w : World} {F : Asn} {e size n cap g e' size' n' cap' b : Nat} {xs ys : List Value} (h : Sat E (row e size (.slice (some ⟨g, 0, none⟩) n cap) n xs * (row e' size' (.slice (some ⟨b, 0, none⟩) n' cap') n' ys * F)) w) (hn : 0 < n) (hn' : 0 < n') : g ≠ b := by
  obtain ⟨g', cap', cur, hv, _, _, _, _, hs⟩ := h.row_blk hn
  injection hv with hv _ _
  injection hv with hv
  injection hv with hv _ _
  subst hv
  exact (hs.eq (star_left_comm _ _ _)).ne_row_blk hn' |>.symm
theorem permT (N U V S Z F : Asn) : U * (N * (V * (S * (Z * F)))) = V * (U * (N * (S * (Z * F)))) := by ac_rfl
theorem permU (N U V S Z F : Asn) : V * (U * (N * (S * (Z * F)))) = U * (V * (S * ((N * Z) * F))) := by ac_rfl
theorem permS (A B C : Asn) : A * (B * C) = B * (A * C) := star_left_comm _ _ _
/-- What was acknowledged. -/
def wasOf (σ : St) : List (List Int) := landTo (fun _ => true) σ σ.fl.length
theorem was_add (σ : St) (a : Int) (b : List Int) : wasOf (addFl (opsUp σ) a b) = (wasOf σ).set a.toNat b := by
  unfold wasOf
  rw [landTo_add, if_pos rfl, landTo_congr (σ := opsUp σ) (τ := σ) rfl rfl]
  rfl
theorem was_ops (σ : St) : wasOf (opsUp σ) = wasOf σ := landTo_congr (σ := opsUp σ) (τ := σ) rfl rfl σ.fl.length
theorem now_add (p : Nat → Bool) (σ : St) (a : Int) (b : List Int) : landTo p (addFl (opsUp σ) a b) (addFl (opsUp σ) a b).fl.length = if p σ.fl.length = true then (landTo p σ σ.fl.length).set a.toNat b else landTo p σ σ.fl.length := by
  rw [landTo_add, landTo_congr (σ := opsUp σ) (τ := σ) rfl rfl]
  rfl
def Was (E : World) (G : Asn) (n : Nat) (vals : List Value) (W : List (List Int)) : Prop := vals.length = n ∧ W.length = n ∧ ∀ i (h1 : i < vals.length) (h2 : i < W.length), VV E G vals[i] W[i]
/-- The other list: nothing, or what counts in the place of what was. -/
def Now (E : World) (G : Asn) (n : Nat) (nv : List Value) (C W : List (List Int)) : Prop := nv.length = n ∧ C.length = n ∧ W.length = n ∧ ∀ i (h1 : i < nv.length) (h2 : i < C.length) (h3 : i < W.length), (nv[i] = .slice none 0 0 ∧ C[i] = W[i]) ∨ (∃ ad c, nv[i] = .slice (some ad) C[i].length c ∧ ∀ w, Sat E G w → Reads w 1 (some ad) C[i].length (nums .u8 C[i]))
theorem Was.set {E : World} {G : Asn} {n : Nat} {vals : List Value} {W : List (List Int)} (h : Was E G n vals W) (j : Nat) {v : Value} {b : List Int} (hv : VV E G v b) : Was E G n (vals.set j v) (W.set j b) := by
  refine ⟨by simp [h.1], by simp [h.2.1], fun i h1 h2 => ?_⟩
  simp only [List.getElem_set]
  split
  · exact hv
  · exact h.2.2 i (by simpa using h1) (by simpa using h2)
theorem Now.set {E : World} {G : Asn} {n : Nat} {nv : List Value} {C W : List (List Int)} (h : Now E G n nv C W) (j : Nat) {ad : Addr} {c : Nat} {b : List Int} (hv : ∀ w, Sat E G w → Reads w 1 (some ad) b.length (nums .u8 b)) : Now E G n (nv.set j (.slice (some ad) b.length c)) (C.set j b) W := by
  refine ⟨by simp [h.1], by simp [h.2.1], h.2.2.1, fun i h1 h2 h3 => ?_⟩
  simp only [List.getElem_set]
  split
  · exact .inr ⟨ad, c, rfl, hv⟩
  · exact h.2.2.2 i (by simpa using h1) (by simpa using h2) h3
theorem Now.start {E : World} {G : Asn} {n : Nat} {W : List (List Int)} (h : W.length = n) : Now E G n (List.replicate n (.slice none 0 0)) W W :=
  ⟨by simp, h, h, fun i h1 h2 h3 => .inl ⟨by simp, rfl⟩⟩
set_option maxRecDepth 100000 in
set_option maxHeartbeats 8000000 in
theorem cellsSure_ok {E w : World} {F : Asn} (n : Nat) (A B C : Option Addr) (ca cb cc : Nat) (l1 l2 : List SOp) (ka : List Bool) (hd1 hd2 : List Value) (hn1 : 1 ≤ n) (hn : n ≤ 30) (hk : ka.length ≤ 300) (hS : Sat E F w)
    (hQ1 : ∀ w, Sat E F w → Reads w 4 A l1.length hd1) (hO1 : ∀ w, Sat E F w → SOpsIn w l1 hd1) (hQ2 : ∀ w, Sat E F w → Reads w 4 B l2.length hd2) (hO2 : ∀ w, Sat E F w → SOpsIn w l2 hd2) (hR : ∀ w, Sat E F w → Reads w 1 C ka.length (bools ka)) (hB1 : ∀ x ∈ l1, ByteR x.2.2.1) (hB2 : ∀ x ∈ l2, ByteR x.2.2.1) :
    Calls Try.prog 5 #[.int .i64 n, .slice A l1.length ca, .slice B l2.length cb, .slice C ka.length cc] w fun e w' => e = .returned (.bool true) ∧ Sat E F w' := by
  have x1 : ¬ (n : Int) < 1 := by omega
  have x2 : ¬ (30 : Int) < (n : Int) := by omega
  have x3 : ¬ (300 : Int) < (ka.length : Int) := by omega
  go_enter Try.func5, Try.ntmps5
  go_wp2_with fail
  refine (first2 hS).mono ?_
  rintro e w1 ⟨rfl, g1⟩
  go_wp2_with fail
  refine (cellsNew n 4 (by omega) (by omega) (by omega) (by omega) g1).mono ?_
  rintro e w2 ⟨s, rfl, g2⟩
  clear g1 hS
  go_wp2_with fail
  refine (few24 A ca l1 hd1 g2 (fun w h => hQ1 w h.right) (fun w h => hO1 w h.right)).mono ?_
  rintro e w3 ⟨⟨rfl, hl1, hf1⟩ | rfl, g3⟩
  · clear g2
    go_wp2_with fail
    refine (few24 B cb l2 hd2 g3 (fun w h => hQ2 w h.right) (fun w h => hO2 w h.right)).mono ?_
    rintro e w4 ⟨⟨rfl, hl2, hf2⟩ | rfl, g4⟩
    · clear g3
      have hmk := fun w => run_make_row' (P := Try.prog) 42 22 (.slice none 0 0) 24 Try.underlying42 Try.info22 rfl .i64 .i64 n (by omega) (by omega) w
      have HF1 := hid hf1
      have HF2 := hid hf2
      clear hf1 hf2
      go_upto_region 6 with fail
      go_cut [11, 12] (fun u v wc => Sat E (row 22 1 u n (List.replicate n (.slice none 0 0)) * (row 22 1 v n (List.replicate n (.slice none 0 0)) * (store s (St.new n 4) * F))) wc)
      case first =>
        have r1 := g4.row_made (.slice none 0 0) 22 n (by omega)
        have r2 := r1.row_made (.slice none 0 0) 22 n (by omega)
        have e1 : (w4.alloc (.cells (madeCells #[.slice none 0 0] n) 22)).heap.size = w4.heap.size + 1 := Array.size_push _
        have R := hid (⟨r2, e1⟩ : _ ∧ _)
        clear r1 r2 e1
        go_region_law (fail)
        all_goals
          go_wp2
          go_meet
          obtain ⟨r2, e1⟩ := R.out
          rw [e1] at r2
          first | exact r2 | exact r2.drew | exact r2.eq (permS _ _ _) | exact (r2.eq (permS _ _ _)).drew
      case rest =>
        clear g4
        obtain ⟨gu, cu, eu, _, _⟩ := hcut.row_head (by omega)
        subst eu
        obtain ⟨gv, cv, ev, _, _⟩ := hcut.right.row_head (by omega)
        subst ev
        go_upto_block 0 with fail
        go_cut [] (fun wc => ∃ (G : Asn) (vals : List Value), Hid ((∀ w, Sat E G w → Sat E F w) ∧ Was E G n vals (wasOf (St.new n 4))) ∧ Sat E (row 22 1 (.slice (some ⟨gu, 0, none⟩) n cu) n vals * (row 22 1 (.slice (some ⟨gv, 0, none⟩) n cv) n (List.replicate n (.slice none 0 0)) * (store s (St.new n 4) * G))) wc)
        case first =>
          go_wp2_with fail
          go_loopw [13] (fun i wr => ∃ (k : Nat) (Z : List (Value × List Int)) (vals : List Value), k ≤ n ∧ i = .int .i64 k ∧ vals.length = n ∧ (∀ i (hi : i < vals.length), i < k → (vals[i], [0, 0, 0, 0]) ∈ Z) ∧ Sat E (row 22 1 (.slice (some ⟨gu, 0, none⟩) n cu) n vals * (row 22 1 (.slice (some ⟨gv, 0, none⟩) n cv) n (List.replicate n (.slice none 0 0)) * (store s (St.new n 4) * (bag Z * F)))) wr) (fun i _ => n - (intOf i).toNat)
          case atStart => exact ⟨0, [], List.replicate n (.slice none 0 0), by omega, rfl, by simp, fun i _ h => by omega, hcut.eq (by rw [bag, emp_star])⟩
          case round =>
            clear hcut
            obtain ⟨k, Z, vals, hk, rfl, hv, hZ, hr⟩ := hrel
            by_cases hlt : k < n
            · have hkd : (k : Int) < (n : Int) := by omega
              have wk := i64_wrap (x := (k : Int) + 1) (by omega) (by omega)
              have q1 := (hr.alloc (.cells #[.int .u8 0, .int .u8 0, .int .u8 0, .int .u8 0] 5)).blk_row (size := 1) (n := 4) (cap := 4) (by omega) (by simp [maxLen]) rfl
              have t2 := q1.right.row_lt
              have t3 := q1.right.row_free k
              have u2 := q1.right.right.row_lt
              have u3 := q1.right.right.row_free k
              obtain ⟨uo, t4⟩ : ∃ uo, (wr.alloc (.cells #[.int .u8 0, .int .u8 0, .int .u8 0, .int .u8 0] 5)).cell? ⟨gu, k, none⟩ = some uo := ⟨_, (q1.right.row_cell k (by omega)).trans (List.getElem?_eq_getElem (by omega))⟩
              obtain ⟨vo, u4⟩ : ∃ vo, (wr.alloc (.cells #[.int .u8 0, .int .u8 0, .int .u8 0, .int .u8 0] 5)).cell? ⟨gv, k, none⟩ = some vo := ⟨_, (q1.right.right.row_cell k (by omega)).trans (List.getElem?_eq_getElem (by simpa using hlt))⟩
              have hne := q1.right.ne_row_row (by omega) (by omega)
              have hne2 := hne.symm
              have q2 := ((q1.eq (star_left_comm _ _ _)).row_store k (.slice (some ⟨wr.heap.size, 0, none⟩) 4 4)).eq (permT _ _ _ _ _ _)
              have q3 := q2.row_store k (.slice none 0 0)
              have hrep : (List.replicate n (.slice none 0 0 : Value)).set k (.slice none 0 0) = List.replicate n (.slice none 0 0) := by
                apply List.ext_getElem
                · simp
                · intro i h1 h2; simp [List.getElem_set]
              rw [hrep] at q3
              have q4 : Sat E (row 22 1 (.slice (some ⟨gu, 0, none⟩) n cu) n (vals.set k (.slice (some ⟨wr.heap.size, 0, none⟩) 4 4)) * (row 22 1 (.slice (some ⟨gv, 0, none⟩) n cv) n (List.replicate n (.slice none 0 0)) * (store s (St.new n 4) * (bag ((.slice (some ⟨wr.heap.size, 0, none⟩) 4 4, [0, 0, 0, 0]) :: Z) * F)))) _ := q3.eq (permU _ _ _ _ _ _)
              have hZ2 : ∀ i (hi : i < (vals.set k (.slice (some ⟨wr.heap.size, 0, none⟩) 4 4)).length), i < k + 1 → ((vals.set k (.slice (some ⟨wr.heap.size, 0, none⟩) 4 4))[i], [0, 0, 0, 0]) ∈ (.slice (some ⟨wr.heap.size, 0, none⟩) 4 4, [0, 0, 0, 0]) :: Z := by
                intro i hi hik
                rw [List.getElem_set]
                split
                · exact List.mem_cons_self
                · exact List.mem_cons_of_mem _ (hZ i (by simpa using hi) (by omega))
              have Q4 := hid q4
              have HZ := hid hZ2
              clear q1 q2 q3 q4 hZ2 hrep hr hZ
              go_wp2
              go_roundw
              case rel => exact ⟨k + 1, _, _, by omega, by go_num, by simpa using hv, HZ.out, Q4.out⟩
              case measure => simp [intOf]; omega
            · obtain rfl : k = n := by omega
              have hkd : ¬ (k : Int) < (k : Int) := by omega
              have hVV : ∀ v ∈ vals, VV E (bag Z * F) v [0, 0, 0, 0] := fun v hv' => by
                obtain ⟨i, hi, rfl⟩ := List.getElem_of_mem hv'
                have hm := hZ i hi (by omega)
                obtain ⟨A, c, e, _⟩ := bag_at hr.right.right.right _ hm
                simp only at e
                refine ⟨A, c, e, fun w h => ?_⟩
                obtain ⟨A', c', e', r'⟩ := bag_at h _ hm
                simp only at e' r'
                rw [e] at e'
                injection e' with e' _ _
                subst e'
                exact r'
              have hwas : Was E (bag Z * F) k vals (wasOf (St.new k 4)) := by
                refine ⟨hv, by simp [wasOf, landTo, St.new], fun i h1 h2 => ?_⟩
                have : (wasOf (St.new k 4))[i] = [0, 0, 0, 0] := by simp [wasOf, landTo, St.new]
                rw [this]
                exact hVV _ (List.getElem_mem h1)
              have HW := hid (⟨fun w h => h.right, hwas⟩ : (∀ w, Sat E (bag Z * F) w → Sat E F w) ∧ Was E (bag Z * F) k vals (wasOf (St.new k 4)))
              clear hVV hwas hZ
              go_wp2
              go_meet
              exact ⟨bag Z * F, vals, HW, hr⟩
        case rest =>
          obtain ⟨G, vals0, hW0, hcut⟩ := hcut
          obtain ⟨hGF, hwas0⟩ := hW0.out
          have HGF := hid hGF
          have HI0 := hid (⟨⟨Wf.new n 4, rfl, rfl⟩, hwas0⟩ : SInv n 0 (St.new n 4) ∧ Was E G n vals0 (wasOf (St.new n 4)))
          clear hGF hwas0 hW0
          go_upto_block 2 with fail
          go_cut [] (fun wc => ∃ (σ : St) (vals : List Value), Hid (SInv n l1.length σ ∧ Was E G n vals (wasOf σ)) ∧ Sat E (row 22 1 (.slice (some ⟨gu, 0, none⟩) n cu) n vals * (row 22 1 (.slice (some ⟨gv, 0, none⟩) n cv) n (List.replicate n (.slice none 0 0)) * (store s σ * G))) wc)
          case first =>
            as_aux_lemma =>
              go_wp2_with fail
              go_loopw [14] (fun i wr => ∃ (k : Nat) (σ : St) (vals : List Value), k ≤ l1.length ∧ i = .int .i64 k ∧ Hid (SInv n k σ ∧ Was E G n vals (wasOf σ)) ∧ Sat E (row 22 1 (.slice (some ⟨gu, 0, none⟩) n cu) n vals * (row 22 1 (.slice (some ⟨gv, 0, none⟩) n cv) n (List.replicate n (.slice none 0 0)) * (store s σ * G))) wr) (fun i _ => l1.length - (intOf i).toNat)
              case atStart => exact ⟨0, _, vals0, by omega, rfl, HI0, hcut⟩
              case round =>
                clear hcut HI0
                obtain ⟨k, σ, vals, hk, rfl, hi, hr⟩ := hrel
                by_cases hlt : k < l1.length
                · obtain ⟨hsi, hwas⟩ := hi.out
                  have hkd : (k : Int) < (l1.length : Int) := by omega
                  have wk := i64_wrap (x := (k : Int) + 1) (by omega) (by omega)
                  obtain ⟨pd, Ai, ci, Bi, di, hAd, _, _, q3⟩ := sop_at hQ1 hO1 hlt (HGF.out _ hr.right.right.right)
                  subst hAd
                  obtain ⟨_, x1, x2, _, _, _⟩ := q3 _ (HGF.out _ hr.right.right.right.drew)
                  have y1 := fun w (h : Sat E G w) => (q3 w (HGF.out _ h)).2.1
                  have y2 := fun w (h : Sat E G w) => (q3 w (HGF.out _ h)).2.2.1
                  have RB : ∀ w, Sat E G w → Reads w 1 Ai l1[k].2.2.1.length (nums .u8 l1[k].2.2.1) := fun w h => (q3 w (HGF.out _ h)).2.2.2.2.1
                  have hBy := hB1 _ (List.getElem_mem hlt)
                  obtain ⟨hb1, hb2⟩ := HF1.out _ (List.getElem_mem hlt)
                  have hsw := sure_write hsi l1[k].2.1 l1[k].2.2.1 hBy
                  have hok := hsi.wf.sok (by omega) (by omega)
                  have hcall := write_calls s σ l1[k].2.1 Ai l1[k].2.2.1.length ci l1[k].2.2.1 hok.o1 hok.o2 hok.l1 hok.l2 hok.fl (by omega) (hr.drew.eq (show _ = store s σ * (row 22 1 (.slice (some ⟨gu, 0, none⟩) n cu) n vals * (row 22 1 (.slice (some ⟨gv, 0, none⟩) n cv) n (List.replicate n (.slice none 0 0)) * G)) by ac_rfl)) (fun w h => RB w h.right.right)
                  clear q3 hok
                  generalize l1[k] = op at *
                  obtain ⟨kind, ad, B, K⟩ := op
                  simp only at x1 x2 y1 y2 RB hBy hb1 hb2 hsw hcall
                  rcases hsw with ⟨h0, h1, hl4, hwr, hsi2⟩ | ⟨cd, hcd, hwr⟩
                  · rw [hwr] at hcall
                    obtain ⟨j, hj⟩ := Int.eq_ofNat_of_zero_le h0
                    subst hj
                    have hz1 : ¬ (j : Int) < 0 := by omega
                    have hz2 : ¬ (n : Int) ≤ (j : Int) := by omega
                    have hz3 : ((B.length : Int) != 4) = false := by rw [hl4]; rfl
                    have hj2 : (j : Int) < (n : Int) := h1
                    obtain ⟨τ, hτ⟩ : ∃ τ, addFl (opsUp σ) j B = τ := ⟨_, rfl⟩
                    have hw2 : Was E G n (vals.set j (.slice Ai B.length ci)) (wasOf τ) := by
                      rw [← hτ, was_add, Int.toNat_natCast]
                      exact hwas.set j ⟨Ai, ci, rfl, RB⟩
                    rw [hτ] at hcall hsi2
                    have HW := hid (⟨hsi2, hw2⟩ : SInv n (k + 1) τ ∧ Was E G n (vals.set j (.slice Ai B.length ci)) (wasOf τ))
                    have HC := hid hcall
                    have hvl := hwas.1
                    clear hcall hwr hτ hsi hsi2 hwas hw2 hi hl4 hr
                    go_wp2_with fail
                    refine wp_region_tail 11 (by kernel_rfl) (by kernel_rfl) ?_
                    simp only [List.take_succ_cons, List.take_zero, List.drop_succ_cons, List.drop_zero]
                    repeat still_step
                    refine wpStill_nil ?_
                    go_wp2_with fail
                    refine HC.out.mono ?_
                    rintro e w5 ⟨rfl, g5⟩
                    have g6 : Sat E (row 22 1 (.slice (some ⟨gu, 0, none⟩) n cu) n vals * (row 22 1 (.slice (some ⟨gv, 0, none⟩) n cv) n (List.replicate n (.slice none 0 0)) * (store s τ * G))) w5 := g5.eq (by ac_rfl)
                    have z1 := y1 _ g6.right.right.right
                    have z2 := y2 _ g6.right.right.right
                    have z3 := y1 _ g6.right.right.right.drew
                    have z4 := y2 _ g6.right.right.right.drew
                    have t2 := g6.drew.row_lt
                    have t3 := g6.drew.row_free j
                    obtain ⟨uo, t4⟩ : ∃ uo, w5.drew.cell? ⟨gu, j, none⟩ = some uo := ⟨_, (g6.drew.row_cell j (by omega)).trans (List.getElem?_eq_getElem (by omega))⟩
                    have Q := hid (g6.drew.row_store j (.slice Ai B.length ci))
                    clear g5 g6 y1 y2
                    go_wp2_with fail
                    refine wp_region_tail 12 (by kernel_rfl) (by kernel_rfl) ?_
                    simp only [List.take_succ_cons, List.take_zero, List.drop_succ_cons, List.drop_zero]
                    repeat still_step
                    refine wpStill_nil ?_
                    go_wp2
                    go_roundw
                    case rel => exact ⟨k + 1, τ, _, by omega, by go_num, HW, Q.out⟩
                    case measure => simp [intOf]; omega
                  · rw [hwr] at hcall
                    have hsi2 := hsi.opsUp
                    rw [← was_ops] at hwas
                    generalize opsUp σ = τ at *
                    have HW := hid (⟨hsi2, hwas⟩ : SInv n (k + 1) τ ∧ Was E G n vals (wasOf τ))
                    have HC := hid hcall
                    clear hcall hwr hsi hsi2 hwas hi hr
                    go_wp2_with fail
                    refine wp_region_tail 11 (by kernel_rfl) (by kernel_rfl) ?_
                    simp only [List.take_succ_cons, List.take_zero, List.drop_succ_cons, List.drop_zero]
                    repeat still_step
                    refine wpStill_nil ?_
                    go_wp2_with fail
                    refine HC.out.mono ?_
                    rintro e w5 ⟨rfl, g5⟩
                    have g6 : Sat E (row 22 1 (.slice (some ⟨gu, 0, none⟩) n cu) n vals * (row 22 1 (.slice (some ⟨gv, 0, none⟩) n cv) n (List.replicate n (.slice none 0 0)) * (store s τ * G))) w5 := g5.eq (by ac_rfl)
                    clear g5
                    go_wp2
                    go_roundw
                    case rel => exact ⟨k + 1, τ, vals, by omega, by go_num, HW, g6⟩
                    case measure => simp [intOf]; omega
                · obtain rfl : k = l1.length := by omega
                  have hkd : ¬ (l1.length : Int) < (l1.length : Int) := by omega
                  go_wp2
                  go_meet
                  exact ⟨σ, vals, hi, hr⟩
          case rest =>
            obtain ⟨σ0, vals, hi, hr⟩ := hcut
            obtain ⟨hsi, hwas⟩ := hi.out
            obtain ⟨hsy, hsi2⟩ := sure_sync hsi
            have hok := hsi.wf.sok (by omega) (by omega)
            have hcall := sync_calls s σ0 hok.o1 hok.o2 hok.l1 hok.l2 (hr.eq (show _ = store s σ0 * (row 22 1 (.slice (some ⟨gu, 0, none⟩) n cu) n vals * (row 22 1 (.slice (some ⟨gv, 0, none⟩) n cv) n (List.replicate n (.slice none 0 0)) * G)) by ac_rfl))
            rw [hsy] at hcall
            obtain ⟨τ, hτ⟩ : ∃ τ, lands (fun _ => true) (opsUp σ0) = τ := ⟨_, rfl⟩
            have hfl0 : τ.fl.length = 0 := by rw [← hτ]; rfl
            have hcs0 : τ.cs = wasOf σ0 := by rw [← hτ]; exact was_ops σ0
            rw [hτ] at hcall hsi2
            rw [← hcs0] at hwas
            have hnow : Now E G n (List.replicate n (.slice none 0 0)) (landTo (keepFn ka) τ τ.fl.length) τ.cs := by
              rw [hfl0]
              exact Now.start hwas.2.1
            obtain ⟨C0, hC0⟩ : ∃ C0, τ.cs = C0 := ⟨_, rfl⟩
            rw [hC0] at hwas hnow
            have HWAS := hid hwas
            have HI2 := hid (⟨hsi2, hnow⟩ : SInv n (l1.length + 1 + 0) τ ∧ Now E G n (List.replicate n (.slice none 0 0)) (landTo (keepFn ka) τ τ.fl.length) C0)
            have HC := hid hcall
            have HFL0 := hid hfl0
            clear hi hr hsi hwas hsy hsi2 hok hcall hτ hcs0 hnow hC0 hfl0
            go_wp2_with fail
            refine HC.out.mono ?_
            rintro e w5 ⟨rfl, g7⟩
            go_wp2_with fail
            refine (flight_calls s τ g7).mono ?_
            rw [HFL0.out]
            rintro e w6 ⟨rfl, rfl⟩
            have g8 : Sat E (row 22 1 (.slice (some ⟨gu, 0, none⟩) n cu) n vals * (row 22 1 (.slice (some ⟨gv, 0, none⟩) n cv) n (List.replicate n (.slice none 0 0)) * (store s τ * G))) _ := g7.eq (by ac_rfl)
            clear g7 HC
            go_upto_block 4 with fail
            go_cut [15] (fun v wc => ∃ (σ : St) (nv : List Value), v = .int .i64 σ.fl.length ∧ Hid (SInv n (l1.length + 1 + l2.length) σ ∧ Now E G n nv (landTo (keepFn ka) σ σ.fl.length) C0) ∧ Sat E (row 22 1 (.slice (some ⟨gu, 0, none⟩) n cu) n vals * (row 22 1 (.slice (some ⟨gv, 0, none⟩) n cv) n nv * (store s σ * G))) wc)
            case first =>
              as_aux_lemma =>
                go_wp2_with fail
                go_loopw [15, 16] (fun v i wr => ∃ (k : Nat) (σ : St) (nv : List Value), k ≤ l2.length ∧ i = .int .i64 k ∧ v = .int .i64 σ.fl.length ∧ Hid (SInv n (l1.length + 1 + k) σ ∧ Now E G n nv (landTo (keepFn ka) σ σ.fl.length) C0) ∧ Sat E (row 22 1 (.slice (some ⟨gu, 0, none⟩) n cu) n vals * (row 22 1 (.slice (some ⟨gv, 0, none⟩) n cv) n nv * (store s σ * G))) wr) (fun _ i _ => l2.length - (intOf i).toNat)
                case atStart => exact ⟨0, _, _, by omega, rfl, by first | rfl | (rw [HFL0.out]; rfl), HI2, g8⟩
                case round =>
                  clear g8 HI2 HFL0
                  obtain ⟨k, σ, nv, hk, rfl, rfl, hi, hr⟩ := hrel
                  by_cases hlt : k < l2.length
                  · obtain ⟨hsi, hnow⟩ := hi.out
                    have hkd : (k : Int) < (l2.length : Int) := by omega
                    have wk := i64_wrap (x := (k : Int) + 1) (by omega) (by omega)
                    obtain ⟨pd, Ai, ci, Bi, di, hAd, _, _, q3⟩ := sop_at hQ2 hO2 hlt (HGF.out _ hr.right.right.right)
                    subst hAd
                    obtain ⟨_, x1, x2, _, _, _⟩ := q3 _ (HGF.out _ hr.right.right.right.drew)
                    have y1 := fun w (h : Sat E G w) => (q3 w (HGF.out _ h)).2.1
                    have y2 := fun w (h : Sat E G w) => (q3 w (HGF.out _ h)).2.2.1
                    have RB : ∀ w, Sat E G w → Reads w 1 Ai l2[k].2.2.1.length (nums .u8 l2[k].2.2.1) := fun w h => (q3 w (HGF.out _ h)).2.2.2.2.1
                    have hBy := hB2 _ (List.getElem_mem hlt)
                    obtain ⟨hb1, hb2⟩ := HF2.out _ (List.getElem_mem hlt)
                    have hsw := sure_write hsi l2[k].2.1 l2[k].2.2.1 hBy
                    have hok := hsi.wf.sok (by omega) (by omega)
                    have hcall := write_calls s σ l2[k].2.1 Ai l2[k].2.2.1.length ci l2[k].2.2.1 hok.o1 hok.o2 hok.l1 hok.l2 hok.fl (by omega) (hr.drew.eq (show _ = store s σ * (row 22 1 (.slice (some ⟨gu, 0, none⟩) n cu) n vals * (row 22 1 (.slice (some ⟨gv, 0, none⟩) n cv) n nv * G)) by ac_rfl)) (fun w h => RB w h.right.right)
                    clear q3 hok
                    generalize l2[k] = op at *
                    obtain ⟨kind, ad, B, K⟩ := op
                    simp only at x1 x2 y1 y2 RB hBy hb1 hb2 hsw hcall
                    have hfll := hsi.wf.fll
                    have wf2 := i64_wrap (x := (σ.fl.length : Int) + 1) (by omega) (by omega)
                    rcases hsw with ⟨h0, h1, hl4, hwr, hsi2⟩ | ⟨cd, hcd, hwr⟩
                    · rw [hwr] at hcall
                      obtain ⟨j, hj⟩ := Int.eq_ofNat_of_zero_le h0
                      subst hj
                      have hz1 : ¬ (j : Int) < 0 := by omega
                      have hz2 : ¬ (n : Int) ≤ (j : Int) := by omega
                      have hj2 : (j : Int) < (n : Int) := h1
                      obtain ⟨adr, hadr, _⟩ := (RB _ hr.right.right.right).at (by omega)
                      subst hadr
                      have hna := now_add (keepFn ka) σ j B
                      rw [Int.toNat_natCast] at hna
                      have hfa : (addFl (opsUp σ) j B).fl.length = σ.fl.length + 1 := by simp [addFl, opsUp]
                      have hKr := hR
                      obtain ⟨τ, hτ⟩ : ∃ τ, addFl (opsUp σ) j B = τ := ⟨_, rfl⟩
                      rw [hτ] at hcall hsi2 hna hfa
                      have HC := hid hcall
                      have hvl := hnow.1
                      have HS := hid hsi2
                      have HFA := hid hfa
                      cases hp : keepFn ka σ.fl.length with
                      | true =>
                        rw [hp, if_pos rfl] at hna
                        have hkl : σ.fl.length < ka.length := by
                          rcases Nat.lt_or_ge σ.fl.length ka.length with h | h
                          · exact h
                          · rw [keepFn_off (by omega)] at hp; cases hp
                        have hkb := keepFn_on hkl
                        rw [hp] at hkb
                        have HKB := hid hkb
                        clear hkb
                        have hw2 : Now E G n (nv.set j (.slice (some adr) B.length ci)) (landTo (keepFn ka) τ τ.fl.length) C0 := by
                          rw [hna]
                          exact hnow.set j RB
                        have HW := hid hw2
                        have hkd2 : (σ.fl.length : Int) < (ka.length : Int) := by omega
                        clear hcall hwr hτ hsi hsi2 hnow hw2 hi hl4 hr hna hfa hp
                        go_wp2_with fail
                        refine wp_region_tail 11 (by kernel_rfl) (by kernel_rfl) ?_
                        simp only [List.take_succ_cons, List.take_zero, List.drop_succ_cons, List.drop_zero]
                        repeat still_step
                        refine wpStill_nil ?_
                        go_wp2_with fail
                        refine HC.out.mono ?_
                        rintro e w5 ⟨rfl, g5⟩
                        have g6 : Sat E (row 22 1 (.slice (some ⟨gu, 0, none⟩) n cu) n vals * (row 22 1 (.slice (some ⟨gv, 0, none⟩) n cv) n nv * (store s τ * G))) w5 := g5.eq (by ac_rfl)
                        obtain ⟨kd, hkd0, hkc⟩ := (hR _ (HGF.out _ g6.right.right.right)).at (by omega)
                        have kb := hkc _ _ (bools_at hkl)
                        rw [← HKB.out] at kb
                        subst hkd0
                        have z1 := y1 _ g6.right.right.right
                        have z2 := y2 _ g6.right.right.right
                        have z3 := y1 _ g6.right.right.right.drew
                        have z4 := y2 _ g6.right.right.right.drew
                        have g7 := (g6.drew.eq (star_left_comm _ _ _))
                        have t2 := g7.row_lt
                        have t3 := g7.row_free j
                        obtain ⟨uo, t4⟩ : ∃ uo, w5.drew.cell? ⟨gv, j, none⟩ = some uo := ⟨_, (g7.row_cell j (by omega)).trans (List.getElem?_eq_getElem (by omega))⟩
                        have Q := hid ((g7.row_store j (.slice (some adr) B.length ci)).eq (star_left_comm _ _ _))
                        clear g5 g6 g7 y1 y2 hkc
                        go_wp2_with fail
                        refine wp_region_tail 12 (by kernel_rfl) (by kernel_rfl) ?_
                        simp only [List.take_succ_cons, List.take_zero, List.drop_succ_cons, List.drop_zero]
                        repeat still_step
                        refine wpStill_nil ?_
                        go_wp2
                        go_roundw
                        case rel => exact ⟨k + 1, τ, _, by omega, by go_num, by rw [HFA.out]; go_num, ⟨HS.out, HW.out⟩, Q.out⟩
                        case measure => simp [intOf]; omega
                      | false =>
                        rw [hp, if_neg (by simp)] at hna
                        rw [← hna] at hnow
                        have HW := hid hnow
                        by_cases hkl : σ.fl.length < ka.length
                        · have hkb := keepFn_on hkl
                          rw [hp] at hkb
                          have HKB := hid hkb
                          clear hkb
                          have hkd2 : (σ.fl.length : Int) < (ka.length : Int) := by omega
                          clear hcall hwr hτ hsi hsi2 hnow hi hl4 hr hna hfa hp
                          go_wp2_with fail
                          refine wp_region_tail 11 (by kernel_rfl) (by kernel_rfl) ?_
                          simp only [List.take_succ_cons, List.take_zero, List.drop_succ_cons, List.drop_zero]
                          repeat still_step
                          refine wpStill_nil ?_
                          go_wp2_with fail
                          refine HC.out.mono ?_
                          rintro e w5 ⟨rfl, g5⟩
                          have g6 : Sat E (row 22 1 (.slice (some ⟨gu, 0, none⟩) n cu) n vals * (row 22 1 (.slice (some ⟨gv, 0, none⟩) n cv) n nv * (store s τ * G))) w5 := g5.eq (by ac_rfl)
                          obtain ⟨kd, hkd0, hkc⟩ := (hR _ (HGF.out _ g6.right.right.right)).at (by omega)
                          have kb := hkc _ _ (bools_at hkl)
                          rw [← HKB.out] at kb
                          subst hkd0
                          have z1 := y1 _ g6.right.right.right
                          have z2 := y2 _ g6.right.right.right
                          clear g5 y1 y2 hkc
                          go_wp2
                          go_roundw
                          case rel => exact ⟨k + 1, τ, nv, by omega, by go_num, by rw [HFA.out]; go_num, ⟨HS.out, HW.out⟩, g6⟩
                          case measure => simp [intOf]; omega
                        · have hkd2 : ¬ (σ.fl.length : Int) < (ka.length : Int) := by omega
                          clear hcall hwr hτ hsi hsi2 hnow hi hl4 hr hna hfa hp
                          go_wp2_with fail
                          refine wp_region_tail 11 (by kernel_rfl) (by kernel_rfl) ?_
                          simp only [List.take_succ_cons, List.take_zero, List.drop_succ_cons, List.drop_zero]
                          repeat still_step
                          refine wpStill_nil ?_
                          go_wp2_with fail
                          refine HC.out.mono ?_
                          rintro e w5 ⟨rfl, g5⟩
                          have g6 : Sat E (row 22 1 (.slice (some ⟨gu, 0, none⟩) n cu) n vals * (row 22 1 (.slice (some ⟨gv, 0, none⟩) n cv) n nv * (store s τ * G))) w5 := g5.eq (by ac_rfl)
                          have z1 := y1 _ g6.right.right.right
                          have z2 := y2 _ g6.right.right.right
                          clear g5 y1 y2
                          go_wp2
                          go_roundw
                          case rel => exact ⟨k + 1, τ, nv, by omega, by go_num, by rw [HFA.out]; go_num, ⟨HS.out, HW.out⟩, g6⟩
                          case measure => simp [intOf]; omega
                    · rw [hwr] at hcall
                      have hsi2 := hsi.opsUp
                      have hna : landTo (keepFn ka) (opsUp σ) (opsUp σ).fl.length = landTo (keepFn ka) σ σ.fl.length := landTo_congr (σ := opsUp σ) (τ := σ) rfl rfl σ.fl.length
                      rw [← hna] at hnow
                      obtain ⟨τ, hτ⟩ : ∃ τ, opsUp σ = τ := ⟨_, rfl⟩
                      have hfa : τ.fl.length = σ.fl.length := by rw [← hτ]; rfl
                      rw [hτ] at hcall hsi2 hnow
                      have HW := hid (⟨hsi2, hnow⟩ : SInv n (l1.length + 1 + k + 1) τ ∧ Now E G n nv (landTo (keepFn ka) τ τ.fl.length) C0)
                      have HC := hid hcall
                      have HFA := hid hfa
                      clear hcall hwr hsi hsi2 hnow hi hr hτ hna hfa
                      go_wp2_with fail
                      refine wp_region_tail 11 (by kernel_rfl) (by kernel_rfl) ?_
                      simp only [List.take_succ_cons, List.take_zero, List.drop_succ_cons, List.drop_zero]
                      repeat still_step
                      refine wpStill_nil ?_
                      go_wp2_with fail
                      refine HC.out.mono ?_
                      rintro e w5 ⟨rfl, g5⟩
                      have g6 : Sat E (row 22 1 (.slice (some ⟨gu, 0, none⟩) n cu) n vals * (row 22 1 (.slice (some ⟨gv, 0, none⟩) n cv) n nv * (store s τ * G))) w5 := g5.eq (by ac_rfl)
                      clear g5
                      go_wp2
                      go_roundw
                      case rel => exact ⟨k + 1, τ, nv, by omega, by go_num, by rw [HFA.out], HW, g6⟩
                      case measure => simp [intOf]; omega
                  · obtain rfl : k = l2.length := by omega
                    have hkd : ¬ (l2.length : Int) < (l2.length : Int) := by omega
                    go_wp2
                    go_meet
                    exact ⟨σ, nv, rfl, hi, hr⟩
            case rest =>
              obtain ⟨σ, nv, rfl, hi, hr⟩ := hcut
              clear g8 HI2 HFL0
              obtain ⟨hsi, hnow⟩ := hi.out
              obtain ⟨hs1, hs2, hs3, hs4⟩ := sure_crash hsi ka
              obtain ⟨τ4, hτ4⟩ : ∃ τ4, ({ crash ka σ with down := false } : St) = τ4 := ⟨_, rfl⟩
              rw [hτ4] at hs1 hs3 hs4
              have HT4 := hid hτ4
              have hup := hsi.up
              have HNOW := hid hnow
              obtain ⟨C1, hC1⟩ : ∃ C1, landTo (keepFn ka) σ σ.fl.length = C1 := ⟨_, rfl⟩
              rw [hC1] at HNOW hs4
              have HI4 := hid (⟨hs1, hs3, hs4⟩ : SInv n (l1.length + 1 + l2.length + 0) τ4 ∧ τ4.fl = [] ∧ τ4.cs = C1)
              have hf0 : (τ4.fl.length : Int) = 0 := by rw [hs3]; rfl
              have HF0 := hid hf0
              have HUP := hid hup
              have HDN := hid hs2
              have g9 := hr.eq (show _ = store s σ * (row 22 1 (.slice (some ⟨gu, 0, none⟩) n cu) n vals * (row 22 1 (.slice (some ⟨gv, 0, none⟩) n cv) n nv * G)) by ac_rfl)
              clear hi hnow hsi hs1 hs2 hs3 hs4 hC1 hup hr hf0 hτ4
              go_wp2_with fail
              refine (flight_calls s σ g9).mono ?_
              rintro e w6 ⟨rfl, rfl⟩
              go_wp2_with fail
              refine (crash_calls s σ C ka.length cc ka g9 (fun w h => hR _ (HGF.out _ h.right.right))).mono ?_
              rw [HUP.out]
              rintro e w7 ⟨rfl, g10⟩
              go_wp2_with fail
              refine (reboot_calls s _ g10).mono ?_
              rw [HDN.out]
              rintro e w8 ⟨rfl, g11⟩
              replace g11 : Sat E (store s τ4 * (row 22 1 (.slice (some ⟨gu, 0, none⟩) n cu) n vals * (row 22 1 (.slice (some ⟨gv, 0, none⟩) n cv) n nv * G))) w8 := by rw [← HT4.out]; exact g11
              go_wp2_with fail
              refine (flight_calls s _ g11).mono ?_
              rw [HF0.out]
              rintro e w9 ⟨rfl, rfl⟩
              have g12 : Sat E (row 22 1 (.slice (some ⟨gu, 0, none⟩) n cu) n vals * (row 22 1 (.slice (some ⟨gv, 0, none⟩) n cv) n nv * (store s τ4 * G))) _ := g11.eq (by ac_rfl)
              clear g9 g10 g11
              as_aux_lemma =>
                go_wp2_with fail
                go_loopw [17] (fun i wr => ∃ (k : Nat) (σ : St), k ≤ n ∧ i = .int .i64 k ∧ Hid (SInv n (l1.length + 1 + l2.length + k) σ ∧ σ.fl = [] ∧ σ.cs = C1) ∧ Sat E (row 22 1 (.slice (some ⟨gu, 0, none⟩) n cu) n vals * (row 22 1 (.slice (some ⟨gv, 0, none⟩) n cv) n nv * (store s σ * G))) wr) (fun i _ => n - (intOf i).toNat)
                case atStart => exact ⟨0, _, by omega, rfl, HI4, g12⟩
                case round =>
                  clear g12 HI4
                  obtain ⟨k, σ, hk, rfl, hi, hr⟩ := hrel
                  by_cases hlt : k < n
                  · have hkd : (k : Int) < (n : Int) := by omega
                    have wk := i64_wrap (x := (k : Int) + 1) (by omega) (by omega)
                    obtain ⟨hsi, hfl, hcs⟩ := hi.out
                    have hrd := sure_read hsi hfl k (by rw [hsi.wf.csl]; exact hlt)
                    have hby := (hsi.wf.cs _ (List.getElem_mem (show k < σ.cs.length by rw [hsi.wf.csl]; exact hlt))).2
                    have hok := hsi.wf.sok (by omega) (by omega)
                    obtain ⟨l1w, l2w, hvw⟩ := HWAS.out
                    obtain ⟨l1n, l2n, l3n, hvn⟩ := HNOW.out
                    have hC : σ.cs[k]'(by rw [hsi.wf.csl]; exact hlt) = C1[k]'(by omega) := by simp only [hcs]
                    rw [hC] at hrd hby
                    have hcall := read_calls s σ k hok.o1 hok.o2 hok.l1 hok.l2 hok.sz (hr.eq (show _ = store s σ * (row 22 1 (.slice (some ⟨gu, 0, none⟩) n cu) n vals * (row 22 1 (.slice (some ⟨gv, 0, none⟩) n cv) n nv * G)) by ac_rfl))
                    rw [hrd] at hcall
                    have hcu := (hr.row_cell k (by omega)).trans (List.getElem?_eq_getElem (show k < vals.length by omega))
                    have hcv := ((hr.eq (star_left_comm _ _ _)).row_cell k (by omega)).trans (List.getElem?_eq_getElem (show k < nv.length by omega))
                    obtain ⟨Aw, cw, ew, rw_⟩ := hvw k (by omega) (by omega)
                    have hnk := hvn k (by omega) (by omega) (by omega)
                    have hneq := fun (w : World) a l c => run_neq_slice_nil (P := Try.prog) w 22 5 a l c Try.underlying22
                    have hsi2 := hsi.opsUp
                    have HS := hid (⟨hsi2, hfl, hcs⟩ : SInv n (l1.length + 1 + l2.length + k + 1) (opsUp σ) ∧ (opsUp σ).fl = [] ∧ (opsUp σ).cs = C1)
                    have HC := hid hcall
                    have HB := hid hby
                    rw [ew] at hcu
                    clear hcall hby hok hrd hC hsi hfl hcs hsi2 hi ew hvw hvn
                    generalize opsUp σ = τ at *
                    rcases hnk with ⟨en, ec⟩ | ⟨an, cn, en, rn⟩
                    · rw [en] at hcv
                      have HEC := hid ec
                      have HRW := hid rw_
                      clear en ec rw_
                      go_wp2_with fail
                      refine HC.out.mono ?_
                      rintro e w5 ⟨v5, rfl, g5⟩
                      obtain ⟨A5, c5, rfl, _, _, _⟩ := g5.reads
                      have r2 := HRW.out _ g5.right.right.right.right
                      rw [← HEC.out] at r2
                      have g6 : Sat E (row 22 1 (.slice (some ⟨gu, 0, none⟩) n cu) n vals * (row 22 1 (.slice (some ⟨gv, 0, none⟩) n cv) n nv * (store s τ * G))) w5 := g5.right.eq (by ac_rfl)
                      have g5r := g5.reads_at
                      clear g5
                      go_wp2_with fail
                      refine (bytesEq A5 Aw _ _ c5 cw C1[k] C1[k] g5r (by rw [← HEC.out]; exact r2) HB.out HB.out).mono ?_
                      rw [decide_eq_true (rfl : C1[k] = C1[k])]
                      rintro e w7 ⟨rfl, rfl⟩
                      go_wp2
                      go_roundw
                      case rel => exact ⟨k + 1, τ, by omega, by go_num, HS, g6⟩
                      case measure => simp [intOf]; omega
                    · rw [en] at hcv
                      have HRW := hid rn
                      clear en rn rw_
                      go_wp2_with fail
                      refine HC.out.mono ?_
                      rintro e w5 ⟨v5, rfl, g5⟩
                      obtain ⟨A5, c5, rfl, _, _, _⟩ := g5.reads
                      have r2 := HRW.out _ g5.right.right.right.right
                      have g6 : Sat E (row 22 1 (.slice (some ⟨gu, 0, none⟩) n cu) n vals * (row 22 1 (.slice (some ⟨gv, 0, none⟩) n cv) n nv * (store s τ * G))) w5 := g5.right.eq (by ac_rfl)
                      have g5r := g5.reads_at
                      clear g5
                      go_wp2_with fail
                      refine (bytesEq A5 (some an) _ _ c5 cn C1[k] C1[k] g5r r2 HB.out HB.out).mono ?_
                      rw [decide_eq_true (rfl : C1[k] = C1[k])]
                      rintro e w7 ⟨rfl, rfl⟩
                      go_wp2
                      go_roundw
                      case rel => exact ⟨k + 1, τ, by omega, by go_num, HS, g6⟩
                      case measure => simp [intOf]; omega
                  · obtain rfl : k = n := by omega
                    have hkd : ¬ (k : Int) < (k : Int) := by omega
                    have g13 := HGF.out _ hr.right.right.right
                    go_wp2_with fail
                    refine (first2 g13).mono ?_
                    rintro e w5 ⟨rfl, g5⟩
                    go_wp2
                    go_ret
                    exact ⟨rfl, g5⟩
    · skip
      go_wp2_with fail
      refine (first2 g4.right).mono ?_
      rintro e w5 ⟨rfl, g5⟩
      go_wp2
      go_ret
      exact ⟨rfl, g5⟩
  · skip
    go_wp2_with fail
    refine (first2 g3.right).mono ?_
    rintro e w5 ⟨rfl, g5⟩
    go_wp2
    go_ret
    exact ⟨rfl, g5⟩
end Go.Proofs.Ytacfaegljjgneaa
