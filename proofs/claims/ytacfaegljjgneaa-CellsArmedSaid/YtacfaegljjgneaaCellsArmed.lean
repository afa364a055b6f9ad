import Derived.Test.YtacfaegljjgneaaCellsArm
import Derived.Deep.DeepCutAuto
import Derived.Deep.CutBlock
namespace Go.Proofs.Ytacfaegljjgneaa
set_option linter.unusedVariables false
set_option linter.unusedSimpArgs false
open Go.RowKit Go.Proofs.Sep

set_option maxRecDepth 100000 in
set_option maxHeartbeats 4000000 in
theorem cellsArmed_bad {E w : World} {F : Asn} (x y : Int) (hbad : x < 1 ∨ 100 < x ∨ y < 0 ∨ 200 < y) (hS : Sat E F w) :
    Calls Try.prog 6 #[.int .i64 x, .int .i64 y] w fun e w' => e = .returned (.bool true) ∧ Sat E F w' := by
  by_cases x1 : x < 1
  · skip
    go_enter Try.func6, Try.ntmps6
    go_wp2_with fail
    refine (first2 hS).mono ?_
    rintro e w1 ⟨rfl, g1⟩
    go_wp2_with fail
    refine (cellsNew 3 2 (by omega) (by omega) (by omega) (by omega) g1).mono ?_
    rintro e w2 ⟨s, rfl, g2⟩
    go_wp2_with fail
    refine (first2 g2.right).mono ?_
    rintro e w3 ⟨rfl, g3⟩
    go_wp2
    go_ret
    exact ⟨rfl, g3⟩
  by_cases x2 : 100 < x
  · skip
    go_enter Try.func6, Try.ntmps6
    go_wp2_with fail
    refine (first2 hS).mono ?_
    rintro e w1 ⟨rfl, g1⟩
    go_wp2_with fail
    refine (cellsNew 3 2 (by omega) (by omega) (by omega) (by omega) g1).mono ?_
    rintro e w2 ⟨s, rfl, g2⟩
    go_wp2_with fail
    refine (first2 g2.right).mono ?_
    rintro e w3 ⟨rfl, g3⟩
    go_wp2
    go_ret
    exact ⟨rfl, g3⟩
  by_cases y1 : y < 0
  · skip
    go_enter Try.func6, Try.ntmps6
    go_wp2_with fail
    refine (first2 hS).mono ?_
    rintro e w1 ⟨rfl, g1⟩
    go_wp2_with fail
    refine (cellsNew 3 2 (by omega) (by omega) (by omega) (by omega) g1).mono ?_
    rintro e w2 ⟨s, rfl, g2⟩
    go_wp2_with fail
    refine (first2 g2.right).mono ?_
    rintro e w3 ⟨rfl, g3⟩
    go_wp2
    go_ret
    exact ⟨rfl, g3⟩
  by_cases y2 : 200 < y
  · skip
    go_enter Try.func6, Try.ntmps6
    go_wp2_with fail
    refine (first2 hS).mono ?_
    rintro e w1 ⟨rfl, g1⟩
    go_wp2_with fail
    refine (cellsNew 3 2 (by omega) (by omega) (by omega) (by omega) g1).mono ?_
    rintro e w2 ⟨s, rfl, g2⟩
    go_wp2_with fail
    refine (first2 g2.right).mono ?_
    rintro e w3 ⟨rfl, g3⟩
    go_wp2
    go_ret
    exact ⟨rfl, g3⟩
  omega

set_option maxRecDepth 100000 in
set_option maxHeartbeats 4000000 in
theorem cellsArmed {E w : World} {F : Asn} (x y : Int) (hS : Sat E F w) :
    Calls Try.prog 6 #[.int .i64 x, .int .i64 y] w fun e w' => e = .returned (.bool true) ∧ Sat E F w' := by
  by_cases hbad : x < 1 ∨ 100 < x ∨ y < 0 ∨ 200 < y
  · exact cellsArmed_bad x y hbad hS
  have x1 : ¬ x < 1 := by omega
  have x2 : ¬ 100 < x := by omega
  have y1 : ¬ y < 0 := by omega
  have y2 : ¬ 200 < y := by omega
  clear hbad
  obtain ⟨a, rfl⟩ := Int.eq_ofNat_of_zero_le (show 0 ≤ x by omega)
  obtain ⟨Y, rfl⟩ := Int.eq_ofNat_of_zero_le (show 0 ≤ y by omega)
  go_enter Try.func6, Try.ntmps6
  go_wp2_with fail
  refine (first2 hS).mono ?_
  rintro e w1 ⟨rfl, g1⟩
  go_wp2_with fail
  refine (cellsNew 3 2 (by omega) (by omega) (by omega) (by omega) g1).mono ?_
  rintro e w2 ⟨s, rfl, g2⟩
  clear g1 hS
  have ea1 : arm (St.new 3 2) a [] = (true, { St.new 3 2 with left := a, keep := [] }) := if_neg (by omega)
  have ea2 : ∀ σ, arm σ 0 [] = (false, σ) := fun σ => if_pos (by omega)
  have EA1 := hid ea1
  clear ea1
  go_wp2_with fail
  refine (arm_calls s (St.new 3 2) a none 0 0 [] (by omega) g2 (fun w _ => nil_reads w _ 1 rfl)).mono ?_
  rw [EA1.out]
  rintro e w3 ⟨rfl, g3⟩
  clear g2
  go_wp2_with fail
  refine (arm_calls s _ 0 none 0 0 [] (by omega) g3 (fun w _ => nil_reads w _ 1 rfl)).mono ?_
  rw [ea2]
  rintro e w4 ⟨rfl, g4⟩
  clear g3 ea2
  have HI := hid (AInv.start a (by omega))
  go_wp2_with fail
  go_loopw [7, 8] (fun i _ wr => ∃ (k : Nat) (σ : St), 1 ≤ k ∧ k ≤ Y + 1 ∧ i = .int .i64 k ∧ AInv σ (k - 1) a ∧ Sat E (store s σ * F) wr) (fun i _ _ => Y + 1 - (intOf i).toNat)
  case atStart => exact ⟨1, _, by omega, by omega, rfl, HI.out, g4⟩
  case round =>
    clear g4 HI EA1
    obtain ⟨k, σ, hk1, hk2, rfl, hi, hr⟩ := hrel
    by_cases hlt : k < Y + 1
    · have hkd : (k : Int) ≤ (Y : Int) := by omega
      have wk := i64_wrap (x := (k : Int) + 1) (by omega) (by omega)
      obtain ⟨b1, b2, b3, b4⟩ := hi.bounds (by omega) (by omega)
      obtain ⟨c1, c2, c3⟩ := hi.begins
      have b5 : (begins σ).2.size ≤ 4096 := by rw [c2.size]; omega
      have b6 : (begins σ).2.fl.length ≤ 1000000 := by omega
      have p1 := hi.sync
      have p2 := fun z b => hi.write z b
      have p3 := fun z => hi.read z
      rw [Nat.sub_add_cancel hk1] at p1
      simp only [Nat.sub_add_cancel hk1] at p2 p3
      clear c1 c2 c3
      have h3 : (((k : Int) % 3 == 0) = true) ∨ (((k : Int) % 3 == 0) = false ∧ ((k : Int) % 3 == 1) = true) ∨ (((k : Int) % 3 == 0) = false ∧ ((k : Int) % 3 == 1) = false) := by
        by_cases q0 : (k : Int) % 3 = 0
        · exact .inl (by simp only [beq_iff_eq]; exact q0)
        · by_cases q1 : (k : Int) % 3 = 1
          · exact .inr (.inl ⟨beq_eq_false_iff_ne.2 q0, by simp only [beq_iff_eq]; exact q1⟩)
          · exact .inr (.inr ⟨beq_eq_false_iff_ne.2 q0, beq_eq_false_iff_ne.2 q1⟩)
      have P1 := hid p1
      have P2 := hid p2
      have P3 := hid p3
      clear hi p1 p2 p3
      go_upto_block 2 with fail
      go_cut [8] (fun v wc => ∃ (code : Int) (τ : St), v = .int .i64 code ∧ Hid ((code == 6) = decide (a ≤ k) ∧ AInv τ k a) ∧ Sat E (store s τ * F) wc)
      case first =>
       rcases h3 with h3 | ⟨h3, h4⟩ | ⟨h3, h4⟩
       · skip
         have hcall := sync_calls s σ b1 b2 b3 b4 hr
         have pc := P1
         generalize sync σ = q at *
         obtain ⟨code, τ⟩ := q
         simp only at hcall pc
         go_wp2_with fail
         refine hcall.mono ?_
         rintro e w5 ⟨rfl, g⟩
         clear hcall
         go_wp2
         go_meet
         exact ⟨_, _, rfl, pc, g⟩
       · skip
         have g0 := (hr.alloc (.cells #[.int .u8 1, .int .u8 2] 5)).eq (star_left_comm _ _ _)
         have hcall := write_calls s σ ((k : Int) % 2) (some ⟨wr.heap.size, 0, none⟩) 2 2 [1, 2] b1 b2 b3 b4 b6 (by simp) g0 (fun w h => h.blk_reads (cs := [_, _]) rfl (by omega))
         have pc := hid (P2.out ((k : Int) % 2) [1, 2])
         clear g0
         generalize write σ ((k : Int) % 2) [1, 2] = q at *
         obtain ⟨code, τ⟩ := q
         simp only at hcall pc
         go_wp2_with fail
         refine hcall.mono ?_
         rintro e w5 ⟨rfl, g0⟩
         have g := g0.drop_mid
         clear hcall g0
         go_wp2
         go_meet
         exact ⟨_, _, rfl, pc, g⟩
       · skip
         have hcall := read_calls s σ ((k : Int) % 2) b1 b2 b3 b4 b5 hr
         have pc := hid (P3.out ((k : Int) % 2))
         generalize rd σ ((k : Int) % 2) = q at *
         obtain ⟨code, bs, τ⟩ := q
         simp only at hcall pc
         go_wp2_with fail
         refine hcall.mono ?_
         rintro e w5 ⟨v5, rfl, g0⟩
         have g := g0.right
         clear hcall g0
         go_wp2
         go_meet
         exact ⟨_, _, rfl, pc, g⟩
      case rest =>
        obtain ⟨code, τ, rfl, hc, g⟩ := hcut
        have s1 := hc.out.1
        obtain ⟨s2, s3⟩ := hc.out.2.says
        have PI := hid hc.out.2
        clear hc P1 P2 P3 hr b1 b2 b3 b4 b5 b6 h3
        by_cases hak : a ≤ k
        · rw [decide_eq_true hak] at s1 s2
          rw [if_pos hak] at s3
          have z1 : (a : Int) ≤ (k : Int) := by omega
          have z2 : ¬ (k : Int) < (a : Int) := by omega
          go_wp2_with fail
          refine (up_calls s τ g).mono ?_
          rw [s2]
          rintro e w6 ⟨rfl, rfl⟩
          go_wp2_with fail
          refine (ops_calls s τ g).mono ?_
          rw [s3]
          rintro e w7 ⟨rfl, rfl⟩
        
          rcases Nat.lt_or_eq_of_le hak with hl | hl
          · have z5 : (a : Int) < (k : Int) := by omega
            clear hak
            go_wp2
            go_roundw
            case rel => exact ⟨k + 1, τ, by omega, by omega, by go_num, PI.out, g⟩
            case measure => simp [intOf]; omega
          · subst hl
            have z5 : ¬ (a : Int) < (a : Int) := by omega
            clear z2 hak
            go_wp2
            go_roundw
            case rel => exact ⟨a + 1, τ, by omega, by omega, by go_num, PI.out, g⟩
            case measure => simp [intOf]; omega
        · rw [decide_eq_false hak] at s1 s2
          rw [if_neg hak] at s3
          have z1 : ¬ (a : Int) ≤ (k : Int) := by omega
          have z2 : (k : Int) < (a : Int) := by omega
          go_wp2_with fail
          refine (up_calls s τ g).mono ?_
          rw [s2]
          rintro e w6 ⟨rfl, rfl⟩
          go_wp2_with fail
          refine (ops_calls s τ g).mono ?_
          rw [s3]
          rintro e w7 ⟨rfl, rfl⟩
          have z3 : min (k : Int) (a : Int) = (k : Int) := by omega
          go_wp2
          go_roundw
          case rel => exact ⟨k + 1, τ, by omega, by omega, by go_num, PI.out, g⟩
          case measure => simp [intOf]; omega
    · obtain rfl : k = Y + 1 := by omega
      rw [Nat.add_sub_cancel] at hi
      have hle : ¬ ((Y + 1 : Nat) : Int) ≤ (Y : Int) := by omega
      have hle2 : ¬ (Y : Int) + 1 ≤ (Y : Int) := by omega
      obtain ⟨s2, _⟩ := hi.says
      clear hi
      by_cases hak : a ≤ Y
      · rw [decide_eq_true hak] at s2
        have z1 : (a : Int) ≤ (Y : Int) := by omega
        go_wp2_with fail
        refine (first2 hr).mono ?_
        rintro e w5 ⟨rfl, g⟩
        go_wp2_with fail
        refine (reboot_calls s σ g).mono ?_
        rw [s2]
        rintro e w6 ⟨rfl, g6⟩
        go_wp2_with fail
        refine (up_calls s _ g6).mono ?_
        rintro e w7 ⟨rfl, rfl⟩
        go_wp2
        go_ret
        exact ⟨rfl, g6.right⟩
      · rw [decide_eq_false hak] at s2
        have z1 : ¬ (a : Int) ≤ (Y : Int) := by omega
        go_wp2_with fail
        refine (first2 hr).mono ?_
        rintro e w5 ⟨rfl, g⟩
        go_wp2_with fail
        refine (reboot_calls s σ g).mono ?_
        rw [s2]
        rintro e w6 ⟨rfl, g6⟩
        go_wp2_with fail
        refine (up_calls s _ g6).mono ?_
        rintro e w7 ⟨rfl, rfl⟩
        go_wp2
        go_ret
        exact ⟨rfl, g6.right⟩

theorem CellsArmed_walk (W : World) (a0 : Int) (w0 : (Lit.int .i64 a0).wf = true) (a1 : Int) (w1 : (Lit.int .i64 a1).wf = true) :
    Calls Try.prog 6 #[.int .i64 a0, .int .i64 a1] W fun e w' => e = .returned (.bool true) ∧ Below W.heap.size W w' :=
  (cellsArmed a0 a1 (Sat.start W)).mono fun e w' ⟨he, hs⟩ => ⟨he, hs.finish1⟩
end Go.Proofs.Ytacfaegljjgneaa
