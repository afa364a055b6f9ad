import Derived.Test.YtacfaegljjgneaaCellsArm
import Derived.BigRegion
namespace Go.Proofs.Ytacfaegljjgneaa
set_option linter.unusedVariables false
set_option linter.unusedSimpArgs false
open Go.RowKit Go.Proofs.Sep

theorem _root_.Go.Proofs.Sep.Sat.ne_row_blk {E w : World} {F : Asn} {e size n cap g b : Nat} {xs : List Value} {o : Obj} (h : Sat E (row e size (.slice (some ⟨g, 0, none⟩) n cap) n xs * (blk b o * F)) w) (hn : 0 < n) : g ≠ b := by
  obtain ⟨g', cap', cur, hv, _, _, _, _, hs⟩ := h.row_blk hn
  injection hv with hv _ _
  injection hv with hv
  injection hv with hv _ _
  subst hv
  exact hs.ne_blk
theorem _root_.Go.Proofs.Sep.Sat.ne_row_row {E w : World} {F : Asn} {e size n cap g e' size' n' cap' b : Nat} {xs ys : List Value} (h : Sat E (row e size (.slice (some ⟨g, 0, none⟩) n cap) n xs * (row e' size' (.slice (some ⟨b, 0, none⟩) n' cap') n' ys * F)) w) (hn : 0 < n) (hn' : 0 < n') : g ≠ b := by
  obtain ⟨g', cap', cur, hv, _, _, _, _, hs⟩ := h.row_blk hn
  injection hv with hv _ _
  injection hv with hv
  injection hv with hv _ _
  subst hv
  exact (hs.eq (star_left_comm _ _ _)).ne_row_blk hn' |>.symm

theorem permO (A B C D : Asn) : A * (B * (C * D)) = C * (A * (B * D)) := by ac_rfl
/-- The stores that CellsOwn goes through. -/
theorem own_facts (l : List Int) (h : 1 ≤ l.length) : ∃ σ1 σ2 σ3 σ4 : St, write (St.new 2 l.length) 1 l = (0, σ1) ∧ rd σ1 1 = (0, l, σ2) ∧ peek σ2 1 = l ∧ sync σ2 = (0, σ3) ∧ peek σ3 1 = l ∧ σ3.down = false ∧ crash [] σ3 = σ4 ∧ peek σ4 1 = l ∧
    (σ1.ops = 1 ∧ σ1.left = 0 ∧ (begins σ1).2.size = l.length) ∧ (σ2.ops = 2 ∧ σ2.left = 0 ∧ σ2.size = l.length) ∧ σ3.size = l.length ∧ σ4.size = l.length ∧ (begins (St.new 2 l.length)).2.fl.length = 0 := by
  have e0 : write (St.new 2 l.length) 1 l = (0, { St.new 2 l.length with fl := [(1, l)], ops := 1 }) := by
    unfold write
    rw [begins_on rfl (by show ¬ (0 : Int) = 1; omega)]
    rw [if_neg (by simp), if_neg (by show ¬ inN 2 1 = false; decide), if_neg (by show ¬ ¬ l.length = l.length; simp)]
    rfl
  refine ⟨_, _, _, _, e0, rfl, rfl, rfl, rfl, rfl, rfl, rfl, ⟨rfl, rfl, rfl⟩, ⟨rfl, rfl, rfl⟩, rfl, rfl, rfl⟩

set_option maxRecDepth 100000 in
set_option maxHeartbeats 4000000 in
theorem cellsOwn {E w : World} {F : Asn} (A : Option Addr) (c : Nat) (l : List Int) (hc : l.length ≤ c) (hB : ByteR l) (hS : Sat E F w) (hR : ∀ w, Sat E F w → Reads w 1 A l.length (nums .u8 l)) :
    Calls Try.prog 4 #[.slice A l.length c] w fun e w' => e = .returned (.bool true) ∧ Sat E F w' := by
  by_cases h1 : (l.length : Int) < 1
  · go_enter Try.func4, Try.ntmps4
    go_wp2_with fail
    refine (first2 hS).mono ?_
    rintro e w1 ⟨rfl, g1⟩
    go_wp2_with fail
    refine (first2 g1).mono ?_
    rintro e w2 ⟨rfl, g2⟩
    go_wp2
    go_ret
    exact ⟨rfl, g2⟩
  by_cases h2 : (1000 : Int) < (l.length : Int)
  · go_enter Try.func4, Try.ntmps4
    go_wp2_with fail
    refine (first2 hS).mono ?_
    rintro e w1 ⟨rfl, g1⟩
    go_wp2_with fail
    refine (first2 g1).mono ?_
    rintro e w2 ⟨rfl, g2⟩
    go_wp2
    go_ret
    exact ⟨rfl, g2⟩
  obtain ⟨σ1, σ2, σ3, σ4, k1, k2, k3, k4, k5, k6, k7, k8, ⟨o1, o2, o3⟩, ⟨p1, p2, p3⟩, z3, z4, f0⟩ := own_facts l (by omega)
  have K1 := hid k1
  have K2 := hid k2
  have K3 := hid k3
  have K4 := hid k4
  have K5 := hid k5
  have K6 := hid k6
  have K7 := hid k7
  have K8 := hid k8
  have O := hid (⟨⟨o1, o2, o3⟩, ⟨p1, p2, p3⟩, z3, z4, f0⟩ : (σ1.ops = 1 ∧ σ1.left = 0 ∧ (begins σ1).2.size = l.length) ∧ (σ2.ops = 2 ∧ σ2.left = 0 ∧ σ2.size = l.length) ∧ σ3.size = l.length ∧ σ4.size = l.length ∧ (begins (St.new 2 l.length)).2.fl.length = 0)
  clear k1 k2 k3 k4 k5 k6 k7 k8 o1 o2 o3 p1 p2 p3 z3 z4 f0
  go_enter Try.func4, Try.ntmps4
  go_wp2_with fail
  refine (first2 hS).mono ?_
  rintro e w1 ⟨rfl, g1⟩
  go_wp2_with fail
  refine (cellsNew 2 l.length (by omega) (by omega) (by omega) (by omega) g1).mono ?_
  rintro e w2 ⟨s, rfl, g2⟩
  clear g1 hS
  go_wp2_with fail
  refine (copyBytes A l.length c (nums .u8 l) g2 (hR _ g2.right) (nums_one _ _) (by omega)).mono ?_
  rintro e w3 ⟨vm, rfl, g3⟩
  clear g2
  obtain ⟨gm, cm, em, _, _⟩ := g3.row_head (by omega)
  subst em
  go_wp2_with fail
  refine (write_calls s (St.new 2 l.length) 1 (some ⟨gm, 0, none⟩) l.length cm l (by show (0 : Int) ≤ 0; omega) (by show (0 : Int) ≤ 1000000; omega) (by show (0 : Int) ≤ 0; omega) (by show (0 : Int) ≤ 9223372036854775807; omega) (by rw [O.out.2.2.2.2]; omega) (by omega) (g3.eq (star_left_comm _ _ _)) (fun w h => h.reads_at)).mono ?_
  rw [K1.out]
  rintro e w4 ⟨rfl, g4⟩
  have g5 : Sat E (row 5 1 (.slice (some ⟨gm, 0, none⟩) l.length cm) l.length (nums .u8 l) * (store s σ1 * F)) w4 := g4.eq (star_left_comm _ _ _)
  clear g3 g4
  go_wp2_with fail
  go_loopw [6] (fun i wr => ∃ (k : Nat) (xs : List Int), k ≤ l.length ∧ xs.length = l.length ∧ i = .int .i64 k ∧ Sat E (row 5 1 (.slice (some ⟨gm, 0, none⟩) l.length cm) l.length (nums .u8 xs) * (store s σ1 * F)) wr) (fun i _ => l.length - (intOf i).toNat)
  case atStart => exact ⟨0, l, by omega, rfl, rfl, g5⟩
  case round =>
    clear g5
    obtain ⟨k, xs, hk, hx, rfl, hr⟩ := hrel
    by_cases hlt : k < l.length
    · have hkd : (k : Int) < (l.length : Int) := by omega
      have wk := i64_wrap (x := (k : Int) + 1) (by omega) (by omega)
      have t1 := (hr.row_cell k (by omega)).trans (nums_at (by omega))
      have t2 := hr.row_lt
      have t3 := hr.row_free k
      have hst := fun u => hr.row_store k (.int .u8 u)
      have hset : ∀ u, (nums .u8 xs).set k (.int .u8 u) = nums .u8 (xs.set k u) := fun u => by simp [nums, List.map_set]
      simp only [hset] at hst
      have HST := hid hst
      clear hst hset hr
      go_wp2
      go_roundw
      case rel => exact ⟨k + 1, _, by omega, by simpa using hx, by go_num, HST.out _⟩
      case measure => simp [intOf]; omega
    · obtain rfl : k = l.length := by omega
      have g6 := hr.right
      obtain ⟨o1, o2, o3⟩ := O.out.1
      clear hr hx
      go_wp2_with fail
      refine (read_calls s σ1 1 (by rw [o1]; omega) (by rw [o1]; omega) (by rw [o2]; omega) (by rw [o2]; omega) (by rw [o3]; omega) g6).mono ?_
      rw [K2.out]
      rintro e w5 ⟨v5, rfl, g7⟩
      clear g6 o1 o2 o3
      obtain ⟨ga, ca, ea, _, _⟩ := g7.row_head (by show 0 < l.length; omega)
      subst ea
      have p3 := O.out.2.1.2.2
      go_wp2_with fail
      refine (peek_calls s σ2 1 (by rw [p3]; omega) (g7.eq (star_left_comm _ _ _))).mono ?_
      rw [K3.out]
      rintro e w6 ⟨v6, rfl, g8⟩
      clear g7 p3
      obtain ⟨gb, cb, eb, _, _⟩ := g8.row_head (by omega)
      subst eb
      have g9 : Sat E (row 5 1 (.slice (some ⟨ga, 0, none⟩) l.length ca) l.length (nums .u8 l) * (row 5 1 (.slice (some ⟨gb, 0, none⟩) l.length cb) l.length (nums .u8 l) * (store s σ2 * F))) w6 := g8.eq (permO _ _ _ _)
      clear g8
      go_wp2_with fail
      refine (bytesEq (some ⟨ga, 0, none⟩) A l.length l.length ca c l l g9.reads_at (hR _ g9.right.right.right) hB hB).mono ?_
      rw [decide_eq_true (rfl : l = l)]
      rintro e w7 ⟨rfl, rfl⟩
      go_wp2_with fail
      refine (bytesEq (some ⟨gb, 0, none⟩) A l.length l.length cb c l l g9.right.reads_at (hR _ g9.right.right.right) hB hB).mono ?_
      rw [decide_eq_true (rfl : l = l)]
      rintro e w8 ⟨rfl, rfl⟩
      go_wp2_with fail
      go_loopw [10] (fun i wr => ∃ (k : Nat) (xs ys : List Int), k ≤ l.length ∧ xs.length = l.length ∧ ys.length = l.length ∧ i = .int .i64 k ∧ Sat E (row 5 1 (.slice (some ⟨ga, 0, none⟩) l.length ca) l.length (nums .u8 xs) * (row 5 1 (.slice (some ⟨gb, 0, none⟩) l.length cb) l.length (nums .u8 ys) * (store s σ2 * F))) wr) (fun i _ => l.length - (intOf i).toNat)
      case atStart => exact ⟨0, l, l, by omega, rfl, rfl, rfl, g9⟩
      case round =>
        clear g9
        obtain ⟨k, xs, ys, hk, hx, hy, rfl, hr⟩ := hrel
        by_cases hlt : k < l.length
        · have hkd : (k : Int) < (l.length : Int) := by omega
          have wk := i64_wrap (x := (k : Int) + 1) (by omega) (by omega)
          have hr2 := hr.eq (star_left_comm _ _ _)
          have t1 := (hr.row_cell k (by omega)).trans (nums_at (by omega))
          have u1 := (hr2.row_cell k (by omega)).trans (nums_at (by omega))
          have t2 := hr.row_lt
          have u2 := hr2.row_lt
          have t3 := hr.row_free k
          have u3 := hr2.row_free k
          have hne := hr.ne_row_row (by omega) (by omega)
          have hst := fun u v => ((((hr.row_store k (.int .u8 u)).eq (star_left_comm _ _ _)).row_store k (.int .u8 v)).eq (star_left_comm _ _ _)).drew
          have hset : ∀ (zs : List Int) u, (nums .u8 zs).set k (.int .u8 u) = nums .u8 (zs.set k u) := fun zs u => by simp [nums, List.map_set]
          simp only [hset] at hst
          have HST := hid hst
          clear hst hset hr hr2
          go_wp2_with fail
          go_region
          go_wp2
          go_roundw
          case rel => exact ⟨k + 1, _, _, by omega, by simpa using hx, by simpa using hy, by go_num, HST.out _ _⟩
          case measure => simp [intOf]; omega
        · obtain rfl : k = l.length := by omega
          have g10 := hr.right.right
          obtain ⟨⟨p1, p2, p3⟩, z3, z4, _⟩ := O.out.2
          clear hr hx hy
          go_wp2_with fail
          refine (first2 g10).mono ?_
          rintro e w9 ⟨rfl, g11⟩
          clear g10
          go_wp2_with fail
          refine (peek_calls s σ2 1 (by rw [p3]; omega) g11).mono ?_
          rw [K3.out]
          rintro e w10 ⟨v10, rfl, g12⟩
          obtain ⟨A10, c10, rfl, _, _, _⟩ := g12.reads
          clear g11
          go_wp2_with fail
          refine (bytesEq A10 A l.length l.length c10 c l l g12.reads_at (hR _ g12.right.right) hB hB).mono ?_
          rw [decide_eq_true (rfl : l = l)]
          rintro e w11 ⟨rfl, rfl⟩
          go_wp2_with fail
          refine (sync_calls s σ2 (by rw [p1]; omega) (by rw [p1]; omega) (by rw [p2]; omega) (by rw [p2]; omega) g12.right).mono ?_
          rw [K4.out]
          rintro e w12 ⟨rfl, g13⟩
          clear g12
          go_wp2_with fail
          refine (peek_calls s σ3 1 (by rw [z3]; omega) g13).mono ?_
          rw [K5.out]
          rintro e w13 ⟨v13, rfl, g14⟩
          obtain ⟨A13, c13, rfl, _, _, _⟩ := g14.reads
          clear g13
          go_wp2_with fail
          refine (bytesEq A13 A l.length l.length c13 c l l g14.reads_at (hR _ g14.right.right) hB hB).mono ?_
          rw [decide_eq_true (rfl : l = l)]
          rintro e w14 ⟨rfl, rfl⟩
          go_wp2_with fail
          refine (crash_calls s σ3 none 0 0 [] g14.right (fun w _ => nil_reads w _ 1 rfl)).mono ?_
          rw [K6.out, K7.out]
          rintro e w15 ⟨rfl, g15⟩
          clear g14
          go_wp2_with fail
          refine (peek_calls s σ4 1 (by rw [z4]; omega) g15).mono ?_
          rw [K8.out]
          rintro e w16 ⟨v16, rfl, g16⟩
          obtain ⟨A16, c16, rfl, _, _, _⟩ := g16.reads
          clear g15
          go_wp2_with fail
          refine (bytesEq A16 A l.length l.length c16 c l l g16.reads_at (hR _ g16.right.right) hB hB).mono ?_
          rw [decide_eq_true (rfl : l = l)]
          rintro e w17 ⟨rfl, rfl⟩
          go_wp2
          go_ret
          exact ⟨rfl, g16.right.right⟩

theorem CellsOwn_walk (W : World) (a0 : Option Addr) (len0 cap0 : Nat) (l0 : (List Int)) (h0 : (decSlice 1 (decInt .u8)).rel W l0 [.slice a0 len0 cap0]) :
    Calls Try.prog 4 #[.slice a0 len0 cap0] W fun e w' => e = .returned (.bool true) ∧ Below W.heap.size W w' := by
  obtain ⟨A, c, he, hlc, _, _, hR, hw⟩ := dec_ints h0
  simp at he
  obtain ⟨rfl, rfl, rfl⟩ := he
  exact (cellsOwn _ _ l0 hlc (byteR_wf hw) (Sat.start W) (fun w hs => hR.keep fun k hk => hs.old1 hk)).mono fun e w' ⟨he, hs⟩ => ⟨he, hs.finish1⟩
end Go.Proofs.Ytacfaegljjgneaa
