import Derived.Test.YtobgfdongidaaaaDir56
import Derived.Test.YtobgfdongidaaaaDir58
import Derived.Deep.RegionHeld3
namespace Go.Proofs.Ytobgfdongidaaaa
set_option linter.unusedVariables false
set_option linter.unusedSimpArgs false
open Go.RowKit Go.Proofs.Sep Go.Lib

/-- Two lists of entries are read wherever R holds. -/
def Two (E : World) (R : Asn) (X Y : Option Addr) (L H : List Ent) : Prop := ∀ w, Sat E R w → Reads w 2 X L.length (ents L) ∧ Reads w 2 Y H.length (ents H)
theorem four_cells {E w : World} {F : Asn} {p e : Nat} {a b c d : Value} (h : Sat E (blk p (.cells #[a, b, c, d] e) * F) w) : w.cell? ⟨p, 0, none⟩ = some a ∧ w.cell? ⟨p, 1, none⟩ = some b ∧ w.cell? ⟨p, 2, none⟩ = some c ∧ w.cell? ⟨p, 3, none⟩ = some d :=
  ⟨by rw [h.cell_blk]; rfl, by rw [h.cell_blk]; rfl, by rw [h.cell_blk]; rfl, by rw [h.cell_blk]; rfl⟩
theorem reads_none (w : World) : Reads w 2 none ([] : List Ent).length (ents []) := ⟨rfl, by simp, fun _ => rfl, fun ad h => by cases h⟩
theorem shufA (A B G R F : Asn) : A * (G * (B * (R * F))) = A * (B * ((G * R) * F)) := by ac_rfl
theorem shufB (A B R F : Asn) : A * (B * (R * F)) = R * (A * (B * F)) := by ac_rfl
theorem shufC (A B G R F : Asn) : G * (R * (A * (B * F))) = A * (G * (R * (B * F))) := by ac_rfl
theorem shufD (A B G R F : Asn) : A * (G * (R * (B * F))) = A * (B * ((G * R) * F)) := by ac_rfl
theorem shufE (A B R D F : Asn) : A * (B * (R * (D * F))) = D * (A * (B * (R * F))) := by ac_rfl
theorem shufG (A B C R : Asn) : A * (B * (C * R)) = C * (B * (A * R)) := by ac_rfl
theorem insR_room (e : Ent) (L : List Ent) (hr : Rises L) : (insR e L).length ≤ L.length + 1 := by
  rw [insR_length e L hr]
  split <;> omega
set_option maxRecDepth 100000 in
set_option maxHeartbeats 16000000 in
theorem dirPlays {E w : World} {F : Asn} (ord : Int) (A : Option Addr) (c : Nat) (l : List OpE) (hS : Sat E F w) (hA : ∀ w, Sat E F w → Reads w 4 A l.length (opents l)) (hz : ∀ x ∈ l, x.2.2.1.size ≤ 140737488351232 ∧ x.2.2.2.size ≤ 140737488351232) :
    Calls Try.prog 6 #[.int .i64 ord, .slice A l.length c] w fun e w' => e = .returned (.bool true) ∧ Sat E F w' := by
  go_enter Try.func6, Try.ntmps6
  go_wp2_with fail
  refine (first7 hS).mono ?_
  rintro e w1 ⟨rfl, g1⟩
  clear hS
  have hfew := few18 A c l hz g1 hA
  clear g1
  go_wp2_with fail
  refine hfew.mono ?_
  clear hfew
  rintro e w2 ⟨⟨b, rfl, hb⟩, g2⟩
  have h7 := first7 g2
  cases b with
  | false =>
    clear hb
    go_wp2_with fail
    refine h7.mono ?_
    rintro e w3 ⟨rfl, g3⟩
    go_wp2_with fail
    go_ret
    exact ⟨rfl, g3⟩
  | true =>
    have hl4 := hb rfl
    clear hb h7
    by_cases hord : ord < 3 ∨ 64 < ord
    · have hn0 := new_no (w := w2) ord (.slice none 0 0) hord
      have hpick : (decide (3 ≤ ord) && decide (ord ≤ 64)) = false := by rcases hord with h | h <;> simp <;> omega
      have HP := hid hpick
      by_cases h3 : 3 ≤ ord
      · have h64 : ¬ ord ≤ 64 := by omega
        clear hord hpick HP
        go_wp2_with fail
        refine hn0.mono ?_
        clear hn0
        rintro e w4 ⟨rfl, rfl⟩
        go_wp2_with fail
        refine (first7 g2).mono ?_
        rintro e w3 ⟨rfl, g3⟩
        go_wp2_with fail
        go_ret
        exact ⟨rfl, g3⟩
      · clear hord hpick HP
        go_wp2_with fail
        refine hn0.mono ?_
        clear hn0
        rintro e w4 ⟨rfl, rfl⟩
        go_wp2_with fail
        refine (first7 g2).mono ?_
        rintro e w3 ⟨rfl, g3⟩
        go_wp2_with fail
        go_ret
        exact ⟨rfl, g3⟩
    · obtain ⟨m, rfl⟩ : ∃ m : Nat, ord = m := ⟨ord.toNat, by omega⟩
      have hm3 : 3 ≤ m := by omega
      have hm : m ≤ 64 := by omega
      have i3 : (3 : Int) ≤ (m : Int) := by omega
      have i64 : (m : Int) ≤ 64 := by omega
      have hn1 : Calls Try.prog 8 #[.int .i64 m, .slice none 0 0] w2 fun r w' => ∃ T, r = .returned (.tuple #[ptrv T, .int .i64 0]) ∧ Sat E (dir T m [] * F) w' := new_yes m none 0 [] hm3 hm (by simp) g2 (fun w _ => reads_none w)
      clear hord g2
      go_wp2_with fail
      refine hn1.mono ?_
      clear hn1
      rintro e w4 ⟨T, rfl, s4⟩
      have hcp := copy21 T m [] hm3 hm s4
      unfold ptrv at hcp ⊢
      clear s4
      go_wp2_with fail
      refine hcp.mono ?_
      clear hcp
      rintro e w5 ⟨C0, rfl, s5⟩
      clear i3 i64
      go_wp2_with fail
      go_loopw [7, 8, 9, 10] (fun xv hv cv iv wr => ∃ (i : Nat) (L H : List Ent) (X Y : Option Addr) (cx cy C : Nat) (R : Asn), i ≤ l.length ∧ xv = .slice X L.length cx ∧ hv = .slice Y H.length cy ∧ cv = .pointer (some ⟨C, 0, none⟩) ∧ iv = .int .i64 i ∧ Hid (L.length ≤ cx ∧ L.length ≤ i ∧ H.length ≤ i ∧ Two E R X Y L H) ∧ Sat E (dir T m L * (dir C m H * (R * F))) wr) (fun _ _ _ iv _ => l.length - (intOf iv).toNat)
      case atStart =>
        refine ⟨0, [], [], none, none, 0, 0, C0, emp, by omega, rfl, rfl, rfl, rfl, ⟨by simp, by simp, by simp, fun w _ => ⟨reads_none w, reads_none w⟩⟩, ?_⟩
        rw [emp_star]
        exact s5.eq (star_left_comm _ _ _)
      case round =>
        clear s5
        obtain ⟨i, L, H, X, Y, cx, cy, C, R, hi, rfl, rfl, rfl, rfl, hh, hq⟩ := hrel
        by_cases hlt : i < l.length
        · have hkd : (i : Int) < (l.length : Int) := by omega
          have wk := i64_wrap (x := (i : Int) + 1) (by omega) (by omega)
          obtain ⟨ad, hAd, o0, o1, o2, o3⟩ := op_at (hA _ hq.right.right.right) hlt
          subst hAd
          generalize l[i] = O at *
          obtain ⟨kd, id, K, U⟩ := O
          (try simp only at o0 o1 o2 o3)
          have g0 := hq.alloc (.cells #[.int .i64 kd, .int .i64 id, .string K, .string U] 47)
          obtain ⟨F2, hF2⟩ : ∃ F2, F2 = blk wr.heap.size (.cells #[.int .i64 kd, .int .i64 id, .string K, .string U] 47) * F := ⟨_, rfl⟩
          have g1 : Sat E (dir T m L * (dir C m H * (R * F2))) (wr.alloc (.cells #[.int .i64 kd, .int .i64 id, .string K, .string U] 47)) := by rw [hF2]; exact g0.eq (shufE ..).symm
          have hcells := hid (fun (w' : World) (h : Sat E F2 w') => (by rw [hF2] at h; exact four_cells h : w'.cell? ⟨wr.heap.size, 0, none⟩ = some (.int .i64 kd) ∧ w'.cell? ⟨wr.heap.size, 1, none⟩ = some (.int .i64 id) ∧ w'.cell? ⟨wr.heap.size, 2, none⟩ = some (.string K) ∧ w'.cell? ⟨wr.heap.size, 3, none⟩ = some (.string U)))
          have HF2 := hid hF2
          have HHA := hid hA
          obtain ⟨c0, c1, c2, c3⟩ := hcells.out _ g1.right.right.right
          clear hq g0 hF2 hA
          go_upto_if 74 with fail
          go_cut [8, 9] (fun hv cv wc => ∃ (H' : List Ent) (Y' : Option Addr) (cy' C' : Nat), hv = .slice Y' H'.length cy' ∧ cv = .pointer (some ⟨C', 0, none⟩) ∧ Hid (H'.length ≤ i ∧ Two E R X Y' L H') ∧ Sat E (dir T m L * (dir C' m H' * (R * F2))) wc)
          case first =>
            clear c0 c1 c2 c3 o0 o1 o2 o3
            by_cases he : (i : Int) = (l.length : Int) / 2
            · have z1 : ((i : Int) == (l.length : Int) / 2) = true := beq_iff_eq.2 he
              have hcp := copy21 T m L hm3 hm g1
              unfold ptrv at hcp
              clear g1 he
              go_wp2_with fail
              refine hcp.mono ?_
              clear hcp
              rintro e w6 ⟨C2, rfl, s6⟩
              go_wp2_with fail
              go_meet
              exact ⟨L, X, cx, C2, rfl, rfl, ⟨hh.out.2.1, fun w h => ⟨(hh.out.2.2.2 w h).1, (hh.out.2.2.2 w h).1⟩⟩, (s6.eq (shufG ..)).right⟩
            · have z1 : ((i : Int) == (l.length : Int) / 2) = false := beq_eq_false_iff_ne.2 he
              go_wp2_with fail
              go_meet
              exact ⟨H, Y, cy, C, rfl, rfl, ⟨hh.out.2.2.1, hh.out.2.2.2⟩, g1⟩
          case rest =>
          obtain ⟨H2, Y2, cy2, C2, rfl, rfl, hh2, g2⟩ := hcut
          clear c0 c1 c2 c3 g1 o0 o1 o2 o3
          obtain ⟨_, _, _, hsh, _⟩ := g2.dir_open
          have HR := hid hsh.rises
          have hLi := hh.out.2.1
          have hcx := hh.out.1
          clear hsh
          obtain ⟨c0, c1, c2, c3⟩ := hcells.out _ g2.right.right.right
          go_upto_block 2 with fail
          go_cut [7, 12] (fun xv v wc => ∃ (L' : List Ent) (X' : Option Addr) (cx' : Nat) (R' : Asn), xv = .slice X' L'.length cx' ∧ v = .bool true ∧ Hid (L'.length ≤ cx' ∧ L'.length ≤ i + 1 ∧ Two E R' X' Y2 L' H2) ∧ Sat E (dir T m L' * (dir C2 m H2 * (R' * F2))) wc)
          case first =>
            by_cases z0 : kd = 0
            · have zz : (kd == 0) = true := beq_iff_eq.2 z0
              clear z0
              have hput := refPut22 X cx L K id HR.out (by omega) hcx g2 (fun w h => (hh2.out.2 w h.right.right.left).1)
              clear g2
              go_wp2_with fail
              refine hput.mono ?_
              clear hput c0 c1 c2 c3
              rintro e w6 ⟨v, rfl, s6⟩
              obtain ⟨A6, c6, rfl, hc6, _, _⟩ := s6.reads
              obtain ⟨c0, c1, c2, c3⟩ := hcells.out _ s6.right.right.right.right
              have hpt := put20 T m L (K, id) hm3 hm (by omega) (s6.eq (star_left_comm _ _ _))
              rw [show hasKey (K, id).1 L = hasKey K L from rfl] at hpt
              generalize hasKey K L = b at *
              unfold ptrv at hpt
              clear s6
              go_wp2_with fail
              refine hpt.mono ?_
              clear hpt c0 c1 c2 c3
              rintro e w7 ⟨rfl, s7⟩
              go_wp2_with fail
              go_meet
              exact ⟨insR (K, id) L, A6, c6, _, rfl, by simp, ⟨hc6, by have := insR_room (K, id) L HR.out; omega, fun w h => ⟨h.reads_at, (hh2.out.2 w h.right).2⟩⟩, s7.eq (shufA ..)⟩
            have y0 : (kd == 0) = false := beq_eq_false_iff_ne.2 z0
            clear z0
            by_cases z1 : kd = 1
            · have zz : (kd == 1) = true := beq_iff_eq.2 z1
              clear z1
              have hdl := refDelete23 X cx L K HR.out (by omega) hcx (g2.eq (shufB ..)) (fun w h => (hh2.out.2 w h).1)
              clear g2
              go_wp2_with fail
              refine hdl.mono ?_
              clear hdl c0 c1 c2 c3
              rintro e w6 ⟨A6, c6, G, rfl, hc6, s6, hG⟩
              have HG := hid hG
              obtain ⟨c0, c1, c2, c3⟩ := hcells.out _ s6.right.right.right.right
              have hdt := delete14 T m L K hm3 hm (by omega) (s6.eq (shufC ..))
              generalize hasKey K L = b at *
              unfold ptrv at hdt
              clear s6 hG
              go_wp2_with fail
              refine hdt.mono ?_
              clear hdt c0 c1 c2 c3
              rintro e w7 ⟨rfl, s7⟩
              go_wp2_with fail
              go_meet
              exact ⟨delR K L, A6, c6, _, rfl, by simp, ⟨hc6, by have := delR_le K L; omega, fun w h => ⟨HG.out w h, (hh2.out.2 w h.right).2⟩⟩, s7.eq (shufD ..)⟩
            have y1 : (kd == 1) = false := beq_eq_false_iff_ne.2 z1
            clear z1
            by_cases z2 : kd = 2
            · have zz : (kd == 2) = true := beq_iff_eq.2 z2
              clear z2
              obtain ⟨M, hM⟩ : ∃ M, M = rangeR K U id L := ⟨_, rfl⟩
              have hMl : M.length ≤ 900000 := by have := rangeR_le K U id L HR.out; rw [hM]; omega
              have h12 := range12 T m L K U id (by omega) g2.drew
              rw [← hM] at h12
              have h24 : ∀ (F' : Asn) (w' : World), Sat E F' w' → (∀ w, Sat E F' w → Reads w 2 X L.length (ents L)) → Calls Try.prog 24 #[.slice X L.length cx, .string K, .string U, .int .i64 id] w' fun r w'' => ∃ v, r = .returned v ∧ Sat E (row 32 2 v M.length (ents M) * F') w'' := fun F' w' h hF => by rw [hM]; exact refRange24 X cx L K U id HR.out (by omega) h hF
              unfold ptrv at h12
              have H12 := hid h12
              have H24 := hid h24
              have q1 : Hid (∀ (w' : World), Sat E F2 w' → w'.cell? ⟨wr.heap.size, 1, none⟩ = some (.int .i64 id) ∧ w'.cell? ⟨wr.heap.size, 2, none⟩ = some (.string K) ∧ w'.cell? ⟨wr.heap.size, 3, none⟩ = some (.string U)) := hid (fun w' h => (hcells.out w' h).2)
              have s1 := q1.out _ g2.right.right.right
              clear h12 h24 hM c0
              go_wp2_with fail
              go_region_held3 (fun w' => w'.cell? ⟨wr.heap.size, 1, none⟩ = some (.int .i64 id) ∧ w'.cell? ⟨wr.heap.size, 2, none⟩ = some (.string K) ∧ w'.cell? ⟨wr.heap.size, 3, none⟩ = some (.string U))
                (first | exact s1 | exact s2 | exact s3 | exact s4 | exact s5)
                (first
                  | (go_at_call 12; refine H12.out.mono ?_; rintro e w6 ⟨v6, rfl, t6⟩; obtain ⟨A6, c6, rfl, _, _, _⟩ := t6.reads; have s2 := q1.out _ t6.right.right.right.right)
                  | (go_at_call 11; refine (entries11 A6 c6 M hMl t6 (fun w h => h.reads_at)).mono ?_; rintro e w7 ⟨v7, rfl, t7⟩; obtain ⟨A7, c7, rfl, _, _, _⟩ := t7.reads; have s3 := q1.out _ t7.right.right.right.right.right)
                  | (go_at_call 24; refine (H24.out _ _ t7 (fun w h => (hh2.out.2 w h.right.right.right.right.left).1)).mono ?_; rintro e w8 ⟨v8, rfl, t8⟩; obtain ⟨A8, c8, rfl, _, _, _⟩ := t8.reads; have s4 := q1.out _ t8.right.right.right.right.right.right)
                  | (go_at_call 10; refine (same10 A7 A8 c7 c8 M M hMl hMl t8 (fun w h => h.right.reads_at) (fun w h => h.reads_at)).mono ?_; rw [decide_eq_true (rfl : M = M)]; rintro e w9 ⟨rfl, t9⟩; have s5 := q1.out _ t9.right.right.right.right.right.right))
              have g8 := t9.right.right.right
              clear t6 t7 t8 t9 g2
              go_wp2
              go_meet
              exact ⟨L, X, cx, R, rfl, rfl, ⟨hcx, by omega, hh2.out.2⟩, g8⟩
            have y2 : (kd == 2) = false := beq_eq_false_iff_ne.2 z2
            clear z2
            go_wp2_with fail
            go_meet
            exact ⟨L, X, cx, R, rfl, rfl, ⟨hcx, by omega, hh2.out.2⟩, g2⟩
          case rest =>
          clear c0 c1 c2 c3 g2 hLi hcx HR
          obtain ⟨L2, X2, cx2, R2, rfl, rfl, hh3, g3⟩ := hcut
          obtain ⟨c0, c1, c2, c3⟩ := hcells.out _ g3.right.right.right
          have hLi := hh3.out.2.1
          obtain ⟨_, _, _, hsh, _⟩ := g3.dir_open
          have HR := hid hsh.rises
          have hfind := find25 X2 cx2 L2 K (by omega) (hh3.out.2.2 _ g3.right.right.left).1
          have hgt := get13 T m L2 K (by omega) g3
          unfold ptrv at hgt
          clear hsh
          go_wp2_with fail
          refine hfind.mono ?_
          clear hfind
          rintro e w6 ⟨⟨k, rfl, hk⟩, rfl⟩
          rcases hk with ⟨kk, hkk, rfl, hkey⟩ | ⟨rfl, hno⟩
          · have i1 : (0 : Int) ≤ (kk : Int) := by omega
            have i2 : (kk : Int) < (L2.length : Int) := by omega
            rw [getR_hit HR.out (List.getElem_mem hkk) hkey, show hasKey K L2 = true from has_mem.2 ⟨L2[kk], List.getElem_mem _, hkey⟩] at hgt
            obtain ⟨xd, hxd, hjunk⟩ := cells_at (hh3.out.2.2 _ g3.right.right.left).1 hkk
            subst hxd
            clear hjunk
            have HKK := hid hkk
            have hid1 : Hid (∀ w, Sat E R2 w → w.cell? { block := (xd.add (kk * 2)).block, off := (xd.add (kk * 2)).off + 1 } = some (.int .i64 L2[kk].2)) := hid (fun w h => by
              obtain ⟨_, h1, _, h2⟩ := cells_at (hh3.out.2.2 w h).1 HKK.out
              cases h1
              exact h2)
            generalize L2[kk].2 = I at *
            clear g3 hkey hkk
            go_wp2_with fail
            refine hgt.mono ?_
            clear hgt c0 c1 c2 c3
            rintro e w7 ⟨rfl, s7⟩
            have y1 := hid1.out _ s7.right.right.left
            have hln := len15 T m L2 s7
            have hsp := shaped16 T m L2 hm3 hm (by omega) s7
            unfold ptrv at hln hsp
            clear s7
            go_wp2_with fail
            refine hln.mono ?_
            clear hln
            rintro e w8 ⟨rfl, rfl⟩
            go_wp2_with fail
            refine hsp.mono ?_
            clear hsp y1
            rintro e w9 ⟨rfl, s9⟩
            go_wp2_with fail
            go_roundw
            case rel => exact ⟨i + 1, L2, H2, _, Y2, cx2, cy2, C2, R2, by omega, rfl, rfl, rfl, by go_num, ⟨hh3.out.1, hh3.out.2.1, by have := hh2.out.1; omega, hh3.out.2.2⟩, by rw [HF2.out] at s9; exact (s9.eq (shufE ..)).right⟩
            case measure => simp [intOf]; omega
          · rw [getR_no hno, hno] at hgt
            clear g3 hno
            go_wp2_with fail
            refine hgt.mono ?_
            clear hgt c0 c1 c2 c3
            rintro e w7 ⟨rfl, s7⟩
            have hln := len15 T m L2 s7
            have hsp := shaped16 T m L2 hm3 hm (by omega) s7
            unfold ptrv at hln hsp
            clear s7
            go_wp2_with fail
            refine hln.mono ?_
            clear hln
            rintro e w8 ⟨rfl, rfl⟩
            go_wp2_with fail
            refine hsp.mono ?_
            clear hsp
            rintro e w9 ⟨rfl, s9⟩
            go_wp2_with fail
            go_roundw
            case rel => exact ⟨i + 1, L2, H2, X2, Y2, cx2, cy2, C2, R2, by omega, rfl, rfl, rfl, by go_num, ⟨hh3.out.1, hh3.out.2.1, by have := hh2.out.1; omega, hh3.out.2.2⟩, by rw [HF2.out] at s9; exact (s9.eq (shufE ..)).right⟩
            case measure => simp [intOf]; omega
        · obtain rfl : i = l.length := by omega
          have hkd : ¬ (l.length : Int) < (l.length : Int) := by omega
          have h7 := first7 hq
          clear hlt hq
          go_wp2_with fail
          refine h7.mono ?_
          clear h7
          rintro e w7 ⟨rfl, s8⟩
          have ha := all9 T m L (by have := hh.out.2.1; omega) s8
          unfold ptrv at ha
          clear s8
          go_wp2_with fail
          refine ha.mono ?_
          clear ha
          rintro e w8 ⟨v9, rfl, s9⟩
          obtain ⟨A9, c9, rfl, _, _, _⟩ := s9.reads
          have e1 := entries11 A9 c9 L (by have := hh.out.2.1; omega) s9 (fun w h => h.reads_at)
          clear s9
          go_wp2_with fail
          refine e1.mono ?_
          clear e1
          rintro e w9 ⟨v10, rfl, s10⟩
          obtain ⟨A10, c10, rfl, _, _, _⟩ := s10.reads
          have e3 := same10 A10 X c10 cx L L (by have := hh.out.2.1; omega) (by have := hh.out.2.1; omega) s10 (fun w h => h.reads_at) (fun w h => (hh.out.2.2.2 w h.right.right.right.right.left).1)
          rw [show decide (L = L) = true by simp] at e3
          clear s10
          go_wp2_with fail
          refine e3.mono ?_
          clear e3
          rintro e w11 ⟨rfl, s12⟩
          have s13 : Sat E (dir C m H * (R * F)) w11 := s12.right.right.right
          have hb := all9 C m H (by have := hh.out.2.2.1; omega) s13
          unfold ptrv at hb
          clear s12 s13
          go_wp2_with fail
          refine hb.mono ?_
          clear hb
          rintro e w12 ⟨v14, rfl, s14⟩
          obtain ⟨A14, c14, rfl, _, _, _⟩ := s14.reads
          have e4 := entries11 A14 c14 H (by have := hh.out.2.2.1; omega) s14 (fun w h => h.reads_at)
          clear s14
          go_wp2_with fail
          refine e4.mono ?_
          clear e4
          rintro e w15 ⟨v15, rfl, s15⟩
          obtain ⟨A15, c15, rfl, _, _, _⟩ := s15.reads
          have e5 := same10 A15 Y c15 cy H H (by have := hh.out.2.2.1; omega) (by have := hh.out.2.2.1; omega) s15 (fun w h => h.reads_at) (fun w h => (hh.out.2.2.2 w h.right.right.right.left).2)
          rw [show decide (H = H) = true by simp] at e5
          clear s15
          go_wp2_with fail
          refine e5.mono ?_
          clear e5
          rintro e w16 ⟨rfl, s16⟩
          go_wp2_with fail
          go_ret
          exact ⟨rfl, s16.right.right.right.right⟩
end Go.Proofs.Ytobgfdongidaaaa
