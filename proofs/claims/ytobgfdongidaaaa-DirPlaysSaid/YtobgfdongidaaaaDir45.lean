import Derived.Test.YtobgfdongidaaaaDir42
namespace Go.Proofs.Ytobgfdongidaaaa
set_option linter.unusedVariables false
set_option linter.unusedSimpArgs false
open Go.RowKit Go.Proofs.Sep Go.Lib

/-! What is read of a tree, wherever an assertion holds. -/
def NodeSees (E : World) (R : Asn) (q n : Nat) (qs : List Nat) : Prop :=
  ∃ (A : Option Addr) (c : Nat) (A2 : Option Addr) (c2 : Nat), ∀ w, Sat E R w → w.cell? ⟨q, 0, none⟩ = some (.slice A n c) ∧ w.cell? ⟨q, 1, none⟩ = some (.slice A2 qs.length c2) ∧ Reads w 1 A2 qs.length (qs.map ptrv)
def All2 {α β : Type} (P : α → β → Prop) : List α → List β → Prop
  | [], [] => True
  | a :: l, b :: m => P a b ∧ All2 P l m
  | _, _ => False
theorem All2.app {α β : Type} {P : α → β → Prop} : ∀ {a : List α} {b : List β} {c : List α} {d : List β}, All2 P a b → All2 P c d → All2 P (a ++ c) (b ++ d)
  | [], [], _, _, _, h => h
  | _ :: _, _ :: _, _, _, ⟨h1, h2⟩, h => ⟨h1, h2.app h⟩
  | [], _ :: _, _, _, h, _ => h.elim
  | _ :: _, [], _, _, h, _ => h.elim
theorem All2.len {α β : Type} {P : α → β → Prop} : ∀ {a : List α} {b : List β}, All2 P a b → a.length = b.length
  | [], [], _ => rfl
  | _ :: _, _ :: _, ⟨_, h⟩ => by simp [h.len]
  | [], _ :: _, h => h.elim
  | _ :: _, [], h => h.elim
theorem All2.at {α β : Type} {P : α → β → Prop} : ∀ {a : List α} {b : List β} (_ : All2 P a b) (i : Nat) (h1 : i < a.length) (h2 : i < b.length), P a[i] b[i]
  | _ :: _, _ :: _, ⟨h, _⟩, 0, _, _ => h
  | _ :: _, _ :: _, ⟨_, h⟩, i + 1, h1, h2 => h.at i (by simpa using h1) (by simpa using h2)
  | [], [], _, _, h, _ => by simp at h
  | [], _ :: _, h, _, _, _ => h.elim
  | _ :: _, [], h, _, _, _ => h.elim
theorem All2.imp {α β : Type} {P Q : α → β → Prop} (hf : ∀ a b, P a b → Q a b) : ∀ {a : List α} {b : List β}, All2 P a b → All2 Q a b
  | [], [], _ => trivial
  | _ :: _, _ :: _, ⟨h1, h2⟩ => ⟨hf _ _ h1, h2.imp hf⟩
  | [], _ :: _, h => h.elim
  | _ :: _, [], h => h.elim
def Sees (E : World) (R : Asn) : (h : Nat) → Nat → Tr h → Prop
  | 0, q, t => NodeSees E R q (ownE 0 t).length []
  | h + 1, q, t => ∃ qs, NodeSees E R q (ownE (h + 1) t).length qs ∧ All2 (Sees E R h) qs t.2
theorem NodeSees.mono {E : World} {R R' : Asn} {q n : Nat} {qs : List Nat} (hr : ∀ w, Sat E R' w → Sat E R w) (h : NodeSees E R q n qs) : NodeSees E R' q n qs := by
  obtain ⟨A, c, A2, c2, h⟩ := h
  exact ⟨A, c, A2, c2, fun w hw => h w (hr w hw)⟩
theorem Sees.mono {E : World} {R R' : Asn} (hr : ∀ w, Sat E R' w → Sat E R w) : ∀ {h : Nat} {q : Nat} {t : Tr h}, Sees E R h q t → Sees E R' h q t
  | 0, _, _, h => NodeSees.mono hr h
  | h + 1, _, _, ⟨qs, h1, h2⟩ => ⟨qs, h1.mono hr, h2.imp fun a b hab => Sees.mono hr hab⟩
theorem open_stars {E : World} {h : Nat} (IH : ∀ {w : World} {G : Asn} {q : Nat} {t : Tr h}, Sat E (tree h q t * G) w → ∃ D : Asn, Sat E (D * G) w ∧ (∀ G' w', Sat E (D * G') w' → Sat E (tree h q t * G') w') ∧ ∀ G', Sees E (D * G') h q t) :
    ∀ {qs : List Nat} {ks : List (Tr h)} {w : World} {G : Asn}, Sat E (stars (tree h) qs ks * G) w → ∃ D : Asn, Sat E (D * G) w ∧ (∀ G' w', Sat E (D * G') w' → Sat E (stars (tree h) qs ks * G') w') ∧ ∀ G', All2 (Sees E (D * G') h) qs ks
  | [], [], _, _, hS => ⟨emp, hS, fun _ _ h => h, fun _ => trivial⟩
  | q :: qs, k :: ks, w, G, hS => by
    have h1 : Sat E (tree h q k * (stars (tree h) qs ks * G)) w := hS.eq (star_assoc _ _ _)
    obtain ⟨D1, s1, b1, v1⟩ := IH h1
    obtain ⟨D2, s2, b2, v2⟩ := open_stars IH (s1.eq (star_left_comm _ _ _))
    refine ⟨D1 * D2, s2.eq (by ac_rfl), fun G' w' hs => ?_, fun G' => ⟨?_, ?_⟩⟩
    · have h2 := b1 _ _ (hs.eq (star_assoc _ _ _))
      have h3 := b2 _ _ (h2.eq (star_left_comm _ _ _))
      exact h3.eq (by
        show _ = (tree h q k * stars (tree h) qs ks) * G'
        ac_rfl)
    · exact (v1 (D2 * G')).mono fun w hw => hw.eq (star_assoc _ _ _)
    · exact (v2 (D1 * G')).imp fun a b hab => hab.mono fun w hw => hw.eq (by ac_rfl)
  | [], _ :: _, _, _, hS => (Sat.pur_left hS).1.elim
  | _ :: _, [], _, _, hS => (Sat.pur_left hS).1.elim
theorem open_tree {E : World} : ∀ {h : Nat} {w : World} {G : Asn} {q : Nat} {t : Tr h}, Sat E (tree h q t * G) w → ∃ D : Asn, Sat E (D * G) w ∧ (∀ G' w', Sat E (D * G') w' → Sat E (tree h q t * G') w') ∧ ∀ G', Sees E (D * G') h q t
  | 0, w, G, q, t, hS => by
    obtain ⟨qs, s1⟩ := hS.tree_open
    obtain ⟨rfl, s2⟩ := Sat.pur_left (s1.eq (star_left_comm _ _ _))
    obtain ⟨A1, c1, A2, c2, _, _, s3⟩ := s2.node_open
    refine ⟨_, s3, fun G' w' hs => ?_, fun G' => ⟨A1, c1, A2, c2, fun w' hw => ?_⟩⟩
    · refine Sat.tree_shut (h := 0) (t := t) (qs := []) rfl ?_
      exact (hs.node_shut.add_pur (p := ([] : List Nat) = []) rfl).eq (star_left_comm _ _ _)
    · obtain ⟨x0, x1, _, _, _, x5⟩ := node_facts rfl rfl hw
      exact ⟨x0, x1, x5⟩
  | h + 1, w, G, q, t, hS => by
    obtain ⟨qs, s1⟩ := hS.tree_open
    obtain ⟨A1, c1, A2, c2, _, _, s2⟩ := s1.node_open
    obtain ⟨D, s3, b3, v3⟩ := open_stars (fun hs => open_tree hs) (s2.eq (show _ = stars (tree h) qs t.2 * (nodeAt q (.slice A1 (ownE (h + 1) t).length c1) (.slice A2 qs.length c2) (ownE (h + 1) t) qs * G) from star_left_comm _ _ _))
    refine ⟨nodeAt q (.slice A1 (ownE (h + 1) t).length c1) (.slice A2 qs.length c2) (ownE (h + 1) t) qs * D, s3.eq (by ac_rfl), fun G' w' hs => ?_, fun G' => ⟨qs, ⟨A1, c1, A2, c2, fun w' hw => ?_⟩, ?_⟩⟩
    · have h2 := b3 _ _ (hs.eq (show _ = D * (nodeAt q (.slice A1 (ownE (h + 1) t).length c1) (.slice A2 qs.length c2) (ownE (h + 1) t) qs * G') by ac_rfl))
      refine Sat.tree_shut (h := h + 1) (t := t) (qs := qs) rfl ?_
      exact (h2.eq (star_left_comm _ _ _)).node_shut
    · obtain ⟨x0, x1, _, _, _, x5⟩ := node_facts rfl rfl (hw.eq (star_assoc _ _ _))
      exact ⟨x0, x1, x5⟩
    · exact (v3 (nodeAt q (.slice A1 (ownE (h + 1) t).length c1) (.slice A2 qs.length c2) (ownE (h + 1) t) qs * G')).imp fun a b hab => hab.mono fun w hw => hw.eq (by ac_rfl)
/-- How many keys each node has, level for level. -/
def wAll : (h : Nat) → List (Tr h) → List Int
  | 0, ts => ts.map fun t => ((ownE 0 t).length : Int)
  | h + 1, ts => (ts.map fun t => ((ownE (h + 1) t).length : Int)) ++ wAll h (ts.flatMap fun t => t.2)
/-- A level: what its nodes hold, and the next one. -/
theorem level_open {E : World} {R : Asn} : ∀ {h : Nat} {qs : List Nat} {ts : List (Tr h)}, All2 (Sees E R h) qs ts →
    ∃ qss : List (List Nat), qss.length = qs.length ∧ (∀ i (h1 : i < qs.length) (h2 : i < ts.length) (h3 : i < qss.length), NodeSees E R qs[i] (ownE h ts[i]).length qss[i])
      ∧ ((h = 0 ∧ qss.flatten = []) ∨ ∃ h', ∃ e : h = h' + 1, All2 (Sees E R h') qss.flatten ((e ▸ ts : List (Tr (h' + 1))).flatMap fun t => t.2)) := by
  intro h
  cases h with
  | zero =>
    intro qs ts hv
    refine ⟨List.replicate qs.length [], by simp, fun i h1 h2 h3 => ?_, .inl ⟨rfl, by simp⟩⟩
    rw [List.getElem_replicate]
    exact hv.at i h1 h2
  | succ h =>
    intro qs ts hv
    have : ∀ {qs : List Nat} {ts : List (Tr (h + 1))}, All2 (Sees E R (h + 1)) qs ts → ∃ qss : List (List Nat), qss.length = qs.length ∧ (∀ i (h1 : i < qs.length) (h2 : i < ts.length) (h3 : i < qss.length), NodeSees E R qs[i] (ownE (h + 1) ts[i]).length qss[i]) ∧ All2 (Sees E R h) qss.flatten (ts.flatMap fun t => t.2) := by
      intro qs
      induction qs with
      | nil =>
        intro ts hv
        cases ts with
        | nil => exact ⟨[], rfl, fun i h1 _ _ => by simp at h1, trivial⟩
        | cons _ _ => exact hv.elim
      | cons q qs ih =>
        intro ts hv
        cases ts with
        | nil => exact hv.elim
        | cons t ts =>
          obtain ⟨⟨qs1, n1, a1⟩, hv2⟩ := hv
          obtain ⟨qss, e1, e2, e3⟩ := ih hv2
          refine ⟨qs1 :: qss, by simp [e1], fun i h1 h2 h3 => ?_, ?_⟩
          · cases i with
            | zero => exact n1
            | succ i => exact e2 i (by simpa using h1) (by simpa using h2) (by simpa using h3)
          · rw [List.flatten_cons, List.flatMap_cons]
            exact a1.app e3
    obtain ⟨qss, e1, e2, e3⟩ := this hv
    exact ⟨qss, e1, e2, .inr ⟨h, rfl, e3⟩⟩
end Go.Proofs.Ytobgfdongidaaaa

namespace Go.Proofs.Ytobgfdongidaaaa
set_option linter.unusedVariables false
set_option linter.unusedSimpArgs false
open Go.RowKit Go.Proofs.Sep Go.Lib

theorem Try.info3 : (Try.prog.info? 3).map (fun i => (i.zero, i.size, i.bytes)) = some (some (.int .i64 0), 1, 8) := by kernel_rfl
theorem wAll_nil : ∀ h, wAll h [] = []
  | 0 => rfl
  | h + 1 => by simp [wAll, wAll_nil h]
theorem wAll_len : ∀ (h : Nat) (ts : List (Tr h)), ts.length ≤ (wAll h ts).length
  | 0, ts => by simp [wAll]
  | h + 1, ts => by simp [wAll]
/-- A round of Widths. -/
def LevelAt (E : World) (R : Asn) (WA : List Int) (lv ov : Value) (wr : World) : Nat → Prop
  | 0 => Sat E (row 3 1 lv WA.length (nums .i64 WA) * (row 56 1 ov 0 [] * R)) wr
  | j + 1 => ∃ (qs : List Nat) (ts : List (Tr j)) (ws : List Int), All2 (Sees E R j) qs ts ∧ ws ++ wAll j ts = WA ∧ Sat E (row 3 1 lv ws.length (nums .i64 ws) * (row 56 1 ov qs.length (qs.map ptrv) * R)) wr
theorem take_flat {α : Type} (l : List (List α)) (k : Nat) (h : k < l.length) : (l.take (k + 1)).flatten = (l.take k).flatten ++ l[k] := by
  rw [List.take_succ_eq_append_getElem h, List.flatten_append]
  simp
/-- Behind a level. -/
theorem level_next {E : World} {R : Asn} {WA : List Int} {j : Nat} {ts : List (Tr j)} {ws : List Int} {qss : List (List Nat)} {lv ov : Value} {wr : World} (hW : ws ++ wAll j ts = WA)
    (h : (j = 0 ∧ qss.flatten = []) ∨ ∃ h', ∃ e : j = h' + 1, All2 (Sees E R h') qss.flatten ((e ▸ ts : List (Tr (h' + 1))).flatMap fun t => t.2))
    (hS : Sat E (row 3 1 lv (ws ++ ts.map fun t => ((ownE j t).length : Int)).length (nums .i64 (ws ++ ts.map fun t => ((ownE j t).length : Int))) * (row 56 1 ov qss.flatten.length (qss.flatten.map ptrv) * R)) wr) :
    LevelAt E R WA lv ov wr j := by
  rcases h with ⟨rfl, h⟩ | ⟨h', rfl, h⟩
  · rw [h] at hS
    rw [← hW]
    exact hS
  · refine ⟨_, _, _, h, ?_, hS⟩
    rw [← hW, List.append_assoc]
    rfl
theorem flat_le {E : World} {R : Asn} {j : Nat} {ts : List (Tr j)} {qss : List (List Nat)} {WA ws : List Int} (hW : ws ++ wAll j ts = WA)
    (h : (j = 0 ∧ qss.flatten = []) ∨ ∃ h', ∃ e : j = h' + 1, All2 (Sees E R h') qss.flatten ((e ▸ ts : List (Tr (h' + 1))).flatMap fun t => t.2)) : qss.flatten.length ≤ WA.length := by
  rcases h with ⟨rfl, h⟩ | ⟨h', rfl, h⟩
  · rw [h]; simp
  · rw [h.len, ← hW, List.length_append]
    have : wAll (h' + 1) ts = (ts.map fun t => ((ownE (h' + 1) t).length : Int)) ++ wAll h' (ts.flatMap fun t => t.2) := rfl
    rw [this, List.length_append]
    have := wAll_len h' (ts.flatMap fun t => t.2)
    show (ts.flatMap fun t => t.2).length ≤ _
    omega
theorem flat_take_le {α : Type} (l : List (List α)) (k : Nat) : (l.take k).flatten.length ≤ l.flatten.length := by
  have := congrArg List.flatten (List.take_append_drop k l)
  rw [List.flatten_append] at this
  rw [← this, List.length_append]
  omega

theorem widths_none {E w : World} {F : Asn} (T m : Nat) (hS : Sat E (dir T m [] * F) w) : Calls Try.prog 32 #[ptrv T] w fun r w' => r = .returned (.slice none 0 0) ∧ w' = w := by
  obtain ⟨h, r, t, _, s1⟩ := hS.dir_open
  obtain ⟨_, _, t2, _, _⟩ := three_cells (s1.eq (show _ = blk T (.cells #[.int .i64 m, ptrv r, .int .i64 ([] : List Ent).length] 61) * (tree h r t * F) by unfold top; ac_rfl))
  simp only [List.length_nil] at t2
  unfold ptrv
  go_enter Try.func32, Try.ntmps32
  go_wp2
  go_ret
  exact ⟨rfl, rfl⟩
set_option maxRecDepth 100000 in
set_option maxHeartbeats 8000000 in
theorem widths_some {E w : World} {F : Asn} (T m : Nat) (L : List Ent) (hpos : 0 < L.length) (hl : L.length ≤ 900000) (hwl : ∀ h (t : Tr h), Shape m h t L → (wAll h [t]).length ≤ 900000) (hS : Sat E (dir T m L * F) w) :
    Calls Try.prog 32 #[ptrv T] w fun r w' => ∃ (h : Nat) (t : Tr h) (v : Value), Shape m h t L ∧ r = .returned v ∧ Sat E (row 3 1 v (wAll h [t]).length (nums .i64 (wAll h [t])) * (dir T m L * F)) w' := by
  obtain ⟨h, r, t, hs, s1⟩ := hS.dir_open
  obtain ⟨_, t1, t2, _, _⟩ := three_cells (s1.eq (show _ = blk T (.cells #[.int .i64 m, ptrv r, .int .i64 L.length] 61) * (tree h r t * F) by unfold top; ac_rfl))
  have hw9 := hwl h t hs
  have z0 : ((L.length : Int) == 0) = false := beq_eq_false_iff_ne.2 (by omega)
  obtain ⟨D, s2, b2, v2⟩ := open_tree s1
  have v3 := v2 (top T m (ptrv r) (.int .i64 L.length) * F)
  have hback : ∀ (X : Asn) (w : World), Sat E (X * (D * (top T m (ptrv r) (.int .i64 L.length) * F))) w → Sat E (X * (dir T m L * F)) w := fun X w hw => by
    have h1 := b2 (X * (top T m (ptrv r) (.int .i64 L.length) * F)) w (hw.eq (star_left_comm _ _ _))
    have h2 : Sat E (tree h r t * (top T m (ptrv r) (.int .i64 L.length) * (X * F))) w := h1.eq (by ac_rfl)
    exact (Sat.dir_shut hs h2).eq (star_left_comm _ _ _)
  generalize D * (top T m (ptrv r) (.int .i64 L.length) * F) = R at *
  have s3 := s2.row_alloc [ptrv r] 56 1 1 rfl (by unfold maxLen; omega)
  have h0 : LevelAt E R (wAll h [t]) (.slice none 0 0) (.slice (some ⟨w.heap.size, 0, none⟩) 1 1) (w.alloc (.cells [ptrv r].toArray 56)) (h + 1) := ⟨[r], [t], [], ⟨v3, trivial⟩, rfl, s3.row_nil⟩
  generalize hWA : wAll h [t] = WA at *
  have HS := hid (And.intro hs hWA)
  have HBK := hid hback
  clear hS s1 s2 s3 b2 v2 v3 hs hback hWA hwl
  unfold ptrv at t1 h0 ⊢
  go_enter Try.func32, Try.ntmps32
  go_wp2_with fail
  go_loopw [3, 4] (fun lv ov wr => ∃ j, LevelAt E R WA lv ov wr j) (fun lv ov wr => leastOf (LevelAt E R WA lv ov wr))
  case atStart => exact ⟨h + 1, h0⟩
  case round =>
    clear h0
    have hj := leastOf_is hrel
    obtain ⟨j, hjj⟩ : ∃ j, j = leastOf (LevelAt E R WA u3 u4 wr) := ⟨_, rfl⟩
    rw [← hjj] at hj
    have HJ := hid hjj
    clear hjj hrel
    cases j with
    | zero =>
      obtain ⟨A2, c2, rfl, _, _, _⟩ := (Sat.eq hj (star_left_comm _ _ _)).reads
      have HH := hid hj
      clear hj
      go_wp2_with fail
      go_ret
      refine ⟨h, t, u3, HS.out.1, rfl, ?_⟩
      rw [HS.out.2]
      have h1 : Sat E (row 56 1 (.slice A2 0 c2) 0 [] * (row 3 1 u3 WA.length (nums .i64 WA) * R)) wr := Sat.eq HH.out (star_left_comm _ _ _)
      exact HBK.out _ _ h1.right
    | succ j =>
      obtain ⟨qs, ts, ws, v1, hW, hq⟩ := hj
      have hlen := v1.len
      obtain ⟨qss, e1, e2, e3⟩ := level_open v1
      have hqs : qs.length ≤ WA.length := by
        rw [hlen, ← hW, List.length_append]
        have := wAll_len j ts
        omega
      have hwl : (ws ++ ts.map fun t => ((ownE j t).length : Int)).length ≤ WA.length := by
        rw [← hW, List.length_append, List.length_append, List.length_map]
        have := wAll_len j ts
        omega
      have hfl := flat_le hW e3
      obtain ⟨A2, c2, rfl, _, _, _⟩ := (Sat.eq hq (star_left_comm _ _ _)).reads
      by_cases hz : 0 < qs.length
      · have z1 : (0 : Int) < (qs.length : Int) := by omega
        have E2 := hid e2
        have E3 := hid e3
        have HW := hid hW
        have hq0 : Sat E (row 56 1 (.slice none 0 0) 0 [] * (row 3 1 u3 ws.length (nums .i64 ws) * (row 56 1 (.slice A2 qs.length c2) qs.length (qs.map ptrv) * R))) wr := hq.row_nil
        have HLEN := hid (And.intro hlen e1)
        clear e2 e3 hW v1 hlen e1
        go_wp2_with fail
        go_loopw [3, 5, 23] (fun lv nv iv wr => ∃ k : Nat, k ≤ qs.length ∧ iv = .int .i64 k ∧ Sat E (row 3 1 lv (ws ++ (ts.take k).map fun t => ((ownE j t).length : Int)).length (nums .i64 (ws ++ (ts.take k).map fun t => ((ownE j t).length : Int))) * (row 56 1 nv (qss.take k).flatten.length ((qss.take k).flatten.map ptrv) * (row 56 1 (.slice A2 qs.length c2) qs.length (qs.map ptrv) * R))) wr) (fun _ _ iv _ => qs.length - (intOf iv).toNat)
        case atStart =>
          exact ⟨0, by omega, rfl, by
            rw [List.take_zero, List.take_zero, List.map_nil, List.append_nil]
            exact hq0.eq (star_left_comm _ _ _)⟩
        case round =>
          clear hq hq0
          obtain ⟨k, hk, rfl, hq⟩ := hrel
          by_cases hlt : k < qs.length
          · have hkd : (k : Int) < (qs.length : Int) := by omega
            have wk := i64_wrap (x := (k : Int) + 1) (by omega) (by omega)
            have hkt : k < ts.length := by have := HLEN.out.1; omega
            have hks : k < qss.length := by have := HLEN.out.2; omega
            obtain ⟨A, c, A3, c3, hf⟩ := E2.out k hlt hkt hks
            have hql : qs[k]? = some qs[k] := List.getElem?_eq_getElem hlt
            obtain ⟨ad, hAd, xq⟩ := ptr_at hq.right.right.reads_at hql
            subst hAd
            have n1 : (ws ++ (ts.take (k + 1)).map fun t => ((ownE j t).length : Int)) = (ws ++ (ts.take k).map fun t => ((ownE j t).length : Int)) ++ [((ownE j ts[k]).length : Int)] := by
              rw [List.take_succ_eq_append_getElem hkt, List.map_append, List.append_assoc]
              rfl
            have n2 := take_flat qss k hks
            have n3 := flat_take_le qss (k + 1)
            have n4 : (ws ++ (ts.take k).map fun t => ((ownE j t).length : Int)).length ≤ WA.length := by
              simp only [List.length_append, List.length_map, List.length_take] at hwl ⊢
              omega
            rw [n2, List.length_append] at n3
            generalize hl0 : (ws ++ (ts.take k).map fun t => ((ownE j t).length : Int)) = l0 at *
            generalize hl1 : (ws ++ (ts.take (k + 1)).map fun t => ((ownE j t).length : Int)) = l1 at *
            generalize hx0 : (qss.take k).flatten = x0 at *
            generalize hx1 : (qss.take (k + 1)).flatten = x1 at *
            generalize hn0 : (ownE j ts[k]).length = n0 at *
            generalize hqk : qs[k] = q at *
            generalize hqq : qss[k] = qk at *
            obtain ⟨y0, y1, y2⟩ := hf _ hq.right.right.right
            have N1 := hid n1
            have N2 := hid n2
            have HF := hid hf
            have HL1 := hid hl1
            have HX1 := hid hx1
            unfold ptrv at xq
            obtain ⟨B1, d1, hB1, _, _, _⟩ := hq.reads
            subst hB1
            obtain ⟨B2, d2, hB2, _, _, _⟩ := (hq.eq (star_left_comm _ _ _)).reads
            subst hB2
            have s1 := hq.alloc_drop (.cells #[.int .i64 n0] 3)
            have hR : Reads (wr.alloc (.cells [.int .i64 n0].toArray 3)) 1 (some ⟨wr.heap.size, 0, none⟩) 1 [.int .i64 n0] := Reads.new 1 1 [.int .i64 n0] 3 rfl (by omega)
            clear hf n1 n2 hl0 hl1 hx0 hx1 hn0 hqk hqq hql hq hkt hks y2
            go_wp2_with (at_builtin; first
              | (refine wpList_append_sat rfl _ _ 65 3 (.int .i64 0) 1 8 rfl Try.underlying65 Try.info3 rfl (by decide) _ l0.length (nums .i64 l0) _ 1 1 [.int .i64 n0] rfl rfl s1 hR (by simp [Value.oneCell']) (by unfold maxLen; omega) (by omega) ?_; intro v1 w3 q1; obtain ⟨B3, d3, rfl, _, _, _⟩ := q1.reads; obtain ⟨y0, y1, y2⟩ := HF.out _ q1.right.right.right; have q2 := q1.eq (star_left_comm _ _ _))
              | (refine wpList_append_sat rfl _ _ 57 56 (.pointer none) 1 8 rfl Try.underlying57 Try.info56 rfl (by decide) _ x0.length (x0.map ptrv) _ qk.length c3 (qk.map ptrv) rfl rfl q2 y2 (ptrs_one qk) (by unfold maxLen; omega) (by omega) ?_; intro v2 w4 q3; obtain ⟨B4, d4, rfl, _, _, _⟩ := q3.reads; have q4 := q3.eq (star_left_comm _ _ _)))
            go_roundw
            case rel =>
              refine ⟨k + 1, by omega, by go_num, ?_⟩
              rw [HL1.out, HX1.out, N1.out, N2.out]
              refine q4.eq ?_
              rw [List.length_append, nums_append, List.length_append, List.map_append]
              rfl
            case measure => simp [intOf]; omega
          · obtain rfl : k = qs.length := by omega
            have hkd : ¬ (qs.length : Int) < (qs.length : Int) := by omega
            clear hlt
            rw [List.take_of_length_le (l := ts) (by have := HLEN.out.1; omega), List.take_of_length_le (l := qss) (by have := HLEN.out.2; omega)] at hq
            obtain ⟨B2, d2, hB2, _, _, _⟩ := (hq.eq (star_left_comm _ _ _)).reads
            subst hB2
            have h1 : Sat E (row 56 1 (.slice A2 qs.length c2) qs.length (qs.map ptrv) * (row 3 1 u3 (ws ++ ts.map fun t => ((ownE j t).length : Int)).length (nums .i64 (ws ++ ts.map fun t => ((ownE j t).length : Int))) * (row 56 1 (.slice B2 qss.flatten.length d2) qss.flatten.length (qss.flatten.map ptrv) * R))) wr := hq.eq (by ac_rfl)
            have hn := hid (level_next HW.out E3.out h1.right)
            clear h1 hq
            go_wp2_with fail
            go_roundw
            case rel => exact ⟨j, hn.out⟩
            case measure =>
              have h1 := leastOf_le (P := LevelAt E R WA u3 (.slice B2 qss.flatten.length d2) wr) hn.out
              refine Nat.lt_of_le_of_lt h1 ?_
              show j < leastOf _
              rw [← HJ.out]
              exact Nat.lt_succ_self j
      · have z1 : ¬ (0 : Int) < (qs.length : Int) := by omega
        obtain rfl : qs = [] := List.eq_nil_of_length_eq_zero (by omega)
        obtain rfl : ts = [] := List.eq_nil_of_length_eq_zero (by simpa using hlen.symm)
        rw [wAll_nil, List.append_nil] at hW
        subst hW
        have H := hid hq
        clear v1 hlen e1 e2 e3 hqs hwl hfl hq hz
        go_wp2_with fail
        go_ret
        first | refine ⟨h, t, u3, HS.out.1, rfl, ?_⟩ | refine ⟨h, t, HS.out.1, u3, rfl, ?_⟩
        rw [HS.out.2]
        have h1 : Sat E (row 56 1 (.slice A2 ([] : List Nat).length c2) ([] : List Nat).length (([] : List Nat).map ptrv) * (row 3 1 u3 ws.length (nums .i64 ws) * R)) wr := H.out.eq (star_left_comm _ _ _)
        exact HBK.out _ _ h1.right
end Go.Proofs.Ytobgfdongidaaaa

namespace Go.Proofs.Ytobgfdongidaaaa
set_option linter.unusedVariables false
set_option linter.unusedSimpArgs false
open Go.RowKit Go.Proofs.Sep Go.Lib

/-! The form of the tree, plain. -/
theorem weave_len : ∀ (es : List Ent) (ks : List (List Ent)), ks.length = es.length + 1 → (weave es ks).length = es.length + ks.flatten.length
  | [], ks, _ => by simp [weave]
  | e :: es, k :: ks, h => by
    have ih := weave_len es ks (by simpa using h)
    simp only [weave, List.length_append, List.length_cons, List.flatten_cons, ih]
    omega
  | _ :: _, [], h => by simp at h
theorem inord_len {lo hi h : Nat} {es : List Ent} {ks : List (Tr h)} (hok : okT lo hi (h + 1) (es, ks)) : (inord (h + 1) (es, ks)).length = es.length + (ks.map fun k => (inord h k).length).sum := by
  show (weave es (ks.map (inord h))).length = _
  rw [weave_len _ _ (by rw [List.length_map]; exact hok.1), List.length_flatten, List.map_map]
  rfl
theorem sum_ge {α : Type} (f : α → Nat) (P : Nat) : ∀ (l : List α), (∀ x ∈ l, P ≤ f x + 1) → l.length * P ≤ (l.map f).sum + l.length
  | [], _ => by simp
  | a :: l, h => by
    have ih := sum_ge f P l fun x hx => h x (by simp [hx])
    have := h a (by simp)
    simp only [List.map_cons, List.sum_cons, List.length_cons, Nat.add_mul, Nat.one_mul]
    omega
theorem inord_low {lo hi : Nat} : ∀ (h : Nat) (t : Tr h), okT lo hi h t → lo ≤ (ownE h t).length → (lo + 1) ^ (h + 1) ≤ (inord h t).length + 1
  | 0, t, _, ho => by
    have : lo ≤ (inord 0 t).length := ho
    simpa using this
  | h + 1, (es, ks), hok, ho => by
    have ho : lo ≤ es.length := ho
    have h1 := inord_len hok
    have h2 := sum_ge (fun k => (inord h k).length) ((lo + 1) ^ (h + 1)) ks fun k hk => inord_low h k (hok.2 k hk).2.2 (hok.2 k hk).1
    have h3 : ks.length = es.length + 1 := hok.1
    have h4 : (lo + 1) ^ (h + 1 + 1) ≤ (es.length + 1) * (lo + 1) ^ (h + 1) := by
      rw [Nat.pow_succ, Nat.mul_comm]
      exact Nat.mul_le_mul_right _ (by omega)
    rw [h3] at h2
    omega
theorem root_low {lo hi : Nat} : ∀ (h : Nat) (t : Tr h), okT lo hi h t → 1 ≤ (ownE h t).length → 2 * (lo + 1) ^ h ≤ (inord h t).length + 1
  | 0, t, _, ho => by
    have : 1 ≤ (inord 0 t).length := ho
    simpa using this
  | h + 1, (es, ks), hok, ho => by
    have ho : 1 ≤ es.length := ho
    have h1 := inord_len hok
    have h2 := sum_ge (fun k => (inord h k).length) ((lo + 1) ^ (h + 1)) ks fun k hk => inord_low h k (hok.2 k hk).2.2 (hok.2 k hk).1
    have h3 : ks.length = es.length + 1 := hok.1
    have h4 : 2 * (lo + 1) ^ (h + 1) ≤ (es.length + 1) * (lo + 1) ^ (h + 1) := Nat.mul_le_mul_right _ (by omega)
    rw [h3] at h2
    omega
theorem sum_flatMap {α : Type} (f : α → Nat) : ∀ (l : List (List α)), (l.flatten.map f).sum = (l.map fun x => (x.map f).sum).sum
  | [] => rfl
  | a :: l => by
    rw [List.flatten_cons, List.map_append, List.sum_append, sum_flatMap f l]
    rfl
theorem sum_int {α : Type} (f : α → Nat) : ∀ (l : List α), (l.map fun x => (f x : Int)).sum = ((l.map f).sum : Nat)
  | [] => rfl
  | a :: l => by
    have := sum_int f l
    simp only [List.map_cons, List.sum_cons, this]
    omega
theorem sum_two {α : Type} (f g : α → Nat) : ∀ (l : List α), (l.map fun x => f x + g x).sum = (l.map f).sum + (l.map g).sum
  | [] => rfl
  | a :: l => by
    have := sum_two f g l
    simp only [List.map_cons, List.sum_cons, this]
    omega
theorem wAll_sum {lo hi : Nat} : ∀ (h : Nat) (ts : List (Tr h)), (∀ t ∈ ts, okT lo hi h t) → (wAll h ts).sum = ((ts.map fun t => (inord h t).length).sum : Nat)
  | 0, ts, _ => sum_int (fun t => (ownE 0 t).length) ts
  | h + 1, ts, hok => by
    have ih := wAll_sum h (ts.flatMap fun t => t.2) fun k hk => by
      obtain ⟨t, ht, hk⟩ := List.mem_flatMap.1 hk
      exact ((hok t ht).2 k hk).2.2
    have e1 : (wAll (h + 1) ts).sum = (ts.map fun t => ((ownE (h + 1) t).length : Int)).sum + (wAll h (ts.flatMap fun t => t.2)).sum := List.sum_append
    rw [e1, ih, sum_int, List.flatMap_def, sum_flatMap, List.map_map]
    have e2 : (ts.map fun t => (inord (h + 1) t).length) = ts.map fun t => (ownE (h + 1) t).length + (t.2.map fun k => (inord h k).length).sum := List.map_congr_left fun t ht => inord_len (es := t.1) (ks := t.2) (hok t ht)
    rw [e2, sum_two]
    rw [Int.natCast_add]
    rfl
theorem wAll_mem {lo hi : Nat} : ∀ (h : Nat) (ts : List (Tr h)), (∀ t ∈ ts, lo ≤ (ownE h t).length ∧ (ownE h t).length ≤ hi ∧ okT lo hi h t) → ∀ x ∈ wAll h ts, (lo : Int) ≤ x ∧ x ≤ hi
  | 0, ts, hok, x, hx => by
    obtain ⟨t, ht, rfl⟩ := List.mem_map.1 hx
    have := hok t ht
    omega
  | h + 1, ts, hok, x, hx => by
    have hx : x ∈ (ts.map fun t => ((ownE (h + 1) t).length : Int)) ++ wAll h (ts.flatMap fun t => t.2) := hx
    rcases List.mem_append.1 hx with hx | hx
    · obtain ⟨t, ht, rfl⟩ := List.mem_map.1 hx
      have := hok t ht
      omega
    · refine wAll_mem h _ (fun k hk => ?_) x hx
      obtain ⟨t, ht, hk⟩ := List.mem_flatMap.1 hk
      exact (hok t ht).2.2.2 k hk
/-- What shaped looks for. -/
structure WOK (m : Nat) (L : List Ent) (ws : List Int) : Prop where
  sum : ws.sum = (L.length : Int)
  low : ∀ i (h : i < ws.length), 1 ≤ ws[i]
  high : ∀ i (h : i < ws.length), ws[i] ≤ (m : Int) - 1
  least : ∀ i (h : i < ws.length), 0 < i → (((m - 1) / 2 : Nat) : Int) ≤ ws[i]
theorem wok_nil (m : Nat) : WOK m [] [] where
  sum := rfl
  low := fun i h => by simp at h
  high := fun i h => by simp at h
  least := fun i h => by simp at h
theorem wok_shape {m h : Nat} {t : Tr h} {L : List Ent} (hm : 3 ≤ m) (hs : Shape m h t L) (hpos : 0 < L.length) : WOK m L (wAll h [t]) := by
  have hown : 1 ≤ (ownE h t).length := by
    cases h with
    | zero => have := hs.ord; rw [show inord 0 t = ownE 0 t from rfl] at this; rw [this]; exact hpos
    | succ h => exact hs.least (by omega)
  have hmost := hs.most
  obtain ⟨rest, he, hr⟩ : ∃ rest, wAll h [t] = ((ownE h t).length : Int) :: rest ∧ ∀ x ∈ rest, (((m - 1) / 2 : Nat) : Int) ≤ x ∧ x ≤ ((m - 1 : Nat) : Int) := by
    cases h with
    | zero => exact ⟨[], rfl, fun x hx => by simp at hx⟩
    | succ h =>
      refine ⟨wAll h t.2, ?_, wAll_mem h t.2 fun k hk => hs.ok.2 k hk⟩
      show (List.map _ [t]) ++ wAll h ([t].flatMap fun t => t.2) = _
      simp
  have hsum := wAll_sum h [t] fun k hk => by
    rcases List.mem_cons.1 hk with rfl | hk
    · exact hs.ok
    · cases hk
  have key : ∀ i (hi : i < (wAll h [t]).length), (wAll h [t])[i] = ((ownE h t).length : Int) ∧ i = 0 ∨ (((m - 1) / 2 : Nat) : Int) ≤ (wAll h [t])[i] ∧ (wAll h [t])[i] ≤ ((m - 1 : Nat) : Int) := fun i hi => by
    simp only [he]
    cases i with
    | zero => exact .inl ⟨rfl, rfl⟩
    | succ i => exact .inr (hr _ (by simp))
  refine ⟨?_, fun i hi => ?_, fun i hi => ?_, fun i hi h0 => ?_⟩
  · rw [hsum, ← hs.ord]
    simp
  all_goals
    have := key i hi
    omega
theorem pos_le_sum : ∀ (l : List Int), (∀ x ∈ l, 1 ≤ x) → (l.length : Int) ≤ l.sum
  | [], _ => by simp
  | a :: l, h => by
    have ih := pos_le_sum l fun x hx => h x (by simp [hx])
    have := h a (by simp)
    simp only [List.length_cons, List.sum_cons]
    omega
theorem WOK.len {m : Nat} {L : List Ent} {ws : List Int} (h : WOK m L ws) : ws.length ≤ L.length := by
  have := pos_le_sum ws fun x hx => by
    obtain ⟨i, hi, rfl⟩ := List.getElem_of_mem hx
    exact h.low i hi
  rw [h.sum] at this
  omega
/-- How many nodes a level has at least. -/
def nodesN (lo : Nat) : Nat → Nat
  | 0 => 1
  | i + 1 => 2 * (lo + 1) ^ i
structure DOK (m : Nat) (L : List Ent) (d : Nat) : Prop where
  none : d = 0 ↔ L.length = 0
  le : d ≤ 64
  nodes : nodesN ((m - 1) / 2) d ≤ L.length + 1
theorem dok_shape {m h : Nat} {t : Tr h} {L : List Ent} (hm : 3 ≤ m) (hs : Shape m h t L) (hpos : 0 < L.length) (hl : L.length ≤ 900000) : DOK m L (h + 1) := by
  have hown : 1 ≤ (ownE h t).length := by
    cases h with
    | zero => have := hs.ord; rw [show inord 0 t = ownE 0 t from rfl] at this; rw [this]; exact hpos
    | succ h => exact hs.least (by omega)
  have h1 := root_low h t hs.ok hown
  rw [hs.ord] at h1
  refine ⟨by omega, ?_, h1⟩
  have h2 : 2 ^ h ≤ ((m - 1) / 2 + 1) ^ h := Nat.pow_le_pow_left (by omega) h
  rcases Nat.lt_or_ge h 63 with h3 | h3
  · omega
  · exfalso
    have : 2 ^ 63 ≤ 2 ^ h := Nat.pow_le_pow_right (by omega) h3
    omega
theorem nodesN_mono (lo : Nat) : ∀ {i d : Nat}, i ≤ d → nodesN lo i ≤ nodesN lo d
  | 0, 0, _ => Nat.le_refl _
  | 0, d + 1, _ => by
    have : 0 < (lo + 1) ^ d := Nat.pow_pos (by omega)
    show 1 ≤ 2 * (lo + 1) ^ d
    omega
  | i + 1, d + 1, h => Nat.mul_le_mul_left _ (Nat.pow_le_pow_right (by omega) (by omega))
  | _ + 1, 0, h => by omega
theorem nodesN_succ (lo i : Nat) : nodesN lo (i + 1) = nodesN lo i * ((if i = 0 then 1 else lo) + 1) := by
  cases i with
  | zero => rfl
  | succ i =>
    show 2 * (lo + 1) ^ (i + 1) = 2 * (lo + 1) ^ i * (lo + 1)
    rw [Nat.pow_succ, Nat.mul_assoc]
theorem widths_ok {E w : World} {F : Asn} (T m : Nat) (L : List Ent) (hm : 3 ≤ m) (hl : L.length ≤ 900000) (hS : Sat E (dir T m L * F) w) :
    Calls Try.prog 32 #[ptrv T] w fun r w' => ∃ (v : Value) (ws : List Int), r = .returned v ∧ WOK m L ws ∧ Sat E (row 3 1 v ws.length (nums .i64 ws) * (dir T m L * F)) w' := by
  rcases Nat.eq_zero_or_pos L.length with h0 | h0
  · obtain rfl : L = [] := List.eq_nil_of_length_eq_zero h0
    refine (widths_none T m hS).mono ?_
    rintro e w' ⟨rfl, rfl⟩
    exact ⟨_, [], rfl, wok_nil m, hS.row_nil⟩
  · refine (widths_some T m L h0 hl (fun h t hs => ?_) hS).mono ?_
    · exact Nat.le_trans (wok_shape hm hs h0).len hl
    · rintro e w' ⟨h, t, v, hs, rfl, s⟩
      exact ⟨v, _, rfl, wok_shape hm hs h0, s⟩
theorem depth_ok {E w : World} {F : Asn} (T m : Nat) (L : List Ent) (hm : 3 ≤ m) (hl : L.length ≤ 900000) (hS : Sat E (dir T m L * F) w) :
    Calls Try.prog 17 #[ptrv T] w fun r w' => (∃ d : Nat, r = .returned (.int .i64 d) ∧ DOK m L d) ∧ w' = w := by
  rcases Nat.eq_zero_or_pos L.length with h0 | h0
  · obtain rfl : L = [] := List.eq_nil_of_length_eq_zero h0
    refine (depth_none T m hS).mono ?_
    rintro e w' ⟨rfl, rfl⟩
    exact ⟨⟨0, rfl, by simp, by omega, Nat.le_refl _⟩, rfl⟩
  · refine (depth_some T m L hm hl h0 hS).mono ?_
    rintro e w' ⟨⟨h, t, hs, rfl⟩, rfl⟩
    exact ⟨⟨h + 1, by simp, dok_shape hm hs h0 hl⟩, rfl⟩
end Go.Proofs.Ytobgfdongidaaaa

namespace Go.Proofs.Ytobgfdongidaaaa
set_option linter.unusedVariables false
set_option linter.unusedSimpArgs false
open Go.RowKit Go.Proofs.Sep Go.Lib

theorem sum_take_le : ∀ (l : List Int), (∀ x ∈ l, 1 ≤ x) → ∀ k, 0 ≤ (l.take k).sum ∧ (l.take k).sum ≤ l.sum
  | [], _, k => by simp
  | a :: l, h, 0 => by
    have ih := sum_take_le l (fun x hx => h x (by simp [hx])) l.length
    have := h a (by simp)
    rw [List.take_length] at ih
    simp only [List.take_zero, List.sum_nil, List.sum_cons]
    omega
  | a :: l, h, k + 1 => by
    have ih := sum_take_le l (fun x hx => h x (by simp [hx])) k
    have := h a (by simp)
    simp only [List.take_succ_cons, List.sum_cons]
    omega
theorem sum_take_succ (l : List Int) (k : Nat) (h : k < l.length) : (l.take (k + 1)).sum = (l.take k).sum + l[k] := by
  rw [List.take_succ_eq_append_getElem h, List.sum_append]
  simp
set_option maxRecDepth 100000 in
set_option maxHeartbeats 8000000 in
theorem shaped16 {E w : World} {F : Asn} (T m : Nat) (L : List Ent) (hm3 : 3 ≤ m) (hm : m ≤ 64) (hl : L.length ≤ 900000) (hS : Sat E (dir T m L * F) w) :
    Calls Try.prog 16 #[.int .i64 m, ptrv T] w fun r w' => r = .returned (.bool true) ∧ Sat E (dir T m L * F) w' := by
  have hwd := widths_ok T m L hm3 hl hS
  obtain ⟨m1, hm1⟩ : ∃ m1, m = m1 + 1 := ⟨m - 1, by omega⟩
  obtain ⟨lo, hlo⟩ : ∃ lo, lo = (m - 1) / 2 := ⟨_, rfl⟩
  have e1 : (m : Int) - 1 = (m1 : Int) := by omega
  have e2 := i64_wrap (x := (m1 : Int)) (by omega) (by omega)
  have e3 : (m1 : Int) / 2 = (lo : Int) := by omega
  have e4 := i64_wrap (x := (lo : Int)) (by omega) (by omega)
  have hlo1 : 1 ≤ lo := by omega
  have hlo2 : lo ≤ 31 := by omega
  have HM1 := hid hm1
  have HLO := hid hlo
  unfold ptrv at hwd ⊢
  clear hS hm1 hlo
  go_enter Try.func16, Try.ntmps16
  go_wp2_with fail
  refine hwd.mono ?_
  clear hwd
  rintro e w1 ⟨v, ws, rfl, hok, s1⟩
  obtain ⟨A, c, rfl, _, _, _⟩ := s1.reads
  have hpos : ∀ x ∈ ws, 1 ≤ x := fun x hx => by
    obtain ⟨i, hi, rfl⟩ := List.getElem_of_mem hx
    exact hok.low i hi
  have htk := sum_take_le ws hpos
  have hwl := hok.len
  have HOK := hid hok
  have HTK := hid htk
  clear hok hpos htk
  go_wp2_with fail
  go_loopw [6, 7] (fun nv iv wr => ∃ k : Nat, k ≤ ws.length ∧ iv = .int .i64 k ∧ nv = .int .i64 (ws.take k).sum ∧ Sat E (row 3 1 (.slice A ws.length c) ws.length (nums .i64 ws) * (dir T m L * F)) wr) (fun _ iv _ => ws.length - (intOf iv).toNat)
  case atStart => exact ⟨0, by omega, rfl, by simp, s1⟩
  case round =>
    clear s1
    obtain ⟨k, hk, rfl, rfl, hq⟩ := hrel
    by_cases hlt : k < ws.length
    · have hkd : (k : Int) < (ws.length : Int) := by omega
      have wk := i64_wrap (x := (k : Int) + 1) (by omega) (by omega)
      obtain ⟨ad, hAd, hcc⟩ := hq.reads_at.at (by omega)
      subst hAd
      have xk := hcc k _ (nums_at (k := .i64) hlt)
      have b1 := HOK.out.low k hlt
      have b2 := HOK.out.high k hlt
      have b3 := HOK.out.least k hlt
      have b4 := HTK.out k
      have b5 := HTK.out (k + 1)
      have b6 := HOK.out.sum
      have b7 := sum_take_succ ws k hlt
      have HS7 := hid b7
      generalize hx : ws[k] = x at *
      generalize hs0 : (ws.take k).sum = s0 at *
      have wx := i64_wrap (x := s0 + x) (by omega) (by omega)
      have wx2 := wrap64_id (x := s0 + x) (by omega) (by omega)
      have c1 : ¬ x < 1 := by omega
      have c2 : ¬ (m1 : Int) < x := by omega
      have c3 : 0 < k → ¬ x < (lo : Int) := fun h => by have := b3 h; have := HLO.out; omega
      have HQ := hid hq
      rcases Nat.eq_zero_or_pos k with h0 | h0
      · have d1 : decide (0 < k) = false := decide_eq_false (by omega)
        have d2 : ¬ (0 : Int) < (k : Int) := by omega
        clear b1 b2 b3 b4 b5 b6 b7 hcc c3 hq hx hs0 h0
        go_wp2_with fail
        go_roundw
        case rel => exact ⟨k + 1, by omega, by go_num, by rw [HS7.out], HQ.out⟩
        case measure => simp [intOf]; omega
      · have d1 : decide (0 < k) = true := decide_eq_true h0
        have c4 := c3 h0
        clear b1 b2 b3 b4 b5 b6 b7 hcc c3 hq hx hs0
        go_wp2_with fail
        go_roundw
        case rel => exact ⟨k + 1, by omega, by go_num, by rw [HS7.out], HQ.out⟩
        case measure => simp [intOf]; omega
    · obtain rfl : k = ws.length := by omega
      have hkd : ¬ (ws.length : Int) < (ws.length : Int) := by omega
      rw [List.take_length, HOK.out.sum]
      have hdp := depth_ok T m L hm3 hl hq.right
      unfold ptrv at hdp
      have HQ := hid hq.right
      have hln := len15 T m L hq.right
      unfold ptrv at hln
      clear hlt hq
      go_wp2_with fail
      refine hdp.mono ?_
      clear hdp
      rintro e w2 ⟨⟨d, rfl, hd⟩, rfl⟩
      have hd64 := hd.le
      have HD := hid hd
      have d1 : ¬ (d : Int) < 0 := by omega
      have d2 : ¬ (64 : Int) < (d : Int) := by omega
      have hN : ∃ (b : Bool), ((d : Int) == 0) = b ∧ ((L.length : Int) == 0) = b := by
        rcases Nat.eq_zero_or_pos d with h | h
        · have h2 := hd.none.1 h
          exact ⟨true, by rw [h]; rfl, by rw [h2]; rfl⟩
        · have h2 : ¬ L.length = 0 := fun h2 => by have := hd.none.2 h2; omega
          exact ⟨false, beq_eq_false_iff_ne.2 (by omega), beq_eq_false_iff_ne.2 (by omega)⟩
      obtain ⟨b, hb1, hb2⟩ := hN
      clear hd
      go_wp2_with fail
      refine hln.mono ?_
      clear hln
      rintro e w3 ⟨rfl, rfl⟩
      go_wp2_with fail
      go_loopw [9, 10, 11] (fun qv pv iv wr => ∃ i q : Nat, i ≤ d ∧ iv = .int .i64 i ∧ pv = .int .i64 (nodesN lo i) ∧ q + 1 = nodesN lo i ∧ qv = .int .i64 q ∧ Sat E (dir T m L * F) wr) (fun _ _ iv _ => d - (intOf iv).toNat)
      case atStart => exact ⟨0, 0, by omega, rfl, rfl, rfl, rfl, HQ.out⟩
      case round =>
        obtain ⟨i, q, hi, rfl, rfl, hqp, rfl, hq⟩ := hrel
        have hNd := HD.out.nodes
        rw [← HLO.out] at hNd
        by_cases hlt : i < d
        · have hid1 : (i : Int) < (d : Int) := by omega
          have wi := i64_wrap (x := (i : Int) + 1) (by omega) (by omega)
          have hm1 := nodesN_mono lo (i := i + 1) (d := d) hlt
          have hsc := nodesN_succ lo i
          have f1 : ¬ (lo : Int) < 1 := by omega
          have f2 : (1 : Int) ≤ (lo : Int) := by omega
          have f3 : ¬ (lo : Int) ≤ 1 ∨ lo = 1 := by omega
          have HQ2 := hid hq
          rcases Nat.eq_zero_or_pos i with h0 | h0
          · subst h0
            have hN1 : nodesN lo (0 + 1) = 2 := by rw [hsc]; rfl
            have hN0 : nodesN lo 0 = 1 := rfl
            obtain rfl : q = 0 := by omega
            have H1 := hid hN1
            rw [hN0]
            clear hN1 hsc hm1 hNd f3 hq hqp
            go_wp2_with fail
            go_roundw
            case rel => exact ⟨0 + 1, 1, by omega, rfl, by rw [H1.out]; rfl, by rw [H1.out], rfl, HQ2.out⟩
            case measure => simp [intOf]; omega
          · have z0 : ((i : Int) == 0) = false := beq_eq_false_iff_ne.2 (by omega)
            rw [if_neg (by omega), Nat.mul_add, Nat.mul_one] at hsc
            have hm2 : nodesN lo i * lo ≤ 1000000 := by omega
            obtain ⟨pl, hpl⟩ : ∃ pl, pl = nodesN lo i * lo := ⟨_, rfl⟩
            obtain ⟨p2, hp2⟩ : ∃ p2, p2 = nodesN lo (i + 1) := ⟨_, rfl⟩
            obtain ⟨lo1, hlo1'⟩ : ∃ lo1, lo1 = lo + 1 := ⟨_, rfl⟩
            obtain ⟨q2, hq2⟩ : ∃ q2, q2 = q + pl := ⟨_, rfl⟩
            generalize hp : nodesN lo i = p at *
            have g1 : (p : Int) * (lo : Int) = (pl : Int) := by rw [hpl]; simp
            have g2 := i64_wrap (x := (pl : Int)) (by omega) (by omega)
            have g3 : (q : Int) + (pl : Int) = (q2 : Int) := by omega
            have g4 := i64_wrap (x := (q2 : Int)) (by omega) (by omega)
            have g5 : (lo : Int) + 1 = (lo1 : Int) := by omega
            have g6 := i64_wrap (x := (lo1 : Int)) (by omega) (by omega)
            have g7 : (p : Int) * (lo1 : Int) = (p2 : Int) := by
              rw [← g5, Int.mul_add, g1]
              omega
            have g8 := i64_wrap (x := (p2 : Int)) (by omega) (by omega)
            have H2 := hid hp2
            have H3 : Hid (q2 + 1 = p2) := hid (by omega)
            clear hsc hm1 hm2 hNd hpl hp2 hlo1' hq2 hp hq hqp
            clear f3
            go_wp2_with fail
            go_roundw
            case rel => exact ⟨i + 1, q2, by omega, by go_num, by rw [← H2.out], by rw [H3.out, H2.out], rfl, HQ2.out⟩
            case measure => simp [intOf]; omega
        · obtain rfl : i = d := by omega
          have hid1 : ¬ (i : Int) < (i : Int) := by omega
          have hfin : (q : Int) ≤ (L.length : Int) := by omega
          have HQ2 := hid hq
          clear hlt hNd hqp hq
          go_wp2_with fail
          go_ret
          exact ⟨rfl, HQ2.out⟩
end Go.Proofs.Ytobgfdongidaaaa
