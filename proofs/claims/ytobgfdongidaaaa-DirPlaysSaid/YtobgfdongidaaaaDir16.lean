import Derived.Test.YtobgfdongidaaaaDir15
namespace Go.Proofs.Ytobgfdongidaaaa
set_option linter.unusedVariables false
set_option linter.unusedSimpArgs false
open Go.RowKit Go.Proofs.Sep Go.Lib

/-- What a teller of All gathers. -/
def acc (l : Nat) (s : List Ent) : Asn := ex fun v => blk l (.cells #[v] 22) * row 25 2 v s.length (ents s)
def stpAll (s : List Ent) (e : Ent) : List Ent × Bool := (s ++ [e], true)
theorem runs_all : ∀ (l s : List Ent), runs stpAll l s = (s ++ l, true)
  | [], s => by simp [runs]
  | e :: l, s => by
    have := runs_all l (s ++ [e])
    simp only [runs, stpAll, ↓reduceIte] at this ⊢
    rw [this]
    simp
theorem one_cell {E w : World} {F : Asn} {p e : Nat} {a : Value} (h : Sat E (blk p (.cells #[a] e) * F) w) : w.cell? ⟨p, 0, none⟩ = some a ∧ w.frozen? ⟨p, 0, none⟩ = false :=
  ⟨by rw [h.cell_blk]; rfl, h.free_blk⟩

set_option maxRecDepth 100000 in
set_option maxHeartbeats 4000000 in
theorem tell27 {E w : World} {G : Asn} (l : Nat) (s : List Ent) (e : Ent) (hs : s.length < 900000) (hS : Sat E (acc l s * G) w) :
    Calls Try.prog 27 #[entv e, ptrv l] w fun r w' => r = .returned (.bool true) ∧ Sat E (acc l (s ++ [e]) * G) w' := by
  obtain ⟨v, s1⟩ := hS.ex_left
  have s1 : Sat E (blk l (.cells #[v] 22) * row 25 2 v s.length (ents s) * G) w := s1
  obtain ⟨A, c, rfl, g1, _, _⟩ := (s1.eq (show _ = row 25 2 v s.length (ents s) * (blk l (.cells #[v] 22) * G) by ac_rfl)).reads
  obtain ⟨e1, e2⟩ := e
  have s2 : Sat E (row 25 2 (.slice A s.length c) s.length (ents s) * (blk l (.cells #[.slice A s.length c] 22) * G)) ((w.alloc (.cells #[.string e1, .int .i64 e2] 25)).alloc (.cells #[.string e1, .int .i64 e2] 25)) := ((s1.eq (by ac_rfl)).alloc_drop _).alloc_drop _
  have hR : Reads ((w.alloc (.cells #[.string e1, .int .i64 e2] 25)).alloc (.cells [.string e1, .int .i64 e2].toArray 25)) 2 (some ⟨w.heap.size + 1, 0, none⟩) 1 [.string e1, .int .i64 e2] := Reads.newAt 2 1 _ 25 rfl (by omega) (Array.size_push ..)
  obtain ⟨x0, x1⟩ := one_cell (s1.eq (star_assoc _ _ _))
  have x2 : (w.alloc (.cells #[.string e1, .int .i64 e2] 25)).cell? ⟨l, 0, none⟩ = some (.slice A s.length c) := (one_cell ((s1.eq (star_assoc _ _ _)).alloc_drop (.cells #[.string e1, .int .i64 e2] 25))).1
  unfold entv ptrv
  clear hS s1
  simp only
  go_enter Try.func27, Try.ntmps27
  go_wp2_with (at_builtin; refine wpList_append_sat rfl _ _ 22 25 (.agg #[.string ByteArray.empty, .int .i64 0]) 2 24 rfl Try.underlying22 Try.info25 rfl (by decide) _ s.length (ents s) _ 1 1 [.string e1, .int .i64 e2] rfl rfl s2 hR (by simp [Value.oneCell']) (by unfold maxLen; omega) (by omega) ?_; intro v1 w1 hS1; obtain ⟨A1, c1, rfl, _, _, _⟩ := hS1.reads; obtain ⟨d0, d1⟩ := one_cell hS1.right)
  go_ret
  refine ⟨rfl, Sat.intro_left (.slice A1 (s.length + 1) c1) ?_⟩
  have q1 : Sat E (blk l (.cells #[.slice A1 (s.length + 1) c1] 22) * _) _ := (hS1.eq (star_left_comm _ _ _)).setCell (i := 0) (.slice A1 (s.length + 1) c1)
  exact q1.eq (by
    rw [List.length_append, ents_append]
    show _ = (_ * row 25 2 (.slice A1 (s.length + 1) c1) (s.length + 1) (ents s ++ [.string e1, .int .i64 e2])) * G
    ac_rfl)

theorem not_below (a : ByteArray) : ¬ klt a ByteArray.empty := by
  unfold klt kcmp
  show ¬ compareBytes a.data.toList [] < 0
  cases a.data.toList <;> simp [compareBytes]
set_option maxRecDepth 100000 in
set_option maxHeartbeats 4000000 in
theorem all9 {E w : World} {F : Asn} (T m : Nat) (L : List Ent) (hl : L.length ≤ 900000) (hS : Sat E (dir T m L * F) w) :
    Calls Try.prog 9 #[ptrv T] w fun r w' => ∃ v, r = .returned v ∧ Sat E (row 25 2 v L.length (ents L) * (dir T m L * F)) w' := by
  obtain ⟨h, r, t, hs, s1⟩ := hS.dir_open
  have HS := hid hs
  obtain ⟨q1, q2, q3, _, _⟩ := hs
  obtain ⟨_, t1, _, _, _⟩ := three_cells ((s1.eq (show _ = blk T (.cells #[.int .i64 m, ptrv r, .int .i64 L.length] 61) * (tree h r t * F) by unfold top; ac_rfl)).alloc_drop (.cells #[.slice none 0 0] 22))
  have b1 := s1.alloc (.cells #[.slice none 0 0] 22)
  have b2 : Sat E (row 25 2 (.slice none 0 0) 0 [] * _) _ := b1.row_nil
  have b3 : Sat E (acc w.heap.size [] * (tree h r t * (top T m (ptrv r) (.int .i64 L.length) * F))) (w.alloc (.cells #[.slice none 0 0] 22)) := Sat.intro_left (.slice none 0 0) (b2.eq (by
    show _ = (_ * row 25 2 (.slice none 0 0) 0 []) * _
    ac_rfl))
  generalize hl0 : w.heap.size = l at *
  have hw := walk26 (E := E) (acc l) stpAll 27 #[ptrv l] (fun args w => by simp [callFunc, Try.func27]; rfl) List.length 900000 (fun s e => by simp [stpAll]) (fun s e hs h => tell27 l s e hs h) ByteArray.empty h r t [] (by rw [q1]; exact q2) q3 (by rw [q1]; exact hl) (by have := fromK_le ByteArray.empty (inord h t); rw [q1] at this; simp only [List.length_nil]; rw [q1]; omega) (b3.eq (star_left_comm _ _ _))
  clear b1 b2 b3 s1 hS
  have hfk : fromK ByteArray.empty L = L := fromK_keep fun x _ => not_below x.1
  unfold ptrv at t1 hw ⊢
  go_enter Try.func9, Try.ntmps9
  go_wp2_with fail
  refine hw.mono ?_
  clear hw t1
  unfold WalkPost
  rintro e' w1 ⟨rfl, p1⟩
  rw [q1, hfk, runs_all] at p1 ⊢
  simp only [List.nil_append] at p1 ⊢
  obtain ⟨v, p2⟩ := (p1.eq (star_left_comm _ _ _)).ex_left
  have p3 : Sat E (row 25 2 v L.length (ents L) * (blk l (.cells #[v] 22) * (tree h r t * (top T m (ptrv r) (.int .i64 L.length) * F)))) w1 := p2.eq (by
    show (_ * row 25 2 v L.length (ents L)) * _ = _
    unfold ptrv
    ac_rfl)
  obtain ⟨A, c, rfl, _, _, _⟩ := p3.reads
  obtain ⟨x0, _⟩ := one_cell p3.right
  have p4 := p3.drop_mid
  have p5 : Sat E (dir T m L * (row 25 2 (.slice A L.length c) L.length (ents L) * F)) w1 := Sat.dir_shut HS.out (p4.eq (by ac_rfl))
  clear p1 p2 p3 p4
  go_wp2_with fail
  go_ret
  exact ⟨_, rfl, p5.eq (star_left_comm _ _ _)⟩
end Go.Proofs.Ytobgfdongidaaaa
