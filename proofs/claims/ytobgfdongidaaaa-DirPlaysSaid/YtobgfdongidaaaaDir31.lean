import Derived.Test.YtobgfdongidaaaaDir30
namespace Go.Proofs.Sep
set_option linter.unusedVariables false
set_option linter.unusedSimpArgs false
open Go.RowKit
section
variable {P : Program} {ops : Array Oper} {rest : List Oper} {o : Oper} {a : Act} {Q : Exit → Act → World → Prop} {E : World} {F : Asn} {w : World} {e : TypeId}
/-- append(x[:i], ..) where there is room: in the block itself. -/
theorem run_append_room_sat (w : World) (t ty e : TypeId) (size : Nat) (ht : P.underlying t = some (.slice e)) (hsz : (P.info? e).map (·.size) = some size)
    (g i c m c' : Nat) (A : Option Addr) (cur : Array Value) (news : List Value) (hS : Sat E (blk g (.cells cur e (0, 0)) * F) w) (hR : Reads w size A m news) (h1 : ∀ u ∈ news, u.oneCell' = true)
    (hroom : i + m ≤ c) (hfit : i * size + news.length ≤ cur.size) :
    ∃ w1, (Builtin.append_ #[t, t] ty #[.slice (some ⟨g, 0, none⟩) i c, .slice A m c']).run P w = .ok (.slice (some ⟨g, 0, none⟩) (i + m) c) w1 ∧
      Sat E (blk g (.cells (cur.toList.take (i * size) ++ news ++ cur.toList.drop (i * size + news.length)).toArray e (0, 0)) * F) w1 := by
  obtain ⟨i0, hi, hsi⟩ := Option.map_eq_some_iff.1 hsz
  subst hsi
  cases A with
  | none =>
    have hm : m = 0 := hR.2.2.1 rfl
    subst hm
    obtain rfl : news = [] := List.eq_nil_of_length_eq_zero (by have := hR.1; simpa using this)
    refine ⟨w, ?_, by simpa using hS⟩
    have hic : ¬ c < i := by omega
    simp [Builtin.append_, run_underlying ht, sizeOf, typeInfo, hi, Builtin.lenOf, Builtin.firstCells, hroom, storeCells]
    intro h
    exact absurd h hic
  | some ad =>
    have hr := run_append_room (P := P) w t ty e i0 ht hi g i c cur hS.at_blk ad m c' news hR.1 (hR.2.2.2 ad rfl) h1 hroom hfit
    exact ⟨_, hr, hS.turn rfl rfl rfl (fun k _ hk => setRow_other w g k _ hk) (setRow_heap w g _ _ e _ hS.at_blk)⟩
theorem wpList_append_room (hgd : o.guard = none) (s x : Operand) (t e : TypeId) (size : Nat)
    (ho : o.op = .call { callee := .builtin .append, args := #[s, x], argTypes := #[t, t] }) (ht : P.underlying t = some (.slice e)) (hsz : (P.info? e).map (·.size) = some size)
    (g i c m c' k : Nat) (A : Option Addr) (cur : Array Value) (news : List Value) (hs : a.eval s = .slice (some ⟨g, 0, none⟩) i c) (hx : a.eval x = .slice A m c')
    (hS : Sat E (blk g (.cells cur e (0, 0)) * F) w) (hR : Reads w size A m news) (h1 : ∀ u ∈ news, u.oneCell' = true)
    (hk : i + m = k) (hroom : k ≤ c) (hfit : i * size + news.length ≤ cur.size)
    (h : ∀ w1, Sat E (blk g (.cells (cur.toList.take (i * size) ++ news ++ cur.toList.drop (i * size + news.length)).toArray e (0, 0)) * F) w1 → wpList P ops Q rest (a.put o.dst (.slice (some ⟨g, 0, none⟩) k c)) w1) :
    wpList P ops Q (o :: rest) a w := by
  subst hk
  obtain ⟨w1, hr, hw⟩ := run_append_room_sat (P := P) w t o.type e size ht hsz g i c m c' A cur news hS hR h1 hroom hfit
  refine wpList_plain hgd fun K hK => ?_
  unfold Oper.wp execOp
  simp only [ho, resolve, invoke, builtin, Sem.run_bind, Sem.run_pure, Result.andThen_ok, List.map_toArray, List.map_cons, List.map_nil, hs, hx, hr]
  exact hK _ _ (h _ hw)
/-- clear(x[i:i+1]). -/
theorem run_clear_one (w : World) (t e ty : TypeId) (ht : P.underlying t = some (.slice e))
    (z : Value) (zs : List Value) (hz : ∀ w, (zeroValue e).run P w = .ok z w) (hzs : (Builtin.zeroCells z.cells 1).toList = zs) (h1 : ∀ u ∈ zs, u.oneCell' = true)
    (g k off c : Nat) (hk : k = off) (cur : Array Value) (hS : Sat E (blk g (.cells cur e (0, 0)) * F) w) (hfit : off + zs.length ≤ cur.size) :
    ∃ w1, (Builtin.clear_ #[t] ty #[.slice (some ⟨g, k, none⟩) 1 c]).run P w = .ok (.tuple #[]) w1 ∧ Sat E (blk g (.cells (cur.toList.take off ++ zs ++ cur.toList.drop (off + zs.length)).toArray e (0, 0)) * F) w1 := by
  subst hk
  have hst := run_storeCells_at P g k e zs 0 cur w hS.at_blk (by simpa using hfit) h1
  have hr : (Builtin.clear_ #[t] ty #[.slice (some ⟨g, k, none⟩) 1 c]).run P w = .ok (.tuple #[]) (w.setRow g (cur.toList.take k ++ zs ++ cur.toList.drop (k + zs.length)).toArray) := by
    simp [Builtin.clear_, run_underlying ht, hz, hzs, hst]
  exact ⟨_, hr, hS.turn rfl rfl rfl (fun k _ hk => setRow_other w g k _ hk) (setRow_heap w g _ _ e _ hS.at_blk)⟩
theorem cut_lh (t e : TypeId) (ht : P.underlying t = some (.slice e)) (s : Nat) (hsz : (P.info? e).map (·.size) = some s) (g n c l h off : Nat) (hl : l ≤ h) (hlc : l < c) (hh : h ≤ c) (ho : l * s = off) (W : World) :
    (Instr.slice t (.slice (some ⟨g, 0, none⟩) n c) (some (.int .i64 (l : Int))) (some (.int .i64 (h : Int))) none).run P W = .ok (.slice (some ⟨g, off, none⟩) (h - l) (c - l)) W := by
  subst ho
  obtain ⟨i, hi, hsi⟩ := Option.map_eq_some_iff.1 hsz
  have hel : P.elem t = e := by simp [Program.elem, ht]
  have hu : P.underlying t = some (.slice (P.elem t)) := by rw [hel]; exact ht
  rw [run_slice_lh W t (some ⟨g, 0, none⟩) n c hu .i64 .i64 (l : Int) (h : Int) (Int.natCast_nonneg _) (by omega) (by omega), hel]
  have h1 : ¬ c = l := by omega
  simp [sizeOf, typeInfo, hi, hsi, sliced, Result.andThen, addr_plain, h1]
theorem cut_lhm (t e : TypeId) (ht : P.underlying t = some (.slice e)) (s : Nat) (hsz : (P.info? e).map (·.size) = some s) (A : Option Addr) (n c l h m : Nat) (hl : l ≤ h) (hh : h ≤ m) (hm : m ≤ c) (W : World) :
    (Instr.slice t (.slice A n c) (some (.int .i64 (l : Int))) (some (.int .i64 (h : Int))) (some (.int .i64 (m : Int)))).run P W = .ok (sliced A l h m s) W := by
  obtain ⟨i, hi, hsi⟩ := Option.map_eq_some_iff.1 hsz
  have hel : P.elem t = e := by simp [Program.elem, ht]
  have hu : P.underlying t = some (.slice (P.elem t)) := by rw [hel]; exact ht
  rw [run_slice_lhm W t A n c hu .i64 .i64 .i64 (l : Int) (h : Int) (m : Int) (Int.natCast_nonneg _) (by omega) (by omega) (by omega), hel]
  simp [sizeOf, typeInfo, hi, hsi, Result.andThen]
end
end Go.Proofs.Sep
namespace Go.Proofs.Ytobgfdongidaaaa
set_option linter.unusedVariables false
set_option linter.unusedSimpArgs false
open Go.RowKit Go.Proofs.Sep Go.Lib
theorem Try.zero25 (w : World) : (zeroValue 25).run Try.prog w = .ok (.agg #[.string ByteArray.empty, .int .i64 0]) w := by
  obtain ⟨i0, q1, q2⟩ := Option.map_eq_some_iff.1 Try.info25
  simp only [Prod.mk.injEq] at q2
  simp [zeroValue, typeInfo, q1, q2.1]
theorem Try.zero56 (w : World) : (zeroValue 56).run Try.prog w = .ok (.pointer none) w := by
  obtain ⟨i0, q1, q2⟩ := Option.map_eq_some_iff.1 Try.info56
  simp only [Prod.mk.injEq] at q2
  simp [zeroValue, typeInfo, q1, q2.1]
/-- What stays of the block's head. -/
theorem del_take {α : Type} {cur xs zs : List α} {a b d : Nat} (hx : cur.take (d + b) = xs) (hl : d + b ≤ cur.length) (ha : a + b ≤ d + b) (hz : zs.length = b) :
    let nw := cur.take a ++ xs.drop (a + b) ++ cur.drop (a + (xs.drop (a + b)).length)
    nw.length = cur.length ∧ (nw.take d ++ zs ++ nw.drop (d + zs.length)).take d = xs.take a ++ xs.drop (a + b) ∧ (nw.take d ++ zs ++ nw.drop (d + zs.length)).length = cur.length := by
  intro nw
  have hxl : xs.length = d + b := by rw [← hx, List.length_take]; omega
  have h1 : (xs.drop (a + b)).length = d - a := by rw [List.length_drop]; omega
  have h2 : (cur.take a).length = a := by rw [List.length_take]; omega
  have h3 : nw.length = cur.length := by
    show (cur.take a ++ xs.drop (a + b) ++ cur.drop (a + (xs.drop (a + b)).length)).length = _
    simp only [List.length_append, h1, h2, List.length_drop]; omega
  refine ⟨h3, ?_, ?_⟩
  · have h4 : (nw.take d).length = d := by rw [List.length_take]; omega
    rw [List.append_assoc, List.take_left' h4]
    show (cur.take a ++ xs.drop (a + b) ++ cur.drop (a + (xs.drop (a + b)).length)).take d = _
    rw [List.take_left' (by simp only [List.length_append, h1, h2]; omega)]
    congr 1
    rw [← hx, List.take_take, Nat.min_eq_left (by omega)]
  · simp only [List.length_append, List.length_take, List.length_drop, hz]; omega
end Go.Proofs.Ytobgfdongidaaaa

namespace Go.Proofs.Ytobgfdongidaaaa
set_option linter.unusedVariables false
set_option linter.unusedSimpArgs false
open Go.RowKit Go.Proofs.Sep Go.Lib

set_option maxRecDepth 100000 in
set_option maxHeartbeats 4000000 in
theorem delEnt {E w : World} {F : Asn} (v : Value) (n n1 i : Nat) (xs : List Value) (hn1 : n = n1 + 1) (hi : i < n) (hn : n ≤ 1000000) (hx1 : ∀ u ∈ xs, u.oneCell' = true)
    (hS : Sat E (row 25 2 v n xs * F) w) :
    Calls Try.prog 39 #[v, .int .i64 i, .int .i64 ((i : Int) + 1)] w fun e w' => ∃ v', e = .returned v' ∧ Sat E (row 25 2 v' n1 (xs.take (i * 2) ++ xs.drop (i * 2 + 2)) * F) w' := by
  obtain ⟨g, c, cur, rfl, hnc, hcm, hcs, hct, hB⟩ := hS.row_blk (by omega)
  have hR0 := hS.reads_at
  have hxl := hS.row_len
  have hsz : (Try.prog.info? 25).map (·.size) = some 2 := by kernel_rfl
  have hcut1 := fun W => cut_hi (P := Try.prog) 22 25 Try.underlying22 2 hsz (some ⟨g, 0, none⟩) n c i (by omega) W
  obtain ⟨A', hcut2, hread⟩ := cut_from (P := Try.prog) 22 25 .i64 Try.underlying22 hsz (some ⟨g, 0, none⟩) n c (i + 1) (by omega) hnc
  have hcut3 := fun W => cut_lh (P := Try.prog) 22 25 Try.underlying22 2 hsz g n1 c n1 n (n1 * 2) (by omega) (by omega) (by omega) (by omega) W
  have hcut4 := fun W => cut_lhm (P := Try.prog) 22 25 Try.underlying22 2 hsz (some ⟨g, 0, none⟩) n c i (i + 1) n (by omega) (by omega) (by omega) W
  simp only [Int.natCast_add, Int.natCast_one] at hcut2 hcut4
  rw [show n - n1 = 1 by omega] at hcut3
  have z1 : ((i : Int) == (i : Int) + 1) = false := beq_eq_false_iff_ne.2 (by omega)
  have hcl : cur.toList.length = c * 2 := by simpa using hcs
  have hct : cur.toList.take (n1 * 2 + 2) = xs := by rw [← hct]; congr 1; omega
  obtain ⟨t1, t2, t3⟩ := del_take (a := i * 2) (d := n1 * 2) (zs := [.string ByteArray.empty, .int .i64 0]) hct (by omega) (by omega) rfl
  have hR1 := (hread w xs hR0).drew
  rw [show (i + 1) * 2 = i * 2 + 2 by omega] at hR1
  have hxs : (xs.drop (i * 2 + 2)).length = (n1 - i) * 2 := by rw [List.length_drop]; omega
  have hBd := hB.drew
  have H1 := hid t1
  have H2 := hid t2
  have H3 := hid t3
  have hone : ∀ u ∈ xs.drop (i * 2 + 2), u.oneCell' = true := fun u hu => hx1 u (List.mem_of_mem_drop hu)
  have HONE := hid hone
  have HX := hid hxs
  have HC := hid hcl
  have HN := hid hn1
  clear hn1 hS hR0 hxl hct t1 t2 t3 hread hB hx1 hone hxs hcl
  go_enter Try.func39, Try.ntmps39
  go_wp2_with fail
  refine wp_region_tail 6 (by kernel_rfl) (by kernel_rfl) ?_
  simp only [List.take_succ_cons, List.take_zero, List.drop_succ_cons, List.drop_zero]
  repeat still_step
  refine wpStill_nil ?_
  refine wpList_append_room rfl _ _ 22 25 2 rfl Try.underlying22 hsz g i c (n - (i + 1)) (c - (i + 1)) n1 A' cur (xs.drop (i * 2 + 2)) rfl rfl hBd hR1 HONE.out (by have := HN.out; omega) (by have := HN.out; omega) (by rw [HX.out]; have := HN.out; have := HC.out; simp only [Array.length_toList] at this; omega) ?_
  intro w1 hw1
  have hfit : n1 * 2 + ([.string ByteArray.empty, .int .i64 0] : List Value).length ≤ (cur.toList.take (i * 2) ++ xs.drop (i * 2 + 2) ++ cur.toList.drop (i * 2 + (xs.drop (i * 2 + 2)).length)).toArray.size := by
    rw [List.size_toArray, H1.out, HC.out]
    show n1 * 2 + 2 ≤ _
    have := HN.out
    omega
  obtain ⟨w2, hclr, hw2⟩ := run_clear_one (P := Try.prog) w1 22 25 0 Try.underlying22 (.agg #[.string ByteArray.empty, .int .i64 0]) [.string ByteArray.empty, .int .i64 0] Try.zero25 (by first | decide | (simp [Builtin.zeroCells]; done) | kernel_rfl) (by simp [Value.oneCell']) g (n1 * 2) (n1 * 2) (c - n1) (by omega) _ hw1 hfit
  go_wp2_with fail
  go_ret
  refine ⟨_, rfl, ?_⟩
  have hrow := hw2.blk_row (n := n1) (size := 2) (cap := c) (by have := HN.out; omega) hcm (by
    rw [List.size_toArray, List.toList_toArray, H3.out, HC.out])
  rw [List.toList_toArray, List.toList_toArray, H2.out] at hrow
  first | exact hrow | (rw [Nat.mul_one] at hrow; exact hrow)
set_option maxRecDepth 100000 in
set_option maxHeartbeats 4000000 in
theorem delNode {E w : World} {F : Asn} (v : Value) (n n1 i : Nat) (xs : List Value) (hn1 : n = n1 + 1) (hi : i < n) (hn : n ≤ 1000000) (hx1 : ∀ u ∈ xs, u.oneCell' = true)
    (hS : Sat E (row 56 1 v n xs * F) w) :
    Calls Try.prog 55 #[v, .int .i64 i, .int .i64 ((i : Int) + 1)] w fun e w' => ∃ v', e = .returned v' ∧ Sat E (row 56 1 v' n1 (xs.take (i * 1) ++ xs.drop (i * 1 + 1)) * F) w' := by
  obtain ⟨g, c, cur, rfl, hnc, hcm, hcs, hct, hB⟩ := hS.row_blk (by omega)
  have hR0 := hS.reads_at
  have hxl := hS.row_len
  have hsz : (Try.prog.info? 56).map (·.size) = some 1 := by kernel_rfl
  have hcut1 := fun W => cut_hi (P := Try.prog) 57 56 Try.underlying57 1 hsz (some ⟨g, 0, none⟩) n c i (by omega) W
  obtain ⟨A', hcut2, hread⟩ := cut_from (P := Try.prog) 57 56 .i64 Try.underlying57 hsz (some ⟨g, 0, none⟩) n c (i + 1) (by omega) hnc
  have hcut3 := fun W => cut_lh (P := Try.prog) 57 56 Try.underlying57 1 hsz g n1 c n1 n n1 (by omega) (by omega) (by omega) (by omega) W
  have hcut4 := fun W => cut_lhm (P := Try.prog) 57 56 Try.underlying57 1 hsz (some ⟨g, 0, none⟩) n c i (i + 1) n (by omega) (by omega) (by omega) W
  simp only [Int.natCast_add, Int.natCast_one] at hcut2 hcut4
  rw [show n - n1 = 1 by omega] at hcut3
  have z1 : ((i : Int) == (i : Int) + 1) = false := beq_eq_false_iff_ne.2 (by omega)
  have hcl : cur.toList.length = c * 1 := by simpa using hcs
  have hct : cur.toList.take (n1 * 1 + 1) = xs := by rw [← hct]; congr 1; omega
  obtain ⟨t1, t2, t3⟩ := del_take (a := i * 1) (d := n1 * 1) (zs := [.pointer none]) hct (by omega) (by omega) rfl
  have hR1 := (hread w xs hR0).drew
  rw [show (i + 1) * 1 = i * 1 + 1 by omega] at hR1
  have hxs : (xs.drop (i * 1 + 1)).length = (n1 - i) * 1 := by rw [List.length_drop]; omega
  have hBd := hB.drew
  have H1 := hid t1
  have H2 := hid t2
  have H3 := hid t3
  have hone : ∀ u ∈ xs.drop (i * 1 + 1), u.oneCell' = true := fun u hu => hx1 u (List.mem_of_mem_drop hu)
  have HONE := hid hone
  have HX := hid hxs
  have HC := hid hcl
  have HN := hid hn1
  clear hn1 hS hR0 hxl hct t1 t2 t3 hread hB hx1 hone hxs hcl
  go_enter Try.func55, Try.ntmps55
  go_wp2_with fail
  refine wp_region_tail 6 (by kernel_rfl) (by kernel_rfl) ?_
  simp only [List.take_succ_cons, List.take_zero, List.drop_succ_cons, List.drop_zero]
  repeat still_step
  refine wpStill_nil ?_
  refine wpList_append_room rfl _ _ 57 56 1 rfl Try.underlying57 hsz g i c (n - (i + 1)) (c - (i + 1)) n1 A' cur (xs.drop (i * 1 + 1)) rfl rfl hBd hR1 HONE.out (by have := HN.out; omega) (by have := HN.out; omega) (by rw [HX.out]; have := HN.out; have := HC.out; simp only [Array.length_toList] at this; omega) ?_
  intro w1 hw1
  have hfit : n1 * 1 + ([.pointer none] : List Value).length ≤ (cur.toList.take (i * 1) ++ xs.drop (i * 1 + 1) ++ cur.toList.drop (i * 1 + (xs.drop (i * 1 + 1)).length)).toArray.size := by
    rw [List.size_toArray, H1.out, HC.out]
    show n1 * 1 + 1 ≤ _
    have := HN.out
    omega
  obtain ⟨w2, hclr, hw2⟩ := run_clear_one (P := Try.prog) w1 57 56 0 Try.underlying57 (.pointer none) [.pointer none] Try.zero56 (by first | decide | (simp [Builtin.zeroCells]; done) | kernel_rfl) (by simp [Value.oneCell']) g n1 (n1 * 1) (c - n1) (by omega) _ hw1 hfit
  go_wp2_with fail
  go_ret
  refine ⟨_, rfl, ?_⟩
  have hrow := hw2.blk_row (n := n1) (size := 1) (cap := c) (by have := HN.out; omega) hcm (by
    rw [List.size_toArray, List.toList_toArray, H3.out, HC.out])
  rw [List.toList_toArray, List.toList_toArray, H2.out] at hrow
  first | exact hrow | (rw [Nat.mul_one] at hrow; exact hrow)
end Go.Proofs.Ytobgfdongidaaaa
