import Derived.Test.YtobgfdongidaaaaDir2
import Derived.Laws.CopyRow
import Derived.Lib.AppendZerosOnto
import Derived.Lib.AppendZeros
import Derived.Lib.Overlaps
import Derived.Lib.SliceRun
namespace Go.Proofs.Sep
set_option linter.unusedVariables false
set_option linter.unusedSimpArgs false
open Go.RowKit

/-- copy into a row of the call's own, elements of any size. -/
theorem run_copy_rows {P : Program} (w : World) (dT sT ty elem : TypeId) (g o dLen dCap : Nat) (a : Addr) (sLen sCap size : Nat) (cur : Array Value) (t : TypeId) (cs : List Value)
    (hu : P.underlying dT = some (.slice elem)) (hs : (P.info? elem).map (·.size) = some size)
    (hg : w.heap[g]? = some (.cells cur t (0, 0))) (hn : cs.length = Nat.min sLen dLen * size)
    (hsrc : ∀ j v, cs[j]? = some v → w.cell? (a.add j) = some v) (hfit : o + cs.length ≤ cur.size) (h1 : ∀ v ∈ cs, v.oneCell' = true) :
    (Builtin.copy_ #[dT, sT] ty #[.slice (some ⟨g, o, none⟩) dLen dCap, .slice (some a) sLen sCap]).run P w =
      .ok (goInt (Nat.min sLen dLen : Nat)) (w.setRow g (cur.toList.take o ++ cs ++ cur.toList.drop (o + cs.length)).toArray) := by
  have hl := run_loadCells_list (P := P) w a cs hsrc
  have hst := run_storeCells_at P g o t cs 0 cur w hg (by simpa using hfit) h1
  cases hq : P.info? elem with
  | none => simp [hq] at hs
  | some i =>
    have hi : i.size = size := by simpa [hq] using hs
    simp [Builtin.copy_, run_underlying hu, Builtin.lenOf, Builtin.firstCells, sizeOf, typeInfo, hq, hi, ← hn, hl, hst]
section
variable {P : Program} {ops : Array Oper} {rest : List Oper} {o : Oper} {a : Act} {Q : Exit → Act → World → Prop} {E : World} {F : Asn} {w : World} {e : TypeId}
/-- .. as a step of a list of operations: the block as it is now. -/
theorem wpList_copy_blk (hgd : o.guard = none) (d s : Operand) (dT sT : TypeId)
    (ho : o.op = .call { callee := .builtin .copy, args := #[d, s], argTypes := #[dT, sT] }) (elem : TypeId) (hu : P.underlying dT = some (.slice elem)) (size : Nat) (hsz : (P.info? elem).map (·.size) = some size)
    (g off dLen dCap : Nat) (ad : Addr) (sLen sCap : Nat) (hd : a.eval d = .slice (some ⟨g, off, none⟩) dLen dCap) (hs : a.eval s = .slice (some ad) sLen sCap) (cur : Array Value) (cs : List Value)
    (hS : Sat E (blk g (.cells cur e (0, 0)) * F) w) (hn : cs.length = Nat.min sLen dLen * size) (hsrc : ∀ j v, cs[j]? = some v → w.cell? (ad.add j) = some v) (hfit : off + cs.length ≤ cur.size) (h1 : ∀ v ∈ cs, v.oneCell' = true)
    (h : ∀ w1, Sat E (blk g (.cells (cur.toList.take off ++ cs ++ cur.toList.drop (off + cs.length)).toArray e (0, 0)) * F) w1 → wpList P ops Q rest (a.put o.dst (goInt ((Nat.min sLen dLen : Nat) : Int))) w1) :
    wpList P ops Q (o :: rest) a w := by
  have hr := run_copy_rows (P := P) w dT sT o.type elem g off dLen dCap ad sLen sCap size cur e cs hu hsz hS.at_blk hn hsrc hfit h1
  refine wpList_plain hgd fun K hK => ?_
  unfold Oper.wp execOp
  simp only [ho, resolve, invoke, builtin, Sem.run_bind, Sem.run_pure, Result.andThen_ok, List.map_toArray, List.map_cons, List.map_nil, hd, hs, hr]
  exact hK _ _ (h _ (hS.turn rfl rfl rfl (fun k _ hk => setRow_other w g k _ hk) (setRow_heap w g _ _ e _ hS.at_blk)))
end
end Go.Proofs.Sep
namespace Go.Proofs.Ytobgfdongidaaaa
set_option linter.unusedVariables false
set_option linter.unusedSimpArgs false
open Go.RowKit Go.Proofs.Sep Go.Lib

set_option maxRecDepth 100000 in
set_option maxHeartbeats 400000 in
theorem leaf30 {w : World} (p n c : Nat) (A : Option Addr) (h : w.cell? ⟨p, 1, none⟩ = some (.slice A n c)) :
    Calls Try.prog 30 #[.pointer (some ⟨p, 0, none⟩)] w fun e w' => e = .returned (.bool ((n : Int) == 0)) ∧ w' = w := by
  go_enter Try.func30, Try.ntmps30
  go_wp2
  go_ret
  exact ⟨rfl, rfl⟩
set_option maxRecDepth 100000 in
set_option maxHeartbeats 400000 in
theorem find29 {E w : World} {F : Asn} (p : Nat) (A : Option Addr) (c : Nat) (L : List Ent) (key : ByteArray) (hr : Rises L) (hl : L.length ≤ 1000000) (hS : Sat E F w) (hA : ∀ w, Sat E F w → Reads w 2 A L.length (ents L)) (hc : w.cell? ⟨p, 0, none⟩ = some (.slice A L.length c)) :
    Calls Try.prog 29 #[.pointer (some ⟨p, 0, none⟩), .string key] w fun e w' => e = .returned (.tuple #[.int .i64 (ahead key L), .bool (hasKey key L)]) ∧ Sat E F w' := by
  go_enter Try.func29, Try.ntmps29
  go_wp2_with fail
  refine (bsf36 A c L key hr hl hS hA).mono ?_
  rintro e w1 ⟨rfl, g1⟩
  go_wp2
  go_ret2
  exact ⟨rfl, g1⟩

set_option maxRecDepth 100000 in
set_option maxHeartbeats 400000 in
theorem cloneEnts {E w : World} {F : Asn} (A : Option Addr) (n c : Nat) (cs : List Value) (hS : Sat E F w) (hR : Reads w 2 A n cs) (h1 : ∀ u ∈ cs, u.oneCell' = true) (hn : n * 24 ≤ 140737488351232) :
    Calls Try.prog 43 #[.slice A n c] w fun e w' => ∃ v, e = .returned v ∧ Sat E (row 25 2 v n cs * F) w' := by
  cases A with
  | none =>
    obtain rfl : n = 0 := hR.2.2.1 rfl
    obtain rfl : cs = [] := List.eq_nil_of_length_eq_zero (by have := hR.1; simpa using this)
    have heq := fun w => Lib.run_eql_slice_nil (P := Try.prog) w 22 25 none 0 c 0 0 Try.underlying22
    go_enter Try.func43, Try.ntmps43
    go_wp2
    go_ret
    exact ⟨_, rfl, hS.row_nil⟩
  | some ad =>
    have heq := fun w => Lib.run_eql_slice_nil (P := Try.prog) w 22 25 (some ad) n c 0 0 Try.underlying22
    have hS0 : Sat E (row 25 2 (.slice (some ⟨w.heap.size, 0, none⟩) 0 0) 0 [] * F) (w.alloc (.cells #[] 25)) := (hS.alloc _).blk_row (n := 0) (cap := 0) (by omega) (by simp [maxLen]) rfl
    go_enter Try.func43, Try.ntmps43
    go_wp2_with (at_builtin; refine wpList_append_sat rfl _ _ 22 25 (.agg #[.string ByteArray.empty, .int .i64 0]) 2 24 rfl Try.underlying22 Try.info25 rfl (by decide) _ 0 [] (some ad) n c cs rfl rfl hS0 (hR.alloc _) h1 (by unfold maxLen; omega) (by omega) ?_; intro v1 w1 hS1)
    go_ret
    exact ⟨v1, rfl, by simpa using hS1⟩

set_option maxRecDepth 100000 in
set_option maxHeartbeats 400000 in
theorem cloneNodes {E w : World} {F : Asn} (A : Option Addr) (n c : Nat) (cs : List Value) (hS : Sat E F w) (hR : Reads w 1 A n cs) (h1 : ∀ u ∈ cs, u.oneCell' = true) (hn : n * 8 ≤ 140737488351232) :
    Calls Try.prog 44 #[.slice A n c] w fun e w' => ∃ v, e = .returned v ∧ Sat E (row 56 1 v n cs * F) w' := by
  cases A with
  | none =>
    obtain rfl : n = 0 := hR.2.2.1 rfl
    obtain rfl : cs = [] := List.eq_nil_of_length_eq_zero (by have := hR.1; simpa using this)
    have heq := fun w => Lib.run_eql_slice_nil (P := Try.prog) w 57 56 none 0 c 0 0 Try.underlying57
    go_enter Try.func44, Try.ntmps44
    go_wp2
    go_ret
    exact ⟨_, rfl, hS.row_nil⟩
  | some ad =>
    have heq := fun w => Lib.run_eql_slice_nil (P := Try.prog) w 57 56 (some ad) n c 0 0 Try.underlying57
    have hS0 : Sat E (row 56 1 (.slice (some ⟨w.heap.size, 0, none⟩) 0 0) 0 [] * F) (w.alloc (.cells #[] 56)) := (hS.alloc _).blk_row (n := 0) (cap := 0) (by omega) (by simp [maxLen]) rfl
    go_enter Try.func44, Try.ntmps44
    go_wp2_with (at_builtin; refine wpList_append_sat rfl _ _ 57 56 (.pointer none) 1 8 rfl Try.underlying57 Try.info56 rfl (by decide) _ 0 [] (some ad) n c cs rfl rfl hS0 (hR.alloc _) h1 (by unfold maxLen; omega) (by omega) ?_; intro v1 w1 hS1)
    go_ret
    exact ⟨v1, rfl, by simpa using hS1⟩

end Go.Proofs.Ytobgfdongidaaaa
