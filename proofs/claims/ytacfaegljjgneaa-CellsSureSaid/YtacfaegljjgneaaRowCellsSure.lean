/- The law CellsSure holds: for every input it returns true, and what came in reads behind the call as before. No conditions. -/
import Derived.Test.YtacfaegljjgneaaRows
import Derived.Test.YtacfaegljjgneaaSure2
import Derived.Test.YtacfaegljjgneaaSepArgs
import Derived.WalkKit
import Derived.ProofKit
import Derived.OpenShut
import Derived.ShutString
import Derived.ChangeOld
import Derived.Below
import Derived.SizedLaws
namespace Go.Proofs.Ytacfaegljjgneaa.cellsSureRow
open Go.ChangeShapes Go.WideShapes Go.ChangeAt Go.RowKit Go.Proofs.Sep
open Go.ChangeMaps (open_string shut_string)
set_option linter.unusedVariables false
theorem own : ownKnob Try.prog.godebug = none := by kernel_rfl
theorem laidOut : laidOutB Try.prog = true := by kernel_rfl
theorem from1 : From Try.prog 40 (decSlice 64 (decPair (decInt .i64) (decPair (decInt .i64) (decPair (decSlice 1 (decInt .u8)) (decSlice 1 decBool))))) := (from_slice Try.underlying40 (by kernel_rfl) (by kernel_rfl) (from_struct Try.underlying44 (by kernel_rfl) (from_fields rfl (by kernel_rfl) (from_int Try.underlying3) (from_fields rfl (by kernel_rfl) (from_int Try.underlying3) (from_fields rfl (by kernel_rfl) (from_slice Try.underlying22 (by kernel_rfl) (by kernel_rfl) (from_int Try.underlying5)) (from_field rfl (by kernel_rfl) (from_slice Try.underlying23 (by kernel_rfl) (by kernel_rfl) (from_bool Try.underlying4))))))))
theorem from2 : From Try.prog 40 (decSlice 64 (decPair (decInt .i64) (decPair (decInt .i64) (decPair (decSlice 1 (decInt .u8)) (decSlice 1 decBool))))) := (from_slice Try.underlying40 (by kernel_rfl) (by kernel_rfl) (from_struct Try.underlying44 (by kernel_rfl) (from_fields rfl (by kernel_rfl) (from_int Try.underlying3) (from_fields rfl (by kernel_rfl) (from_int Try.underlying3) (from_fields rfl (by kernel_rfl) (from_slice Try.underlying22 (by kernel_rfl) (by kernel_rfl) (from_int Try.underlying5)) (from_field rfl (by kernel_rfl) (from_slice Try.underlying23 (by kernel_rfl) (by kernel_rfl) (from_bool Try.underlying4))))))))
theorem from3 : From Try.prog 23 (decSlice 1 decBool) := (from_slice Try.underlying23 (by kernel_rfl) (by kernel_rfl) (from_bool Try.underlying4))
set_option maxRecDepth 100000 in
theorem lifted (os : Os) (started : os.Started) (H : Type) (enc : TypeId × Value → H) :
    ReturnsInHanded {} Try.checked os 5 .any (Rows.cellsSureSpec.pre6 enc Try.prog Try.f5 Rows.cellsSureRow.domain false) (Rows.cellsSureSpec.post enc Try.prog Try.f5 false true false false) := by
  refine returnsInHanded_of_change_sized (C := Try.checked) own started (by kernel_rfl) Try.func5
    (ChangeSpec.witness6 (enc := enc) (C := Try.checked) false ⟨#[], #[.int .i64 0, .slice none 0 0, .slice none 0 0, .slice none 0 0], []⟩ 8 (by kernel_rfl) (by kernel_rfl) (by kernel_rfl) (by kernel_rfl)) ?_
  intro W base args ds gs before hval0 hW hcnd hsz0 _
  have hsz : (DataW.weightsEach Try.prog (Try.f5.params.toList ++ Rows.cellsSureSpec.plain.varTypes Try.prog) (ds ++ gs)).all (· ≤ reachBytes) = true := hsz0
  have hval : ∀ (j : Nat) t v, Try.f5.params[j]? = some t → args[j]? = some v → Value.okWide Try.prog W .any base t v := hval0
  have hW' := hW
  obtain ⟨p, q, hA0, hV, rfl, hfz, hnd⟩ := hW
  have hA : DataW.TrodAll enc Try.prog W 0 (fun _ => true) true Try.f5.params.toList args.toList ds p := hA0
  rw [Try.params5] at hA hval hsz
  obtain ⟨v0, vs0, d0, ds0, p0, q0, hargs, rfl, rfl, h0, r0⟩ := trodAll_cons hA
  obtain ⟨v1, vs1, d1, ds1, p1, q1, rfl, rfl, rfl, h1, r1⟩ := trodAll_cons r0
  obtain ⟨v2, vs2, d2, ds2, p2, q2, rfl, rfl, rfl, h2, r2⟩ := trodAll_cons r1
  obtain ⟨v3, vs3, d3, ds3, p3, q3, rfl, rfl, rfl, h3, r3⟩ := trodAll_cons r2
  obtain ⟨rfl, rfl, rfl⟩ := trodAll_nil r3
  obtain rfl : args = #[v0, v1, v2, v3] := by cases args; simp_all
  obtain ⟨rfl, rfl⟩ := trodVars_none hV
  obtain ⟨a0, rfl, rfl, rfl, w0⟩ := open_int Try.underlying3 (hval 0 3 v0 rfl rfl) h0
  obtain ⟨a1, len1, cap1, rfl⟩ := okWide_slice Try.underlying40 (hval 1 40 v1 rfl rfl)
  have k1 := h1
  have lt1 : ∀ x ∈ p1, x.block < W.heap.size := by obtain ⟨m, hm⟩ := k1; exact DataW.trod_lt m _ _ _ hm
  obtain ⟨l1, w1⟩ := from1.arg h1 hsz 1 rfl rfl
  obtain ⟨a2, len2, cap2, rfl⟩ := okWide_slice Try.underlying40 (hval 2 40 v2 rfl rfl)
  have k2 := h2
  have lt2 : ∀ x ∈ p2, x.block < W.heap.size := by obtain ⟨m, hm⟩ := k2; exact DataW.trod_lt m _ _ _ hm
  obtain ⟨l2, w2⟩ := from2.arg h2 hsz 2 rfl rfl
  obtain ⟨a3, len3, cap3, rfl⟩ := okWide_slice Try.underlying23 (hval 3 23 v3 rfl rfl)
  have k3 := h3
  have lt3 : ∀ x ∈ p3, x.block < W.heap.size := by obtain ⟨m, hm⟩ := k3; exact DataW.trod_lt m _ _ _ hm
  obtain ⟨l3, w3⟩ := from3.arg h3 hsz 3 rfl rfl
  clear hA0 hval0 hsz0 hsz
  refine (CellsSure_walk W a0 w0 a1 len1 cap1 l1 w1 a2 len2 cap2 l2 w2 a3 len3 cap3 l3 w3).mono fun e W' ⟨he, bel⟩ => ?_
  subst he
  exact ⟨_, rfl, _, _, _, [], _, [], hW', trodAll_mk1 (shut_bool Try.underlying4 _), (trodAll_cons_mk (shut_int Try.underlying3 w0) (trodAll_cons_mk (Below.trod laidOut (by kernel_rfl) (of_decide_eq_true (by kernel_rfl)) k1 bel lt1) (trodAll_cons_mk (Below.trod laidOut (by kernel_rfl) (of_decide_eq_true (by kernel_rfl)) k2 bel lt2) (trodAll_cons_mk (Below.trod laidOut (by kernel_rfl) (of_decide_eq_true (by kernel_rfl)) k3 bel lt3) trodAll_mk0)))), rfl, bel.frame _, fun h => by cases h⟩
theorem over : Rows.cellsSureRow.holds Try.pinned (OpenSpec.ofChange Rows.cellsSureSpec) :=
  OpenClaim.holds_of_wide 5 Try.f5 rfl rfl rfl rfl rfl rfl rfl ⟨rfl, rfl, rfl, rfl, rfl⟩ rfl rfl rfl rfl rfl (by kernel_rfl) Try.func5 (by kernel_rfl)
    (of_decide_eq_true (by kernel_rfl)) (by unfold Func.isWrapper; first | (rw [if_pos (by decide +kernel)]; kernel_rfl) | (rw [if_neg (by decide +kernel)]; exact ⟨rfl, rfl⟩))
    (fun os started H enc _ => lifted os started H enc)
end Go.Proofs.Ytacfaegljjgneaa.cellsSureRow
namespace Go.Proofs.Ytacfaegljjgneaa
theorem cellsSure_holds : Rows.CellsSureSaid := cellsSureRow.over
#print axioms cellsSure_holds
end Go.Proofs.Ytacfaegljjgneaa
