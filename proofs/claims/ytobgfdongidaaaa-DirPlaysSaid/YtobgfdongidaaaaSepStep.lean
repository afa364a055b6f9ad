/- append as one step of a region that draws its order, out of Sat. No project text; nothing here is trusted. -/
import Derived.Test.YtobgfdongidaaaaSepClear
import Derived.Deep.RegionLawGrows
import Derived.Maps.AppendAt
namespace Go.Proofs.Sep
set_option linter.unusedVariables false
set_option linter.unusedSimpArgs false
open Go.RowKit
variable {E w : World} {F : Asn} {P : Program}

theorem run_append_sat (t e ty : TypeId) (z : Value) (size bytes : Nat) (ht : P.underlying t = some (.slice e)) (hinfo : (P.info? e).map (fun i => (i.zero, i.size, i.bytes)) = some (some z, size, bytes)) (hz : z.cells.size = size) (hsz : 0 < size)
    (v : Value) (n : Nat) (xs : List Value) (A : Option Addr) (m c : Nat) (news : List Value)
    (hS : Sat E (row e size v n xs * F) w) (hR : Reads w size A m news) (h1 : ∀ u ∈ news, u.oneCell' = true) (h63 : n + m ≤ maxLen) (hl : (n + m) * bytes ≤ 140737488355328) :
    ∃ v1 w1, (Builtin.append_ #[t, t] ty #[v, .slice A m c]).run P w = .ok v1 w1 ∧ Sat E (row e size v1 (n + m) (xs ++ news) * F) w1 := by
  obtain ⟨i0, hi, hzz⟩ := Option.map_eq_some_iff.1 hinfo
  simp only [Prod.mk.injEq] at hzz
  obtain ⟨hz0, hz1, hz2⟩ := hzz
  have HO := hS.owns
  cases A with
  | none =>
    have hm : m = 0 := hR.2.2.1 rfl
    subst hm
    obtain rfl : news = [] := List.eq_nil_of_length_eq_zero (by have := hR.1; simpa using this)
    have hrun : (Builtin.append_ #[t, t] ty #[v, .slice none 0 c]).run P w = .ok v w := by
      rcases HO.2 with ⟨rfl, hn⟩ | ⟨g, cap, cur, rfl, _, _, hnc, _⟩
      · simp [Builtin.append_, run_underlying ht, sizeOf, typeInfo, hi, Builtin.lenOf, Builtin.firstCells]
      · simp [Builtin.append_, run_underlying ht, sizeOf, typeInfo, hi, Builtin.lenOf, Builtin.firstCells, hnc, storeCells]
    exact ⟨v, w, hrun, by simpa using hS⟩
  | some ad =>
    obtain ⟨v1, w1, hrun, hown, hg, _, hat⟩ := run_append_own_at (P := P) w 0 t ty e i0 z size bytes ht hi hz0 hz1 hz2 hz hsz v n xs HO ad m c news hR.1 (hR.2.2.2 ad rfl) h1 h63 hl (Nat.zero_le _)
    refine ⟨v1, w1, hrun, hS.row_turn hg hown ?_⟩
    rcases hat with hat | hat
    · exact .inl hat
    · exact .inr ⟨_, hat, Nat.le_refl _⟩
theorem step_append_sat {ops : Array Oper} {o : Oper} {a : Act} {K : Act → World → Prop} {Q : Exit → Act → World → Prop} {G : Prop}
    (hg : o.guard = none) (s x : Operand) (t e : TypeId) (z : Value) (size bytes : Nat)
    (ho : o.op = .call { callee := .builtin .append, args := #[s, x], argTypes := #[t, t] })
    (ht : P.underlying t = some (.slice e)) (hinfo : (P.info? e).map (fun i => (i.zero, i.size, i.bytes)) = some (some z, size, bytes)) (hz : z.cells.size = size) (hsz : 0 < size)
    (v : Value) (n : Nat) (xs : List Value) (A : Option Addr) (m c : Nat) (news : List Value) (hs : a.eval s = v) (hx : a.eval x = .slice A m c)
    (hS : Sat E (row e size v n xs * F) w) (hR : Reads w size A m news) (h1 : ∀ u ∈ news, u.oneCell' = true) (h63 : n + m ≤ maxLen) (hl : (n + m) * bytes ≤ 140737488355328)
    (hK : ∀ v1 w1, Sat E (row e size v1 (n + m) (xs ++ news) * F) w1 → K (a.put o.dst v1) w1) :
    if Region.wanted o (yielded ops a.tmps) = true then Oper.wp P o a w K Q else G := by
  have hw : Region.wanted o (yielded ops a.tmps) = true := by simp [Region.wanted, hg]
  rw [if_pos hw]
  obtain ⟨v1, w1, hrun, h2⟩ := run_append_sat (P := P) t e o.type z size bytes ht hinfo hz hsz v n xs A m c news hS hR h1 h63 hl
  unfold Oper.wp
  simp [execOp, ho, resolve, invoke, builtin, hs, hx, hrun, Result.andThen]
  exact hK v1 w1 h2
end Go.Proofs.Sep
