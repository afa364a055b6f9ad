/- Laws of the walk in the words of the separation logic: append, make, a store, a slice that is read. No project text; nothing here is trusted. -/
import Derived.Test.YtedhcgeglmoacaaSep
import Derived.WalkSpells
import Derived.Deep.QuietTactic
import Derived.BigQuiet
namespace Go.Proofs.Sep
open Go.RowKit

theorem hid {p : Prop} (h : p) : Hid p := h
theorem addr_plain (g j : Nat) : (⟨g, 0, none⟩ : Addr).add j = ⟨g, j, none⟩ := by unfold Addr.add; split <;> simp_all

/-- The slice's value (address A, n elements of size cells) reads the cells xs in w. -/
def Reads (w : World) (size : Nat) (A : Option Addr) (n : Nat) (xs : List Value) : Prop :=
  xs.length = n * size ∧ n ≤ 9223372036854775807 ∧ (A = none → n = 0) ∧ ∀ ad, A = some ad → ∀ j u, xs[j]? = some u → w.cell? (ad.add j) = some u

section
variable {E w w1 : World} {P Q R F : Asn} {e size n : Nat} {v : Value} {xs : List Value}
theorem Reads.at {A : Option Addr} (h : Reads w size A n xs) (hp : 0 < n) : ∃ ad, A = some ad ∧ ∀ j u, xs[j]? = some u → w.cell? (ad.add j) = some u := by
  cases A with
  | none => have := h.2.2.1 rfl; omega
  | some ad => exact ⟨ad, rfl, h.2.2.2 ad rfl⟩
theorem Reads.keep {A : Option Addr} (h : Reads w size A n xs) (hb : ∀ k, k < w.heap.size → w1.heap[k]? = w.heap[k]?) : Reads w1 size A n xs :=
  ⟨h.1, h.2.1, h.2.2.1, fun ad ha j u hu => by
    have hc := h.2.2.2 ad ha j u hu
    rw [World.cell?_of_block (w := w) (hb _ (World.block_lt_of_cell? _ _ hc))]; exact hc⟩
theorem Reads.alloc {A : Option Addr} (h : Reads w size A n xs) (o : Obj) : Reads (w.alloc o) size A n xs := h.keep fun k hk => Below.heap_alloc w o k hk
theorem Reads.drew {A : Option Addr} (h : Reads w size A n xs) : Reads w.drew size A n xs := h
theorem Reads.drewN {A : Option Addr} (h : Reads w size A n xs) (m : Nat) : Reads (w.drewN m) size A n xs := h.keep fun k _ => rfl
theorem Sat.reads (h : Sat E (row e size v n xs * F) w) : ∃ A c, v = .slice A n c ∧ n ≤ c ∧ c ≤ maxLen ∧ Reads w size A n xs := by
  have ho := h.owns
  rcases ho.2 with ⟨rfl, rfl⟩ | ⟨g, cap, cur, rfl, _, hh, h1, h2, h3, h4⟩
  · exact ⟨none, 0, rfl, Nat.le_refl _, Nat.zero_le _, ho.1, by omega, fun _ => rfl, fun _ h => by cases h⟩
  · refine ⟨_, cap, rfl, h1, h2, ho.1, by unfold maxLen at h2; omega, fun h => (by cases h), fun ad hA j u hu => ?_⟩
    cases hA
    exact ho.cells rfl j u hu
theorem Sat.reads_at {A : Option Addr} {c : Nat} (h : Sat E (row e size (.slice A n c) n xs * F) w) : Reads w size A n xs := by
  obtain ⟨A', c', he, _, _, hr⟩ := h.reads
  injection he with h1 h2 h3
  subst h1
  exact hr
end

section
variable {P : Program} {ops : Array Oper} {rest : List Oper} {o : Oper} {a : Act} {Q : Exit → Act → World → Prop} {E : World} {F : Asn} {w : World}

/-- append(s, x...): s the call's own row, x whatever is read; behind 'at_builtin'. -/
theorem wpList_append_sat (hgd : o.guard = none) (s x : Operand) (t e : TypeId) (z : Value) (size bytes : Nat)
    (ho : o.op = .call { callee := .builtin .append, args := #[s, x], argTypes := #[t, t] })
    (ht : P.underlying t = some (.slice e)) (hinfo : (P.info? e).map (fun i => (i.zero, i.size, i.bytes)) = some (some z, size, bytes)) (hz : z.cells.size = size) (hsz : 0 < size)
    (v : Value) (n : Nat) (xs : List Value) (A : Option Addr) (m c : Nat) (news : List Value) (hs : a.eval s = v) (hx : a.eval x = .slice A m c)
    (hS : Sat E (row e size v n xs * F) w) (hR : Reads w size A m news) (h1 : ∀ u ∈ news, u.oneCell' = true)
    (h63 : n + m ≤ maxLen) (hl : (n + m) * bytes ≤ 140737488355328)
    (h : ∀ v1 w1, Sat E (row e size v1 (n + m) (xs ++ news) * F) w1 → wpList P ops Q rest (a.put o.dst v1) w1) :
    wpList P ops Q (o :: rest) a w := by
  obtain ⟨i0, hi, hzz⟩ := Option.map_eq_some_iff.1 hinfo
  simp only [Prod.mk.injEq] at hzz
  obtain ⟨hz0, hz1, hz2⟩ := hzz
  have HO := hS.owns
  cases A with
  | none =>
    have hm : m = 0 := hR.2.2.1 rfl
    subst hm
    obtain rfl : news = [] := List.eq_nil_of_length_eq_zero (by have := hR.1; simpa using this)
    have hrun : (Builtin.append_ #[t, t] o.type #[v, .slice none 0 c]).run P w = .ok v w := by
      rcases HO.2 with ⟨rfl, hn⟩ | ⟨g, cap, cur, rfl, _, _, hnc, _⟩
      · simp [Builtin.append_, run_underlying ht, sizeOf, typeInfo, hi, Builtin.lenOf, Builtin.firstCells]
      · simp [Builtin.append_, run_underlying ht, sizeOf, typeInfo, hi, Builtin.lenOf, Builtin.firstCells, hnc, storeCells]
    refine wpList_plain hgd fun K hK => ?_
    unfold Oper.wp execOp
    simp only [ho, resolve, invoke, builtin, Sem.run_bind, Sem.run_pure, Result.andThen_ok, List.map_toArray, List.map_cons, List.map_nil, hs, hx, hrun]
    exact hK _ _ (h v w (by simpa using hS))
  | some ad =>
    refine wpList_append_own_at w hgd s x t ho 0 e i0 z size bytes ht hi hz0 hz1 hz2 hz hsz v n xs hs HO ad m c news hx hR.1 (hR.2.2.2 ad rfl) h1 h63 hl (Nat.zero_le _) ?_
    intro v1 w1 hown hg _ hat
    refine h v1 w1 (hS.row_turn hg hown ?_)
    rcases hat with hat | hat
    · exact .inl hat
    · exact .inr ⟨_, hat, Nat.le_refl _⟩
end

theorem Reads.new {w : World} (size n : Nat) (cs : List Value) (e : TypeId) (h : cs.length = n * size) (hn : n ≤ 9223372036854775807) : Reads (w.alloc (.cells cs.toArray e)) size (some ⟨w.heap.size, 0, none⟩) n cs :=
  ⟨h, hn, fun h => (by cases h), fun ad ha j u hu => by cases ha; rw [addr_plain, World.cell?_alloc_new]; simpa using hu⟩
theorem ret_int {k : IntKind} {a b : Int} (h : a = b) : Ending.returned (.int k a) = .returned (.int k b) := by rw [h]
theorem ret_bool {a b : Bool} (h : a = b) : Ending.returned (.bool a) = .returned (.bool b) := by rw [h]
/-! ### Lists of numbers and the like -/
def nums (k : IntKind) (xs : List Int) : List Value := xs.map fun x => .int k x
def bools (xs : List Bool) : List Value := xs.map fun x => .bool x
theorem nums_length (k : IntKind) (xs : List Int) : (nums k xs).length = xs.length := by simp [nums]
theorem bools_length (xs : List Bool) : (bools xs).length = xs.length := by simp [bools]
theorem nums_append (k : IntKind) (xs ys : List Int) : nums k (xs ++ ys) = nums k xs ++ nums k ys := by simp [nums]
theorem bools_append (xs ys : List Bool) : bools (xs ++ ys) = bools xs ++ bools ys := by simp [bools]
theorem nums_one (k : IntKind) (xs : List Int) : ∀ u ∈ nums k xs, u.oneCell' = true := by
  intro u hu; simp only [nums, List.mem_map] at hu; obtain ⟨q, _, rfl⟩ := hu; rfl
theorem bools_one (xs : List Bool) : ∀ u ∈ bools xs, u.oneCell' = true := by
  intro u hu; simp only [bools, List.mem_map] at hu; obtain ⟨q, _, rfl⟩ := hu; rfl
theorem nums_at {k : IntKind} {xs : List Int} {j : Nat} (h : j < xs.length) : (nums k xs)[j]? = some (.int k xs[j]) := by simp [nums, List.getElem?_eq_getElem h]
theorem bools_at {xs : List Bool} {j : Nat} (h : j < xs.length) : (bools xs)[j]? = some (.bool xs[j]) := by simp [bools, List.getElem?_eq_getElem h]
end Go.Proofs.Sep
