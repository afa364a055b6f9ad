/- Laws of the walk in the words of the separation logic: append, make, a store, a slice that is read. No project text; nothing here is trusted. -/
import Derived.Test.YtobgfdongidaaaaSep
import Derived.WalkSpells
import Derived.Deep.QuietTactic
import Derived.BigQuiet
import Derived.Laws.CopyOwn
import Derived.Laws.BytesArg
import Derived.Deep.OwnRows
import Derived.StillTailTactics
namespace Go.Proofs.Sep
set_option linter.unusedVariables false
set_option linter.unusedSimpArgs false
open Go.RowKit

theorem hid {p : Prop} (h : p) : Hid p := h
theorem addr_plain (g j : Nat) : (⟨g, 0, none⟩ : Addr).add j = ⟨g, j, none⟩ := by unfold Addr.add; split <;> simp_all

/-- The slice's value (address A, n elements of size cells) reads the cells xs in w. -/
def Reads (w : World) (size : Nat) (A : Option Addr) (n : Nat) (xs : List Value) : Prop :=
  xs.length = n * size ∧ n ≤ 9223372036854775807 ∧ (A = none → n = 0) ∧ ∀ ad, A = some ad → ∀ j u, xs[j]? = some u → w.cell? (ad.add j) = some u

section
variable {E w w1 : World} {P Q R F : Asn} {e size n : Nat} {v : Value} {xs : List Value}
theorem Reads.at {A : Option Addr} (h : Reads w size A n xs) (hp : 0 < n) : ∃ ad, A = some ad ∧ ∀ j u, xs[j]? = some u → w.cell? (ad.add j) = some u := by
  cases A with
  | none => have := h.2.2.1 rfl; omega
  | some ad => exact ⟨ad, rfl, h.2.2.2 ad rfl⟩
theorem Reads.keep {A : Option Addr} (h : Reads w size A n xs) (hb : ∀ k, k < w.heap.size → w1.heap[k]? = w.heap[k]?) : Reads w1 size A n xs :=
  ⟨h.1, h.2.1, h.2.2.1, fun ad ha j u hu => by
    have hc := h.2.2.2 ad ha j u hu
    rw [World.cell?_of_block (w := w) (hb _ (World.block_lt_of_cell? _ _ hc))]; exact hc⟩
theorem Reads.alloc {A : Option Addr} (h : Reads w size A n xs) (o : Obj) : Reads (w.alloc o) size A n xs := h.keep fun k hk => Below.heap_alloc w o k hk
theorem Reads.drew {A : Option Addr} (h : Reads w size A n xs) : Reads w.drew size A n xs := h
theorem Reads.drewN {A : Option Addr} (h : Reads w size A n xs) (m : Nat) : Reads (w.drewN m) size A n xs := h.keep fun k _ => rfl
theorem Sat.reads (h : Sat E (row e size v n xs * F) w) : ∃ A c, v = .slice A n c ∧ n ≤ c ∧ c ≤ maxLen ∧ Reads w size A n xs := by
  have ho := h.owns
  rcases ho.2 with ⟨rfl, rfl⟩ | ⟨g, cap, cur, rfl, _, hh, h1, h2, h3, h4⟩
  · exact ⟨none, 0, rfl, Nat.le_refl _, Nat.zero_le _, ho.1, by omega, fun _ => rfl, fun _ h => by cases h⟩
  · refine ⟨_, cap, rfl, h1, h2, ho.1, by unfold maxLen at h2; omega, fun h => (by cases h), fun ad hA j u hu => ?_⟩
    cases hA
    exact ho.cells rfl j u hu
theorem Sat.reads_at {A : Option Addr} {c : Nat} (h : Sat E (row e size (.slice A n c) n xs * F) w) : Reads w size A n xs := by
  obtain ⟨A', c', he, _, _, hr⟩ := h.reads
  injection he with h1 h2 h3
  subst h1
  exact hr
end

section
variable {P : Program} {ops : Array Oper} {rest : List Oper} {o : Oper} {a : Act} {Q : Exit → Act → World → Prop} {E : World} {F : Asn} {w : World}

/-- append(s, x...): s the call's own row, x whatever is read; behind 'at_builtin'. -/
theorem wpList_append_sat (hgd : o.guard = none) (s x : Operand) (t e : TypeId) (z : Value) (size bytes : Nat)
    (ho : o.op = .call { callee := .builtin .append, args := #[s, x], argTypes := #[t, t] })
    (ht : P.underlying t = some (.slice e)) (hinfo : (P.info? e).map (fun i => (i.zero, i.size, i.bytes)) = some (some z, size, bytes)) (hz : z.cells.size = size) (hsz : 0 < size)
    (v : Value) (n : Nat) (xs : List Value) (A : Option Addr) (m c : Nat) (news : List Value) (hs : a.eval s = v) (hx : a.eval x = .slice A m c)
    (hS : Sat E (row e size v n xs * F) w) (hR : Reads w size A m news) (h1 : ∀ u ∈ news, u.oneCell' = true)
    (h63 : n + m ≤ maxLen) (hl : (n + m) * bytes ≤ 140737488355328)
    (h : ∀ v1 w1, Sat E (row e size v1 (n + m) (xs ++ news) * F) w1 → wpList P ops Q rest (a.put o.dst v1) w1) :
    wpList P ops Q (o :: rest) a w := by
  obtain ⟨i0, hi, hzz⟩ := Option.map_eq_some_iff.1 hinfo
  simp only [Prod.mk.injEq] at hzz
  obtain ⟨hz0, hz1, hz2⟩ := hzz
  have HO := hS.owns
  cases A with
  | none =>
    have hm : m = 0 := hR.2.2.1 rfl
    subst hm
    obtain rfl : news = [] := List.eq_nil_of_length_eq_zero (by have := hR.1; simpa using this)
    have hrun : (Builtin.append_ #[t, t] o.type #[v, .slice none 0 c]).run P w = .ok v w := by
      rcases HO.2 with ⟨rfl, hn⟩ | ⟨g, cap, cur, rfl, _, _, hnc, _⟩
      · simp [Builtin.append_, run_underlying ht, sizeOf, typeInfo, hi, Builtin.lenOf, Builtin.firstCells]
      · simp [Builtin.append_, run_underlying ht, sizeOf, typeInfo, hi, Builtin.lenOf, Builtin.firstCells, hnc, storeCells]
    refine wpList_plain hgd fun K hK => ?_
    unfold Oper.wp execOp
    simp only [ho, resolve, invoke, builtin, Sem.run_bind, Sem.run_pure, Result.andThen_ok, List.map_toArray, List.map_cons, List.map_nil, hs, hx, hrun]
    exact hK _ _ (h v w (by simpa using hS))
  | some ad =>
    refine wpList_append_own_at w hgd s x t ho 0 e i0 z size bytes ht hi hz0 hz1 hz2 hz hsz v n xs hs HO ad m c news hx hR.1 (hR.2.2.2 ad rfl) h1 h63 hl (Nat.zero_le _) ?_
    intro v1 w1 hown hg _ hat
    refine h v1 w1 (hS.row_turn hg hown ?_)
    rcases hat with hat | hat
    · exact .inl hat
    · exact .inr ⟨_, hat, Nat.le_refl _⟩
end

theorem Reads.new {w : World} (size n : Nat) (cs : List Value) (e : TypeId) (h : cs.length = n * size) (hn : n ≤ 9223372036854775807) : Reads (w.alloc (.cells cs.toArray e)) size (some ⟨w.heap.size, 0, none⟩) n cs :=
  ⟨h, hn, fun h => (by cases h), fun ad ha j u hu => by cases ha; rw [addr_plain, World.cell?_alloc_new]; simpa using hu⟩
theorem ret_int {k : IntKind} {a b : Int} (h : a = b) : Ending.returned (.int k a) = .returned (.int k b) := by rw [h]
theorem ret_bool {a b : Bool} (h : a = b) : Ending.returned (.bool a) = .returned (.bool b) := by rw [h]
theorem i64_wrap {x : Int} (h0 : -9223372036854775808 ≤ x) (h1 : x ≤ 9223372036854775807) : IntKind.i64.wrap x = x := by
  simp [IntKind.wrap, IntKind.bits, IntKind.signed]
  split <;> omega
theorem wrap64_id {x : Int} (h0 : -9223372036854775808 ≤ x) (h1 : x ≤ 9223372036854775807) : wrap64 x = x := by unfold wrap64; omega
/-! ### Lists of numbers and the like -/
def nums (k : IntKind) (xs : List Int) : List Value := xs.map fun x => .int k x
def bools (xs : List Bool) : List Value := xs.map fun x => .bool x
theorem nums_length (k : IntKind) (xs : List Int) : (nums k xs).length = xs.length := by simp [nums]
theorem bools_length (xs : List Bool) : (bools xs).length = xs.length := by simp [bools]
theorem nums_append (k : IntKind) (xs ys : List Int) : nums k (xs ++ ys) = nums k xs ++ nums k ys := by simp [nums]
theorem bools_append (xs ys : List Bool) : bools (xs ++ ys) = bools xs ++ bools ys := by simp [bools]
theorem nums_one (k : IntKind) (xs : List Int) : ∀ u ∈ nums k xs, u.oneCell' = true := by
  intro u hu; simp only [nums, List.mem_map] at hu; obtain ⟨q, _, rfl⟩ := hu; rfl
theorem bools_one (xs : List Bool) : ∀ u ∈ bools xs, u.oneCell' = true := by
  intro u hu; simp only [bools, List.mem_map] at hu; obtain ⟨q, _, rfl⟩ := hu; rfl
theorem nums_at {k : IntKind} {xs : List Int} {j : Nat} (h : j < xs.length) : (nums k xs)[j]? = some (.int k xs[j]) := by simp [nums, List.getElem?_eq_getElem h]
theorem bools_at {xs : List Bool} {j : Nat} (h : j < xs.length) : (bools xs)[j]? = some (.bool xs[j]) := by simp [bools, List.getElem?_eq_getElem h]

section
variable {P : Program} {ops : Array Oper} {rest : List Oper} {o : Oper} {a : Act} {Q : Exit → Act → World → Prop} {E : World} {F : Asn} {w w1 : World} {e size n cap g : Nat} {xs : List Value} {v : Value}

/-! ### A row's cells -/
theorem Sat.row_cell (h : Sat E (row e size (.slice (some ⟨g, 0, none⟩) n cap) n xs * F) w) (j : Nat) (hj : j < n * size) : w.cell? ⟨g, j, none⟩ = xs[j]? := h.owns.cellAt j hj
theorem Sat.row_free (h : Sat E (row e size (.slice (some ⟨g, 0, none⟩) n cap) n xs * F) w) (j : Nat) : w.frozen? ⟨g, j, none⟩ = false := h.owns.frozenAt j
theorem Sat.row_lt (h : Sat E (row e size (.slice (some ⟨g, 0, none⟩) n cap) n xs * F) w) : g < w.heap.size := (h.owns.lt g rfl).2
theorem Sat.row_len (h : Sat E (row e size v n xs * F) w) : xs.length = n * size := h.owns.1
theorem Sat.row_head (h : Sat E (row e size v n xs * F) w) (hn : 0 < n) : ∃ g c, v = .slice (some ⟨g, 0, none⟩) n c ∧ n ≤ c ∧ c ≤ maxLen := by
  obtain ⟨g, cap, _, h1, h2, h3, _⟩ := h.row_blk hn
  exact ⟨g, cap, h1, h2, h3⟩
theorem Sat.row_store (h : Sat E (row e size (.slice (some ⟨g, 0, none⟩) n cap) n xs * F) w) (j : Nat) (u : Value) :
    Sat E (row e size (.slice (some ⟨g, 0, none⟩) n cap) n (xs.set j u) * F) (w.setCell ⟨g, j, none⟩ u) :=
  h.row_turn (h.owns.stored j u).2 (h.owns.stored j u).1 (.inl rfl)
/-- A fresh block as a row. -/
theorem Sat.row_alloc (h : Sat E F w) (cs : List Value) (e size n : Nat) (hl : cs.length = n * size) (hn : n ≤ maxLen) :
    Sat E (row e size (.slice (some ⟨w.heap.size, 0, none⟩) n n) n cs * F) (w.alloc (.cells cs.toArray e)) := by
  have := (h.alloc (.cells cs.toArray e)).blk_row (n := n) (cap := n) (size := size) (Nat.le_refl _) hn (by simpa using hl)
  rwa [List.toList_toArray, List.take_of_length_le (by omega)] at this
theorem madeCells_one (z : Value) (n : Nat) : madeCells #[z] n = (List.replicate n z).toArray := by
  rw [← Array.toList_inj]
  simpa using toList_madeCells_one z n
theorem Sat.row_made (h : Sat E F w) (z : Value) (e n : Nat) (hn : n ≤ 9223372036854775807) :
    Sat E (row e 1 (.slice (some ⟨w.heap.size, 0, none⟩) n n) n (List.replicate n z) * F) (w.alloc (.cells (madeCells #[z] n) e)) := by
  rw [madeCells_one]
  exact h.row_alloc _ e 1 n (by simp) (by simpa [maxLen] using hn)

/-! ### Bytes as a text -/
theorem run_bytes_string (src e dst : TypeId) (hs : P.underlying src = some (.slice e)) (he : P.underlying e = some (.int .u8)) (hd : P.underlying dst = some .string)
    {A : Option Addr} {xs : List Int} {c : Nat} (hR : Reads w 1 A n (nums .u8 xs)) : (convert src dst (.slice A n c)).run P w = .ok (.string (strOfNums xs)) w := by
  have hl : xs.length = n := by have := hR.1; simpa [nums] using this
  cases A with
  | none =>
    have : n = 0 := hR.2.2.1 rfl
    obtain rfl : xs = [] := List.eq_nil_of_length_eq_zero (by omega)
    exact run_convert_bytes_nil w src e hs he n c dst hd
  | some ad =>
    have hlc : (loadCells ad n).run P w = .ok (xs.map (Value.int .u8)).toArray w := by
      have := run_loadCells_list (P := P) w ad (nums .u8 xs) (hR.2.2.2 ad rfl)
      rw [nums_length, hl] at this
      exact this
    rw [run_convert_bytes_string w src dst e _ n c hs he hd, run_bytesToString w ad n c xs hlc, foldl_push_bytes]
    simp [strOfNums, ByteArray.empty, ByteArray.emptyWithCapacity]
    rfl
def ByteR (xs : List Int) : Prop := ∀ x ∈ xs, 0 ≤ x ∧ x < 256
theorem byteR_wf {xs : List Int} (h : ∀ x ∈ xs, (Lit.int .u8 x).wf = true) : ByteR xs := fun x hx => by
  have := h x hx
  simp [Lit.wf, IntKind.min, IntKind.max, IntKind.signed, IntKind.bits] at this
  omega
theorem strOfNums_inj : ∀ {xs ys : List Int} (_ : ByteR xs) (_ : ByteR ys), strOfNums xs = strOfNums ys → xs = ys := by
  intro xs ys hx hy h
  have h1 : (xs.map fun n => UInt8.ofNat n.toNat) = ys.map fun n => UInt8.ofNat n.toNat := by
    have := congrArg (fun s => s.data.toList) h
    simpa [strOfNums] using this
  clear h
  induction xs generalizing ys with
  | nil => cases ys with
    | nil => rfl
    | cons y ys => simp at h1
  | cons x xs ih => cases ys with
    | nil => simp at h1
    | cons y ys =>
      simp only [List.map_cons, List.cons.injEq] at h1
      obtain ⟨h2, h3⟩ := h1
      rw [ih (fun a ha => hx a (by simp [ha])) (fun a ha => hy a (by simp [ha])) h3]
      obtain ⟨x0, x1⟩ := hx x (by simp)
      obtain ⟨y0, y1⟩ := hy y (by simp)
      have := congrArg UInt8.toNat h2
      simp only [UInt8.toNat_ofNat'] at this
      have e : x = y := by omega
      rw [e]
theorem strOfNums_beq {xs ys : List Int} (hx : ByteR xs) (hy : ByteR ys) : ((strOfNums xs).toList == (strOfNums ys).toList) = decide (xs = ys) := by
  by_cases h : xs = ys
  · subst h; simp
  · rw [decide_eq_false h, beq_eq_false_iff_ne]
    intro he
    refine h (strOfNums_inj hx hy ?_)
    rw [ByteArray.toList_eq, ByteArray.toList_eq] at he
    exact congrArg ByteArray.mk (Array.toList_inj.1 he)

/-- A region that draws its order, all of whose operations but the last ones leave the world alone: one walk in the text's order. -/
theorem wp_region_tail {id : Nat} {l : List Oper} (k : Nat) (hm : P.follows .mixedOrders = true) (hB : Region.lexTailB .any l.toArray k = true)
    (h : wpStill P l.toArray w.drew (fun a' => wpList P l.toArray Q (l.drop k) a' w.drew) (l.take k) a) : (Code.region id l.toArray true).wp P Q a w :=
  wp_region_still_tail k hm hB h

/-! ### Cuts of what is read -/
theorem addr_add_add (a : Addr) (i j : Nat) : (a.add i).add j = a.add (i + j) := by
  unfold Addr.add
  by_cases h1 : i = 0 <;> by_cases h2 : j = 0 <;> simp [h1, h2, Nat.add_assoc]
theorem Reads.take {A : Option Addr} (h : Reads w size A n xs) (m : Nat) (hm : m ≤ n) : Reads w size A m (xs.take (m * size)) := by
  refine ⟨?_, by have := h.2.1; omega, fun ha => by have := h.2.2.1 ha; omega, fun ad ha j u hu => h.2.2.2 ad ha j u ?_⟩
  · rw [List.length_take, h.1]; exact Nat.min_eq_left (Nat.mul_le_mul_right _ hm)
  · rw [List.getElem?_take] at hu
    split at hu
    · exact hu
    · cases hu
/-- 'x[m:]': the address behind the cut is a letter. -/
theorem cut_from (t e : TypeId) (kl : IntKind) (ht : P.underlying t = some (.slice e)) (hsz : (P.info? e).map (·.size) = some size) (A : Option Addr) (n c m : Nat) (hm : m ≤ n) (hnc : n ≤ c) :
    ∃ A' : Option Addr, (∀ W : World, (Instr.slice t (.slice A n c) (some (.int kl (m : Int))) none none).run P W = .ok (.slice A' (n - m) (c - m)) W) ∧
      ∀ (w : World) (xs : List Value), Reads w size A n xs → Reads w size A' (n - m) (xs.drop (m * size)) := by
  obtain ⟨i, hi, hsi⟩ := Option.map_eq_some_iff.1 hsz
  refine ⟨if c = m then A else A.map (·.add (m * size)), fun W => ?_, fun w xs h => ⟨?_, by have := h.2.1; omega, fun ha => ?_, fun ad ha j u hu => ?_⟩⟩
  · have hel : P.elem t = e := by simp [Program.elem, ht]
    have hu : P.underlying t = some (.slice (P.elem t)) := by rw [hel]; exact ht
    rw [run_slice_l W t A n c hu kl (m : Int) (Int.natCast_nonneg _) (by omega), hel]
    simp [sizeOf, typeInfo, hi, hsi, sliced, Result.andThen]
  · rw [List.length_drop, h.1, Nat.sub_mul]
  · split at ha
    · have := h.2.2.1 ha; omega
    · cases A with
      | none => have := h.2.2.1 rfl; omega
      | some ad => simp at ha
  · have hj : j < (n - m) * size := by
      have := (List.getElem?_eq_some_iff.1 hu).1
      rw [List.length_drop, h.1] at this
      rw [Nat.sub_mul]; exact this
    have hnm : m < n := by
      rcases Nat.lt_or_ge m n with h' | h'
      · exact h'
      · rw [Nat.sub_eq_zero_of_le h', Nat.zero_mul] at hj; omega
    rw [if_neg (by omega)] at ha
    cases A with
    | none => have := h.2.2.1 rfl; omega
    | some a0 =>
      simp at ha
      subst ha
      rw [addr_add_add]
      exact h.2.2.2 a0 rfl _ u (by rwa [List.getElem?_drop] at hu)

/-! ### copy(out, src), out a row of the call's own, from its head on -/
theorem wpList_copy_sat (hgd : o.guard = none) (d s : Operand) (dT sT : TypeId)
    (ho : o.op = .call { callee := .builtin .copy, args := #[d, s], argTypes := #[dT, sT] }) (elem : TypeId) (hu : P.underlying dT = some (.slice elem)) (hsz : (P.info? elem).map (·.size) = some 1)
    (dp sp : Option Addr) (dLen dCap sLen sCap : Nat) (hd : a.eval d = .slice dp dLen dCap) (hs : a.eval s = .slice sp sLen sCap) (xs cs : List Value)
    (hS : Sat E (row e 1 (.slice dp dLen dCap) dLen xs * F) w) (hR : Reads w 1 sp sLen cs) (h1 : ∀ u ∈ cs, u.oneCell' = true)
    (h : ∀ w1, Sat E (row e 1 (.slice dp dLen dCap) dLen (cs.take dLen ++ xs.drop sLen) * F) w1 → wpList P ops Q rest (a.put o.dst (goInt ((min sLen dLen : Nat) : Int))) w1) :
    wpList P ops Q (o :: rest) a w := by
  have hcl : cs.length = sLen := by simpa using hR.1
  have hxl : xs.length = dLen := by simpa using hS.row_len
  by_cases h0 : min sLen dLen = 0
  · refine wpList_copy_nothing hgd d s dT sT ho elem hu hsz dp sp dLen dCap sLen sCap hd hs h0 ?_
    have := h w ?_
    · rw [h0] at this; exact this
    · have e : cs.take dLen ++ xs.drop sLen = xs := by
        rcases Nat.eq_zero_or_pos sLen with hz | hz
        · obtain rfl : cs = [] := List.eq_nil_of_length_eq_zero (by omega)
          simp [hz]
        · have hz : dLen = 0 := by omega
          obtain rfl : xs = [] := List.eq_nil_of_length_eq_zero (by omega)
          simp [hz]
      rw [e]; exact hS
  · obtain ⟨g, cap, cur, hv, hc1, hc2, hc3, hc4, hB⟩ := hS.row_blk (by omega)
    cases hv
    obtain ⟨ad, rfl, hcell⟩ := hR.at (by omega)
    have htl : (cs.take dLen).length = min sLen dLen := by rw [List.length_take, hcl, Nat.min_comm]
    refine wpList_copy_own hgd d s dT sT ho elem hu hsz g 0 dLen dCap ad sLen sCap hd hs cur e hB.at_blk (cs.take dLen) htl (fun j u hj => hcell j u (by
      rw [List.getElem?_take] at hj; split at hj; · exact hj
      · cases hj)) (by omega) (fun u hu => h1 u (List.mem_of_mem_take hu)) ?_
    have hlen : (cur.toList.take 0 ++ (cs.take dLen ++ cur.toList.drop (0 + (cs.take dLen).length))).toArray.size = dCap * 1 := by simp; omega
    have hT := (hB.turn (w1 := w.setRow g (cur.toList.take 0 ++ (cs.take dLen ++ cur.toList.drop (0 + (cs.take dLen).length))).toArray) rfl rfl rfl
      (fun k _ hk => setRow_other w g k _ hk) (setRow_heap w g _ _ e _ hB.at_blk)).blk_row (n := dLen) (size := 1) hc1 hc2 hlen
    rw [htl] at hT ⊢
    refine h _ (hT.eq ?_)
    congr 2
    have e1 : cur.toList.drop (min sLen dLen) = cur.toList.drop (min sLen dLen) := rfl
    rw [← hc4]
    simp only [List.toList_toArray, List.take_zero, List.nil_append, Nat.zero_add, Nat.mul_one]
    rw [List.take_append, htl, List.take_of_length_le (l := cs.take dLen) (by omega)]
    congr 1
    rw [List.drop_take]
    rcases Nat.le_total sLen dLen with hle | hle
    · rw [Nat.min_eq_left hle]
    · rw [Nat.min_eq_right hle, Nat.sub_self, List.take_zero, show dLen - sLen = 0 by omega, List.take_zero]
end
end Go.Proofs.Sep
