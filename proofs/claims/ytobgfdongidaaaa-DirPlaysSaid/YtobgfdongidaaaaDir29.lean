import Derived.Test.YtobgfdongidaaaaDir28
import Derived.Test.YtobgfdongidaaaaSepArgs
namespace Go.Proofs.Ytobgfdongidaaaa
set_option linter.unusedVariables false
set_option linter.unusedSimpArgs false
open Go.RowKit Go.Proofs.Sep Go.Lib

theorem dec_entl {w : World} {l : List Ent} {A : Option Addr} {n c : Nat} (h : (decSlice 24 (decPair decStr (decInt .i64))).rel w l [.slice A n c]) :
    n = l.length ∧ l.length ≤ c ∧ Reads w 2 A l.length (ents l) ∧ (∀ x ∈ l, x.1.size ≤ 140737488351232) ∧ (∀ x ∈ l, (Lit.int .i64 x.2).wf = true) := by
  obtain ⟨A', c', css, he, h1, _, _, h4, h5, h6⟩ := h
  simp at he
  obtain ⟨rfl, rfl, rfl⟩ := he
  have hx : ∀ i (hi : i < l.length) (hj : i < css.length), css[i] = [.string l[i].1, .int .i64 l[i].2] ∧ l[i].1.size ≤ 140737488351232 ∧ (Lit.int .i64 l[i].2).wf = true := fun i hi hj => by
    obtain ⟨c1, c2, e, ⟨e1, e2⟩, ⟨e3, e4⟩⟩ := h5 i hi hj
    exact ⟨by rw [e, e1, e3]; rfl, e2, e4⟩
  have hf : css.flatten = ents l := by
    have : css = l.map fun x => [.string x.1, .int .i64 x.2] := by
      refine List.ext_getElem (by simpa using h4) fun i hi hj => ?_
      rw [(hx i (by omega) hi).1]
      simp
    rw [this]
    unfold ents
    rw [List.flatMap_def]
  refine ⟨rfl, h1, by rw [← hf]; exact h6, fun x hx' => ?_, fun x hx' => ?_⟩
  · obtain ⟨i, hi, rfl⟩ := List.getElem_of_mem hx'
    exact (hx i hi (by omega)).2.1
  · obtain ⟨i, hi, rfl⟩ := List.getElem_of_mem hx'
    exact (hx i hi (by omega)).2.2
theorem DirRanges_walk (W : World) (a0 : Int) (w0 : (Lit.int .i64 a0).wf = true) (a1 : Option Addr) (len1 cap1 : Nat) (l1 : (List (ByteArray × Int))) (h1 : (decSlice 24 (decPair decStr (decInt .i64))).rel W l1 [.slice a1 len1 cap1]) (a2 : ByteArray) (w2 : a2.size ≤ 140737488351232) (a3 : ByteArray) (w3 : a3.size ≤ 140737488351232) (a4 : ByteArray) (w4 : a4.size ≤ 140737488351232) (a5 : Int) (w5 : (Lit.int .i64 a5).wf = true) :
    Calls Try.prog 3 #[.int .i64 a0, .slice a1 len1 cap1, .string a2, .string a3, .string a4, .int .i64 a5] W fun e w' => e = .returned (.bool true) ∧ Below W.heap.size W w' := by
  obtain ⟨rfl, _, hR, hz, _⟩ := dec_entl h1
  exact (dirRanges a0 a5 a1 cap1 l1 a2 a3 a4 (Sat.start W) (fun w hs => hR.keep fun k hk => hs.old1 hk) hz w2 w3 w4).mono fun e w' ⟨he, hs⟩ => ⟨he, hs.finish1⟩
end Go.Proofs.Ytobgfdongidaaaa
