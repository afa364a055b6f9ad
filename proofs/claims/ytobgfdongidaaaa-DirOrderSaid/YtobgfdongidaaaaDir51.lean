import Derived.Test.YtobgfdongidaaaaDir50
namespace Go.Proofs.Ytobgfdongidaaaa
set_option linter.unusedVariables false
set_option linter.unusedSimpArgs false
open Go.RowKit Go.Proofs.Sep Go.Lib

theorem DirOrder_walk (W : World) (a0 : Int) (w0 : (Lit.int .i64 a0).wf = true) (a1 : Option Addr) (len1 cap1 : Nat) (l1 : (List (ByteArray × Int))) (h1 : (decSlice 24 (decPair decStr (decInt .i64))).rel W l1 [.slice a1 len1 cap1]) (a2 : Int) (w2 : (Lit.int .i64 a2).wf = true) :
    Calls Try.prog 4 #[.int .i64 a0, .slice a1 len1 cap1, .int .i64 a2] W fun e w' => e = .returned (.bool true) ∧ Below W.heap.size W w' := by
  obtain ⟨rfl, _, hR, hz, _⟩ := dec_entl h1
  have ht : a2 ≤ 9223372036854775807 := by
    have := w2
    simp [Lit.wf] at this
    omega
  exact (dirOrder a0 a2 a1 cap1 l1 (Sat.start W) (fun w hs => hR.keep fun k hk => hs.old1 hk) hz ht).mono fun e w' ⟨he, hs⟩ => ⟨he, hs.finish1⟩
end Go.Proofs.Ytobgfdongidaaaa
