import Derived.Test.YtobgfdongidaaaaDir60
import Derived.Test.YtobgfdongidaaaaSepArgs
namespace Go.Proofs.Ytobgfdongidaaaa
set_option linter.unusedVariables false
set_option linter.unusedSimpArgs false
open Go.RowKit Go.Proofs.Sep Go.Lib

theorem DirPlays_walk (W : World) (a0 : Int) (w0 : (Lit.int .i64 a0).wf = true) (a1 : Option Addr) (len1 cap1 : Nat) (l1 : (List (Int × (Int × (ByteArray × ByteArray))))) (h1 : (decSlice 48 (decPair (decInt .i64) (decPair (decInt .i64) (decPair decStr decStr)))).rel W l1 [.slice a1 len1 cap1]) :
    Calls Try.prog 6 #[.int .i64 a0, .slice a1 len1 cap1] W fun e w' => e = .returned (.bool true) ∧ Below W.heap.size W w' := by
  obtain ⟨rfl, _, hR, hz, _⟩ := dec_ops h1
  exact (dirPlays a0 a1 cap1 l1 (Sat.start W) (fun w hs => hR.keep fun k hk => hs.old1 hk) hz).mono fun e w' ⟨he, hs⟩ => ⟨he, hs.finish1⟩
end Go.Proofs.Ytobgfdongidaaaa
