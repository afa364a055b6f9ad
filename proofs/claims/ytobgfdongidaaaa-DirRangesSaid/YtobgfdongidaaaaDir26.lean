import Derived.Test.YtobgfdongidaaaaDir25
namespace Go.Proofs.Ytobgfdongidaaaa
set_option linter.unusedVariables false
set_option linter.unusedSimpArgs false
open Go.RowKit Go.Proofs.Sep Go.Lib

def ka : ByteArray := ⟨#[97]⟩
def kb : ByteArray := ⟨#[98]⟩
def kc : ByteArray := ⟨#[99]⟩
def three : List Ent := [(kb, 1), (ka, 2), (kc, 3)]
def three2 : List Ent := [(ka, 2), (kb, 1), (kc, 3)]
theorem three_all : insAll three = three2 := by decide
theorem three_a : getR ka three2 = 2 ∧ hasKey ka three2 = true := by decide
theorem three_r : rangeR ka kb 9 three2 = [(ka, 2), (kb, 1)] := by decide
set_option maxRecDepth 100000 in
set_option maxHeartbeats 4000000 in
theorem first7 {E w : World} {F : Asn} (hS : Sat E F w) : Calls Try.prog 7 #[] w fun r w' => r = .returned (.bool true) ∧ Sat E F w' := by
  have s1 := hS.alloc (.cells #[.string kb, .int .i64 1, .string ka, .int .i64 2, .string kc, .int .i64 3] 25)
  have hn := new_yes 3 (some ⟨w.heap.size, 0, none⟩) 3 three (by decide) (by decide) (by decide) s1 (fun w h => h.blk_reads (n := 3) (size := 2) (cs := ents three) rfl (by omega))
  rw [three_all] at hn
  unfold ka kb kc at hn
  clear s1 hS
  go_enter Try.func7, Try.ntmps7
  go_wp2_with fail
  refine hn.mono ?_
  clear hn
  rintro e w1 ⟨T, rfl, s1⟩
  have hg := get13 T 3 three2 ka (by decide) s1
  rw [three_a.1, three_a.2] at hg
  unfold ka at hg
  unfold ptrv
  unfold ptrv at hg
  go_wp2_with fail
  refine hg.mono ?_
  clear hg s1
  rintro e w2 ⟨rfl, s2⟩
  have hd := depth_some T 3 three2 (by decide) (by decide) (by decide) s2
  unfold ptrv at hd
  go_wp2_with fail
  refine hd.mono ?_
  clear hd
  rintro e w3 ⟨⟨h, t, hs, rfl⟩, rfl⟩
  obtain rfl := shape_three hs rfl
  clear hs
  have hl := len15 T 3 three2 s2
  unfold ptrv at hl
  rw [show ((three2.length : Nat) : Int) = 3 from rfl] at hl
  go_wp2_with fail
  refine hl.mono ?_
  clear hl
  rintro e w4 ⟨rfl, rfl⟩
  have hr := range12 T 3 three2 ka kb 9 (by decide) s2
  rw [three_r] at hr
  unfold ptrv ka kb at hr
  go_wp2_with fail
  refine hr.mono ?_
  clear hr s2
  rintro e w5 ⟨v, rfl, s5⟩
  obtain ⟨A, c, rfl, _, _, _⟩ := s5.reads
  have z : ((([((⟨#[97]⟩ : ByteArray), (2 : Int)), (⟨#[98]⟩, 1)] : List Ent).length : Nat) : Int) = 2 := rfl
  go_wp2_with fail
  go_ret
  exact ⟨rfl, s5.right.right.right⟩
end Go.Proofs.Ytobgfdongidaaaa
