/- awake. -/
import Derived.Test.YtdeebagjmhpocaaY
namespace Go.Proofs.Ytdeebagjmhpocaa
set_option linter.unusedSimpArgs false
set_option linter.unusedVariables false
open Go.RowKit

set_option maxRecDepth 100000 in
set_option maxHeartbeats 4000000 in
theorem awake_any (w : World) : Calls Try.prog 8 #[] w fun e w' => e = .returned (.bool true) ∧ Below w.heap.size w w' := by
  have hnil := Lib.run_eql_slice_nil (P := Try.prog)
  go_enter Try.func8, Try.ntmps8
  go_wp2_with fail
  refine (arenaNew_any 1 1 (.slice none 0 0) [] w (.inl ⟨rfl, rfl, rfl⟩) (by simp)).mono ?_
  rintro e w1 ⟨_, hA, hb1⟩
  obtain ⟨a, s, g, rs, rfl, hA, r1, r2, r3, r4, r5, r6, _⟩ := hA ⟨by decide, by decide, by decide, by decide⟩
  have hw : (wordsOf 1 1).toNat = 90 := by decide
  rw [hw] at hA
  have FG := Lib.hid (gen_any hA (by rfl))
  have FS := Lib.hid (store_any hA)
  have FL := Lib.hid (len_any hA.store)
  have FR := Lib.hid (aruns_any hA)
  have FI := Lib.hid (runsList_any hA.runs)
  have Hb1 := Lib.hid hb1
  have R4 := Lib.hid r4
  clear hA r1 r2 r3 r4 r5 r6 hw hb1
  go_wp2_with fail
  refine FG.out.mono ?_
  rintro e w2 ⟨rfl, rfl⟩
  go_wp2_with fail
  refine FS.out.mono ?_
  rintro e w2 ⟨rfl, rfl⟩
  go_wp2_with fail
  refine FL.out.mono ?_
  rintro e w2 ⟨rfl, rfl⟩
  go_wp2_with fail
  refine FR.out.mono ?_
  rintro e w2 ⟨rfl, rfl⟩
  go_wp2_with fail
  refine FI.out.mono ?_
  rw [R4.out]
  rintro e w3 ⟨v, rfl, hv, hb3⟩
  have Hv := Lib.hid hv
  have Hb3 := Lib.hid hb3
  clear hv hb3
  go_wp2_with fail
  refine (sameRuns_any [(0, 1)] v (.slice (some ⟨w3.heap.size, 0, none⟩) 1 1) _ (Hv.out.below ((Below.refl _ _).alloc (Nat.le_refl _) _)) (.inr ⟨_, _, rfl, by simp, fun j u hu => by rw [cellOf (heap_alloc_new w3 _)]; simpa [runCells] using hu⟩) (by simp)).mono ?_
  rintro e w4 ⟨rfl, hb4⟩
  have Hb4 := Lib.hid hb4
  clear hb4
  go_wp2
  go_ret
  refine ⟨rfl, Hb1.out.trans ((Hb3.out.mono Hb1.out.size).trans ?_)⟩
  exact ((Below.refl w3.heap.size w3).alloc (Nat.le_refl _) _ |>.trans (Hb4.out.mono (by simp))).mono (Nat.le_trans Hb1.out.size Hb3.out.size)

end Go.Proofs.Ytdeebagjmhpocaa
