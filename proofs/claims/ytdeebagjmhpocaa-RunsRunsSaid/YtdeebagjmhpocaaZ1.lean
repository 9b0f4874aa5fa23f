/- The runs: Total, Drawn, best, Find. -/
import Derived.Test.YtdeebagjmhpocaaE2
namespace Go.Proofs.Ytdeebagjmhpocaa
set_option linter.unusedSimpArgs false
set_option linter.unusedVariables false
open Go.RowKit

set_option maxHeartbeats 1000000 in
theorem total_any (s : RSt) (w : World) (h : RunsIs w s) : Calls Try.prog 55 #[.pointer (some ⟨s.q, 0, none⟩)] w fun e w' => e = .returned (.int .i64 s.total) ∧ w = w' := by
  have c5 : w.cell? ⟨s.q, 5, none⟩ = some (.int .i64 s.total) := cellOf h.obj 5
  clear h
  obtain ⟨q, p, dv, lv, pages, ds, drawn, t, xs, total⟩ := s
  dsimp only at *
  go_enter Try.func55, Try.ntmps55
  go_wp2
  go_ret
  exact ⟨rfl, rfl⟩
set_option maxHeartbeats 1000000 in
theorem drawn_any (s : RSt) (w : World) (h : RunsIs w s) : Calls Try.prog 57 #[.pointer (some ⟨s.q, 0, none⟩)] w fun e w' => e = .returned (.int .i64 s.drawn) ∧ w = w' := by
  have c5 : w.cell? ⟨s.q, 2, none⟩ = some (.int .i64 s.drawn) := cellOf h.obj 2
  clear h
  obtain ⟨q, p, dv, lv, pages, ds, drawn, t, xs, total⟩ := s
  dsimp only at *
  go_enter Try.func57, Try.ntmps57
  go_wp2
  go_ret
  exact ⟨rfl, rfl⟩

def runV : Option R2 → R2
  | none => (0, 0)
  | some x => x
def bestV (o : Option R2) : Value := .tuple #[.agg #[.int .i64 (runV o).1, .int .i64 (runV o).2], .bool o.isSome]
def bestT (s : RSt) (k : Int) : Option R2 := if k < 1 ∨ s.pages < k then none else (ceilT (8192 * k) .nil s.t).nd?.map (fun y => (y.pg, y.ln))
theorem ceilVal_nd (t : T) : ∃ n : Int, ceilVal t = .tuple #[.int .i64 n, .agg #[.int .i64 (runV (t.nd?.map (fun y => (y.pg, y.ln)))).1, .int .i64 (runV (t.nd?.map (fun y => (y.pg, y.ln)))).2], .bool (t.nd?.map (fun y => (y.pg, y.ln))).isSome] := by
  cases t with
  | nil => exact ⟨0, rfl⟩
  | node b y l r => exact ⟨y.key, rfl⟩

def BestPost (s : RSt) (k : Int) (w : World) (e : Ending) (w' : World) : Prop := e = .returned (bestV (bestT s k)) ∧ Below w.heap.size w w'

theorem bestV_lit (o : Option R2) : bestV o = .tuple #[.agg #[.int .i64 (runV o).1, .int .i64 (runV o).2], .bool o.isSome] := rfl

set_option maxRecDepth 100000 in
set_option maxHeartbeats 2000000 in
theorem best_any (s : RSt) (k : Int) (w : World) (h : RunsIs w s) (hp : s.pages ≤ 4096) :
    Calls Try.prog 49 #[.pointer (some ⟨s.q, 0, none⟩), .int .i64 k] w (BestPost s k w) := by
  have c0 : w.cell? ⟨s.q, 0, none⟩ = some (.int .i64 s.pages) := cellOf h.obj 0
  have c3 : w.cell? ⟨s.q, 3, none⟩ = some (.pointer (some ⟨s.p, 0, none⟩)) := cellOf h.obj 3
  have hqlt := lt_of_block h.obj
  have F : ∀ W, Below w.heap.size w W → Calls Try.prog 70 #[.pointer (some ⟨s.p, 0, none⟩), .int .i64 (8192 * k)] W (CeilPost (8192 * k) s.t W) := fun W hW => ceil_any _ _ _ W (h.below hW).tree
  have HF := Lib.hid F
  clear F h
  have HT : Hid (bestT s k = if k < 1 ∨ s.pages < k then none else (ceilT (8192 * k) .nil s.t).nd?.map (fun y => (y.pg, y.ln))) := rfl
  obtain ⟨q, p, dv, lv, pages, ds, drawn, t, xs, total⟩ := s
  dsimp only at *
  by_cases h1 : k < 1
  · have HR : Hid (bestT ⟨q, p, dv, lv, pages, ds, drawn, t, xs, total⟩ k = none) := by unfold Hid; rw [HT.out, if_pos (.inl h1)]
    go_enter Try.func49, Try.ntmps49
    go_wp2
    refine bodyPost_ret (v := .tuple #[.agg #[.int .i64 0, .int .i64 0], .bool false]) (by simp [results, Try.results49, go_sem]) rfl ⟨by rw [HR.out]; rfl, ?_⟩
    exact (Below.refl _ _).alloc (Nat.le_refl _) _
  · by_cases h2 : pages < k
    · have HR : Hid (bestT ⟨q, p, dv, lv, pages, ds, drawn, t, xs, total⟩ k = none) := by unfold Hid; rw [HT.out, if_pos (.inr h2)]
      go_enter Try.func49, Try.ntmps49
      go_wp2
      refine bodyPost_ret (v := .tuple #[.agg #[.int .i64 0, .int .i64 0], .bool false]) (by simp [results, Try.results49, go_sem]) rfl ⟨by rw [HR.out]; rfl, ?_⟩
      exact (Below.refl _ _).alloc (Nat.le_refl _) _
    · have HR : Hid (bestT ⟨q, p, dv, lv, pages, ds, drawn, t, xs, total⟩ k = (ceilT (8192 * k) .nil t).nd?.map (fun y => (y.pg, y.ln))) := by unfold Hid; rw [HT.out, if_neg (by omega)]
      go_enter Try.func49, Try.ntmps49
      go_wp2_with fail
      refine (HF.out _ ((Below.refl _ _).alloc (Nat.le_refl _) _)).mono ?_
      rintro e w1 ⟨rfl, hb1⟩
      obtain ⟨kk, hkk⟩ := ceilVal_nd (ceilT (8192 * k) .nil t)
      rw [hkk]
      clear hkk
      generalize (ceilT (8192 * k) .nil t).nd?.map (fun y => (y.pg, y.ln)) = o at HR ⊢
      have hR1 : w1.heap[w.heap.size]? = some (.cells #[.int .i64 0, .int .i64 0] 77 (0, 0)) := (hb1.block _ (by simp)).trans (heap_alloc_new w _)
      have hB1 : Below w.heap.size w w1 := ((Below.refl _ w).alloc (Nat.le_refl _) _).trans (hb1.mono (by simp))
      have r0 : w1.cell? ⟨w.heap.size, 0, none⟩ = some (.int .i64 0) := cellOf hR1 0
      have r1 : w1.cell? ⟨w.heap.size, 1, none⟩ = some (.int .i64 0) := cellOf hR1 1
      have g0 : w1.frozen? ⟨w.heap.size, 0, none⟩ = false := freeOf hR1 0
      have g1 : w1.frozen? ⟨w.heap.size, 1, none⟩ = false := freeOf hR1 1
      have hlt1 := lt_of_block hR1
      generalize hbr : w.heap.size = br at *
      have HH := Lib.hid (And.intro hR1 (And.intro hB1 hbr))
      clear hR1 hB1 hbr hb1
      go_wp2
      obtain ⟨hR1, hB1, hbr⟩ := HH.out
      have E1 : ((w1.setCell ⟨br, 0, none⟩ (.int .i64 (runV o).1)).setCell ⟨br, 1, none⟩ (.int .i64 (runV o).2)).heap[br]? = some (.cells #[.int .i64 (runV o).1, .int .i64 (runV o).2] 77 (0, 0)) := block_set (block_set hR1 0 _) 1 _
      have E2 := block_alloc E1 (Obj.cells #[Value.int IntKind.i64 (runV o).fst, Value.int IntKind.i64 (runV o).snd] 77)
      have E3 : Below w.heap.size w (((w1.setCell ⟨br, 0, none⟩ (.int .i64 (runV o).1)).setCell ⟨br, 1, none⟩ (.int .i64 (runV o).2)).alloc (Obj.cells #[Value.int IntKind.i64 (runV o).fst, Value.int IntKind.i64 (runV o).snd] 77)) := by
        rw [hbr]
        exact ((hB1.setCell (p := ⟨br, 0, none⟩) (Nat.le_refl _) _).setCell (p := ⟨br, 1, none⟩) (Nat.le_refl _) _).alloc (by simp; omega) _
      generalize ((w1.setCell ⟨br, 0, none⟩ (.int .i64 (runV o).1)).setCell ⟨br, 1, none⟩ (.int .i64 (runV o).2)).alloc (Obj.cells #[Value.int IntKind.i64 (runV o).fst, Value.int IntKind.i64 (runV o).snd] 77) = WF at *
      have e0 := cellOf E2 0
      have e1 := cellOf E2 1
      refine bodyPost_ret (v := .tuple #[.agg #[.int .i64 (runV o).1, .int .i64 (runV o).2], .bool o.isSome]) (by simp [results, Try.results49, go_sem, e0, e1]) rfl ⟨by rw [HR.out]; rfl, E3⟩

set_option maxRecDepth 100000 in
set_option maxHeartbeats 2000000 in
theorem find_any' (s : RSt) (k : Int) (w : World) (h : RunsIs w s) (hp : s.pages ≤ 4096) :
    Calls Try.prog 30 #[.pointer (some ⟨s.q, 0, none⟩), .int .i64 k] w fun e w' => e = .returned (.tuple #[.int .i64 (runV (bestT s k)).1, .bool (bestT s k).isSome]) ∧ Below w.heap.size w w' := by
  have F : Calls Try.prog 49 #[.pointer (some ⟨s.q, 0, none⟩), .int .i64 k] w fun e w' => e = .returned (bestV (bestT s k)) ∧ Below w.heap.size w w' := best_any s k w h hp
  clear h hp
  generalize bestT s k = o at F ⊢
  have F := Lib.hid F
  obtain ⟨q, p, dv, lv, pages, ds, drawn, t, xs, total⟩ := s
  dsimp only at *
  go_enter Try.func30, Try.ntmps30
  go_wp2_with fail
  refine F.out.mono ?_
  rintro e w1 ⟨rfl, hb1⟩
  rw [bestV_lit]
  go_wp2_with fail
  go_ret2
  exact ⟨rfl, hb1.alloc hb1.size _⟩

end Go.Proofs.Ytdeebagjmhpocaa
