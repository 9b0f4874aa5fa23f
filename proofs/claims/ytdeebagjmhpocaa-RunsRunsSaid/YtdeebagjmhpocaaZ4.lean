/- The reference's runs: Total, best, Find. -/
import Derived.Test.YtdeebagjmhpocaaE4
import Derived.Deep.DeepCutAuto
namespace Go.Proofs.Ytdeebagjmhpocaa
set_option linter.unusedSimpArgs false
set_option linter.unusedVariables false
open Go.RowKit

set_option maxRecDepth 100000 in
set_option maxHeartbeats 2000000 in
theorem refTotal_any (s : FSt) (w : World) (h : RefIs w s) :
    Calls Try.prog 56 #[.pointer (some ⟨s.q, 0, none⟩)] w fun e w' => e = .returned (.int .i64 (cntUp s.free s.free.length : Nat)) ∧ w = w' := by
  obtain ⟨q, fg, tv, dv, free, its, ds, n⟩ := s
  dsimp only at *
  obtain ⟨N, hN⟩ : ∃ N, N = free.length := ⟨_, rfl⟩
  have c0 : w.cell? ⟨q, 0, none⟩ = some (.slice (some ⟨fg, 0, none⟩) N N) := by rw [hN]; exact cellOf h.obj 0
  have hfew : N ≤ 5000 := by rw [hN]; exact h.fewFree
  have HF : Hid (∀ i b, free[i]? = some b → w.cell? ⟨fg, i, none⟩ = some (.bool b)) := fun i b hb => by rw [cellOf h.free, List.getElem?_toArray, List.getElem?_map, hb]; rfl
  have HNN := Lib.hid hN
  rw [← hN]
  clear h hN
  go_enter Try.func56, Try.ntmps56
  go_wp2
  go_loopg [3, 4] N (fun m v3 v4 wr => ∃ (i : Nat), v3 = .int .i64 (cntUp free i : Nat) ∧ v4 = .int .i64 i ∧ i ≤ N ∧ N - i ≤ m ∧ w = wr)
  case atStart => exact ⟨0, rfl, rfl, Nat.zero_le _, Nat.le_refl _, rfl⟩
  case round =>
    obtain ⟨i, rfl, rfl, hin, hm, rfl⟩ := hrel
    have hcl := cntUp_le free i
    by_cases hlt : i < N
    · have hlt' : (i : Int) < N := by omega
      obtain ⟨b, hb⟩ : ∃ b, free[i]? = some b := ⟨_, List.getElem?_eq_getElem (by have := HNN.out; omega)⟩
      have cb := HF.out i b hb
      have hnext : Hid (cntUp free (i + 1) = cntUp free i + if b then 1 else 0) := by unfold Hid; rw [cntUp, List.getD_eq_getElem?_getD, hb]; rfl
      have Hm := Lib.hid hm
      clear hm hb
      generalize cntUp free i = c at hcl hnext ⊢
      cases b
      · go_wp2
        go_roundg (N - (i + 1))
        case measure => have := Hm.out; omega
        case rel => exact ⟨i + 1, by rw [hnext.out]; simp, by go_num, by omega, Nat.le_refl _, rfl⟩
      · go_wp2
        go_roundg (N - (i + 1))
        case measure => have := Hm.out; omega
        case rel => exact ⟨i + 1, by rw [hnext.out]; simp, by go_num, by omega, Nat.le_refl _, rfl⟩
    · have hlt' : ¬ (i : Int) < N := by omega
      obtain rfl : i = N := by omega
      clear hm
      go_wp2
      go_ret
      exact ⟨rfl, rfl⟩

theorem bestUpR_fit {k : Int} {l : List R2} {N : Nat} (hg : Good l N) (i : Nat) : 0 ≤ (runV (bestUpR k l i)).1 ∧ 0 ≤ (runV (bestUpR k l i)).2 ∧ (runV (bestUpR k l i)).1 + (runV (bestUpR k l i)).2 ≤ N := by
  have := bestUpR_spec k l i
  cases hb : bestUpR k l i with
  | none => simp [runV]
  | some x =>
    rw [hb] at this
    obtain ⟨⟨j, _, h, _⟩, _, _⟩ := this
    have := hg.fits x (List.mem_of_getElem? h)
    simp only [runV]; omega

set_option maxRecDepth 100000 in
set_option maxHeartbeats 4000000 in
theorem refBest_any (s : FSt) (k : Int) (w : World) (h : RefIs w s) :
    Calls Try.prog 51 #[.pointer (some ⟨s.q, 0, none⟩), .int .i64 k] w fun e w' => e = .returned (bestV (bestR k (runsUp s.free s.free.length))) ∧ Below w.heap.size w w' := by
  have hg := runsUp_good s.free s.free.length
  have F : ∀ W, Below w.heap.size w W → Calls Try.prog 18 #[.pointer (some ⟨s.q, 0, none⟩)] W (RowPost 0 (runsUp s.free s.free.length).length (runCells (runsUp s.free s.free.length)) W) := fun W hW => refList_any s W (h.below hW)
  have hfew := h.fewFree
  clear h
  obtain ⟨q, fg, tv, dv, free, its, ds, n⟩ := s
  dsimp only at *
  generalize free.length = M at *
  generalize runsUp free M = l at *
  have HF := Lib.hid F
  obtain ⟨N, hN⟩ : ∃ N, N = l.length := ⟨_, rfl⟩
  have hNM := hg.few
  rw [← hN] at hNM
  have HN := Lib.hid hN
  have Hg := Lib.hid hg
  clear F hg hN
  go_enter Try.func51, Try.ntmps51
  go_wp2_with fail
  refine (HF.out _ ((Below.refl _ _).alloc (Nat.le_refl _) _)).mono ?_
  rintro e w1 ⟨v, rfl, hrow, hb1⟩
  rw [← HN.out] at hrow
  have hR1 : w1.heap[w.heap.size]? = some (.cells #[.int .i64 0, .int .i64 0] 77 (0, 0)) := (hb1.block _ (by simp)).trans (heap_alloc_new w _)
  have hB1 : Below w.heap.size w w1 := ((Below.refl _ w).alloc (Nat.le_refl _) _).trans (hb1.mono (by simp))
  have hz1 : w.heap.size < w1.heap.size := lt_of_block hR1
  obtain ⟨va, vc, rfl⟩ : ∃ a c, v = .slice a N c := by
    rcases hrow with ⟨rfl, h0⟩ | ⟨g, c, rfl, _⟩
    · exact ⟨none, 0, by rw [h0]⟩
    · exact ⟨_, _, rfl⟩
  have HR := Lib.hid (And.intro hrow (And.intro hR1 hB1))
  clear hrow hR1 hB1 hb1
  go_wp2_with fail
  have hX : (w1.alloc (Obj.cells #[Value.int IntKind.i64 0, Value.int IntKind.i64 0] 77)).heap[w1.heap.size]? = some (.cells #[.int .i64 0, .int .i64 0] 77 (0, 0)) := heap_alloc_new w1 _
  have hkA : Kept No w1 (w1.alloc (Obj.cells #[Value.int IntKind.i64 0, Value.int IntKind.i64 0] 77)) := (Kept.refl No w1).alloc _
  have hgl : ∀ g o, va = some ⟨g, o, none⟩ → g < w1.heap.size := fun g o e => by
    rcases HR.out.1 with ⟨h1, _⟩ | ⟨g', c, h1, h2, _⟩
    · cases h1; cases e
    · cases h1; cases e; exact h2
  have hcell : Hid (∀ i x, l[i]? = some x → ∃ g, va = some ⟨g, 0, none⟩ ∧ g < w1.heap.size ∧ (∀ W, Kept (· = w1.heap.size) (w1.alloc (Obj.cells #[Value.int IntKind.i64 0, Value.int IntKind.i64 0] 77)) W → W.cell? ⟨g, i * 2, none⟩ = some (.int .i64 x.1) ∧ W.cell? ⟨g, i * 2 + 1, none⟩ = some (.int .i64 x.2))) := fun i x hx => by
    rcases HR.out.1 with ⟨h1, h0⟩ | ⟨g', c, h1, h2, h3⟩
    · have := (List.getElem?_eq_some_iff.1 hx).1; have := HN.out; omega
    · cases h1
      obtain ⟨k1, k2⟩ := runCells_get l i x hx
      have hlt : g' < (w1.alloc (Obj.cells #[Value.int IntKind.i64 0, Value.int IntKind.i64 0] 77)).heap.size := by simp; omega
      exact ⟨g', rfl, h2, fun W hW => ⟨(hW.cell hlt (by show ¬ g' = _; omega)).trans ((hkA.cell h2 (fun h => h)).trans (h3 _ _ k1)), (hW.cell hlt (by show ¬ g' = _; omega)).trans ((hkA.cell h2 (fun h => h)).trans (h3 _ _ k2))⟩⟩
  have HK := Lib.hid (And.intro hX hkA)
  have hz0 : w1.heap.size < (w1.alloc (Obj.cells #[Value.int IntKind.i64 0, Value.int IntKind.i64 0] 77)).heap.size := by simp
  clear hX hkA hgl
  generalize (w1.alloc (Obj.cells #[Value.int IntKind.i64 0, Value.int IntKind.i64 0] 77)) = W0 at *
  generalize hbx : w1.heap.size = bX at *
  have Hbx := Lib.hid hbx
  clear hbx
  have HE : Hid (∀ (o : Option R2) (wr : World), o = bestR k l → wr.heap[bX]? = some (.cells #[.int .i64 (runV o).1, .int .i64 (runV o).2] 77 (0, 0)) → Kept (· = bX) W0 wr →
      wr.cell? ⟨bX, 0, none⟩ = some (.int .i64 (runV o).1) ∧ wr.cell? ⟨bX, 1, none⟩ = some (.int .i64 (runV o).2) ∧ wr.heap[w.heap.size]? = some (.cells #[.int .i64 0, .int .i64 0] 77 (0, 0)) ∧ Below w.heap.size w wr) := fun o wr ho hb hk => by
    obtain ⟨_, hR1, hB1⟩ := HR.out
    obtain ⟨hX, hkA⟩ := HK.out
    have h1 := hk.at (hkA.at hR1 (fun h => h)) (by show ¬ w.heap.size = bX; omega)
    refine ⟨cellOf hb 0, cellOf hb 1, h1, ?_⟩
    have h2 : Kept (· = bX) w1 wr := (hkA.mono (fun _ h => h.elim)).trans hk (fun k h => .inl h)
    exact hB1.trans ((h2.below (B := w.heap.size) hB1.size (fun k h => by have : k = bX := h; omega)))
  by_cases h1 : k < 1
  · have hbr' : Hid (bestR k l = none) := by unfold Hid bestR; rw [if_pos h1]
    go_loopg [8, 9] 0 (fun m v8 v9 wr => v8 = .bool false ∧ v9 = .int .i64 0 ∧ W0 = wr)
    case atStart => exact ⟨rfl, rfl, rfl⟩
    case round =>
      obtain ⟨rfl, rfl, rfl⟩ := hrel
      have hbk := HK.out.1
      have hk := Kept.refl (· = bX) W0
      by_cases hN0 : (0 : Int) < N
      · obtain ⟨e0, e1, hres, hB⟩ := HE.out none W0 hbr'.out.symm hbk hk
        dsimp only [runV] at e0 e1
        have hbrl := lt_of_block hres
        have r0 : W0.cell? ⟨w.heap.size, 0, none⟩ = some (.int .i64 0) := cellOf hres 0
        have r1 : W0.cell? ⟨w.heap.size, 1, none⟩ = some (.int .i64 0) := cellOf hres 1
        have g0 : W0.frozen? ⟨w.heap.size, 0, none⟩ = false := freeOf hres 0
        have g1 : W0.frozen? ⟨w.heap.size, 1, none⟩ = false := freeOf hres 1
        have HQ := Lib.hid (And.intro hres hB)
        clear hres hB hbk hk
        go_wp2_with fail
        obtain ⟨hres, hB⟩ := HQ.out
        have E1 : ((W0.setCell ⟨w.heap.size, 0, none⟩ (.int .i64 0)).setCell ⟨w.heap.size, 1, none⟩ (.int .i64 0)).heap[w.heap.size]? = some (.cells #[.int .i64 0, .int .i64 0] 77 (0, 0)) := block_set (block_set hres 0 _) 1 _
        have E3 : Below w.heap.size w ((W0.setCell ⟨w.heap.size, 0, none⟩ (.int .i64 0)).setCell ⟨w.heap.size, 1, none⟩ (.int .i64 0)) := (hB.setCell (p := ⟨w.heap.size, 0, none⟩) (Nat.le_refl _) _).setCell (p := ⟨w.heap.size, 1, none⟩) (Nat.le_refl _) _
        generalize (W0.setCell ⟨w.heap.size, 0, none⟩ (.int .i64 0)).setCell ⟨w.heap.size, 1, none⟩ (.int .i64 0) = WF at *
        have c0 := cellOf E1 0
        have c1 := cellOf E1 1
        refine bodyPost_ret (v := .tuple #[.agg #[.int .i64 0, .int .i64 0], .bool false]) (by simp [results, Try.results51, go_sem, c0, c1]) rfl ⟨by rw [hbr'.out]; rfl, E3⟩
      · obtain ⟨e0, e1, hres, hB⟩ := HE.out none W0 hbr'.out.symm hbk hk
        dsimp only [runV] at e0 e1
        have hbrl := lt_of_block hres
        have r0 : W0.cell? ⟨w.heap.size, 0, none⟩ = some (.int .i64 0) := cellOf hres 0
        have r1 : W0.cell? ⟨w.heap.size, 1, none⟩ = some (.int .i64 0) := cellOf hres 1
        have g0 : W0.frozen? ⟨w.heap.size, 0, none⟩ = false := freeOf hres 0
        have g1 : W0.frozen? ⟨w.heap.size, 1, none⟩ = false := freeOf hres 1
        have HQ := Lib.hid (And.intro hres hB)
        clear hres hB hbk hk
        go_wp2_with fail
        obtain ⟨hres, hB⟩ := HQ.out
        have E1 : ((W0.setCell ⟨w.heap.size, 0, none⟩ (.int .i64 0)).setCell ⟨w.heap.size, 1, none⟩ (.int .i64 0)).heap[w.heap.size]? = some (.cells #[.int .i64 0, .int .i64 0] 77 (0, 0)) := block_set (block_set hres 0 _) 1 _
        have E3 : Below w.heap.size w ((W0.setCell ⟨w.heap.size, 0, none⟩ (.int .i64 0)).setCell ⟨w.heap.size, 1, none⟩ (.int .i64 0)) := (hB.setCell (p := ⟨w.heap.size, 0, none⟩) (Nat.le_refl _) _).setCell (p := ⟨w.heap.size, 1, none⟩) (Nat.le_refl _) _
        generalize (W0.setCell ⟨w.heap.size, 0, none⟩ (.int .i64 0)).setCell ⟨w.heap.size, 1, none⟩ (.int .i64 0) = WF at *
        have c0 := cellOf E1 0
        have c1 := cellOf E1 1
        refine bodyPost_ret (v := .tuple #[.agg #[.int .i64 0, .int .i64 0], .bool false]) (by simp [results, Try.results51, go_sem, c0, c1]) rfl ⟨by rw [hbr'.out]; rfl, E3⟩
  · have hbr : Hid (bestR k l = bestUpR k l N) := by unfold Hid bestR bestF; rw [if_neg h1, HN.out]
    have hk1 : 1 ≤ k := by omega
    go_loopg [8, 9] N (fun m v8 v9 wr => ∃ i : Nat, v8 = .bool (bestUpR k l i).isSome ∧ v9 = .int .i64 i ∧ i ≤ N ∧ N - i ≤ m ∧ wr.heap[bX]? = some (.cells #[.int .i64 (runV (bestUpR k l i)).1, .int .i64 (runV (bestUpR k l i)).2] 77 (0, 0)) ∧ Kept (· = bX) W0 wr)
    case atStart => exact ⟨0, rfl, rfl, Nat.zero_le _, Nat.le_refl _, HK.out.1, Kept.refl _ _⟩
    case round =>
      obtain ⟨i, rfl, rfl, hin, hm, hbk, hk⟩ := hrel
      have hfit := bestUpR_fit Hg.out (k := k) i
      by_cases hlt : i < N
      · have hlt' : (i : Int) < N := by omega
        obtain ⟨x, hx⟩ : ∃ x, l[i]? = some x := ⟨_, List.getElem?_eq_getElem (by have := HN.out; omega)⟩
        obtain ⟨g, rfl, hgl, hcc⟩ := hcell.out i x hx
        obtain ⟨a0, a1⟩ := hcc wr hk
        have hxf := Hg.out.fits x (List.mem_of_getElem? hx)
        have hnext : Hid (bestUpR k l (i + 1) = match bestUpR k l i with
          | none => if k ≤ x.2 then some x else none
          | some y => if k ≤ x.2 ∧ x.2 < y.2 then some x else some y) := by unfold Hid; rw [bestUpR, hx]; rfl
        obtain ⟨x1, x2⟩ := x
        dsimp only at *
        have Hm := Lib.hid hm
        have hgb : g ≠ bX := by omega
        clear hm hx hcc
        have hbkl := lt_of_block hbk
        have b0 : wr.cell? ⟨bX, 0, none⟩ = some (.int .i64 (runV (bestUpR k l i)).1) := cellOf hbk 0
        have b1 : wr.cell? ⟨bX, 1, none⟩ = some (.int .i64 (runV (bestUpR k l i)).2) := cellOf hbk 1
        have f0 : wr.frozen? ⟨bX, 0, none⟩ = false := freeOf hbk 0
        have f1 : wr.frozen? ⟨bX, 1, none⟩ = false := freeOf hbk 1
        have Hk := Lib.hid (And.intro hbk hk)
        clear hbk hk
        have HS : Hid (∀ m, (((wr.setCell ⟨bX, 0, none⟩ (.int .i64 x1)).setCell ⟨bX, 1, none⟩ (.int .i64 x2)).drewN m).heap[bX]? = some (.cells #[.int .i64 x1, .int .i64 x2] 77 (0, 0)) ∧ Kept (· = bX) W0 (((wr.setCell ⟨bX, 0, none⟩ (.int .i64 x1)).setCell ⟨bX, 1, none⟩ (.int .i64 x2)).drewN m)) := fun m =>
          ⟨block_set (block_set Hk.out.1 0 _) 1 _, ((Hk.out.2.setCell (p := ⟨bX, 0, none⟩) (.inl rfl) _).setCell (p := ⟨bX, 1, none⟩) (.inl rfl) _).drewN m⟩
        by_cases hkx : k ≤ x2
        · have d1 : decide (k ≤ x2) = true := by simpa using hkx
          cases ho : bestUpR k l i with
          | none =>
            rw [ho] at hnext b0 b1 hfit Hk
            have hs : Hid (bestUpR k l (i + 1) = some (x1, x2)) := by unfold Hid; rw [hnext.out]; exact if_pos hkx
            clear ho
            go_wp2_with fail
            go_quiet (fail)
            go_wp2_with fail
            go_roundg (N - (i + 1))
            case measure => have := Hm.out; omega
            case rel => exact ⟨i + 1, by rw [hs.out]; rfl, by go_num, by omega, Nat.le_refl _, by rw [hs.out]; exact (HS.out _).1, (HS.out _).2⟩
          | some y =>
            rw [ho] at hnext b0 b1 hfit Hk
            obtain ⟨y1, y2⟩ := y
            simp only [runV] at b0 b1 hfit
            clear ho
            by_cases hxy : x2 < y2
            · have hs : Hid (bestUpR k l (i + 1) = some (x1, x2)) := by unfold Hid; rw [hnext.out]; exact if_pos ⟨hkx, hxy⟩
              have d2 : decide (x2 < y2) = true := by simpa using hxy
              go_wp2_with fail
              go_quiet (fail)
              go_wp2_with fail
              go_roundg (N - (i + 1))
              case measure => have := Hm.out; omega
              case rel => exact ⟨i + 1, by rw [hs.out]; rfl, by go_num, by omega, Nat.le_refl _, by rw [hs.out]; exact (HS.out _).1, (HS.out _).2⟩
            · have hs : Hid (bestUpR k l (i + 1) = some (y1, y2)) := by unfold Hid; rw [hnext.out]; exact if_neg (fun h => hxy h.2)
              have d2 : decide (x2 < y2) = false := by simpa using hxy
              go_wp2_with fail
              go_quiet (fail)
              go_wp2_with fail
              go_roundg (N - (i + 1))
              case measure => have := Hm.out; omega
              case rel => exact ⟨i + 1, by rw [hs.out]; rfl, by go_num, by omega, Nat.le_refl _, by rw [hs.out]; exact Hk.out.1, Hk.out.2.drewN _⟩
        · have d1 : decide (k ≤ x2) = false := by simpa using hkx
          have hs : Hid (bestUpR k l (i + 1) = bestUpR k l i) := by
            unfold Hid; rw [hnext.out]
            cases bestUpR k l i with
            | none => exact if_neg hkx
            | some y => exact if_neg (fun h => hkx h.1)
          generalize bestUpR k l i = o at *
          obtain ⟨ob, hob⟩ : ∃ ob, o.isSome = ob := ⟨_, rfl⟩
          rw [hob]
          have Hob := Lib.hid hob
          clear hob hnext
          go_wp2_with fail
          go_quiet (fail)
          go_wp2_with fail
          go_roundg (N - (i + 1))
          case measure => have := Hm.out; omega
          case rel => exact ⟨i + 1, by rw [hs.out, Hob.out], by go_num, by omega, Nat.le_refl _, by rw [hs.out]; exact Hk.out.1, Hk.out.2.drewN _⟩
      · have hlt' : ¬ (i : Int) < N := by omega
        obtain rfl : i = N := by omega
        obtain ⟨o, ho⟩ : ∃ o, bestUpR k l i = o := ⟨_, rfl⟩
        rw [ho] at hbk hfit hbr
        rw [ho]
        obtain ⟨e0, e1, hres, hB⟩ := HE.out o wr hbr.out.symm hbk hk
        have hbrl := lt_of_block hres
        have r0 : wr.cell? ⟨w.heap.size, 0, none⟩ = some (.int .i64 0) := cellOf hres 0
        have r1 : wr.cell? ⟨w.heap.size, 1, none⟩ = some (.int .i64 0) := cellOf hres 1
        have g0 : wr.frozen? ⟨w.heap.size, 0, none⟩ = false := freeOf hres 0
        have g1 : wr.frozen? ⟨w.heap.size, 1, none⟩ = false := freeOf hres 1
        have HQ := Lib.hid (And.intro hres hB)
        clear hres hB hbk hk
        go_wp2_with fail
        obtain ⟨hres, hB⟩ := HQ.out
        have E1 : ((wr.setCell ⟨w.heap.size, 0, none⟩ (.int .i64 (runV o).1)).setCell ⟨w.heap.size, 1, none⟩ (.int .i64 (runV o).2)).heap[w.heap.size]? = some (.cells #[.int .i64 (runV o).1, .int .i64 (runV o).2] 77 (0, 0)) := block_set (block_set hres 0 _) 1 _
        have E3 : Below w.heap.size w ((wr.setCell ⟨w.heap.size, 0, none⟩ (.int .i64 (runV o).1)).setCell ⟨w.heap.size, 1, none⟩ (.int .i64 (runV o).2)) := (hB.setCell (p := ⟨w.heap.size, 0, none⟩) (Nat.le_refl _) _).setCell (p := ⟨w.heap.size, 1, none⟩) (Nat.le_refl _) _
        generalize (wr.setCell ⟨w.heap.size, 0, none⟩ (.int .i64 (runV o).1)).setCell ⟨w.heap.size, 1, none⟩ (.int .i64 (runV o).2) = WF at *
        have c0 := cellOf E1 0
        have c1 := cellOf E1 1
        refine bodyPost_ret (v := .tuple #[.agg #[.int .i64 (runV o).1, .int .i64 (runV o).2], .bool o.isSome]) (by simp [results, Try.results51, go_sem, c0, c1]) rfl ⟨by rw [hbr.out]; rfl, E3⟩

end Go.Proofs.Ytdeebagjmhpocaa
