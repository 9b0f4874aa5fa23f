/- The reference's List. -/
import Derived.Test.YtdeebagjmhpocaaU
namespace Go.Proofs.Ytdeebagjmhpocaa
set_option linter.unusedSimpArgs false
set_option linter.unusedVariables false
open Go.RowKit

/-- One page more. -/
def stepR (out : List R2) (i : Nat) (b : Bool) : List R2 :=
  if b then (match out.getLast? with | some x => if x.1 + x.2 = i then out.dropLast ++ [(x.1, x.2 + 1)] else out ++ [((i : Int), 1)] | none => out ++ [((i : Int), 1)]) else out
/-- The runs of the first pages. -/
def runsUp (free : List Bool) : Nat → List R2
  | 0 => []
  | i + 1 => stepR (runsUp free i) i (free.getD i false)

/-- The runs of so many pages lie where they may. -/
structure Good (l : List R2) (i : Nat) : Prop where
  fits : ∀ x ∈ l, 0 ≤ x.1 ∧ 1 ≤ x.2 ∧ x.1 + x.2 ≤ i
  few : l.length ≤ i

theorem stepR_good {l : List R2} {i : Nat} (h : Good l i) (b : Bool) : Good (stepR l i b) (i + 1) := by
  have hw : Good l (i + 1) := ⟨fun x hx => by have := h.fits x hx; omega, by have := h.few; omega⟩
  have ha : Good (l ++ [((i : Int), 1)]) (i + 1) := ⟨fun x hx => by
    rcases List.mem_append.1 hx with hx | hx
    · exact hw.fits x hx
    · simp at hx; subst hx; exact ⟨by simp, by simp, by simp⟩, by have := h.few; simp; omega⟩
  unfold stepR
  split
  · split
    · rename_i x hx
      have hm : x ∈ l := List.mem_of_getLast? hx
      split
      · refine ⟨fun y hy => ?_, by have := h.few; have : 0 < l.length := List.length_pos_of_mem hm; simp; omega⟩
        rcases List.mem_append.1 hy with hy | hy
        · exact hw.fits y ((List.dropLast_sublist l).subset hy)
        · simp at hy; subst hy; have := h.fits x hm; simp only; omega
      · exact ha
    · exact ha
  · exact hw
theorem runsUp_good (free : List Bool) : ∀ i, Good (runsUp free i) i
  | 0 => ⟨fun x hx => by simp [runsUp] at hx, by simp [runsUp]⟩
  | i + 1 => stepR_good (runsUp_good free i) _

theorem runCells_setN (pre : List R2) (x : R2) (v : Int) : (runCells (pre ++ [x])).set (pre.length * 2 + 1) (.int .i64 v) = runCells (pre ++ [(x.1, v)]) := by
  rw [runCells_append, runCells_append, List.set_append, if_neg (by rw [runCells_length]; omega), runCells_length]
  simp [runCells]

theorem split_last {l : List R2} (h : l ≠ []) : ∃ pre x, l = pre ++ [x] := ⟨l.dropLast, l.getLast h, (List.dropLast_concat_getLast h).symm⟩

/-- As RowPost, and the row lies in new memory. -/
def RowPostN (n : Nat) (xs : List Value) (w : World) (e : Ending) (w' : World) : Prop := ∃ v, e = .returned v ∧ RowOf w' v n xs ∧ Below w.heap.size w w' ∧ ∀ g, v.ownBlock = some g → w.heap.size ≤ g

set_option maxRecDepth 100000 in
set_option maxHeartbeats 4000000 in
theorem refListN_any (s : FSt) (w : World) (h : RefIs w s) :
    Calls Try.prog 18 #[.pointer (some ⟨s.q, 0, none⟩)] w (RowPostN (runsUp s.free s.free.length).length (runCells (runsUp s.free s.free.length)) w) := by
  obtain ⟨i0, hi, hz0, hz1, hz2⟩ := info_parts Try.info77
  obtain ⟨q, fg, tv, dv, free, its, ds, n⟩ := s
  dsimp only at *
  obtain ⟨N, hN⟩ : ∃ N, N = free.length := ⟨_, rfl⟩
  have c0 : w.cell? ⟨q, 0, none⟩ = some (.slice (some ⟨fg, 0, none⟩) N N) := by rw [hN]; exact cellOf h.obj 0
  have hq := lt_of_block h.obj
  have hfg := lt_of_block h.free
  have hfew : N ≤ 5000 := by rw [hN]; exact h.fewFree
  have HF : Hid (∀ i b, free[i]? = some b → w.cell? ⟨fg, i, none⟩ = some (.bool b)) := fun i b hb => by rw [cellOf h.free, List.getElem?_toArray, List.getElem?_map, hb]; rfl
  have HNN := Lib.hid hN
  rw [← hN]
  clear h hN
  go_enter Try.func18, Try.ntmps18
  go_wp2
  go_loopg [3, 4] N (fun m v3 v4 wr => ∃ (i : Nat) (sa : Option Addr) (sc : Nat), v3 = .slice sa (runsUp free i).length sc ∧ v4 = .int .i64 i ∧ i ≤ N ∧ N - i ≤ m ∧ wr.ownsRow w.heap.size 77 2 (.slice sa (runsUp free i).length sc) (runsUp free i).length (runCells (runsUp free i)) ∧ Kept No w wr)
  case atStart => exact ⟨0, none, 0, rfl, rfl, Nat.zero_le _, Nat.le_refl _, World.ownsRow_nil _ _ _ _, Kept.refl No w⟩
  case round =>
    obtain ⟨i, sa, sc, rfl, rfl, hin, hm, hrow, hk⟩ := hrel
    have c0' := (hk.cell hq (fun h => h)).trans c0
    have hg := runsUp_good free i
    by_cases hlt : i < N
    · have hlt' : (i : Int) < N := by omega
      obtain ⟨b, hb⟩ : ∃ b, free[i]? = some b := ⟨_, List.getElem?_eq_getElem (by have := HNN.out; omega)⟩
      have cb := (hk.cell (i := i) hfg (fun h => h)).trans (HF.out i b hb)
      have hnext : Hid (runsUp free (i + 1) = stepR (runsUp free i) i b) := by unfold Hid; rw [runsUp, List.getD_eq_getElem?_getD, hb]; rfl
      have Hk := Lib.hid hk
      have Hm := Lib.hid hm
      clear hk hm hb
      cases b
      · have hst : Hid (runsUp free (i + 1) = runsUp free i) := by unfold Hid; rw [hnext.out]; simp [stepR]
        have Hrow := Lib.hid hrow
        clear hrow
        go_wp2
        go_roundg (N - (i + 1))
        case measure => have := Hm.out; omega
        case rel => exact ⟨i + 1, sa, sc, by rw [hst.out], by go_num, by omega, Nat.le_refl _, by rw [hst.out]; exact Hrow.out, Hk.out⟩
      · obtain ⟨l, hl⟩ : ∃ l, runsUp free i = l := ⟨_, rfl⟩
        rw [hl] at hrow hg hnext
        have hln := hg.few
        rw [hl]
        by_cases hnil : l = []
        · subst hnil
          have hst : Hid (runsUp free (i + 1) = [((i : Int), 1)]) := by unfold Hid; rw [hnext.out]; simp [stepR]
          have hA : Hid (∀ m, ((wr.alloc (.cells #[.int .i64 i, .int .i64 1] 77)).drewN m).ownsRow w.heap.size 77 2 (.slice sa 0 sc) 0 (runCells ([] : List R2))) := fun m => hrow.alloc _
          have hBk : Hid (∀ m, ((wr.alloc (.cells #[.int .i64 i, .int .i64 1] 77)).drewN m).heap[wr.heap.size]? = some (.cells #[.int .i64 i, .int .i64 1] 77 (0, 0))) := fun m => heap_alloc_new wr _
          have hKk : Hid (∀ m, Kept No w ((wr.alloc (.cells #[.int .i64 i, .int .i64 1] 77)).drewN m)) := fun m => (Hk.out.alloc _).drewN m
          clear hrow hl hln hg
          go_wp2_with fail
          go_quiet (fail)
          go_wp2_with (at_builtin; refine wpList_append_lies _ rfl _ _ 49 rfl w.heap.size 77 i0 _ 2 16 Try.underlying49 hi hz0 hz1 hz2 rfl (by decide) (.slice sa 0 sc) 0 (runCells ([] : List R2)) rfl (hA.out _) ⟨wr.heap.size, 0, none⟩ 1 1 [.int .i64 i, .int .i64 1] rfl rfl (World.news_of_block (cs := #[.int .i64 i, .int .i64 1]) (hBk.out _)) (by simp [Value.oneCell']) (by decide) (by unfold maxLen; omega) (by omega) (hKk.out _).size _ rfl ?_; intro g1 cap1 w1 hown hgrow hat hlt1)
          all_goals
            have HE := Lib.hid (And.intro hown ((hKk.out _).grown hgrow (fun k hk' => .inr ((hA.out 0).lt k hk').1)))
            clear hown hgrow hat hlt1
            go_roundg (N - (i + 1))
            case measure => have := Hm.out; omega
            case rel => exact ⟨i + 1, some ⟨g1, 0, none⟩, cap1, by rw [hst.out]; rfl, by go_num, by omega, Nat.le_refl _, by rw [hst.out]; exact HE.out.1, HE.out.2⟩
        · obtain ⟨pre, x, rfl⟩ := split_last hnil
          obtain ⟨x1, x2⟩ := x
          have hx := hg.fits (x1, x2) (by simp)
          dsimp only at hx
          obtain ⟨P, hP⟩ : ∃ P, pre.length = P := ⟨_, rfl⟩
          have hL : (pre ++ [(x1, x2)]).length = P + 1 := by simp [hP]
          rw [hL] at hrow hln ⊢
          obtain ⟨g, rfl⟩ : ∃ g, sa = some ⟨g, 0, none⟩ := by
            rcases hrow.2 with ⟨_, h0⟩ | ⟨g, cap, cur, h', _⟩
            · omega
            · cases h'; exact ⟨g, rfl⟩
          have hxx : (pre ++ [(x1, x2)])[P]? = some (x1, x2) := by simp [← hP]
          obtain ⟨k0, k1⟩ := ownsRow_cell hrow hxx
          have kf := hrow.frozenAt (P * 2 + 1)
          have HL := Lib.hid hL
          have hb0 : (0 : Int) ≤ P := by omega
          have hs1 : IntKind.i64.wrap (x1 + x2) = x1 + x2 := IntWalk.i64_in _ (by omega)
          have hPb : P + 2 ≤ 6000 := by omega
          have hP' := Lib.hid hP
          have Hin := Lib.hid hxx
          clear hxx hP hL hl
          by_cases hend : x1 + x2 = i
          · have hst : Hid (runsUp free (i + 1) = pre ++ [(x1, x2 + 1)]) := by unfold Hid; rw [hnext.out]; simp [stepR, hend]
            have hend' : (x1 + x2 == (i : Int)) = true := by simpa using hend
            have hstd := hrow.stored (P * 2 + 1) (.int .i64 (x2 + 1))
            have hset : (runCells (pre ++ [(x1, x2)])).set (P * 2 + 1) (.int .i64 (x2 + 1)) = runCells (pre ++ [(x1, x2 + 1)]) := by rw [← hP'.out]; exact runCells_setN pre (x1, x2) (x2 + 1)
            rw [hset] at hstd
            have HS : Hid (∀ m, ((wr.setCell ⟨g, P * 2 + 1, none⟩ (.int .i64 (x2 + 1))).drewN m).ownsRow w.heap.size 77 2 (.slice (some ⟨g, 0, none⟩) (P + 1) sc) (P + 1) (runCells (pre ++ [(x1, x2 + 1)]))) := fun m => hstd.1
            have HKS : Hid (∀ m, Kept No w ((wr.setCell ⟨g, P * 2 + 1, none⟩ (.int .i64 (x2 + 1))).drewN m)) := fun m => (Hk.out.grown hstd.2 (fun k hk' => .inr (by cases hk'; exact (hrow.lt g rfl).1))).drewN m
            have hL2 : Hid ((pre ++ [(x1, x2 + 1)]).length = P + 1) := by unfold Hid; simp [hP'.out]
            clear hrow hln hg hstd hset
            go_wp2_with fail
            go_quiet (fail)
            go_wp2_with fail
            go_roundg (N - (i + 1))
            case measure => have := Hm.out; omega
            case rel => exact ⟨i + 1, some ⟨g, 0, none⟩, sc, by rw [hst.out, hL2.out], by go_num, by omega, Nat.le_refl _, by rw [hst.out, hL2.out]; exact HS.out _, HKS.out _⟩
          · have hst : Hid (runsUp free (i + 1) = pre ++ [(x1, x2)] ++ [((i : Int), 1)]) := by unfold Hid; rw [hnext.out]; simp [stepR, hend]
            have hend' : (x1 + x2 == (i : Int)) = false := by simpa using hend
            have hA : Hid (∀ m, ((wr.alloc (.cells #[.int .i64 i, .int .i64 1] 77)).drewN m).ownsRow w.heap.size 77 2 (.slice (some ⟨g, 0, none⟩) (P + 1) sc) (P + 1) (runCells (pre ++ [(x1, x2)]))) := fun m => hrow.alloc _
            have hBk : Hid (∀ m, ((wr.alloc (.cells #[.int .i64 i, .int .i64 1] 77)).drewN m).heap[wr.heap.size]? = some (.cells #[.int .i64 i, .int .i64 1] 77 (0, 0))) := fun m => heap_alloc_new wr _
            have hKk : Hid (∀ m, Kept No w ((wr.alloc (.cells #[.int .i64 i, .int .i64 1] 77)).drewN m)) := fun m => (Hk.out.alloc _).drewN m
            clear hrow hln hg
            go_wp2_with fail
            go_quiet (fail)
            go_wp2_with (at_builtin; refine wpList_append_lies _ rfl _ _ 49 rfl w.heap.size 77 i0 _ 2 16 Try.underlying49 hi hz0 hz1 hz2 rfl (by decide) (.slice (some ⟨g, 0, none⟩) (P + 1) sc) (P + 1) (runCells (pre ++ [(x1, x2)])) rfl (hA.out _) ⟨wr.heap.size, 0, none⟩ 1 1 [.int .i64 i, .int .i64 1] rfl rfl (World.news_of_block (cs := #[.int .i64 i, .int .i64 1]) (hBk.out _)) (by simp [Value.oneCell']) (by decide) (by unfold maxLen; omega) (by omega) (hKk.out _).size _ rfl ?_; intro g1 cap1 w1 hown hgrow hat hlt1)
            all_goals
              have HE := Lib.hid (And.intro hown ((hKk.out _).grown hgrow (fun k hk' => .inr ((hA.out 0).lt k hk').1)))
              clear hown hgrow hat hlt1
              go_roundg (N - (i + 1))
              case measure => have := Hm.out; omega
              case rel => exact ⟨i + 1, some ⟨g1, 0, none⟩, cap1, by rw [hst.out, List.length_append, HL.out]; rfl, by go_num, by omega, Nat.le_refl _, by rw [hst.out, runCells_append, List.length_append, HL.out]; exact HE.out.1, HE.out.2⟩
    · have hlt' : ¬ (i : Int) < N := by omega
      obtain rfl : i = N := by omega
      have HP : Hid (∀ W, Kept No wr W → ∃ v, v = .slice sa (runsUp free i).length sc ∧ RowPostN (runsUp free i).length (runCells (runsUp free i)) w (.returned v) W) := fun W hW =>
        ⟨_, rfl, _, rfl, (RowOf.of_own hrow).kept hW (fun _ _ h => h), (hk.trans hW (fun _ h => h.elim)).no_below, fun g hg => (hrow.lt g hg).1⟩
      clear hrow hk hm
      go_wp2
      go_ret
      obtain ⟨v, rfl, h⟩ := HP.out _ (Kept.refl No _)
      exact h

theorem refList_any (s : FSt) (w : World) (h : RefIs w s) :
    Calls Try.prog 18 #[.pointer (some ⟨s.q, 0, none⟩)] w (RowPost 0 (runsUp s.free s.free.length).length (runCells (runsUp s.free s.free.length)) w) :=
  (refListN_any s w h).mono fun _ _ ⟨v, h1, h2, h3, _⟩ => ⟨v, h1, h2, h3⟩

end Go.Proofs.Ytdeebagjmhpocaa
