/- The reference's List. -/
import Derived.Test.YtffafkmmfaaobaaGreatWr19
import Derived.Test.YtffafkmmfaaobaaGreatWr12
namespace Go.Proofs.YtffafkmmfaaobaaGreat
set_option linter.unusedSimpArgs false
set_option linter.unusedVariables false
open Go.RowKit

/-- One page more. -/
def stepR (out : List R2) (i : Nat) (b : Bool) : List R2 :=
  if b then (match out.getLast? with | some x => if x.1 + x.2 = i then out.dropLast ++ [(x.1, x.2 + 1)] else out ++ [((i : Int), 1)] | none => out ++ [((i : Int), 1)]) else out
/-- The runs of the first pages. -/
def runsUp (free : List Bool) : Nat → List R2
  | 0 => []
  | i + 1 => stepR (runsUp free i) i (free.getD i false)

/-- The runs of so many pages lie where they may. -/
structure Good (l : List R2) (i : Nat) : Prop where
  fits : ∀ x ∈ l, 0 ≤ x.1 ∧ 1 ≤ x.2 ∧ x.1 + x.2 ≤ i
  few : l.length ≤ i

theorem stepR_good {l : List R2} {i : Nat} (h : Good l i) (b : Bool) : Good (stepR l i b) (i + 1) := by
  have hw : Good l (i + 1) := ⟨fun x hx => by have := h.fits x hx; omega, by have := h.few; omega⟩
  have ha : Good (l ++ [((i : Int), 1)]) (i + 1) := ⟨fun x hx => by
    rcases List.mem_append.1 hx with hx | hx
    · exact hw.fits x hx
    · simp at hx; subst hx; exact ⟨by simp, by simp, by simp⟩, by have := h.few; simp; omega⟩
  unfold stepR
  split
  · split
    · rename_i x hx
      have hm : x ∈ l := List.mem_of_getLast? hx
      split
      · refine ⟨fun y hy => ?_, by have := h.few; have : 0 < l.length := List.length_pos_of_mem hm; simp; omega⟩
        rcases List.mem_append.1 hy with hy | hy
        · exact hw.fits y ((List.dropLast_sublist l).subset hy)
        · simp at hy; subst hy; have := h.fits x hm; simp only; omega
      · exact ha
    · exact ha
  · exact hw
theorem runsUp_good (free : List Bool) : ∀ i, Good (runsUp free i) i
  | 0 => ⟨fun x hx => by simp [runsUp] at hx, by simp [runsUp]⟩
  | i + 1 => stepR_good (runsUp_good free i) _

theorem runCells_setN (pre : List R2) (x : R2) (v : Int) : (runCells (pre ++ [x])).set (pre.length * 2 + 1) (.int .i64 v) = runCells (pre ++ [(x.1, v)]) := by
  rw [runCells_append, runCells_append, List.set_append, if_neg (by rw [runCells_length]; omega), runCells_length]
  simp [runCells]

theorem split_last {l : List R2} (h : l ≠ []) : ∃ pre x, l = pre ++ [x] := ⟨l.dropLast, l.getLast h, (List.dropLast_concat_getLast h).symm⟩

/-- As RowPost, and the row lies in new memory. -/
def RowPostN (n : Nat) (xs : List Value) (w : World) (e : Ending) (w' : World) : Prop := ∃ v, e = .returned v ∧ RowOf w' v n xs ∧ Below w.heap.size w w' ∧ ∀ g, v.ownBlock = some g → w.heap.size ≤ g

set_option maxRecDepth 100000 in
set_option maxHeartbeats 4000000 in
theorem refListN_any (s : FSt) (w : World) (h : RefIs w s) :
    Calls Tryz.prog 73 #[.pointer (some ⟨s.q, 0, none⟩)] w (RowPostN (runsUp s.free s.free.length).length (runCells (runsUp s.free s.free.length)) w) := by
  obtain ⟨i0, hi, hz0, hz1, hz2⟩ := info_parts Tryz.info189
  obtain ⟨q, fg, tv, dv, free, its, ds, n⟩ := s
  dsimp only at *
  obtain ⟨N, hN⟩ : ∃ N, N = free.length := ⟨_, rfl⟩
  have c0 : w.cell? ⟨q, 0, none⟩ = some (.slice (some ⟨fg, 0, none⟩) N N) := by rw [hN]; exact cellOf h.obj 0
  have hq := lt_of_block h.obj
  have hfg := lt_of_block h.free
  have hfew : N ≤ 5000 := by rw [hN]; exact h.fewFree
  have HF : Hid (∀ i b, free[i]? = some b → w.cell? ⟨fg, i, none⟩ = some (.bool b)) := fun i b hb => by rw [cellOf h.free, List.getElem?_toArray, List.getElem?_map, hb]; rfl
  have HNN := Lib.hid hN
  rw [← hN]
  clear h hN
  go_enter Tryz.func73, Tryz.ntmps73
  go_wp2
  go_loopg [3, 4] N (fun m v3 v4 wr => ∃ (i : Nat) (sa : Option Addr) (sc : Nat), v3 = .slice sa (runsUp free i).length sc ∧ v4 = .int .i64 i ∧ i ≤ N ∧ N - i ≤ m ∧ wr.ownsRow w.heap.size 189 2 (.slice sa (runsUp free i).length sc) (runsUp free i).length (runCells (runsUp free i)) ∧ Kept No w wr)
  case atStart => exact ⟨0, none, 0, rfl, rfl, Nat.zero_le _, Nat.le_refl _, World.ownsRow_nil _ _ _ _, Kept.refl No w⟩
  case round =>
    obtain ⟨i, sa, sc, rfl, rfl, hin, hm, hrow, hk⟩ := hrel
    have c0' := (hk.cell hq (fun h => h)).trans c0
    have hg := runsUp_good free i
    by_cases hlt : i < N
    · have hlt' : (i : Int) < N := by omega
      obtain ⟨b, hb⟩ : ∃ b, free[i]? = some b := ⟨_, List.getElem?_eq_getElem (by have := HNN.out; omega)⟩
      have cb := (hk.cell (i := i) hfg (fun h => h)).trans (HF.out i b hb)
      have hnext : Hid (runsUp free (i + 1) = stepR (runsUp free i) i b) := by unfold Hid; rw [runsUp, List.getD_eq_getElem?_getD, hb]; rfl
      have Hk := Lib.hid hk
      have Hm := Lib.hid hm
      clear hk hm hb
      cases b
      · have hst : Hid (runsUp free (i + 1) = runsUp free i) := by unfold Hid; rw [hnext.out]; simp [stepR]
        have Hrow := Lib.hid hrow
        clear hrow
        go_wp2
        go_roundg (N - (i + 1))
        case measure => have := Hm.out; omega
        case rel => exact ⟨i + 1, sa, sc, by rw [hst.out], by go_num, by omega, Nat.le_refl _, by rw [hst.out]; exact Hrow.out, Hk.out⟩
      · obtain ⟨l, hl⟩ : ∃ l, runsUp free i = l := ⟨_, rfl⟩
        rw [hl] at hrow hg hnext
        have hln := hg.few
        rw [hl]
        by_cases hnil : l = []
        · subst hnil
          have hst : Hid (runsUp free (i + 1) = [((i : Int), 1)]) := by unfold Hid; rw [hnext.out]; simp [stepR]
          have hA : Hid (∀ m, ((wr.alloc (.cells #[.int .i64 i, .int .i64 1] 189)).drewN m).ownsRow w.heap.size 189 2 (.slice sa 0 sc) 0 (runCells ([] : List R2))) := fun m => hrow.alloc _
          have hBk : Hid (∀ m, ((wr.alloc (.cells #[.int .i64 i, .int .i64 1] 189)).drewN m).heap[wr.heap.size]? = some (.cells #[.int .i64 i, .int .i64 1] 189 (0, 0))) := fun m => heap_alloc_new wr _
          have hKk : Hid (∀ m, Kept No w ((wr.alloc (.cells #[.int .i64 i, .int .i64 1] 189)).drewN m)) := fun m => (Hk.out.alloc _).drewN m
          clear hrow hl hln hg
          go_wp2_with fail
          go_quiet (fail)
          go_wp2_with (at_builtin; refine wpList_append_lies _ rfl _ _ 119 rfl w.heap.size 189 i0 _ 2 16 Tryz.underlying119 hi hz0 hz1 hz2 rfl (by decide) (.slice sa 0 sc) 0 (runCells ([] : List R2)) rfl (hA.out _) ⟨wr.heap.size, 0, none⟩ 1 1 [.int .i64 i, .int .i64 1] rfl rfl (World.news_of_block (cs := #[.int .i64 i, .int .i64 1]) (hBk.out _)) (by simp [Value.oneCell']) (by decide) (by unfold maxLen; omega) (by omega) (hKk.out _).size _ rfl ?_; intro g1 cap1 w1 hown hgrow hat hlt1)
          all_goals
            have HE := Lib.hid (And.intro hown ((hKk.out _).grown hgrow (fun k hk' => .inr ((hA.out 0).lt k hk').1)))
            clear hown hgrow hat hlt1
            go_roundg (N - (i + 1))
            case measure => have := Hm.out; omega
            case rel => exact ⟨i + 1, some ⟨g1, 0, none⟩, cap1, by rw [hst.out]; rfl, by go_num, by omega, Nat.le_refl _, by rw [hst.out]; exact HE.out.1, HE.out.2⟩
        · obtain ⟨pre, x, rfl⟩ := split_last hnil
          obtain ⟨x1, x2⟩ := x
          have hx := hg.fits (x1, x2) (by simp)
          dsimp only at hx
          obtain ⟨P, hP⟩ : ∃ P, pre.length = P := ⟨_, rfl⟩
          have hL : (pre ++ [(x1, x2)]).length = P + 1 := by simp [hP]
          rw [hL] at hrow hln ⊢
          obtain ⟨g, rfl⟩ : ∃ g, sa = some ⟨g, 0, none⟩ := by
            rcases hrow.2 with ⟨_, h0⟩ | ⟨g, cap, cur, h', _⟩
            · omega
            · cases h'; exact ⟨g, rfl⟩
          have hxx : (pre ++ [(x1, x2)])[P]? = some (x1, x2) := by simp [← hP]
          obtain ⟨k0, k1⟩ := ownsRow_cell hrow hxx
          have kf := hrow.frozenAt (P * 2 + 1)
          have HL := Lib.hid hL
          have hb0 : (0 : Int) ≤ P := by omega
          have hs1 : IntKind.i64.wrap (x1 + x2) = x1 + x2 := IntWalk.i64_in _ (by omega)
          have hPb : P + 2 ≤ 6000 := by omega
          have hP' := Lib.hid hP
          have Hin := Lib.hid hxx
          clear hxx hP hL hl
          by_cases hend : x1 + x2 = i
          · have hst : Hid (runsUp free (i + 1) = pre ++ [(x1, x2 + 1)]) := by unfold Hid; rw [hnext.out]; simp [stepR, hend]
            have hend' : (x1 + x2 == (i : Int)) = true := by simpa using hend
            have hstd := hrow.stored (P * 2 + 1) (.int .i64 (x2 + 1))
            have hset : (runCells (pre ++ [(x1, x2)])).set (P * 2 + 1) (.int .i64 (x2 + 1)) = runCells (pre ++ [(x1, x2 + 1)]) := by rw [← hP'.out]; exact runCells_setN pre (x1, x2) (x2 + 1)
            rw [hset] at hstd
            have HS : Hid (∀ m, ((wr.setCell ⟨g, P * 2 + 1, none⟩ (.int .i64 (x2 + 1))).drewN m).ownsRow w.heap.size 189 2 (.slice (some ⟨g, 0, none⟩) (P + 1) sc) (P + 1) (runCells (pre ++ [(x1, x2 + 1)]))) := fun m => hstd.1
            have HKS : Hid (∀ m, Kept No w ((wr.setCell ⟨g, P * 2 + 1, none⟩ (.int .i64 (x2 + 1))).drewN m)) := fun m => (Hk.out.grown hstd.2 (fun k hk' => .inr (by cases hk'; exact (hrow.lt g rfl).1))).drewN m
            have hL2 : Hid ((pre ++ [(x1, x2 + 1)]).length = P + 1) := by unfold Hid; simp [hP'.out]
            clear hrow hln hg hstd hset
            go_wp2_with fail
            go_quiet (fail)
            go_wp2_with fail
            go_roundg (N - (i + 1))
            case measure => have := Hm.out; omega
            case rel => exact ⟨i + 1, some ⟨g, 0, none⟩, sc, by rw [hst.out, hL2.out], by go_num, by omega, Nat.le_refl _, by rw [hst.out, hL2.out]; exact HS.out _, HKS.out _⟩
          · have hst : Hid (runsUp free (i + 1) = pre ++ [(x1, x2)] ++ [((i : Int), 1)]) := by unfold Hid; rw [hnext.out]; simp [stepR, hend]
            have hend' : (x1 + x2 == (i : Int)) = false := by simpa using hend
            have hA : Hid (∀ m, ((wr.alloc (.cells #[.int .i64 i, .int .i64 1] 189)).drewN m).ownsRow w.heap.size 189 2 (.slice (some ⟨g, 0, none⟩) (P + 1) sc) (P + 1) (runCells (pre ++ [(x1, x2)]))) := fun m => hrow.alloc _
            have hBk : Hid (∀ m, ((wr.alloc (.cells #[.int .i64 i, .int .i64 1] 189)).drewN m).heap[wr.heap.size]? = some (.cells #[.int .i64 i, .int .i64 1] 189 (0, 0))) := fun m => heap_alloc_new wr _
            have hKk : Hid (∀ m, Kept No w ((wr.alloc (.cells #[.int .i64 i, .int .i64 1] 189)).drewN m)) := fun m => (Hk.out.alloc _).drewN m
            clear hrow hln hg
            go_wp2_with fail
            go_quiet (fail)
            go_wp2_with (at_builtin; refine wpList_append_lies _ rfl _ _ 119 rfl w.heap.size 189 i0 _ 2 16 Tryz.underlying119 hi hz0 hz1 hz2 rfl (by decide) (.slice (some ⟨g, 0, none⟩) (P + 1) sc) (P + 1) (runCells (pre ++ [(x1, x2)])) rfl (hA.out _) ⟨wr.heap.size, 0, none⟩ 1 1 [.int .i64 i, .int .i64 1] rfl rfl (World.news_of_block (cs := #[.int .i64 i, .int .i64 1]) (hBk.out _)) (by simp [Value.oneCell']) (by decide) (by unfold maxLen; omega) (by omega) (hKk.out _).size _ rfl ?_; intro g1 cap1 w1 hown hgrow hat hlt1)
            all_goals
              have HE := Lib.hid (And.intro hown ((hKk.out _).grown hgrow (fun k hk' => .inr ((hA.out 0).lt k hk').1)))
              clear hown hgrow hat hlt1
              go_roundg (N - (i + 1))
              case measure => have := Hm.out; omega
              case rel => exact ⟨i + 1, some ⟨g1, 0, none⟩, cap1, by rw [hst.out, List.length_append, HL.out]; rfl, by go_num, by omega, Nat.le_refl _, by rw [hst.out, runCells_append, List.length_append, HL.out]; exact HE.out.1, HE.out.2⟩
    · have hlt' : ¬ (i : Int) < N := by omega
      obtain rfl : i = N := by omega
      have HP : Hid (∀ W, Kept No wr W → ∃ v, v = .slice sa (runsUp free i).length sc ∧ RowPostN (runsUp free i).length (runCells (runsUp free i)) w (.returned v) W) := fun W hW =>
        ⟨_, rfl, _, rfl, (RowOf.of_own hrow).kept hW (fun _ _ h => h), (hk.trans hW (fun _ h => h.elim)).no_below, fun g hg => (hrow.lt g hg).1⟩
      clear hrow hk hm
      go_wp2
      go_ret
      obtain ⟨v, rfl, h⟩ := HP.out _ (Kept.refl No _)
      exact h

theorem refList_any (s : FSt) (w : World) (h : RefIs w s) :
    Calls Tryz.prog 73 #[.pointer (some ⟨s.q, 0, none⟩)] w (RowPost 0 (runsUp s.free s.free.length).length (runCells (runsUp s.free s.free.length)) w) :=
  (refListN_any s w h).mono fun _ _ ⟨v, h1, h2, h3, _⟩ => ⟨v, h1, h2, h3⟩

end Go.Proofs.YtffafkmmfaaobaaGreat

namespace Go.Proofs.YtffafkmmfaaobaaGreat
set_option linter.unusedSimpArgs false
set_option linter.unusedVariables false
open Go.RowKit

set_option maxRecDepth 100000 in
set_option maxHeartbeats 2000000 in
theorem setup9_any (a b : Int) (w : World) (ha : 0 ≤ a ∧ a ≤ 255) (hb : 0 ≤ b ∧ b ≤ 255) :
    Calls Tryz.prog 9 #[.int .u8 a, .int .u8 b, .int .i64 9, .slice none 0 0] w fun e w' => e = .returned (.agg #[.int .i64 (1 + a % 9), .int .i64 (1 + b % 6), .slice none 0 0]) ∧ Below w.heap.size w w' := by
  obtain ⟨ha0, ha1⟩ := ha
  obtain ⟨hb0, hb1⟩ := hb
  go_enter Tryz.func9, Tryz.ntmps9
  go_wp2_with fail
  go_loopg [10] 0 (fun m v10 wr => v10 = .int .i64 0 ∧ wr = (w.alloc (.cells #[.int .i64 0, .int .i64 0, .slice none 0 0] 25)).alloc (.cells #[.int .i64 (1 + a % 9), .int .i64 (1 + b % 6), .slice none 0 0] 25))
  case atStart => exact ⟨rfl, rfl⟩
  case round =>
    obtain ⟨rfl, rfl⟩ := hrel
    go_wp2_with fail
    refine bodyPost_ret (v := .agg #[.int .i64 (1 + a % 9), .int .i64 (1 + b % 6), .slice none 0 0]) (by simp [results, Tryz.results9, go_sem]) rfl ⟨rfl, ?_⟩
    repeat (first | exact Below.refl _ _ | refine Below.setCell ?_ (by simp) _ | refine Below.alloc ?_ (by simp) _)

/-- A row of small numbers that came in. -/
def Row8 (w : World) (a : Option Addr) (len cap : Nat) (zs : List Int) : Prop :=
  (a = none ∧ len = 0 ∧ cap = 0 ∧ zs = []) ∨ ∃ x, a = some x ∧ len ≤ cap ∧ cap ≤ maxLen ∧ zs.length = cap ∧ (∀ i, i < zs.length → w.cell? (x.add i) = some (.int .u8 (zs.getD i 0))) ∧ (∀ z ∈ zs, 0 ≤ z ∧ z ≤ 255) ∧ (0 < cap → x.block < w.heap.size)

theorem Row8.below {w w' : World} {a : Option Addr} {len cap : Nat} {zs : List Int} {B : Nat} (h : Row8 w a len cap zs) (hb : Below B w w') (hB : w.heap.size ≤ B) : Row8 w' a len cap zs := by
  rcases h with h | ⟨x, h1, h2, h3, h4, h5, h6, h7⟩
  · exact .inl h
  · refine .inr ⟨x, h1, h2, h3, h4, fun i hi => ?_, h6, fun h => Nat.lt_of_lt_of_le (h7 h) hb.size⟩
    rw [← h5 i hi]
    exact World.cell?_of_block (w := w) (hb.block _ (by rw [add_block]; exact Nat.lt_of_lt_of_le (h7 (by omega)) hB))
theorem Row8.get {w : World} {a : Option Addr} {len cap : Nat} {zs : List Int} (h : Row8 w a len cap zs) {i : Nat} (hi : i < len) : ∃ x, a = some x ∧ w.cell? (x.add i) = some (.int .u8 (zs.getD i 0)) ∧ 0 ≤ zs.getD i 0 ∧ zs.getD i 0 ≤ 255 ∧ len ≤ maxLen ∧ x.block < w.heap.size := by
  rcases h with ⟨rfl, rfl, _⟩ | ⟨x, rfl, h2, h3, h4, h5, h6, h7⟩
  · omega
  · have hz : i < zs.length := by omega
    refine ⟨x, rfl, h5 i hz, ?_⟩
    have := h6 (zs.getD i 0) (by rw [List.getD_eq_getElem?_getD, List.getElem?_eq_getElem hz]; exact List.getElem_mem hz)
    exact ⟨this.1, this.2, by omega, h7 (by omega)⟩

def WhoPost (n : Int) (w : World) (e : Ending) (w' : World) : Prop := ∃ t : Int, e = .returned (.int .i64 t) ∧ 0 ≤ t ∧ t < n ∧ w = w'

set_option maxRecDepth 100000 in
set_option maxHeartbeats 2000000 in
theorem who_any {a : Option Addr} {len cap : Nat} {zs : List Int} (w : World) (h : Row8 w a len cap zs) (i : Nat) (hi : i < 100000) (n : Int) (hn : 1 ≤ n) (hn2 : n ≤ 100) :
    Calls Tryz.prog 12 #[.slice a len cap, .int .i64 i, .int .i64 n] w (WhoPost n w) := by
  by_cases hlt : i < len
  · obtain ⟨x, rfl, hc, h0, h1, hm, _⟩ := h.get hlt
    have hlt' : (i : Int) < len := by omega
    have hi0 : (0 : Int) ≤ i := by omega
    obtain ⟨z, hz⟩ : ∃ z, zs.getD i 0 = z := ⟨_, rfl⟩
    rw [hz] at hc h0 h1
    have hnz : ¬ n = 0 := by omega
    have hn0 : 0 ≤ n := by omega
    have b1 := Int.emod_nonneg z hnz
    have b2 := Int.emod_lt_of_pos z (show 0 < n by omega)
    have hl63 : (len : Int) ≤ 9223372036854775807 := by unfold maxLen at hm; omega
    clear hz h hm
    go_enter Tryz.func12, Tryz.ntmps12
    go_wp2_with fail
    go_ret
    exact ⟨z % n, rfl, b1, b2, rfl⟩
  · have hlt' : ¬ (i : Int) < len := by omega
    have hnz : ¬ n = 0 := by omega
    have hn0 : 0 ≤ n := by omega
    have b1 := Int.emod_nonneg (i : Int) hnz
    have b2 := Int.emod_lt_of_pos (i : Int) (show 0 < n by omega)
    clear h
    go_enter Tryz.func12, Tryz.ntmps12
    go_wp2_with fail
    go_ret
    exact ⟨(i : Int) % n, rfl, b1, b2, rfl⟩
end Go.Proofs.YtffafkmmfaaobaaGreat

namespace Go.Proofs.YtffafkmmfaaobaaGreat
set_option linter.unusedSimpArgs false
set_option linter.unusedVariables false
open Go.RowKit

/-- The two arenas, with the same words. -/
structure Twin (w : World) (a s g b s' g' : Nat) (p t : Int) (qv qv' : Value) (ws : List Int) (n : Int) : Prop where
  ar : ArenaAt w a p t s qv
  me : MemAt w b p t s' qv'
  st : ∃ k x o y ct, StoreIs 187 w s g ws k x o y ct ∧ 0 ≤ ct ∧ ct ≤ n
  st' : ∃ k x o y ct, StoreIs 110 w s' g' ws k x o y ct ∧ 0 ≤ ct ∧ ct ≤ n
  gg : g ≠ g'

section
variable {w w' : World} {a s g b s' g' : Nat} {p t : Int} {qv qv' : Value} {ws : List Int} {n : Int} {F : Nat → Prop}

theorem Twin.kept (h : Twin w a s g b s' g' p t qv qv' ws n) (hk : Kept F w w') (ha : ¬ F a) (hs : ¬ F s) (hg : ¬ F g) (hb : ¬ F b) (hs' : ¬ F s') (hg' : ¬ F g') : Twin w' a s g b s' g' p t qv qv' ws n := by
  obtain ⟨k, x, o, y, ct, h1, h2⟩ := h.st
  obtain ⟨k', x', o', y', ct', h1', h2'⟩ := h.st'
  exact ⟨hk.at h.ar ha, hk.at h.me hb, ⟨k, x, o, y, ct, h1.kept hk hs hg, h2⟩, ⟨k', x', o', y', ct', h1'.kept hk hs' hg', h2'⟩, h.gg⟩

/-- Blocks of both stores. -/
def SG2 (s g s' g' : Nat) : Nat → Prop := fun k => SG s g k ∨ SG s' g' k

set_option maxRecDepth 100000 in
set_option maxHeartbeats 4000000 in
theorem pput_any (h : Twin w a s g b s' g' p t qv qv' ws n) (i : Nat) (hi : i < ws.length) (v : Int) (hn : n < 900000) (hlen : ws.length ≤ 100000) :
    Calls Tryz.prog 11 #[.pointer (some ⟨a, 0, none⟩), .pointer (some ⟨b, 0, none⟩), .int .i64 (i : Int), .int .u64 v] w fun e w' => e = .returned (.bool true) ∧ Twin w' a s g b s' g' p t qv qv' (ws.set i v) (n + 1) ∧ Kept (SG2 s g s' g') w w' := by
  obtain ⟨k, x, o, y, ct, h1, h2, h3⟩ := h.st
  obtain ⟨k', x', o', y', ct', h1', h2', h3'⟩ := h.st'
  have hbs : b ≠ s := type_ne' h.me h1.obj (by decide)
  have hbg : b ≠ g := type_ne' h.me h1.row (by decide)
  have hss : s' ≠ s := type_ne' h1'.obj h1.obj (by decide)
  have hsg : s' ≠ g := type_ne' h1'.obj h1.row (by decide)
  have hgs : g' ≠ s := type_ne' h1'.row h1.obj (by decide)
  have has : a ≠ s := type_ne' h.ar h1.obj (by decide)
  have hag : a ≠ g := type_ne' h.ar h1.row (by decide)
  have has' : a ≠ s' := type_ne' h.ar h1'.obj (by decide)
  have hag' : a ≠ g' := type_ne' h.ar h1'.row (by decide)
  have hbs' : b ≠ s' := type_ne' h.me h1'.obj (by decide)
  have hbg' : b ≠ g' := type_ne' h.me h1'.row (by decide)
  have hs_s' : s ≠ s' := hss.symm
  have hgs' : g ≠ s' := hsg.symm
  have hsg2 : s ≠ g' := hgs.symm
  have hgg := h.gg
  have lb : b < w.heap.size := lt_of_block h.me
  have ls : s' < w.heap.size := lt_of_block h1'.obj
  have b0 : w.cell? ⟨b, 0, none⟩ = some (.pointer (some ⟨s', 0, none⟩)) := cellOf h.me 0
  have s0 : w.cell? ⟨s', 0, none⟩ = some (.slice (some ⟨g', 0, none⟩) ws.length ws.length) := cellOf h1'.obj 0
  have a2 : w.cell? ⟨a, 2, none⟩ = some (.pointer (some ⟨s, 0, none⟩)) := cellOf h.ar 2
  have hi0 : ¬ (i : Int) < 0 := by omega
  have hi1 : ¬ (i : Int) ≥ ws.length := by omega
  have hi1' : (i : Int) < ws.length := by omega
  have HP := Lib.hid (put_acc h1 v i hi ⟨h2, by omega⟩)
  have HH := Lib.hid h
  have H1 := Lib.hid h1
  have H1' := Lib.hid h1'
  have HN := Lib.hid (And.intro h2 (And.intro h3 (And.intro h2' h3')))
  clear h h1 h1' h2 h3 h2' h3'
  have HA := Lib.hid (storeOf_any a2)
  go_enter Tryz.func11, Tryz.ntmps11
  go_wp2_with fail
  have hS0 : w.drew.cell? ⟨b, 0, none⟩ = some (.pointer (some ⟨s', 0, none⟩)) := b0
  have HP1 : Hid (Calls Tryz.prog 51 #[.pointer (some ⟨s, 0, none⟩), .int .i64 (i : Int), .int .u64 v] w.drew fun e w' => e = .returned (.int .i64 0) ∧ AccPost 187 w.drew s g ws 2 i v ct w') :=
    Lib.hid (put_acc (w := w.drew) (H1.out.kept ((Kept.refl No w).drew) (fun h => h) (fun h => h)) v i hi ⟨HN.out.1, by have := HN.out; omega⟩)
  go_region_held3 (fun W => W.cell? ⟨b, 0, none⟩ = some (.pointer (some ⟨s', 0, none⟩))) (first | with_reducible exact hS0 | with_reducible exact hS2 | with_reducible exact hS3)
    (first
      | (go_at_call 49; refine (storeOf_any (w := w.drew) a2).mono ?_; rintro e w1 ⟨rfl, rfl⟩)
      | (go_at_call 51; refine HP1.out.mono ?_; rintro e w2 ⟨rfl, hA⟩; have hS2 : w2.cell? ⟨b, 0, none⟩ = some (.pointer (some ⟨s', 0, none⟩)) := (hA.2.cell (a := w.drew) lb (by simp [SG, hbs, hbg])).trans hS0; have K2 : Kept (SG s g) w w2 := (Kept.refl (SG s g) w).drew.trans hA.2 (fun _ h => .inl h); have HQ := Lib.hid (rput_acc (H1'.out.kept K2 (by simp [SG, hss, hsg]) (by simp [SG, hgs, hgg.symm])) v i hi ⟨HN.out.2.2.1, by have := HN.out; omega⟩); replace hA := Lib.hid hA)
      | (go_at_call 52; refine HQ.out.mono ?_; rintro e w3 ⟨rfl, hA3⟩; have hS3 : w3.cell? ⟨b, 0, none⟩ = some (.pointer (some ⟨s', 0, none⟩)) := (hA3.2.cell (by have := K2.size; omega) (by simp [SG, hbs', hbg'])).trans hS2; replace hA3 := Lib.hid hA3))
  have K3 : Kept (SG2 s g s' g') w w3 := (K2.mono (fun k h => .inl (.inl h))).trans hA3.out.2 (fun k h => .inl (.inr h))
  have hT : Hid (Twin w3 a s g b s' g' p t qv qv' (ws.set i v) (n + 1)) := by
    have e1 := hA.out.1.kept hA3.out.2 (by simp [SG, hs_s', hsg2]) (by simp [SG, hgs', hgg])
    have e2 := hA3.out.1
    have hn' := HN.out
    refine Lib.hid ⟨K3.at HH.out.ar (by simp [SG2, SG, has, hag, has', hag']), K3.at HH.out.me (by simp [SG2, SG, hbs, hbg, hbs', hbg']), ⟨_, _, _, _, _, e1, by omega, by omega⟩, ⟨_, _, _, _, _, e2, by omega, by omega⟩, hgg⟩
  go_wp2_with fail
  go_ret
  exact ⟨rfl, hT.out, K3⟩
end

def words0 (p t : Int) : List Int := (List.replicate (wordsOf p t).toNat (0 : Int)).set 0 1

/-- Both arenas, as they are made. -/
structure Start (w0 w1 : World) (a s g b s' g' : Nat) (p t : Int) (rs : RSt) (rs' : FSt) : Prop where
  ar : ArenaIs w1 a p t s g (words0 p t) rs
  me : MemIs w1 b p t s' g' (words0 p t) rs'
  xs : rs.xs = [(0, p)]
  free : rs'.free = List.replicate p.toNat true
  la : w0.heap.size ≤ a
  ls : w0.heap.size ≤ s
  lg : w0.heap.size ≤ g
  lb : w0.heap.size ≤ b
  ls' : w0.heap.size ≤ s'
  lg' : w0.heap.size ≤ g'
  gg : g ≠ g'
  below : Below w0.heap.size w0 w1

theorem Start.twin {w0 w1 : World} {a s g b s' g' : Nat} {p t : Int} {rs : RSt} {rs' : FSt} (h : Start w0 w1 a s g b s' g' p t rs rs') : Twin w1 a s g b s' g' p t (.pointer (some ⟨rs.q, 0, none⟩)) (.pointer (some ⟨rs'.q, 0, none⟩)) (words0 p t) 0 :=
  ⟨h.ar.obj, h.me.obj, ⟨_, _, _, _, _, h.ar.store, by omega, by omega⟩, ⟨_, _, _, _, _, h.me.store, by omega, by omega⟩, h.gg⟩

theorem sepBox {W W' : World} {b0 : Nat} {x0 x1 x2 : Option Value} (h : W.cell? ⟨b0, 0, none⟩ = x0 ∧ W.cell? ⟨b0, 1, none⟩ = x1 ∧ W.cell? ⟨b0, 2, none⟩ = x2) (hb : Below W.heap.size W W') (hlt : b0 < W.heap.size) :
    W'.cell? ⟨b0, 0, none⟩ = x0 ∧ W'.cell? ⟨b0, 1, none⟩ = x1 ∧ W'.cell? ⟨b0, 2, none⟩ = x2 :=
  ⟨(hb.cell (p := ⟨b0, 0, none⟩) hlt).trans h.1, (hb.cell (p := ⟨b0, 1, none⟩) hlt).trans h.2.1, (hb.cell (p := ⟨b0, 2, none⟩) hlt).trans h.2.2⟩

set_option maxRecDepth 100000 in
set_option maxHeartbeats 4000000 in
theorem arenas_any (p t : Int) (w : World) (h : may p t) :
    Calls Tryz.prog 10 #[.agg #[.int .i64 p, .int .i64 t, .slice none 0 0]] w fun e w' => ∃ a s g b s' g' rs rs', e = .returned (.tuple #[.pointer (some ⟨a, 0, none⟩), .pointer (some ⟨b, 0, none⟩)]) ∧ Start w w' a s g b s' g' p t rs rs' := by
  have H := Lib.hid h
  clear h
  go_enter Tryz.func10, Tryz.ntmps10
  have hb0 : (w.alloc (.cells #[.int .i64 p, .int .i64 t, .slice none 0 0] 25)).heap[w.heap.size]? = some (.cells #[.int .i64 p, .int .i64 t, .slice none 0 0] 25 (0, 0)) := heap_alloc_new w _
  have hB0 : Below w.heap.size w (w.alloc (.cells #[.int .i64 p, .int .i64 t, .slice none 0 0] 25)) := (Below.refl _ w).alloc (Nat.le_refl _) _
  go_wp2_with fail
  generalize w.alloc (.cells #[.int .i64 p, .int .i64 t, .slice none 0 0] 25) = w1 at hb0 hB0 ⊢
  obtain ⟨b0, hb⟩ : ∃ b0, w.heap.size = b0 := ⟨_, rfl⟩
  rw [hb] at hb0 hB0 ⊢
  have hS0 : w1.drew.cell? ⟨b0, 0, none⟩ = some (.int .i64 p) ∧ w1.drew.cell? ⟨b0, 1, none⟩ = some (.int .i64 t) ∧ w1.drew.cell? ⟨b0, 2, none⟩ = some (.slice none 0 0) := ⟨cellOf hb0 0, cellOf hb0 1, cellOf hb0 2⟩
  have lb : b0 < w1.drew.heap.size := lt_of_block hb0
  have HB := Lib.hid hb
  have Hb0 := Lib.hid hb0
  clear hb hb0
  go_region_held3 (fun W => W.cell? ⟨b0, 0, none⟩ = some (.int .i64 p) ∧ W.cell? ⟨b0, 1, none⟩ = some (.int .i64 t) ∧ W.cell? ⟨b0, 2, none⟩ = some (.slice none 0 0))
    (first | with_reducible exact hS0 | with_reducible exact sepBox hS0 hb2 lb | with_reducible exact sepBox (sepBox hS0 hb2 lb) hb3 (Nat.lt_of_lt_of_le lb hb2.size))
    (first
      | (go_at_call 47; refine (arenaNew_any p t _ [] _ (.inl ⟨rfl, rfl, rfl⟩) (by simp)).mono ?_; rintro e w2 ⟨_, hA, hb2⟩; obtain ⟨a, s, g, rs, rfl, hA1, _, _, _, hxs, _, _, la, ls, lg, hfp⟩ := hA H.out; replace hA1 := Lib.hid hA1; replace hfp := Lib.hid hfp; replace hxs := Lib.hid hxs)
      | (go_at_call 48; refine (newMem_any p t _ [] _ (.inl ⟨rfl, rfl, rfl⟩) (by simp)).mono ?_; rintro e w3 ⟨_, hM, hb3⟩; obtain ⟨b, s', g', rs', rfl, hM1, hfr, _, _, _, lb', ls', lg'⟩ := hM H.out; replace hM1 := Lib.hid hM1; replace hfr := Lib.hid hfr))
  have hz2 : w1.heap.size ≤ w2.heap.size := hb2.size
  have hz1 : b0 ≤ w1.heap.size := by have h1 := hB0.size; have h2 := HB.out; omega
  have hgl : g < w2.heap.size := lt_of_block hA1.out.store.row
  have hsl : s < w2.heap.size := lt_of_block hA1.out.store.obj
  have lz1 : w1.heap.size ≤ a := la
  have lz2 : w1.heap.size ≤ s := ls
  have lz3 : w1.heap.size ≤ g := lg
  have hSt : Hid (Start w w3 a s g b s' g' p t rs rs') := Lib.hid
    ⟨hA1.out.below hb3, hM1.out, hxs.out, hfr.out, by rw [HB.out]; omega, by rw [HB.out]; omega, by rw [HB.out]; omega, by rw [HB.out]; omega, by rw [HB.out]; omega, by rw [HB.out]; omega, by omega,
      by rw [HB.out]; exact (hB0.drew.trans (hb2.mono (by show b0 ≤ w1.heap.size; omega))).trans (hb3.mono (by omega))⟩
  have c2 : w3.cell? ⟨a, 2, none⟩ = some (.pointer (some ⟨s, 0, none⟩)) := cellOf hSt.out.ar.obj 2
  have HAr := Lib.hid (aruns_any hSt.out.ar)
  clear hb2 hb3 la ls lg lb' ls' lg' hz2 hz1 hgl hsl lz1 lz2 lz3 hB0
  go_wp2_with (first
    | (go_at_call 49; refine (storeOf_any c2).mono ?_; rintro e w4 ⟨rfl, rfl⟩)
    | (go_at_call 50; refine HAr.out.mono ?_; rintro e w4 ⟨rfl, rfl⟩))
  go_ret2
  exact ⟨a, s, g, b, s', g', rs, rs', rfl, hSt.out⟩
end Go.Proofs.YtffafkmmfaaobaaGreat
