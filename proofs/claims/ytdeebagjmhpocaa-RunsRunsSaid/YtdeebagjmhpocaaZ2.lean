/- slices.Delete of one run. -/
import Derived.Test.YtdeebagjmhpocaaK
import Derived.Deep.RegionLaw
namespace Go.Proofs.Ytdeebagjmhpocaa
set_option linter.unusedSimpArgs false
set_option linter.unusedVariables false
open Go.RowKit

theorem zero77 (w : World) : (zeroValue 77).run Try.prog w = .ok (.agg #[.int .i64 0, .int .i64 0]) w := by
  obtain ⟨i0, hi, hz0, _, _⟩ := info_parts Try.info77
  simp [zeroValue, typeInfo, hi, hz0]

theorem run_clear2 (w : World) (ty : TypeId) (g o k c : Nat) (cur : Array Value) (hk : k = 1) (hg : w.heap[g]? = some (.cells cur 77 (0, 0))) (hfit : o + 2 ≤ cur.size) :
    (Builtin.clear_ #[49] ty #[.slice (some ⟨g, o, none⟩) k c]).run Try.prog w = .ok (.tuple #[]) (w.setRow g (splice cur.toList o [.int .i64 0, .int .i64 0]).toArray) := by
  subst hk
  have hzc : (Builtin.zeroCells (Value.agg #[.int .i64 0, .int .i64 0]).cells 1).toList = [.int .i64 0, .int .i64 0] := by
    have hc : (Value.agg #[.int .i64 0, .int .i64 0]).cells = #[.int .i64 0, .int .i64 0] := by simp [Value.cells]
    rw [hc]
    simp [Builtin.zeroCells, List.range_succ]
  have hst := run_storeCells_at Try.prog g o 77 [.int .i64 0, .int .i64 0] 0 cur w hg (by simpa using hfit) (by simp [Value.oneCell'])
  simp only [Nat.add_zero] at hst
  simp [Builtin.clear_, run_underlying Try.underlying49, zero77, hzc, hst, splice]

theorem wpList_clear_run {P : Program} {w w' : World} {o : Oper} {a : Act} {Q : Exit → Act → World → Prop} {ops : Array Oper} {rest : List Oper} (hgd : o.guard = none) (s : Operand) (t : TypeId)
    (ho : o.op = .call { callee := .builtin .clear, args := #[s], argTypes := #[t] }) {v v' : Value} (hs : a.eval s = v)
    (hr : (Builtin.clear_ #[t] o.type #[v]).run P w = .ok v' w') (h : wpList P ops Q rest (a.put o.dst v') w') : wpList P ops Q (o :: rest) a w :=
  wpList_plain hgd fun _ hK => by
    unfold Oper.wp execOp
    simp only [ho, resolve, invoke, builtin, Sem.run_bind, Sem.run_pure, Result.andThen_ok, List.map_toArray, List.map_cons, List.map_nil, hs, hr]
    exact hK _ _ h

def delR (xs : List R2) (i : Nat) : List R2 := xs.take i ++ xs.drop (i + 1)

def DeletePost (xs : List R2) (g cap i : Nat) (base : Nat) (w : World) (e : Ending) (w' : World) : Prop :=
  e = .returned (.slice (some ⟨g, 0, none⟩) (xs.length - 1) cap) ∧ w'.ownsRow base 77 2 (.slice (some ⟨g, 0, none⟩) (xs.length - 1) cap) (xs.length - 1) (runCells (delR xs i)) ∧ w.grownBy w' (some g)

set_option maxRecDepth 100000 in
set_option maxHeartbeats 4000000 in
theorem delete_any (xs : List R2) (i : Nat) (w : World) (base n g cap : Nat) (hn : n = xs.length) (hrow : w.ownsRow base 77 2 (.slice (some ⟨g, 0, none⟩) n cap) n (runCells xs)) (hin : i < n) (hl : n ≤ 100000) :
    Calls Try.prog 72 #[.slice (some ⟨g, 0, none⟩) n cap, .int .i64 i, .int .i64 ((i : Int) + 1)] w (DeletePost xs g cap i base w) := by
  obtain ⟨i0, hi, hz0, hz1, hz2⟩ := info_parts Try.info77
  obtain ⟨hlen, h0 | ⟨g', cap', cur, hv, hbg, hg, hnc, hcm, hcs, htk⟩⟩ := hrow
  · cases h0.1
  cases hv
  have hcl : cur.toList.length = cap * 2 := by simpa using hcs
  have hnl : (runCells (xs.drop (i + 1))).length = (n - (i + 1)) * 2 := by rw [runCells_length, List.length_drop, ← hn]
  have hcur : ∀ j u, (runCells (xs.drop (i + 1)))[j]? = some u → cur[(i + 1) * 2 + j]? = some u := fun j u hj => by
    rw [← runCells_drop, List.getElem?_drop] at hj
    have := congrArg (fun l => l[(i + 1) * 2 + j]?) htk
    simp only [List.getElem?_take] at this
    rw [hj] at this
    split at this
    · simpa using this
    · cases this
  obtain ⟨A, hA, hA1⟩ : ∃ A : Addr, (∀ j u, (runCells (xs.drop (i + 1)))[j]? = some u → w.drew.cell? (A.add j) = some u) ∧ ((if cap = i + 1 then some (⟨g, 0, none⟩ : Addr) else some ⟨g, (i + 1) * 2, none⟩) = some A) := by
    by_cases h : cap = i + 1
    · refine ⟨⟨g, 0, none⟩, fun j u hu => ?_, by simp [h]⟩
      rw [List.drop_eq_nil_of_le (by omega)] at hu
      simp [runCells] at hu
    · refine ⟨⟨g, (i + 1) * 2, none⟩, fun j u hu => ?_, by simp [h]⟩
      rw [addAt', show w.drew.cell? ⟨g, (i + 1) * 2 + j, none⟩ = cur[(i + 1) * 2 + j]? from cellOf hg _]
      exact hcur j u hu
  have hap := fun (ty : TypeId) => run_append_room (P := Try.prog) w.drew 49 ty 77 i0 Try.underlying49 hi g i cap cur hg A (n - (i + 1)) (cap - (i + 1)) (runCells (xs.drop (i + 1))) (by rw [hz1]; exact hnl) hA (runCells_one _) (by omega) (by rw [hz1, hnl]; simp only [Array.length_toList] at hcl; omega)
  rw [hz1] at hap
  obtain ⟨L1, hL1⟩ : ∃ L1, cur.toList.take (i * 2) ++ runCells (xs.drop (i + 1)) ++ cur.toList.drop (i * 2 + (runCells (xs.drop (i + 1))).length) = L1 := ⟨_, rfl⟩
  have hL1a : (cur.toList.take (i * 2) ++ runCells (xs.drop (i + 1)) ++ cur.toList.drop (i * 2 + (runCells (xs.drop (i + 1))).length)).toArray = L1.toArray := by rw [hL1]
  simp only [hL1a] at hap
  have hL1l : L1.length = cap * 2 := by
    rw [← hL1]
    simp only [List.length_append, List.length_take, List.length_drop, hnl, hcl]; omega
  have hL1t : L1.take ((n - 1) * 2) = runCells (delR xs i) := by
    rw [← hL1, List.take_append_of_le_length (by simp only [List.length_append, List.length_take, hnl, hcl]; omega), List.take_of_length_le (by simp only [List.length_append, List.length_take, hnl, hcl]; omega)]
    rw [delR, runCells_append, ← runCells_take, ← htk, List.take_take, Nat.min_eq_left (by omega)]
  have hg1 : (w.drew.setRow g L1.toArray).heap[g]? = some (.cells L1.toArray 77 (0, 0)) := setRow_heap w.drew g cur L1.toArray 77 (0, 0) hg
  have hgr : w.grownBy (w.drew.setRow g L1.toArray) (some g) := ⟨rfl, rfl, rfl, by simp [World.setRow], fun k _ hk => setRow_other w.drew g k _ (fun e => hk (by rw [e]))⟩
  obtain ⟨W1, hW1⟩ : ∃ W1, w.drew.setRow g L1.toArray = W1 := ⟨_, rfl⟩
  rw [hW1] at hap hg1 hgr
  have hcle := fun (ty : TypeId) (c : Nat) => run_clear2 W1 ty g ((i + (n - (i + 1))) * 2) (n - (i + (n - (i + 1)))) c L1.toArray (by omega) hg1 (by simp [hL1l]; omega)
  have hfin : DeletePost xs g cap i base w (.returned (.slice (some ⟨g, 0, none⟩) (i + (n - (i + 1))) cap)) (W1.setRow g (splice L1 ((i + (n - (i + 1))) * 2) [.int .i64 0, .int .i64 0]).toArray) := by
    rw [show i + (n - (i + 1)) = n - 1 by omega]
    refine ⟨by rw [hn], ⟨?_, .inr ⟨g, cap, _, rfl, hbg, setRow_heap W1 g _ _ _ _ hg1, by omega, hcm, ?_, ?_⟩⟩, ?_⟩
    · rw [runCells_length, delR, List.length_append, List.length_take, List.length_drop]; omega
    · simp; rw [length_splice _ _ _ (by simp; omega)]; exact hL1l
    · rw [← hn, ← hL1t]
      simp only [splice, List.toList_toArray]
      rw [List.take_append_of_le_length (by rw [List.length_take]; omega), List.take_take, Nat.min_self]
    · exact ⟨hgr.os, hgr.tape, hgr.output, by have := hgr.size; simp [World.setRow]; omega, fun k hk hne => (setRow_other W1 g k _ (fun e => hne (by rw [e]))).trans (hgr.block k hk hne)⟩
  have HF := Lib.hid hfin
  have HC := Lib.hid hap
  have HC2 := Lib.hid hcle
  have hw1 : IntKind.i64.wrap ((i : Int) + 1) = (i : Int) + 1 := IntWalk.i64_in _ (by omega)
  have hb1 : (0 : Int) ≤ (i : Int) + 1 := by omega
  have hin' : i ≤ n := by omega
  have htn : ((i : Int) + 1).toNat = i + 1 := by omega
  have hb3 : (i : Int) + 1 ≤ (n : Int) := by omega
  have hb5 : (n : Int) ≤ cap := by omega
  have hine : ((i : Int) == (i : Int) + 1) = false := by simp; omega
  have hlow : i + (n - (i + 1)) ≤ n := by omega
  have hlow2 : ¬ (cap = i + (n - (i + 1))) := by omega
  have hic : i ≤ cap := by omega
  have hincap : n ≤ cap := hnc
  clear hfin hap hcle hcur hcl hnl hL1 hL1a hL1l hL1t hg1 hgr hW1 hlen htk hg hcs hcm hn hA
  have hb6 : (i : Int) ≤ cap := by omega
  have hb7 : (0 : Int) ≤ i := by omega
  go_enter Try.func72, Try.ntmps72
  go_wp2_with fail
  go_region_held3 (fun _ => True) (first | trivial) ((refine step_append_run rfl (.tmp 22) (.tmp 25) 49 49 rfl rfl rfl (HC.out _) ?_))
  go_wp2_with (refine wpList_clear_run rfl (.tmp 31) 49 rfl rfl (HC2.out _ _) ?_)
  go_ret
  exact HF.out

end Go.Proofs.Ytdeebagjmhpocaa
