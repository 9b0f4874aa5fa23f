/- slices.Insert of one run, where there is no room; and all its ways. -/
import Derived.Test.YtdeebagjmhpocaaJ
namespace Go.Proofs.Ytdeebagjmhpocaa
set_option linter.unusedSimpArgs false
set_option linter.unusedVariables false
open Go.RowKit

theorem zeroCells_size (z : Array Value) (n : Nat) : (Builtin.zeroCells z n).size = n * z.size := by simp [Builtin.zeroCells]

set_option maxRecDepth 100000 in
set_option maxHeartbeats 4000000 in
theorem insert_grow_any (xs : List R2) (i : Nat) (x : R2) (B : Nat) (w : World) (base n g cap : Nat) (hn : n = xs.length) (hrow : w.ownsRow base 77 2 (.slice (some ⟨g, 0, none⟩) n cap) n (runCells xs)) (hin : i < n) (hl : n ≤ 100000)
    (hB : w.heap[B]? = some (.cells #[.int .i64 x.1, .int .i64 x.2] 77 (0, 0))) (hbase : base ≤ w.heap.size) (hroom : cap = n) :
    Calls Try.prog 67 #[.slice (some ⟨g, 0, none⟩) n cap, .int .i64 i, .slice (some ⟨B, 0, none⟩) 1 1] w (InsertPost xs (.slice (some ⟨g, 0, none⟩) n cap) i x base w) := by
  subst hroom
  obtain ⟨i0, hi, hz0, hz1, hz2⟩ := info_parts Try.info77
  obtain ⟨hlen, h0 | ⟨g', cap', cur, hv, hbg, hg, hnc, hcm, hcs, htk⟩⟩ := hrow
  · cases h0.1
  cases hv
  have hmix : Try.prog.follows .mixedOrders = true := by kernel_rfl
  have hine : ((i : Int) == cap) = false := by simp; omega
  have hglt := lt_of_block hg
  have hBlt := lt_of_block hB
  have hall : ∀ j u, (runCells xs)[j]? = some u → w.cell? ⟨g, j, none⟩ = some u := fun j u hj => by
    rw [cellOf hg]
    have := congrArg (fun l => l[j]?) htk
    simp only [List.getElem?_take] at this
    rw [hj] at this
    split at this
    · simpa using this
    · cases this
  have hdl : (runCells (xs.drop i)).length = (cap - i) * 2 := by rw [runCells_length, List.length_drop, ← hn]
  have htl : (runCells (xs.take i)).length = i * 2 := by rw [runCells_length, List.length_take, ← hn, Nat.min_eq_left (by omega)]
  have hz := fun ty => run_append_zeros (P := Try.prog) w 49 3 ty 77 i0 _ Try.underlying49 Try.underlying3 hi hz0 ⟨g, 0, none⟩ i cap (runCells (xs.take i)) (by rw [hz1, htl])
    (fun j u hj => by rw [addAt]; exact hall j u (by rw [← runCells_take, List.getElem?_take] at hj; split at hj <;> first | exact hj | cases hj)) (cap + 1 - i) (by rw [hz1]; omega) (by rw [hz2]; omega) (by omega) (by omega) (by omega)
    (by rw [hz2]; exact growslice_fits (by omega) (by omega))
  rw [show i + (cap + 1 - i) = cap + 1 by omega] at hz
  have hNC := grownCap_ge w (cap + 1) cap 77
  have hNC2 := grownCap_le_maxLen w (cap + 1) cap 77 (by unfold maxLen; omega)
  generalize grownCap w (cap + 1) cap 77 = NC at hz hNC hNC2
  obtain ⟨Z, hZ⟩ : ∃ Z, (runCells (xs.take i)).toArray ++ Builtin.zeroCells (Value.agg #[.int .i64 0, .int .i64 0]).cells (cap + 1 - i) ++ Builtin.zeroCells (Value.agg #[.int .i64 0, .int .i64 0]).cells (NC - (cap + 1)) = Z := ⟨_, rfl⟩
  rw [hZ] at hz
  have hZl : Z.toList.length = NC * 2 := by
    rw [← hZ]
    simp only [Array.length_toList, Array.size_append, zeroCells_size, List.size_toArray, htl]
    show i * 2 + (cap + 1 - i) * 2 + (NC - (cap + 1)) * 2 = NC * 2
    omega
  have hZt : Z.toList.take (i * 2) = runCells (xs.take i) := by
    rw [← hZ]
    simp only [Array.toList_append, List.append_assoc]
    rw [List.take_append_of_le_length (by simp [htl]), List.take_of_length_le (by simp [htl])]
  have hG0 : (w.drew.alloc (.cells Z 77)).heap[w.heap.size]? = some (.cells Z 77 (0, 0)) := heap_alloc_new w.drew _
  have hB0 : (w.drew.alloc (.cells Z 77)).heap[B]? = some (.cells #[.int .i64 x.1, .int .i64 x.2] 77 (0, 0)) := block_alloc (w := w.drew) hB _
  have hg0 : (w.drew.alloc (.cells Z 77)).heap[g]? = some (.cells cur 77 (0, 0)) := block_alloc (w := w.drew) hg _
  have hgr0 : w.grownBy (w.drew.alloc (.cells Z 77)) (some g) := ⟨rfl, rfl, rfl, by simp, fun k hk _ => Below.heap_alloc w.drew _ k hk⟩
  generalize hW0 : w.drew.alloc (.cells Z 77) = W0 at hz hG0 hB0 hg0 hgr0
  have hcp1 := fun (ty : TypeId) (dc : Nat) => run_copy2 (P := Try.prog) W0 49 49 ty 77 2 i0 Try.underlying49 hi hz1 w.heap.size (i * 2) (cap + 1 - i) dc ⟨B, 0, none⟩ 1 1 Z 77 [.int .i64 x.1, .int .i64 x.2] hG0
    (by show _ = min 1 (cap + 1 - i) * 2; rw [Nat.min_eq_left (by omega)]; rfl) (World.news_of_block (cs := #[.int .i64 x.1, .int .i64 x.2]) hB0) (by simp at hZl ⊢; omega) (by simp [Value.oneCell'])
  obtain ⟨L1, hL1⟩ : ∃ L1, splice Z.toList (i * 2) [Value.int .i64 x.1, Value.int .i64 x.2] = L1 := ⟨_, rfl⟩
  rw [hL1] at hcp1
  have hL1l : L1.length = NC * 2 := by rw [← hL1, length_splice _ _ _ (by simp at hZl ⊢; omega), hZl]
  have hG1 : (W0.setRow w.heap.size L1.toArray).heap[w.heap.size]? = some (.cells L1.toArray 77 (0, 0)) := setRow_heap W0 w.heap.size Z L1.toArray 77 (0, 0) hG0
  have hg1 : (W0.setRow w.heap.size L1.toArray).heap[g]? = some (.cells cur 77 (0, 0)) := (setRow_other W0 w.heap.size g _ (by omega)).trans hg0
  have hgr1 : w.grownBy (W0.setRow w.heap.size L1.toArray) (some g) := ⟨hgr0.os, hgr0.tape, hgr0.output, by have := hgr0.size; simp [World.setRow]; omega, fun k hk hne => (setRow_other W0 w.heap.size k _ (by omega)).trans (hgr0.block k hk hne)⟩
  generalize hW1 : W0.setRow w.heap.size L1.toArray = W1 at hcp1 hG1 hg1 hgr1
  have hcp2 := fun (ty : TypeId) (dc sc : Nat) => run_copy2 (P := Try.prog) W1.drew 49 49 ty 77 2 i0 Try.underlying49 hi hz1 w.heap.size ((i + 1) * 2) (cap - i) dc ⟨g, i * 2, none⟩ (cap - i) sc L1.toArray 77 (runCells (xs.drop i)) hG1
    (by show _ = min (cap - i) (cap - i) * 2; rw [hdl, Nat.min_self]) (fun j v hj => by
      rw [addAt', show W1.drew.cell? ⟨g, i * 2 + j, none⟩ = cur[i * 2 + j]? from cellOf hg1 _, ← cellOf hg (i * 2 + j)]
      exact hall _ _ (by rw [← runCells_drop, List.getElem?_drop] at hj; exact hj)) (by rw [hdl]; simp; omega) (runCells_one _)
  have hfin : InsertPost xs (.slice (some ⟨g, 0, none⟩) cap cap) i x base w (.returned (.slice (some ⟨w.heap.size, 0, none⟩) (cap + 1) NC)) (W1.drew.setRow w.heap.size (splice L1 ((i + 1) * 2) (runCells (xs.drop i))).toArray) := by
    refine ⟨_, rfl, ⟨?_, .inr ⟨w.heap.size, NC, _, by rw [hn], hbase, setRow_heap W1.drew w.heap.size _ _ _ _ hG1, by omega, hNC2, ?_, ?_⟩⟩, ?_⟩
    · rw [runCells_length, insR, List.length_append, List.length_take, List.length_cons, List.length_drop]; omega
    · simp; rw [length_splice _ _ _ (by rw [hdl]; omega)]; exact hL1l
    · rw [← hL1, insR, runCells_append, show runCells (x :: xs.drop i) = [.int .i64 x.1, .int .i64 x.2] ++ runCells (xs.drop i) from rfl]
      have := insert_grow Z.toList (runCells (xs.take i)) [Value.int .i64 x.1, Value.int .i64 x.2] (runCells (xs.drop i)) (i * 2) 2 ((cap - i) * 2) htl rfl hdl hZt (by omega)
      rw [show i * 2 + 2 + (cap - i) * 2 = (xs.length + 1) * 2 by omega, show i * 2 + 2 = (i + 1) * 2 by omega] at this
      exact this
    · refine ⟨?_, fun k hk => .inr (by simp [Value.ownBlock] at hk; omega)⟩
      exact ⟨hgr1.os, hgr1.tape, hgr1.output, by have := hgr1.size; simp [World.setRow]; omega, fun k hk hne => (setRow_other W1.drew w.heap.size k _ (by omega)).trans (hgr1.block k hk hne)⟩
  have HF := Lib.hid hfin
  have HZ := Lib.hid hz
  have HC := Lib.hid hcp1
  have HC2 := Lib.hid hcp2
  have hw1 : IntKind.i64.wrap ((i : Int) + 1) = (i : Int) + 1 := IntWalk.i64_in _ (by omega)
  have hb1 : (0 : Int) ≤ (i : Int) + 1 := by omega
  have hin' : i ≤ cap := by omega
  have htn : ((i : Int) + 1).toNat = i + 1 := by omega
  have hb2 : ¬ (NC = i + 1) := by omega
  have hb3 : (i : Int) ≤ (cap : Int) + 1 := by omega
  have hb4 : ¬ (cap = i) := by omega
  have hb5 : ¬ (NC = i) := by omega
  have hk : Hid (Value.int .i64 ((cap : Int) + 1 - i) = .int .i64 ((cap + 1 - i : Nat) : Int)) := by unfold Hid; congr 1; omega
  clear hfin hz hcp1 hcp2 hall hdl htl hn hZ hZl hZt hG0 hB0 hg0 hgr0 hW0 hL1 hL1l hG1 hg1 hgr1 hW1 hlen htk hg hB hcs hcm
  go_enter Try.func67, Try.ntmps67
  go_wp2_with (first
    | (refine wpList_append_run' rfl (.tmp 34) (.tmp 39) 49 3 rfl rfl hk.out (HZ.out _) ?_)
    | (refine wpList_copy_run rfl (.tmp 43) (.tmp 44) 49 49 rfl rfl rfl (HC.out _ _) ?_))
  go_region_held3 (fun _ => True) (first | trivial) ((refine step_copy_run rfl (.tmp 50) (.tmp 53) 49 49 rfl rfl rfl (HC2.out _ _ _) ?_))
  go_wp2
  go_ret
  exact HF.out

/-- slices.Insert of one run, at every place. -/
theorem insert_any (xs : List R2) (v : Value) (i : Nat) (x : R2) (B : Nat) (w : World) (base : Nat) (hrow : w.ownsRow base 77 2 v xs.length (runCells xs)) (hi : i ≤ xs.length) (hl : xs.length ≤ 100000)
    (hB : w.heap[B]? = some (.cells #[.int .i64 x.1, .int .i64 x.2] 77 (0, 0))) (hBv : v.ownBlock ≠ some B) (hbase : base ≤ w.heap.size) :
    Calls Try.prog 67 #[v, .int .i64 i, .slice (some ⟨B, 0, none⟩) 1 1] w (InsertPost xs v i x base w) := by
  rcases Nat.lt_or_ge i xs.length with h | h
  · rcases hrow.2 with ⟨_, h0⟩ | ⟨g, cap, cur, rfl, _, _, hnc, _⟩
    · omega
    · have hBg : B ≠ g := fun e => hBv (by rw [e]; rfl)
      rcases Nat.lt_or_ge xs.length cap with h2 | h2
      · exact insert_room_any xs i x B w base xs.length g cap rfl hrow h hl hB hBg h2
      · obtain rfl : cap = xs.length := by omega
        exact insert_grow_any xs i x B w base xs.length g xs.length rfl hrow h hl hB hbase rfl
  · obtain rfl : i = xs.length := by omega
    exact insert_end xs v x B w base xs.length rfl hrow hl hB hbase

end Go.Proofs.Ytdeebagjmhpocaa
