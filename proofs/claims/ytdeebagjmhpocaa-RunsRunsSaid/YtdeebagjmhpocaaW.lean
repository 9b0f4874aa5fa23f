/- The stores: New, check, Begun; the reference's New. -/
import Derived.Test.YtdeebagjmhpocaaC
namespace Go.Proofs.Ytdeebagjmhpocaa
set_option linter.unusedSimpArgs false
set_option linter.unusedVariables false
open Go.RowKit

/-- A store lies at s, its words in block g. -/
structure StoreIs (ty : TypeId) (w : World) (s g : Nat) (ws : List Int) (k a o n m : Int) : Prop where
  obj : w.heap[s]? = some (.cells #[.slice (some ⟨g, 0, none⟩) ws.length ws.length, .int .i64 k, .int .i64 a, .int .u64 o, .int .u64 n, .int .i64 m] ty (0, 0))
  row : w.heap[g]? = some (.cells (ws.map (Value.int .u64 ·)).toArray 43 (0, 0))

theorem StoreIs.below {ty : TypeId} {w w' : World} {s g : Nat} {ws : List Int} {k a o n m : Int} (h : StoreIs ty w s g ws k a o n m) (hb : Below w.heap.size w w') : StoreIs ty w' s g ws k a o n m :=
  ⟨(hb.block s (lt_of_block h.obj)).trans h.obj, (hb.block g (lt_of_block h.row)).trans h.row⟩

theorem madeCells_one (n : Nat) : (madeCells (Value.int .u64 0).cells (n * 1)).toList = (List.replicate n (0 : Int)).map (Value.int .u64 ·) := by
  apply List.ext_getElem?
  intro j
  simp [madeCells, Value.cells, List.getElem?_replicate, List.getElem?_range]
  by_cases h : j < n
  · simp [h, Nat.mod_one]
  · simp [h]

theorem ownsRow_full {w : World} {base : Nat} {e : TypeId} {size g n : Nat} {xs : List Value} (h : w.ownsRow base e size (.slice (some ⟨g, 0, none⟩) n n) n xs) : w.heap[g]? = some (.cells xs.toArray e (0, 0)) := by
  rcases h.2 with ⟨h0, _⟩ | ⟨g', cap, cur, hv, _, hg, _, _, hs, ht⟩
  · cases h0
  · cases hv
    rw [hg, ← ht, List.take_of_length_le (by simp [hs])]

theorem type_ne' {w : World} {a b : Nat} {ca cb : Array Value} {ta tb : TypeId} (ha : w.heap[a]? = some (.cells ca ta (0, 0))) (hb : w.heap[b]? = some (.cells cb tb (0, 0))) (h : ta ≠ tb) : a ≠ b := by
  rintro rfl
  rw [ha] at hb; simp at hb; exact h hb.2

def StoreNewPost (ty : TypeId) (n : Nat) (w : World) (e : Ending) (w' : World) : Prop :=
  ∃ s g, e = .returned (.pointer (some ⟨s, 0, none⟩)) ∧ StoreIs ty w' s g (List.replicate n 0) 0 0 0 0 0 ∧ Below w.heap.size w w' ∧ w.heap.size ≤ s ∧ w.heap.size ≤ g

set_option maxRecDepth 100000 in
set_option maxHeartbeats 1000000 in
theorem storeNew_any (n : Nat) (w : World) (h1 : 1 ≤ n) (h2 : n ≤ 65536) : Calls Try.prog 58 #[.int .i64 n] w (StoreNewPost 81 n w) := by
  obtain ⟨i0, hi, hz0, hz1, hz2⟩ := info_parts Try.info43
  have b1 : (1 : Int) ≤ n := by omega
  have b2 : (n : Int) ≤ 65536 := by omega
  go_enter Try.func58, Try.ntmps58
  go_wp2_with (at_make; refine wpList_make_full _ rfl _ _ 39 rfl w.heap.size 43 i0 _ 1 Try.underlying39 hi hz0 hz1 .i64 .i64 _ _ n rfl rfl rfl rfl (by rw [hz2]; omega) (by unfold maxLen; omega) (Nat.le_refl _) ?_; intro w1 hown hgrow)
  go_ret
  have hr := ownsRow_full hown
  rw [madeCells_one] at hr
  refine ⟨w1.heap.size, w.heap.size, rfl, ⟨?_, block_alloc hr _⟩, ((Kept.refl No w).grown hgrow (fun k hk => by cases hk) |>.alloc _).no_below, hgrow.size, Nat.le_refl _⟩
  rw [List.length_replicate]
  exact heap_alloc_new w1 _

/-- The words, one of which has been put. -/
def BegunPost (n : Nat) (w : World) (e : Ending) (w' : World) : Prop :=
  ∃ s g, e = .returned (.pointer (some ⟨s, 0, none⟩)) ∧ StoreIs 81 w' s g ((List.replicate n (0 : Int)).set 0 1) 0 0 0 0 0 ∧ Below w.heap.size w w' ∧ w.heap.size ≤ s ∧ w.heap.size ≤ g

set_option maxRecDepth 100000 in
set_option maxHeartbeats 1000000 in
theorem check_ok {ty : TypeId} {w : World} {s g : Nat} {ws : List Int} {k a o n m : Int} (h : StoreIs 81 w s g ws k a o n m) (at' : Int) (h0 : 0 ≤ at') (h1 : at' < ws.length) :
    Calls Try.prog 59 #[.pointer (some ⟨s, 0, none⟩), .int .i64 at'] w fun e w' => e = .returned (.int .i64 0) ∧ w = w' := by
  have c0 : w.cell? ⟨s, 0, none⟩ = some (.slice (some ⟨g, 0, none⟩) ws.length ws.length) := cellOf h.obj 0
  clear h
  go_enter Try.func59, Try.ntmps59
  go_wp2
  go_ret
  exact ⟨rfl, rfl⟩

theorem row_set {w : World} {g : Nat} {ws : List Int} (h : w.heap[g]? = some (.cells (ws.map (Value.int .u64 ·)).toArray 43 (0, 0))) (i : Nat) (v : Int) :
    (w.setCell ⟨g, i, none⟩ (.int .u64 v)).heap[g]? = some (.cells ((ws.set i v).map (Value.int .u64 ·)).toArray 43 (0, 0)) := by
  rw [block_set h i _, List.map_set]
  simp

set_option maxRecDepth 100000 in
set_option maxHeartbeats 1000000 in
theorem begun_any (n : Nat) (w : World) (h1 : 1 ≤ n) (h2 : n ≤ 65536) : Calls Try.prog 34 #[.int .i64 n, .int .i64 0, .int .u64 1] w (BegunPost n w) := by
  have b1 : (1 : Int) ≤ n := by omega
  have b2 : (n : Int) ≤ 65536 := by omega
  go_enter Try.func34, Try.ntmps34
  go_wp2_with fail
  refine (storeNew_any n w h1 h2).mono ?_
  rintro e w1 ⟨s, g, rfl, hS, hb, hs, hg⟩
  go_wp2_with fail
  refine (check_ok (ty := 81) hS 0 (by omega) (by simp; omega)).mono ?_
  rintro e w2 ⟨rfl, rfl⟩
  have c0 : w1.cell? ⟨s, 0, none⟩ = some (.slice (some ⟨g, 0, none⟩) n n) := by have := cellOf hS.obj 0; simpa using this
  have g0 : w1.cell? ⟨g, 0, none⟩ = some (.int .u64 0) := by
    rw [cellOf hS.row 0, List.getElem?_toArray, List.map_replicate, List.getElem?_replicate, if_pos (by omega)]
  have f0 : w1.frozen? ⟨g, 0, none⟩ = false := freeOf hS.row 0
  have hne : s ≠ g := type_ne' hS.obj hS.row (by decide)
  have HF : Hid (BegunPost n w (.returned (.pointer (some ⟨s, 0, none⟩))) (w1.setCell ⟨g, 0, none⟩ (.int .u64 1))) :=
    ⟨s, g, rfl, ⟨by rw [List.length_set]; exact block_set_other hS.obj _ _ hne, row_set hS.row 0 1⟩, hb.setCell (p := ⟨g, 0, none⟩) hg _, hs, hg⟩
  clear hS hb
  go_wp2
  go_ret
  exact HF.out

end Go.Proofs.Ytdeebagjmhpocaa
