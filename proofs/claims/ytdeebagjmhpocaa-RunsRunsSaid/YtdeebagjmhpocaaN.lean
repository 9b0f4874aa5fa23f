/- treap.New, runs.New. -/
import Derived.Test.YtdeebagjmhpocaaPut
namespace Go.Proofs.Ytdeebagjmhpocaa
set_option linter.unusedSimpArgs false
set_option linter.unusedVariables false
open Go.RowKit

set_option maxHeartbeats 1000000 in
theorem treapNew_any (w : World) : Calls Try.prog 46 #[] w fun e w' => e = .returned (.pointer (some ⟨w.heap.size, 0, none⟩)) ∧ w' = w.alloc (.cells #[.pointer none, .int .i64 0] 110) := by
  go_enter Try.func46, Try.ntmps46
  go_wp2
  go_ret
  exact ⟨rfl, rfl⟩

def RunsNewPost (pages : Int) (ds : List Int) (w : World) (e : Ending) (w' : World) : Prop :=
  ∃ s : RSt, e = .returned (.pointer (some ⟨s.q, 0, none⟩)) ∧ RunsIs w' s ∧ s.pages = pages ∧ s.ds = ds ∧ s.drawn = 1 ∧ s.xs = [(0, pages)] ∧ s.total = pages ∧
    (∃ B, s.t = putT B (ndOf (0, pages) (drawOf ds 0)) .nil) ∧ Below w.heap.size w w' ∧ (∀ k, s.fp k ∨ s.dv.ownBlock = some k → w.heap.size ≤ k)

set_option maxRecDepth 100000 in
set_option maxHeartbeats 2000000 in
theorem runsNew_any (pages : Int) (ds : List Int) (v : Value) (w : World) (h1 : 1 ≤ pages) (h2 : pages ≤ 4096) (hs : SrcOf w 1 v ds.length (ds.map (.int .u32 ·))) (hm : ds.length ≤ 100000) :
    Calls Try.prog 22 #[.int .i64 pages, v] w (RunsNewPost pages ds w) := by
  have F := Lib.hid (clone32_any v ds.length _ w hs (by simp [Value.oneCell']) (by omega))
  clear hs
  go_enter Try.func22, Try.ntmps22
  go_wp2_with fail
  refine F.out.mono ?_
  rintro e w1 ⟨dv, rfl, hdv, _, hb1⟩
  obtain ⟨da, dn, dc, rfl⟩ : ∃ a n c, dv = .slice a n c := by
    rcases hdv.2 with ⟨rfl, _⟩ | ⟨g, cap, cur, rfl, _⟩ <;> exact ⟨_, _, _, rfl⟩
  have Hdv := Lib.hid hdv
  have Hb1 := Lib.hid hb1
  clear hdv hb1
  go_wp2_with fail
  refine (treapNew_any w1).mono ?_
  rintro e w2 ⟨rfl, rfl⟩
  go_wp2_with fail
  have hk : Kept No w1 ((w1.alloc (Obj.cells #[Value.pointer none, Value.int IntKind.i64 0] 110)).alloc (Obj.cells #[Value.int IntKind.i64 pages, .slice da dn dc, Value.int IntKind.i64 0, Value.pointer (some ⟨w1.heap.size, 0, none⟩), Value.slice none 0 0, Value.int IntKind.i64 0] 85)) :=
    ((Kept.refl No w1).alloc _).alloc _
  have ho : ((w1.alloc (Obj.cells #[Value.pointer none, Value.int IntKind.i64 0] 110)).alloc (Obj.cells #[Value.int IntKind.i64 pages, .slice da dn dc, Value.int IntKind.i64 0, Value.pointer (some ⟨w1.heap.size, 0, none⟩), Value.slice none 0 0, Value.int IntKind.i64 0] 85)).heap[w1.heap.size + 1]? = some (.cells #[Value.int IntKind.i64 pages, .slice da dn dc, Value.int IntKind.i64 0, Value.pointer (some ⟨w1.heap.size, 0, none⟩), Value.slice none 0 0, Value.int IntKind.i64 0] 85 (0, 0)) := by
    have := heap_alloc_new (w1.alloc (Obj.cells #[Value.pointer none, Value.int IntKind.i64 0] 110)) (Obj.cells #[Value.int IntKind.i64 pages, .slice da dn dc, Value.int IntKind.i64 0, Value.pointer (some ⟨w1.heap.size, 0, none⟩), Value.slice none 0 0, Value.int IntKind.i64 0] 85)
    rwa [World.size_alloc] at this
  have htr : ((w1.alloc (Obj.cells #[Value.pointer none, Value.int IntKind.i64 0] 110)).alloc (Obj.cells #[Value.int IntKind.i64 pages, .slice da dn dc, Value.int IntKind.i64 0, Value.pointer (some ⟨w1.heap.size, 0, none⟩), Value.slice none 0 0, Value.int IntKind.i64 0] 85)).heap[w1.heap.size]? = some (.cells (treapCells .nil 0) 110 (0, 0)) :=
    block_alloc (heap_alloc_new w1 _) _
  generalize (w1.alloc (Obj.cells #[Value.pointer none, Value.int IntKind.i64 0] 110)).alloc (Obj.cells #[Value.int IntKind.i64 pages, .slice da dn dc, Value.int IntKind.i64 0, Value.pointer (some ⟨w1.heap.size, 0, none⟩), Value.slice none 0 0, Value.int IntKind.i64 0] 85) = W at hk ho htr ⊢
  have hR : RunsIs W ⟨w1.heap.size + 1, w1.heap.size, .slice da dn dc, .slice none 0 0, pages, ds, 0, .nil, [], 0⟩ :=
    { obj := ho
      draws := (ownsRow_kept (show w1.ownsRow 0 95 1 _ _ _ from ⟨Hdv.out.1, by
        rcases Hdv.out.2 with h | ⟨g, cap, cur, h1, h2, h3⟩
        · exact .inl h
        · exact .inr ⟨g, cap, cur, h1, Nat.zero_le _, h3⟩⟩) hk (fun _ _ h => h.elim))
      tree := ⟨0, htr, trivial, by simp [T.blocks]⟩
      list := World.ownsRow_nil _ _ _ _
      fits := fun p x h => by simp at h
      few := by simp
      manyDraws := hm
      drawnFits := by simp
      totalFits := by simp }
  refine (put_run _ (0, pages) 0 W hR ⟨Nat.zero_le _, fun p x h => absurd h (Nat.not_lt_zero _), fun p x _ h => by simp at h⟩ (by simp) (by simp) (by simp; omega) (by simp; omega) rfl (by simp) (by simp) (by simp; omega)).mono ?_
  rintro e w3 ⟨rfl, B, lv', hB, hR3, hk3, hl3⟩
  have HF : Hid (RunsNewPost pages ds w (.returned (.pointer (some ⟨w1.heap.size + 1, 0, none⟩))) w3) := by
    have hz : w.heap.size ≤ w1.heap.size := Hb1.out.size
    have hfp : ∀ k, RSt.fp ⟨w1.heap.size + 1, w1.heap.size, .slice da dn dc, .slice none 0 0, pages, ds, 0, .nil, [], 0⟩ k → w.heap.size ≤ k := fun k hk => by
      rcases hk with rfl | rfl | hk | hk
      · show w.heap.size ≤ w1.heap.size + 1; omega
      · exact hz
      · simp [T.blocks] at hk
      · simp [Value.ownBlock] at hk
    have hzW : w.heap.size ≤ W.heap.size := Nat.le_trans hz hk.size
    refine ⟨_, rfl, hR3, rfl, rfl, rfl, by simp [insR], by show (0 : Int) + pages = pages; omega, ⟨B, rfl⟩, ?_, ?_⟩
    · exact Hb1.out.trans ((hk.mono (fun _ h => h.elim)).trans hk3 (fun k h => .inl h) |>.below hz hfp)
    · intro k hk'
      rcases hk' with (rfl | rfl | hk' | hk') | hk'
      · show w.heap.size ≤ w1.heap.size + 1; omega
      · exact hz
      · rcases putT_mem hk' with h | h
        · simp [T.blocks] at h
        · omega
      · rcases hl3 k hk' with h | h
        · exact hfp k h
        · omega
      · exact (Hdv.out.lt k hk').1
  go_wp2
  go_ret
  exact HF.out

end Go.Proofs.Ytdeebagjmhpocaa
