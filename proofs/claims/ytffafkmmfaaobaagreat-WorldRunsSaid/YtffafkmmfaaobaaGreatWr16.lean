/- treap.New, runs.New. -/
import Derived.Test.YtffafkmmfaaobaaGreatWr15
import Derived.Test.YtffafkmmfaaobaaGreatWr0
import Derived.Test.YtffafkmmfaaobaaGreatWr9
namespace Go.Proofs.YtffafkmmfaaobaaGreat
set_option linter.unusedSimpArgs false
set_option linter.unusedVariables false
open Go.RowKit

set_option maxHeartbeats 1000000 in
theorem treapNew_any (w : World) : Calls Tryz.prog 153 #[] w fun e w' => e = .returned (.pointer (some ⟨w.heap.size, 0, none⟩)) ∧ w' = w.alloc (.cells #[.pointer none, .int .i64 0] 243) := by
  go_enter Tryz.func153, Tryz.ntmps153
  go_wp2
  go_ret
  exact ⟨rfl, rfl⟩

def RunsNewPost (pages : Int) (ds : List Int) (w : World) (e : Ending) (w' : World) : Prop :=
  ∃ s : RSt, e = .returned (.pointer (some ⟨s.q, 0, none⟩)) ∧ RunsIs w' s ∧ s.pages = pages ∧ s.ds = ds ∧ s.drawn = 1 ∧ s.xs = [(0, pages)] ∧ s.total = pages ∧
    (∃ B, s.t = putT B (ndOf (0, pages) (drawOf ds 0)) .nil) ∧ Below w.heap.size w w' ∧ (∀ k, s.fp k ∨ s.dv.ownBlock = some k → w.heap.size ≤ k)

set_option maxRecDepth 100000 in
set_option maxHeartbeats 2000000 in
theorem runsNew_any (pages : Int) (ds : List Int) (v : Value) (w : World) (h1 : 1 ≤ pages) (h2 : pages ≤ 4096) (hs : SrcOf w 1 v ds.length (ds.map (.int .u32 ·))) (hm : ds.length ≤ 100000) :
    Calls Tryz.prog 96 #[.int .i64 pages, v] w (RunsNewPost pages ds w) := by
  have F := Lib.hid (clone32_any v ds.length _ w hs (by simp [Value.oneCell']) (by omega))
  clear hs
  go_enter Tryz.func96, Tryz.ntmps96
  go_wp2_with fail
  refine F.out.mono ?_
  rintro e w1 ⟨dv, rfl, hdv, _, hb1⟩
  obtain ⟨da, dn, dc, rfl⟩ : ∃ a n c, dv = .slice a n c := by
    rcases hdv.2 with ⟨rfl, _⟩ | ⟨g, cap, cur, rfl, _⟩ <;> exact ⟨_, _, _, rfl⟩
  have Hdv := Lib.hid hdv
  have Hb1 := Lib.hid hb1
  clear hdv hb1
  go_wp2_with fail
  refine (treapNew_any w1).mono ?_
  rintro e w2 ⟨rfl, rfl⟩
  go_wp2_with fail
  have hk : Kept No w1 ((w1.alloc (Obj.cells #[Value.pointer none, Value.int IntKind.i64 0] 243)).alloc (Obj.cells #[Value.int IntKind.i64 pages, .slice da dn dc, Value.int IntKind.i64 0, Value.pointer (some ⟨w1.heap.size, 0, none⟩), Value.slice none 0 0, Value.int IntKind.i64 0] 193)) :=
    ((Kept.refl No w1).alloc _).alloc _
  have ho : ((w1.alloc (Obj.cells #[Value.pointer none, Value.int IntKind.i64 0] 243)).alloc (Obj.cells #[Value.int IntKind.i64 pages, .slice da dn dc, Value.int IntKind.i64 0, Value.pointer (some ⟨w1.heap.size, 0, none⟩), Value.slice none 0 0, Value.int IntKind.i64 0] 193)).heap[w1.heap.size + 1]? = some (.cells #[Value.int IntKind.i64 pages, .slice da dn dc, Value.int IntKind.i64 0, Value.pointer (some ⟨w1.heap.size, 0, none⟩), Value.slice none 0 0, Value.int IntKind.i64 0] 193 (0, 0)) := by
    have := heap_alloc_new (w1.alloc (Obj.cells #[Value.pointer none, Value.int IntKind.i64 0] 243)) (Obj.cells #[Value.int IntKind.i64 pages, .slice da dn dc, Value.int IntKind.i64 0, Value.pointer (some ⟨w1.heap.size, 0, none⟩), Value.slice none 0 0, Value.int IntKind.i64 0] 193)
    rwa [World.size_alloc] at this
  have htr : ((w1.alloc (Obj.cells #[Value.pointer none, Value.int IntKind.i64 0] 243)).alloc (Obj.cells #[Value.int IntKind.i64 pages, .slice da dn dc, Value.int IntKind.i64 0, Value.pointer (some ⟨w1.heap.size, 0, none⟩), Value.slice none 0 0, Value.int IntKind.i64 0] 193)).heap[w1.heap.size]? = some (.cells (treapCells .nil 0) 243 (0, 0)) :=
    block_alloc (heap_alloc_new w1 _) _
  generalize (w1.alloc (Obj.cells #[Value.pointer none, Value.int IntKind.i64 0] 243)).alloc (Obj.cells #[Value.int IntKind.i64 pages, .slice da dn dc, Value.int IntKind.i64 0, Value.pointer (some ⟨w1.heap.size, 0, none⟩), Value.slice none 0 0, Value.int IntKind.i64 0] 193) = W at hk ho htr ⊢
  have hR : RunsIs W ⟨w1.heap.size + 1, w1.heap.size, .slice da dn dc, .slice none 0 0, pages, ds, 0, .nil, [], 0⟩ :=
    { obj := ho
      draws := (ownsRow_kept (show w1.ownsRow 0 71 1 _ _ _ from ⟨Hdv.out.1, by
        rcases Hdv.out.2 with h | ⟨g, cap, cur, h1, h2, h3⟩
        · exact .inl h
        · exact .inr ⟨g, cap, cur, h1, Nat.zero_le _, h3⟩⟩) hk (fun _ _ h => h.elim))
      tree := ⟨0, htr, trivial, by simp [T.blocks]⟩
      list := World.ownsRow_nil _ _ _ _
      fits := fun p x h => by simp at h
      few := by simp
      manyDraws := hm
      drawnFits := by simp
      totalFits := by simp }
  refine (put_run _ (0, pages) 0 W hR ⟨Nat.zero_le _, fun p x h => absurd h (Nat.not_lt_zero _), fun p x _ h => by simp at h⟩ (by simp) (by simp) (by simp; omega) (by simp; omega) rfl (by simp) (by simp) (by simp; omega)).mono ?_
  rintro e w3 ⟨rfl, B, lv', hB, hR3, hk3, hl3⟩
  have HF : Hid (RunsNewPost pages ds w (.returned (.pointer (some ⟨w1.heap.size + 1, 0, none⟩))) w3) := by
    have hz : w.heap.size ≤ w1.heap.size := Hb1.out.size
    have hfp : ∀ k, RSt.fp ⟨w1.heap.size + 1, w1.heap.size, .slice da dn dc, .slice none 0 0, pages, ds, 0, .nil, [], 0⟩ k → w.heap.size ≤ k := fun k hk => by
      rcases hk with rfl | rfl | hk | hk
      · show w.heap.size ≤ w1.heap.size + 1; omega
      · exact hz
      · simp [T.blocks] at hk
      · simp [Value.ownBlock] at hk
    have hzW : w.heap.size ≤ W.heap.size := Nat.le_trans hz hk.size
    refine ⟨_, rfl, hR3, rfl, rfl, rfl, by simp [insR], by show (0 : Int) + pages = pages; omega, ⟨B, rfl⟩, ?_, ?_⟩
    · exact Hb1.out.trans ((hk.mono (fun _ h => h.elim)).trans hk3 (fun k h => .inl h) |>.below hz hfp)
    · intro k hk'
      rcases hk' with (rfl | rfl | hk' | hk') | hk'
      · show w.heap.size ≤ w1.heap.size + 1; omega
      · exact hz
      · rcases putT_mem hk' with h | h
        · simp [T.blocks] at h
        · omega
      · rcases hl3 k hk' with h | h
        · exact hfp k h
        · omega
      · exact (Hdv.out.lt k hk').1
  go_wp2
  go_ret
  exact HF.out

end Go.Proofs.YtffafkmmfaaobaaGreat

namespace Go.Proofs.YtffafkmmfaaobaaGreat
set_option linter.unusedSimpArgs false
set_option linter.unusedVariables false
open Go.RowKit

set_option maxRecDepth 100000 in
set_option maxHeartbeats 1000000 in
theorem wordsNew_any (n : Nat) (w : World) (h1 : 1 ≤ n) (h2 : n ≤ 65536) : Calls Tryz.prog 98 #[.int .i64 n] w (StoreNewPost 110 n w) := by
  obtain ⟨i0, hi, hz0, hz1, hz2⟩ := info_parts Tryz.info33
  have b1 : (1 : Int) ≤ n := by omega
  have b2 : (n : Int) ≤ 65536 := by omega
  go_enter Tryz.func98, Tryz.ntmps98
  go_wp2_with (at_make; refine wpList_make_full _ rfl _ _ 56 rfl w.heap.size 33 i0 _ 1 Tryz.underlying56 hi hz0 hz1 .i64 .i64 _ _ n rfl rfl rfl rfl (by rw [hz2]; omega) (by unfold maxLen; omega) (Nat.le_refl _) ?_; intro w1 hown hgrow)
  go_ret
  have hr := ownsRow_full hown
  rw [madeCells_one] at hr
  refine ⟨w1.heap.size, w.heap.size, rfl, ⟨?_, block_alloc hr _⟩, ((Kept.refl No w).grown hgrow (fun k hk => by cases hk) |>.alloc _).no_below, hgrow.size, Nat.le_refl _⟩
  rw [List.length_replicate]
  exact heap_alloc_new w1 _

theorem SrcOf.below {w w' : World} {size : Nat} {v : Value} {m : Nat} {news : List Value} (h : SrcOf w size v m news) (hb : Below w.heap.size w w') : SrcOf w' size v m news := by
  rcases h with h | ⟨a, c, rfl, h1, h2, h3⟩
  · exact .inl h
  · exact .inr ⟨a, c, rfl, h1, fun j u hu => (hb.cell (by rw [add_block]; exact h3 (by rintro rfl; simp at hu))).trans (h2 j u hu), fun hne => Nat.lt_of_lt_of_le (h3 hne) hb.size⟩

theorem box_keep {W W' : World} {b0 b1 : Nat} {x0 x2 y0 y1 : Option Value} (h : W.cell? ⟨b0, 0, none⟩ = x0 ∧ W.cell? ⟨b0, 2, none⟩ = x2 ∧ W.cell? ⟨b1, 0, none⟩ = y0 ∧ W.cell? ⟨b1, 1, none⟩ = y1) (hb : Below W.heap.size W W') (h0 : b0 < W.heap.size) (h1 : b1 < W.heap.size) :
    W'.cell? ⟨b0, 0, none⟩ = x0 ∧ W'.cell? ⟨b0, 2, none⟩ = x2 ∧ W'.cell? ⟨b1, 0, none⟩ = y0 ∧ W'.cell? ⟨b1, 1, none⟩ = y1 :=
  ⟨(hb.cell (p := ⟨b0, 0, none⟩) h0).trans h.1, (hb.cell (p := ⟨b0, 2, none⟩) h0).trans h.2.1, (hb.cell (p := ⟨b1, 0, none⟩) h1).trans h.2.2.1, (hb.cell (p := ⟨b1, 1, none⟩) h1).trans h.2.2.2⟩

structure ArenaIs (w : World) (a : Nat) (p t : Int) (s g : Nat) (ws : List Int) (rs : RSt) : Prop where
  obj : w.heap[a]? = some (.cells #[.int .i64 p, .int .i64 t, .pointer (some ⟨s, 0, none⟩), .pointer (some ⟨rs.q, 0, none⟩)] 153 (0, 0))
  store : StoreIs 187 w s g ws 0 0 0 0 0
  runs : RunsIs w rs

def ArenaPost (p t : Int) (ds : List Int) (w : World) (e : Ending) (w' : World) : Prop :=
  (¬ may p t → e = .returned (.pointer none)) ∧
  (may p t → ∃ a s g rs, e = .returned (.pointer (some ⟨a, 0, none⟩)) ∧ ArenaIs w' a p t s g ((List.replicate (wordsOf p t).toNat (0 : Int)).set 0 1) rs ∧
    rs.pages = p ∧ rs.ds = ds ∧ rs.drawn = 1 ∧ rs.xs = [(0, p)] ∧ rs.total = p ∧ (∃ B, rs.t = putT B (ndOf (0, p) (drawOf ds 0)) .nil) ∧
    w.heap.size ≤ a ∧ w.heap.size ≤ s ∧ w.heap.size ≤ g ∧ (∀ k, rs.fp k ∨ rs.dv.ownBlock = some k → w.heap.size ≤ k)) ∧
  Below w.heap.size w w'

set_option maxRecDepth 100000 in
set_option maxHeartbeats 4000000 in
theorem arenaNew_any (p t : Int) (v : Value) (ds : List Int) (w : World) (hs : SrcOf w 1 v ds.length (ds.map (.int .u32 ·))) (hd : ds.length ≤ 50) :
    Calls Tryz.prog 47 #[.agg #[.int .i64 p, .int .i64 t, v]] w (ArenaPost p t ds w) := by
  obtain ⟨da, dn, dc, rfl⟩ : ∃ a n c, v = .slice a n c := by
    rcases hs with ⟨rfl, _⟩ | ⟨a, c, rfl, _⟩ <;> exact ⟨_, _, _, rfl⟩
  have Hs := Lib.hid hs
  clear hs
  go_enter Tryz.func47, Tryz.ntmps47
  go_wp2_with fail
  refine (may_any p t _).mono ?_
  rintro e w1 ⟨b, rfl, hbt, hb1⟩
  cases b
  · go_wp2_with fail
    go_ret
    refine ⟨fun _ => rfl, fun h => absurd (hbt.2 h) (by simp), ?_⟩
    exact (((Below.refl w.heap.size w).alloc (Nat.le_refl _) _).alloc (by simp) _).trans (hb1.mono (by simp; omega))
  · obtain ⟨h1, h2, h3, h4⟩ := hbt.1 rfl
    obtain ⟨m, hm⟩ : ∃ m : Nat, wordsOf p t = m := ⟨(wordsOf p t).toNat, by unfold wordsOf; omega⟩
    have hm1 : 1 ≤ m := by unfold wordsOf at hm; omega
    have hm2 : m ≤ 65536 := by unfold wordsOf at hm; omega
    have hB : Below w.heap.size w w1 := (((Below.refl w.heap.size w).alloc (Nat.le_refl _) _).alloc (by simp) _).trans (hb1.mono (by simp; omega))
    have hz := hb1.size
    simp only [World.size_alloc] at hz
    have c0 : w1.cell? ⟨w.heap.size, 0, none⟩ = some (.int .i64 p) := by rw [hb1.cell (by simp; omega)]; simp
    have c2 : w1.cell? ⟨w.heap.size, 2, none⟩ = some (.slice da dn dc) := by rw [hb1.cell (by simp; omega)]; simp
    have d0 : w1.cell? ⟨w.heap.size + 1, 0, none⟩ = some (.int .i64 p) := by rw [hb1.cell (by simp)]; simp
    have d1 : w1.cell? ⟨w.heap.size + 1, 1, none⟩ = some (.int .i64 t) := by rw [hb1.cell (by simp)]; simp
    clear hb1 hbt
    generalize hn1 : w.heap.size + 1 = b1 at d0 d1 ⊢
    generalize hn0 : w.heap.size = b0 at c0 c2 ⊢
    go_wp2_with fail
    have hS0 : w1.drew.cell? ⟨b0, 0, none⟩ = some (.int .i64 p) ∧ w1.drew.cell? ⟨b0, 2, none⟩ = some (.slice da dn dc) ∧ w1.drew.cell? ⟨b1, 0, none⟩ = some (.int .i64 p) ∧ w1.drew.cell? ⟨b1, 1, none⟩ = some (.int .i64 t) := ⟨c0, c2, d0, d1⟩
    have hl0 : b0 < w1.drew.heap.size := by simp; omega
    have hl1 : b1 < w1.drew.heap.size := by simp; omega
    go_region_held3 (fun W => W.cell? ⟨b0, 0, none⟩ = some (.int .i64 p) ∧ W.cell? ⟨b0, 2, none⟩ = some (.slice da dn dc) ∧ W.cell? ⟨b1, 0, none⟩ = some (.int .i64 p) ∧ W.cell? ⟨b1, 1, none⟩ = some (.int .i64 t))
      (first
        | with_reducible exact hS0
        | with_reducible exact box_keep (box_keep (box_keep hS0 hb2 hl0 hl1) hb3 (Nat.lt_of_lt_of_le hl0 hb2.size) (Nat.lt_of_lt_of_le hl1 hb2.size)) hb4 (Nat.lt_of_lt_of_le (Nat.lt_of_lt_of_le hl0 hb2.size) hb3.size) (Nat.lt_of_lt_of_le (Nat.lt_of_lt_of_le hl1 hb2.size) hb3.size)
        | with_reducible exact box_keep (box_keep hS0 hb2 hl0 hl1) hb3 (Nat.lt_of_lt_of_le hl0 hb2.size) (Nat.lt_of_lt_of_le hl1 hb2.size)
        | with_reducible exact box_keep hS0 hb2 hl0 hl1
        | go_keep)
      (first
        | (go_at_call 95; refine (words_any _ _ _ h1 h2 h3 h4).mono ?_; rintro e w2 ⟨rfl, hb2⟩; rw [hm]; obtain ⟨hc2, hf2⟩ := bcell hb2)
        | (go_at_call 94; refine (begun_any m _ hm1 hm2).mono ?_; rintro e w3 ⟨s, g, rfl, hS, hb3, hs, hg⟩; obtain ⟨hc3, hf3⟩ := bcell hb3)
        | (go_at_call 96; refine (runsNew_any p ds _ _ h1 h2 (Hs.out.below ((hB.drew.trans (hb2.mono (by simp; omega))).trans (hb3.mono (by have := hb2.size; simp at this; omega)))) (by omega)).mono ?_; rintro e w4 ⟨rs, rfl, hR, r1, r2, r3, r4, r5, r6, hb4, hfp⟩; obtain ⟨hc4, hf4⟩ := bcell hb4))
    have hz2 : w1.heap.size ≤ w2.heap.size := hb2.size
    have hz3 := hb3.size
    have hz4 := hb4.size
    have hb34 : Below w3.heap.size w3 (w4.alloc (.cells #[.int .i64 p, .int .i64 t, .pointer (some ⟨s, 0, none⟩), .pointer (some ⟨rs.q, 0, none⟩)] 153)) := hb4.alloc hb4.size _
    have HF : Hid (ArenaPost p t ds w (.returned (.pointer (some ⟨w4.heap.size, 0, none⟩))) (w4.alloc (.cells #[.int .i64 p, .int .i64 t, .pointer (some ⟨s, 0, none⟩), .pointer (some ⟨rs.q, 0, none⟩)] 153))) := by
      refine ⟨fun h => absurd ⟨h1, h2, h3, h4⟩ h, fun _ => ⟨w4.heap.size, s, g, rs, rfl, ⟨heap_alloc_new w4 _, ?_, ?_⟩, r1, r2, r3, r4, r5, r6, by omega, by omega, by omega, fun k hk => by have := hfp k hk; omega⟩, ?_⟩
      · rw [hm]; exact hS.below hb34
      · exact hR.below ((Below.refl _ _).alloc (Nat.le_refl _) _)
      · exact ((hB.drew.trans (hb2.mono (by simp; omega))).trans (hb3.mono (by omega))).trans (hb34.mono (by omega))
    go_wp2_with fail
    go_ret
    exact HF.out
end Go.Proofs.YtffafkmmfaaobaaGreat

namespace Go.Proofs.YtffafkmmfaaobaaGreat
set_option linter.unusedSimpArgs false
set_option linter.unusedVariables false
open Go.RowKit

/-- An item of the reference's tree. -/
structure It where
  key : Int
  draw : Int
  v : Int

def itCells : List It → List Value
  | [] => []
  | x :: r => .int .i64 x.key :: .int .u32 x.draw :: .int .i64 x.v :: itCells r
theorem itCells_length : ∀ (a : List It), (itCells a).length = a.length * 3
  | [] => rfl
  | x :: r => by simp [itCells, itCells_length r]; omega
theorem itCells_append : ∀ (a b : List It), itCells (a ++ b) = itCells a ++ itCells b
  | [], _ => rfl
  | x :: r, b => by simp [itCells, itCells_append r b]
theorem itCells_get : ∀ (a : List It) (i : Nat) (x : It), a[i]? = some x → (itCells a)[i * 3]? = some (.int .i64 x.key) ∧ (itCells a)[i * 3 + 1]? = some (.int .u32 x.draw) ∧ (itCells a)[i * 3 + 2]? = some (.int .i64 x.v)
  | [], i, x, h => by simp at h
  | y :: r, 0, x, h => by simp at h; subst h; simp [itCells]
  | y :: r, i + 1, x, h => by
    have := itCells_get r i x (by simpa using h)
    rw [show (i + 1) * 3 = i * 3 + 1 + 1 + 1 by omega]
    simpa [itCells] using this
theorem itCells_one : ∀ (a : List It), ∀ u ∈ itCells a, u.oneCell' = true
  | [], u, h => by simp [itCells] at h
  | x :: r, u, h => by
    simp only [itCells, List.mem_cons] at h
    rcases h with rfl | rfl | rfl | h
    · rfl
    · rfl
    · rfl
    · exact itCells_one r u h
theorem itCells_take : ∀ (xs : List It) (i : Nat), (itCells xs).take (i * 3) = itCells (xs.take i)
  | [], i => by simp [itCells]
  | x :: r, 0 => by simp [itCells]
  | x :: r, i + 1 => by
    rw [show (i + 1) * 3 = i * 3 + 1 + 1 + 1 by omega]
    simp [itCells, itCells_take r i]
theorem itCells_drop : ∀ (xs : List It) (i : Nat), (itCells xs).drop (i * 3) = itCells (xs.drop i)
  | [], i => by simp [itCells]
  | x :: r, 0 => by simp [itCells]
  | x :: r, i + 1 => by
    rw [show (i + 1) * 3 = i * 3 + 1 + 1 + 1 by omega]
    simp [itCells, itCells_drop r i]

theorem ownsRow_it {w : World} {base : Nat} {g n cap : Nat} {xs : List It} (h : w.ownsRow base 274 3 (.slice (some ⟨g, 0, none⟩) n cap) n (itCells xs)) {i : Nat} {x : It} (hx : xs[i]? = some x) :
    w.cell? ⟨g, i * 3, none⟩ = some (.int .i64 x.key) ∧ w.cell? ⟨g, i * 3 + 1, none⟩ = some (.int .u32 x.draw) ∧ w.cell? ⟨g, i * 3 + 2, none⟩ = some (.int .i64 x.v) := by
  obtain ⟨h1, h2, h3⟩ := itCells_get xs i x hx
  have := h.cells (g := g) rfl
  exact ⟨by simpa only [addAt] using this _ _ h1, by simpa only [addAt] using this _ _ h2, by simpa only [addAt] using this _ _ h3⟩

/-- Where the items part: those ahead of it lie below k, no other one does. -/
structure PartsI (xs : List It) (k : Int) (i : Nat) : Prop where
  le : i ≤ xs.length
  lo : ∀ p x, p < i → xs[p]? = some x → x.key < k
  hi : ∀ x, xs[i]? = some x → k ≤ x.key

set_option maxRecDepth 100000 in
set_option maxHeartbeats 2000000 in
theorem tplace_any (xs : List It) (v : Value) (q : Nat) (k : Int) (i : Nat) (w : World) (base : Nat) (hc : w.cell? ⟨q, 1, none⟩ = some v) (hrow : w.ownsRow base 274 3 v xs.length (itCells xs)) (hl : xs.length ≤ 100000) (hp : PartsI xs k i) :
    Calls Tryz.prog 262 #[.pointer (some ⟨q, 1, none⟩), .int .i64 k] w fun e w' => e = .returned (.int .i64 i) ∧ w = w' := by
  obtain ⟨n, hn⟩ : ∃ n, n = xs.length := ⟨_, rfl⟩
  rw [← hn] at hrow hl
  have hin : i ≤ n := by rw [hn]; exact hp.le
  rcases hrow.2 with ⟨rfl, h0⟩ | ⟨g, cap, cur, rfl, hbg, hg, _⟩
  · have hi : i = 0 := by omega
    subst hi
    clear hrow hp h0 hn hin hl
    go_enter Tryz.func262, Tryz.ntmps262
    go_wp2
    go_loopg [5] 0 (fun n v wr => w = wr ∧ v = .int .i64 0)
    case atStart => exact ⟨rfl, rfl⟩
    case round =>
      obtain ⟨rfl, rfl⟩ := hrel
      go_wp2
      go_ret
      exact ⟨rfl, rfl⟩
  · have HH : Hid (w.ownsRow base 274 3 (.slice (some ⟨g, 0, none⟩) n cap) n (itCells xs) ∧ n = xs.length) := ⟨hrow, hn⟩
    have HP := Lib.hid hp
    clear hrow hp hg hn
    go_enter Tryz.func262, Tryz.ntmps262
    go_wp2
    go_loopg [5] n (fun m lo wr => ∃ a : Nat, lo = .int .i64 a ∧ a ≤ i ∧ i - a ≤ m ∧ w = wr)
    case atStart => exact ⟨0, rfl, Nat.zero_le _, by omega, rfl⟩
    case round =>
      obtain ⟨a, rfl, ha, hm, rfl⟩ := hrel
      by_cases han : a < n
      · have han' : (a : Int) < n := by omega
        obtain ⟨x, hx⟩ : ∃ x, xs[a]? = some x := ⟨_, List.getElem?_eq_getElem (by have := HH.out.2; omega)⟩
        have d0 := (ownsRow_it HH.out.1 hx).1
        by_cases hai : a < i
        · have hlt : x.key < k := HP.out.lo a x hai hx
          have hm' := Lib.hid hm
          clear hx hm
          go_wp2
          go_roundg (i - (a + 1))
          case measure => have := hm'.out; omega
          case rel => exact ⟨a + 1, by go_num, by omega, Nat.le_refl _, rfl⟩
        · obtain rfl : a = i := by omega
          have hlt : ¬ x.key < k := by have := HP.out.hi x hx; omega
          clear hx hm
          go_wp2
          go_ret
          exact ⟨rfl, rfl⟩
      · have han' : ¬ (a : Int) < n := by omega
        obtain rfl : a = i := by omega
        go_wp2
        go_ret
        exact ⟨rfl, rfl⟩

/-- Is the key there? -/
def hasI (xs : List It) (k : Int) : Bool := xs.any (·.key == k)

set_option maxRecDepth 100000 in
set_option maxHeartbeats 2000000 in
theorem thas_any (xs : List It) (v : Value) (q : Nat) (k : Int) (i : Nat) (w : World) (base : Nat) (b : Bool) (hc : w.cell? ⟨q, 1, none⟩ = some v) (hrow : w.ownsRow base 274 3 v xs.length (itCells xs)) (hl : xs.length ≤ 100000) (hp : PartsI xs k i)
    (hb : b = match xs[i]? with | some x => x.key == k | none => false) :
    Calls Tryz.prog 261 #[.pointer (some ⟨q, 1, none⟩), .int .i64 k] w fun e w' => e = .returned (.bool b) ∧ w = w' := by
  have F := Lib.hid (tplace_any xs v q k i w base hc hrow hl hp)
  have hi0 := hp.le
  obtain ⟨n, hn⟩ : ∃ n, n = xs.length := ⟨_, rfl⟩
  rw [← hn] at hrow hl hi0
  rcases hrow.2 with ⟨rfl, h0⟩ | ⟨g, cap, cur, rfl, hbg, hg, _⟩
  · have hi : i = 0 := by omega
    subst hi
    have hb' : b = false := by
      have : xs = [] := List.eq_nil_of_length_eq_zero (by omega)
      subst this; simpa using hb
    subst hb'
    clear hrow hp h0 hn hl hb
    go_enter Tryz.func261, Tryz.ntmps261
    go_wp2_with fail
    refine F.out.mono ?_
    rintro e w1 ⟨rfl, rfl⟩
    go_wp2
    go_ret
    exact ⟨rfl, rfl⟩
  · rcases Nat.lt_or_ge i n with h | h
    · have han' : (i : Int) < n := by omega
      obtain ⟨x, hx⟩ : ∃ x, xs[i]? = some x := ⟨_, List.getElem?_eq_getElem (by omega)⟩
      have d0 := (ownsRow_it hrow hx).1
      have hb' : Hid ((x.key == k) = b) := by unfold Hid; rw [hb, hx]
      clear hrow hp hn hl hb hx hg
      go_enter Tryz.func261, Tryz.ntmps261
      go_wp2_with fail
      refine F.out.mono ?_
      rintro e w1 ⟨rfl, rfl⟩
      go_wp2
      go_ret
      exact ⟨by rw [← hb'.out]; rfl, rfl⟩
    · have han' : ¬ (i : Int) < n := by omega
      have hb' : b = false := by rw [hb, List.getElem?_eq_none (by omega)]
      subst hb'
      clear hrow hp hn hl hb hg
      go_enter Tryz.func261, Tryz.ntmps261
      go_wp2_with fail
      refine F.out.mono ?_
      rintro e w1 ⟨rfl, rfl⟩
      go_wp2
      go_ret
      exact ⟨rfl, rfl⟩

end Go.Proofs.YtffafkmmfaaobaaGreat
