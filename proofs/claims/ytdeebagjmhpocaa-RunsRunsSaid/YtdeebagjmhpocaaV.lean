/- The reference's words; the arena. -/
import Derived.Test.YtdeebagjmhpocaaW
import Derived.Test.YtdeebagjmhpocaaA
import Derived.Test.YtdeebagjmhpocaaN
namespace Go.Proofs.Ytdeebagjmhpocaa
set_option linter.unusedSimpArgs false
set_option linter.unusedVariables false
open Go.RowKit

set_option maxRecDepth 100000 in
set_option maxHeartbeats 1000000 in
theorem wordsNew_any (n : Nat) (w : World) (h1 : 1 ≤ n) (h2 : n ≤ 65536) : Calls Try.prog 37 #[.int .i64 n] w (StoreNewPost 47 n w) := by
  obtain ⟨i0, hi, hz0, hz1, hz2⟩ := info_parts Try.info43
  have b1 : (1 : Int) ≤ n := by omega
  have b2 : (n : Int) ≤ 65536 := by omega
  go_enter Try.func37, Try.ntmps37
  go_wp2_with (at_make; refine wpList_make_full _ rfl _ _ 39 rfl w.heap.size 43 i0 _ 1 Try.underlying39 hi hz0 hz1 .i64 .i64 _ _ n rfl rfl rfl rfl (by rw [hz2]; omega) (by unfold maxLen; omega) (Nat.le_refl _) ?_; intro w1 hown hgrow)
  go_ret
  have hr := ownsRow_full hown
  rw [madeCells_one] at hr
  refine ⟨w1.heap.size, w.heap.size, rfl, ⟨?_, block_alloc hr _⟩, ((Kept.refl No w).grown hgrow (fun k hk => by cases hk) |>.alloc _).no_below, hgrow.size, Nat.le_refl _⟩
  rw [List.length_replicate]
  exact heap_alloc_new w1 _

theorem SrcOf.below {w w' : World} {size : Nat} {v : Value} {m : Nat} {news : List Value} (h : SrcOf w size v m news) (hb : Below w.heap.size w w') : SrcOf w' size v m news := by
  rcases h with h | ⟨a, c, rfl, h1, h2, h3⟩
  · exact .inl h
  · exact .inr ⟨a, c, rfl, h1, fun j u hu => (hb.cell (by rw [add_block]; exact h3 (by rintro rfl; simp at hu))).trans (h2 j u hu), fun hne => Nat.lt_of_lt_of_le (h3 hne) hb.size⟩

theorem box_keep {W W' : World} {b0 b1 : Nat} {x0 x2 y0 y1 : Option Value} (h : W.cell? ⟨b0, 0, none⟩ = x0 ∧ W.cell? ⟨b0, 2, none⟩ = x2 ∧ W.cell? ⟨b1, 0, none⟩ = y0 ∧ W.cell? ⟨b1, 1, none⟩ = y1) (hb : Below W.heap.size W W') (h0 : b0 < W.heap.size) (h1 : b1 < W.heap.size) :
    W'.cell? ⟨b0, 0, none⟩ = x0 ∧ W'.cell? ⟨b0, 2, none⟩ = x2 ∧ W'.cell? ⟨b1, 0, none⟩ = y0 ∧ W'.cell? ⟨b1, 1, none⟩ = y1 :=
  ⟨(hb.cell (p := ⟨b0, 0, none⟩) h0).trans h.1, (hb.cell (p := ⟨b0, 2, none⟩) h0).trans h.2.1, (hb.cell (p := ⟨b1, 0, none⟩) h1).trans h.2.2.1, (hb.cell (p := ⟨b1, 1, none⟩) h1).trans h.2.2.2⟩

structure ArenaIs (w : World) (a : Nat) (p t : Int) (s g : Nat) (ws : List Int) (rs : RSt) : Prop where
  obj : w.heap[a]? = some (.cells #[.int .i64 p, .int .i64 t, .pointer (some ⟨s, 0, none⟩), .pointer (some ⟨rs.q, 0, none⟩)] 74 (0, 0))
  store : StoreIs 81 w s g ws 0 0 0 0 0
  runs : RunsIs w rs

def ArenaPost (p t : Int) (ds : List Int) (w : World) (e : Ending) (w' : World) : Prop :=
  (¬ may p t → e = .returned (.pointer none)) ∧
  (may p t → ∃ a s g rs, e = .returned (.pointer (some ⟨a, 0, none⟩)) ∧ ArenaIs w' a p t s g ((List.replicate (wordsOf p t).toNat (0 : Int)).set 0 1) rs ∧
    rs.pages = p ∧ rs.ds = ds ∧ rs.drawn = 1 ∧ rs.xs = [(0, p)] ∧ rs.total = p ∧ (∃ B, rs.t = putT B (ndOf (0, p) (drawOf ds 0)) .nil) ∧
    w.heap.size ≤ a ∧ w.heap.size ≤ s ∧ w.heap.size ≤ g ∧ (∀ k, rs.fp k ∨ rs.dv.ownBlock = some k → w.heap.size ≤ k)) ∧
  Below w.heap.size w w'

set_option maxRecDepth 100000 in
set_option maxHeartbeats 4000000 in
theorem arenaNew_any (p t : Int) (v : Value) (ds : List Int) (w : World) (hs : SrcOf w 1 v ds.length (ds.map (.int .u32 ·))) (hd : ds.length ≤ 50) :
    Calls Try.prog 6 #[.agg #[.int .i64 p, .int .i64 t, v]] w (ArenaPost p t ds w) := by
  obtain ⟨da, dn, dc, rfl⟩ : ∃ a n c, v = .slice a n c := by
    rcases hs with ⟨rfl, _⟩ | ⟨a, c, rfl, _⟩ <;> exact ⟨_, _, _, rfl⟩
  have Hs := Lib.hid hs
  clear hs
  go_enter Try.func6, Try.ntmps6
  go_wp2_with fail
  refine (may_any p t _).mono ?_
  rintro e w1 ⟨b, rfl, hbt, hb1⟩
  cases b
  · go_wp2_with fail
    go_ret
    refine ⟨fun _ => rfl, fun h => absurd (hbt.2 h) (by simp), ?_⟩
    exact (((Below.refl w.heap.size w).alloc (Nat.le_refl _) _).alloc (by simp) _).trans (hb1.mono (by simp; omega))
  · obtain ⟨h1, h2, h3, h4⟩ := hbt.1 rfl
    obtain ⟨m, hm⟩ : ∃ m : Nat, wordsOf p t = m := ⟨(wordsOf p t).toNat, by unfold wordsOf; omega⟩
    have hm1 : 1 ≤ m := by unfold wordsOf at hm; omega
    have hm2 : m ≤ 65536 := by unfold wordsOf at hm; omega
    have hB : Below w.heap.size w w1 := (((Below.refl w.heap.size w).alloc (Nat.le_refl _) _).alloc (by simp) _).trans (hb1.mono (by simp; omega))
    have hz := hb1.size
    simp only [World.size_alloc] at hz
    have c0 : w1.cell? ⟨w.heap.size, 0, none⟩ = some (.int .i64 p) := by rw [hb1.cell (by simp; omega)]; simp
    have c2 : w1.cell? ⟨w.heap.size, 2, none⟩ = some (.slice da dn dc) := by rw [hb1.cell (by simp; omega)]; simp
    have d0 : w1.cell? ⟨w.heap.size + 1, 0, none⟩ = some (.int .i64 p) := by rw [hb1.cell (by simp)]; simp
    have d1 : w1.cell? ⟨w.heap.size + 1, 1, none⟩ = some (.int .i64 t) := by rw [hb1.cell (by simp)]; simp
    clear hb1 hbt
    generalize hn1 : w.heap.size + 1 = b1 at d0 d1 ⊢
    generalize hn0 : w.heap.size = b0 at c0 c2 ⊢
    go_wp2_with fail
    have hS0 : w1.drew.cell? ⟨b0, 0, none⟩ = some (.int .i64 p) ∧ w1.drew.cell? ⟨b0, 2, none⟩ = some (.slice da dn dc) ∧ w1.drew.cell? ⟨b1, 0, none⟩ = some (.int .i64 p) ∧ w1.drew.cell? ⟨b1, 1, none⟩ = some (.int .i64 t) := ⟨c0, c2, d0, d1⟩
    have hl0 : b0 < w1.drew.heap.size := by simp; omega
    have hl1 : b1 < w1.drew.heap.size := by simp; omega
    go_region_held3 (fun W => W.cell? ⟨b0, 0, none⟩ = some (.int .i64 p) ∧ W.cell? ⟨b0, 2, none⟩ = some (.slice da dn dc) ∧ W.cell? ⟨b1, 0, none⟩ = some (.int .i64 p) ∧ W.cell? ⟨b1, 1, none⟩ = some (.int .i64 t))
      (first
        | with_reducible exact hS0
        | with_reducible exact box_keep (box_keep (box_keep hS0 hb2 hl0 hl1) hb3 (Nat.lt_of_lt_of_le hl0 hb2.size) (Nat.lt_of_lt_of_le hl1 hb2.size)) hb4 (Nat.lt_of_lt_of_le (Nat.lt_of_lt_of_le hl0 hb2.size) hb3.size) (Nat.lt_of_lt_of_le (Nat.lt_of_lt_of_le hl1 hb2.size) hb3.size)
        | with_reducible exact box_keep (box_keep hS0 hb2 hl0 hl1) hb3 (Nat.lt_of_lt_of_le hl0 hb2.size) (Nat.lt_of_lt_of_le hl1 hb2.size)
        | with_reducible exact box_keep hS0 hb2 hl0 hl1
        | go_keep)
      (first
        | (go_at_call 35; refine (words_any _ _ _ h1 h2 h3 h4).mono ?_; rintro e w2 ⟨rfl, hb2⟩; rw [hm]; obtain ⟨hc2, hf2⟩ := bcell hb2)
        | (go_at_call 34; refine (begun_any m _ hm1 hm2).mono ?_; rintro e w3 ⟨s, g, rfl, hS, hb3, hs, hg⟩; obtain ⟨hc3, hf3⟩ := bcell hb3)
        | (go_at_call 22; refine (runsNew_any p ds _ _ h1 h2 (Hs.out.below ((hB.drew.trans (hb2.mono (by simp; omega))).trans (hb3.mono (by have := hb2.size; simp at this; omega)))) (by omega)).mono ?_; rintro e w4 ⟨rs, rfl, hR, r1, r2, r3, r4, r5, r6, hb4, hfp⟩; obtain ⟨hc4, hf4⟩ := bcell hb4))
    have hz2 : w1.heap.size ≤ w2.heap.size := hb2.size
    have hz3 := hb3.size
    have hz4 := hb4.size
    have hb34 : Below w3.heap.size w3 (w4.alloc (.cells #[.int .i64 p, .int .i64 t, .pointer (some ⟨s, 0, none⟩), .pointer (some ⟨rs.q, 0, none⟩)] 74)) := hb4.alloc hb4.size _
    have HF : Hid (ArenaPost p t ds w (.returned (.pointer (some ⟨w4.heap.size, 0, none⟩))) (w4.alloc (.cells #[.int .i64 p, .int .i64 t, .pointer (some ⟨s, 0, none⟩), .pointer (some ⟨rs.q, 0, none⟩)] 74))) := by
      refine ⟨fun h => absurd ⟨h1, h2, h3, h4⟩ h, fun _ => ⟨w4.heap.size, s, g, rs, rfl, ⟨heap_alloc_new w4 _, ?_, ?_⟩, r1, r2, r3, r4, r5, r6, by omega, by omega, by omega, fun k hk => by have := hfp k hk; omega⟩, ?_⟩
      · rw [hm]; exact hS.below hb34
      · exact hR.below ((Below.refl _ _).alloc (Nat.le_refl _) _)
      · exact ((hB.drew.trans (hb2.mono (by simp; omega))).trans (hb3.mono (by omega))).trans (hb34.mono (by omega))
    go_wp2_with fail
    go_ret
    exact HF.out
end Go.Proofs.Ytdeebagjmhpocaa
