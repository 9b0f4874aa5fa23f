/- NewMem. -/
import Derived.Test.YtdeebagjmhpocaaL
namespace Go.Proofs.Ytdeebagjmhpocaa
set_option linter.unusedSimpArgs false
set_option linter.unusedVariables false
open Go.RowKit

structure MemIs (w : World) (a : Nat) (p t : Int) (s g : Nat) (ws : List Int) (rs : FSt) : Prop where
  obj : w.heap[a]? = some (.cells #[.pointer (some ⟨s, 0, none⟩), .pointer (some ⟨rs.q, 0, none⟩), .int .i64 p, .int .i64 t] 36 (0, 0))
  store : StoreIs 47 w s g ws 0 0 0 0 0
  runs : RefIs w rs

def MemPost (p t : Int) (ds : List Int) (w : World) (e : Ending) (w' : World) : Prop :=
  (¬ may p t → e = .returned (.pointer none)) ∧
  (may p t → ∃ a s g rs, e = .returned (.pointer (some ⟨a, 0, none⟩)) ∧ MemIs w' a p t s g ((List.replicate (wordsOf p t).toNat (0 : Int)).set 0 1) rs ∧
    rs.free = List.replicate p.toNat true ∧ rs.its = [itOf (0, p) (drawOf ds 0)] ∧ rs.ds = ds ∧ rs.n = 1) ∧
  Below w.heap.size w w'

set_option maxRecDepth 100000 in
set_option maxHeartbeats 4000000 in
theorem newMem_any (p t : Int) (v : Value) (ds : List Int) (w : World) (hs : SrcOf w 1 v ds.length (ds.map (.int .u32 ·))) (hd : ds.length ≤ 50) :
    Calls Try.prog 7 #[.agg #[.int .i64 p, .int .i64 t, v]] w (MemPost p t ds w) := by
  obtain ⟨da, dn, dc, rfl⟩ : ∃ a n c, v = .slice a n c := by
    rcases hs with ⟨rfl, _⟩ | ⟨a, c, rfl, _⟩ <;> exact ⟨_, _, _, rfl⟩
  have Hs := Lib.hid hs
  clear hs
  go_enter Try.func7, Try.ntmps7
  go_wp2_with fail
  refine (rmay_any p t _).mono ?_
  rintro e w1 ⟨b, rfl, hbt, hb1⟩
  cases b
  · go_wp2_with fail
    go_ret
    refine ⟨fun _ => rfl, fun h => absurd (hbt.2 h) (by simp), ?_⟩
    exact (((Below.refl w.heap.size w).alloc (Nat.le_refl _) _).alloc (by simp) _).trans (hb1.mono (by simp; omega))
  · obtain ⟨h1, h2, h3, h4⟩ := hbt.1 rfl
    obtain ⟨pn, rfl⟩ := Int.eq_ofNat_of_zero_le (show 0 ≤ p by omega)
    obtain ⟨m, hm⟩ : ∃ m : Nat, wordsOf (pn : Int) t = m := ⟨(wordsOf (pn : Int) t).toNat, by unfold wordsOf; omega⟩
    have hm1 : 1 ≤ m := by unfold wordsOf at hm; omega
    have hm2 : m ≤ 65536 := by unfold wordsOf at hm; omega
    have hB : Below w.heap.size w w1 := (((Below.refl w.heap.size w).alloc (Nat.le_refl _) _).alloc (by simp) _).trans (hb1.mono (by simp; omega))
    have hz := hb1.size
    simp only [World.size_alloc] at hz
    have c0 : w1.cell? ⟨w.heap.size, 0, none⟩ = some (.int .i64 (pn : Int)) := by rw [hb1.cell (by simp; omega)]; simp
    have c2 : w1.cell? ⟨w.heap.size, 2, none⟩ = some (.slice da dn dc) := by rw [hb1.cell (by simp; omega)]; simp
    have d0 : w1.cell? ⟨w.heap.size + 1, 0, none⟩ = some (.int .i64 (pn : Int)) := by rw [hb1.cell (by simp)]; simp
    have d1 : w1.cell? ⟨w.heap.size + 1, 1, none⟩ = some (.int .i64 t) := by rw [hb1.cell (by simp)]; simp
    clear hb1 hbt
    generalize hn1 : w.heap.size + 1 = b1 at d0 d1 ⊢
    generalize hn0 : w.heap.size = b0 at c0 c2 ⊢
    go_wp2_with fail
    have hS0 : w1.drew.cell? ⟨b0, 0, none⟩ = some (.int .i64 (pn : Int)) ∧ w1.drew.cell? ⟨b0, 2, none⟩ = some (.slice da dn dc) ∧ w1.drew.cell? ⟨b1, 0, none⟩ = some (.int .i64 (pn : Int)) ∧ w1.drew.cell? ⟨b1, 1, none⟩ = some (.int .i64 t) := ⟨c0, c2, d0, d1⟩
    have hl0 : b0 < w1.drew.heap.size := by simp; omega
    have hl1 : b1 < w1.drew.heap.size := by simp; omega
    go_region_held3 (fun W => W.cell? ⟨b0, 0, none⟩ = some (.int .i64 (pn : Int)) ∧ W.cell? ⟨b0, 2, none⟩ = some (.slice da dn dc) ∧ W.cell? ⟨b1, 0, none⟩ = some (.int .i64 (pn : Int)) ∧ W.cell? ⟨b1, 1, none⟩ = some (.int .i64 t))
      (first
        | with_reducible exact hS0
        | with_reducible exact box_keep (box_keep (box_keep hS0 hb2 hl0 hl1) hb3 (Nat.lt_of_lt_of_le hl0 hb2.size) (Nat.lt_of_lt_of_le hl1 hb2.size)) hb4 (Nat.lt_of_lt_of_le (Nat.lt_of_lt_of_le hl0 hb2.size) hb3.size) (Nat.lt_of_lt_of_le (Nat.lt_of_lt_of_le hl1 hb2.size) hb3.size)
        | with_reducible exact box_keep (box_keep hS0 hb2 hl0 hl1) hb3 (Nat.lt_of_lt_of_le hl0 hb2.size) (Nat.lt_of_lt_of_le hl1 hb2.size)
        | with_reducible exact box_keep hS0 hb2 hl0 hl1
        | go_keep)
      (first
        | (go_at_call 38; refine (rwords_any _ _ _ h1 h2 h3 h4).mono ?_; rintro e w2 ⟨rfl, hb2⟩; rw [hm]; obtain ⟨hc2, hf2⟩ := bcell hb2)
        | (go_at_call 37; refine (wordsNew_any m _ hm1 hm2).mono ?_; rintro e w3 ⟨s, g, rfl, hS, hb3, hs, hg⟩; obtain ⟨hc3, hf3⟩ := bcell hb3)
        | (go_at_call 24; refine (refNew_any pn _ ds _ (by omega) (by omega) (Hs.out.below ((hB.drew.trans (hb2.mono (by simp; omega))).trans (hb3.mono (by have := hb2.size; simp at this; omega)))) (by omega)).mono ?_; rintro e w4 ⟨rs, rfl, hR, r1, r2, r3, r4, hb4, hfp⟩; obtain ⟨hc4, hf4⟩ := bcell hb4))
    have hz2 : w1.heap.size ≤ w2.heap.size := hb2.size
    have hz3 := hb3.size
    have hz4 := hb4.size
    have hb34 : Below w3.heap.size w3 (w4.alloc (.cells #[.pointer (some ⟨s, 0, none⟩), .pointer (some ⟨rs.q, 0, none⟩), .int .i64 (pn : Int), .int .i64 t] 36)) := hb4.alloc hb4.size _
    have hA : (w4.alloc (.cells #[.pointer (some ⟨s, 0, none⟩), .pointer (some ⟨rs.q, 0, none⟩), .int .i64 (pn : Int), .int .i64 t] 36)).heap[w4.heap.size]? = some (.cells #[.pointer (some ⟨s, 0, none⟩), .pointer (some ⟨rs.q, 0, none⟩), .int .i64 (pn : Int), .int .i64 t] 36 (0, 0)) := heap_alloc_new w4 _
    have hR5 := hR.below ((Below.refl w4.heap.size w4).alloc (Nat.le_refl _) (.cells #[.pointer (some ⟨s, 0, none⟩), .pointer (some ⟨rs.q, 0, none⟩), .int .i64 (pn : Int), .int .i64 t] 36))
    have hS5 := hS.below hb34
    have hB5 : Below w.heap.size w _ := ((hB.drew.trans (hb2.mono (by simp; omega))).trans (hb3.mono (by omega))).trans (hb34.mono (by omega))
    generalize w4.alloc (.cells #[.pointer (some ⟨s, 0, none⟩), .pointer (some ⟨rs.q, 0, none⟩), .int .i64 (pn : Int), .int .i64 t] 36) = w5 at hA hR5 hS5 hB5 ⊢
    generalize w4.heap.size = a at hA ⊢
    have a0 : w5.cell? ⟨a, 0, none⟩ = some (.pointer (some ⟨s, 0, none⟩)) := cellOf hA 0
    have s0 : w5.cell? ⟨s, 0, none⟩ = some (.slice (some ⟨g, 0, none⟩) m m) := by have := cellOf hS5.obj 0; simpa using this
    have g0 : w5.cell? ⟨g, 0, none⟩ = some (.int .u64 0) := by
      rw [cellOf hS5.row 0, List.getElem?_toArray, List.map_replicate, List.getElem?_replicate, if_pos (by omega)]
    have f0 : w5.frozen? ⟨g, 0, none⟩ = false := freeOf hS5.row 0
    have ea : a ≠ g := type_ne' hA hS5.row (by decide)
    have es : s ≠ g := type_ne' hS5.obj hS5.row (by decide)
    have hkg : Kept (· = g) w5 (w5.setCell ⟨g, 0, none⟩ (.int .u64 1)) := (Kept.refl (· = g) w5).setCell (p := ⟨g, 0, none⟩) (.inl rfl) _
    have HF : Hid (MemPost (pn : Int) t ds w (.returned (.pointer (some ⟨a, 0, none⟩))) (w5.setCell ⟨g, 0, none⟩ (.int .u64 1))) := by
      refine ⟨fun h => absurd ⟨h1, h2, h3, h4⟩ h, fun _ => ⟨a, s, g, rs, rfl, ⟨hkg.at hA ea, ?_, ?_⟩, r1, r2, r3, r4⟩, ?_⟩
      · rw [hm]
        exact ⟨by rw [List.length_set]; exact hkg.at hS5.obj es, row_set hS5.row 0 1⟩
      · refine hR5.kept hkg (fun k hk e => ?_)
        rcases hk with h | h | h | h
        · exact type_ne' hR5.obj hS5.row (by decide) (h ▸ e)
        · exact type_ne' hR5.free hS5.row (by decide) (h ▸ e)
        · obtain ⟨cur, hc⟩ := ownsRow_type hR5.items h; exact type_ne' hc hS5.row (by decide) e
        · obtain ⟨cur, hc⟩ := ownsRow_type hR5.draws h; exact type_ne' hc hS5.row (by decide) e
      · exact hB5.setCell (p := ⟨g, 0, none⟩) (by show w.heap.size ≤ g; omega) _
    clear hA hR5 hS5 hB5 hkg hb34 hS hR
    go_wp2
    go_ret
    exact HF.out
end Go.Proofs.Ytdeebagjmhpocaa
