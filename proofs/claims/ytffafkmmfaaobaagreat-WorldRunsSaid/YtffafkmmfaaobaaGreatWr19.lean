/- NewMem. -/
import Derived.Test.YtffafkmmfaaobaaGreatWr18
import Derived.Test.YtffafkmmfaaobaaGreatWr14
import Derived.RangeFuncNested
import Derived.RangeFuncBound
import Derived.RangeFuncCalls
import Derived.RangeFuncLeaves
import Derived.RangeFuncFrom
import Derived.RangeFuncBox
import Derived.Shelf.Abstract
import Derived.Shelf.RegionOpen
import Derived.OwnWalkIn
import Derived.TacticsInMore
import Derived.LoopNIn
import Derived.LoopIn
import Derived.Maps.AppendAt
import Derived.Deep.AppendLies
import Derived.OrdersIn
import Derived.OrdersHeld
import Derived.Deep.RegionHeld
namespace Go.Proofs.YtffafkmmfaaobaaGreat
set_option linter.unusedSimpArgs false
set_option linter.unusedVariables false
open Go.RowKit

structure MemIs (w : World) (a : Nat) (p t : Int) (s g : Nat) (ws : List Int) (rs : FSt) : Prop where
  obj : w.heap[a]? = some (.cells #[.pointer (some ⟨s, 0, none⟩), .pointer (some ⟨rs.q, 0, none⟩), .int .i64 p, .int .i64 t] 42 (0, 0))
  store : StoreIs 110 w s g ws 0 0 0 0 0
  runs : RefIs w rs

def MemPost (p t : Int) (ds : List Int) (w : World) (e : Ending) (w' : World) : Prop :=
  (¬ may p t → e = .returned (.pointer none)) ∧
  (may p t → ∃ a s g rs, e = .returned (.pointer (some ⟨a, 0, none⟩)) ∧ MemIs w' a p t s g ((List.replicate (wordsOf p t).toNat (0 : Int)).set 0 1) rs ∧
    rs.free = List.replicate p.toNat true ∧ rs.its = [itOf (0, p) (drawOf ds 0)] ∧ rs.ds = ds ∧ rs.n = 1 ∧ w.heap.size ≤ a ∧ w.heap.size ≤ s ∧ w.heap.size ≤ g) ∧
  Below w.heap.size w w'

set_option maxRecDepth 100000 in
set_option maxHeartbeats 4000000 in
theorem newMem_any (p t : Int) (v : Value) (ds : List Int) (w : World) (hs : SrcOf w 1 v ds.length (ds.map (.int .u32 ·))) (hd : ds.length ≤ 50) :
    Calls Tryz.prog 48 #[.agg #[.int .i64 p, .int .i64 t, v]] w (MemPost p t ds w) := by
  obtain ⟨da, dn, dc, rfl⟩ : ∃ a n c, v = .slice a n c := by
    rcases hs with ⟨rfl, _⟩ | ⟨a, c, rfl, _⟩ <;> exact ⟨_, _, _, rfl⟩
  have Hs := Lib.hid hs
  clear hs
  go_enter Tryz.func48, Tryz.ntmps48
  go_wp2_with fail
  refine (rmay_any p t _).mono ?_
  rintro e w1 ⟨b, rfl, hbt, hb1⟩
  cases b
  · go_wp2_with fail
    go_ret
    refine ⟨fun _ => rfl, fun h => absurd (hbt.2 h) (by simp), ?_⟩
    exact (((Below.refl w.heap.size w).alloc (Nat.le_refl _) _).alloc (by simp) _).trans (hb1.mono (by simp; omega))
  · obtain ⟨h1, h2, h3, h4⟩ := hbt.1 rfl
    obtain ⟨pn, rfl⟩ := Int.eq_ofNat_of_zero_le (show 0 ≤ p by omega)
    obtain ⟨m, hm⟩ : ∃ m : Nat, wordsOf (pn : Int) t = m := ⟨(wordsOf (pn : Int) t).toNat, by unfold wordsOf; omega⟩
    have hm1 : 1 ≤ m := by unfold wordsOf at hm; omega
    have hm2 : m ≤ 65536 := by unfold wordsOf at hm; omega
    have hB : Below w.heap.size w w1 := (((Below.refl w.heap.size w).alloc (Nat.le_refl _) _).alloc (by simp) _).trans (hb1.mono (by simp; omega))
    have hz := hb1.size
    simp only [World.size_alloc] at hz
    have c0 : w1.cell? ⟨w.heap.size, 0, none⟩ = some (.int .i64 (pn : Int)) := by rw [hb1.cell (by simp; omega)]; simp
    have c2 : w1.cell? ⟨w.heap.size, 2, none⟩ = some (.slice da dn dc) := by rw [hb1.cell (by simp; omega)]; simp
    have d0 : w1.cell? ⟨w.heap.size + 1, 0, none⟩ = some (.int .i64 (pn : Int)) := by rw [hb1.cell (by simp)]; simp
    have d1 : w1.cell? ⟨w.heap.size + 1, 1, none⟩ = some (.int .i64 t) := by rw [hb1.cell (by simp)]; simp
    clear hb1 hbt
    generalize hn1 : w.heap.size + 1 = b1 at d0 d1 ⊢
    generalize hn0 : w.heap.size = b0 at c0 c2 ⊢
    go_wp2_with fail
    have hS0 : w1.drew.cell? ⟨b0, 0, none⟩ = some (.int .i64 (pn : Int)) ∧ w1.drew.cell? ⟨b0, 2, none⟩ = some (.slice da dn dc) ∧ w1.drew.cell? ⟨b1, 0, none⟩ = some (.int .i64 (pn : Int)) ∧ w1.drew.cell? ⟨b1, 1, none⟩ = some (.int .i64 t) := ⟨c0, c2, d0, d1⟩
    have hl0 : b0 < w1.drew.heap.size := by simp; omega
    have hl1 : b1 < w1.drew.heap.size := by simp; omega
    go_region_held3 (fun W => W.cell? ⟨b0, 0, none⟩ = some (.int .i64 (pn : Int)) ∧ W.cell? ⟨b0, 2, none⟩ = some (.slice da dn dc) ∧ W.cell? ⟨b1, 0, none⟩ = some (.int .i64 (pn : Int)) ∧ W.cell? ⟨b1, 1, none⟩ = some (.int .i64 t))
      (first
        | with_reducible exact hS0
        | with_reducible exact box_keep (box_keep (box_keep hS0 hb2 hl0 hl1) hb3 (Nat.lt_of_lt_of_le hl0 hb2.size) (Nat.lt_of_lt_of_le hl1 hb2.size)) hb4 (Nat.lt_of_lt_of_le (Nat.lt_of_lt_of_le hl0 hb2.size) hb3.size) (Nat.lt_of_lt_of_le (Nat.lt_of_lt_of_le hl1 hb2.size) hb3.size)
        | with_reducible exact box_keep (box_keep hS0 hb2 hl0 hl1) hb3 (Nat.lt_of_lt_of_le hl0 hb2.size) (Nat.lt_of_lt_of_le hl1 hb2.size)
        | with_reducible exact box_keep hS0 hb2 hl0 hl1
        | go_keep)
      (first
        | (go_at_call 99; refine (rwords_any _ _ _ h1 h2 h3 h4).mono ?_; rintro e w2 ⟨rfl, hb2⟩; rw [hm]; obtain ⟨hc2, hf2⟩ := bcell hb2)
        | (go_at_call 98; refine (wordsNew_any m _ hm1 hm2).mono ?_; rintro e w3 ⟨s, g, rfl, hS, hb3, hs, hg⟩; obtain ⟨hc3, hf3⟩ := bcell hb3)
        | (go_at_call 100; refine (refNew_any pn _ ds _ (by omega) (by omega) (Hs.out.below ((hB.drew.trans (hb2.mono (by simp; omega))).trans (hb3.mono (by have := hb2.size; simp at this; omega)))) (by omega)).mono ?_; rintro e w4 ⟨rs, rfl, hR, r1, r2, r3, r4, hb4, hfp⟩; obtain ⟨hc4, hf4⟩ := bcell hb4))
    have hz2 : w1.heap.size ≤ w2.heap.size := hb2.size
    have hz3 := hb3.size
    have hz4 := hb4.size
    have hb34 : Below w3.heap.size w3 (w4.alloc (.cells #[.pointer (some ⟨s, 0, none⟩), .pointer (some ⟨rs.q, 0, none⟩), .int .i64 (pn : Int), .int .i64 t] 42)) := hb4.alloc hb4.size _
    have hA : (w4.alloc (.cells #[.pointer (some ⟨s, 0, none⟩), .pointer (some ⟨rs.q, 0, none⟩), .int .i64 (pn : Int), .int .i64 t] 42)).heap[w4.heap.size]? = some (.cells #[.pointer (some ⟨s, 0, none⟩), .pointer (some ⟨rs.q, 0, none⟩), .int .i64 (pn : Int), .int .i64 t] 42 (0, 0)) := heap_alloc_new w4 _
    have hR5 := hR.below ((Below.refl w4.heap.size w4).alloc (Nat.le_refl _) (.cells #[.pointer (some ⟨s, 0, none⟩), .pointer (some ⟨rs.q, 0, none⟩), .int .i64 (pn : Int), .int .i64 t] 42))
    have hS5 := hS.below hb34
    have hB5 : Below w.heap.size w _ := ((hB.drew.trans (hb2.mono (by simp; omega))).trans (hb3.mono (by omega))).trans (hb34.mono (by omega))
    generalize w4.alloc (.cells #[.pointer (some ⟨s, 0, none⟩), .pointer (some ⟨rs.q, 0, none⟩), .int .i64 (pn : Int), .int .i64 t] 42) = w5 at hA hR5 hS5 hB5 ⊢
    have ha4 : w.heap.size ≤ w4.heap.size := by rw [hn0]; omega
    generalize w4.heap.size = a at hA ha4 ⊢
    have a0 : w5.cell? ⟨a, 0, none⟩ = some (.pointer (some ⟨s, 0, none⟩)) := cellOf hA 0
    have s0 : w5.cell? ⟨s, 0, none⟩ = some (.slice (some ⟨g, 0, none⟩) m m) := by have := cellOf hS5.obj 0; simpa using this
    have g0 : w5.cell? ⟨g, 0, none⟩ = some (.int .u64 0) := by
      rw [cellOf hS5.row 0, List.getElem?_toArray, List.map_replicate, List.getElem?_replicate, if_pos (by omega)]
    have f0 : w5.frozen? ⟨g, 0, none⟩ = false := freeOf hS5.row 0
    have ea : a ≠ g := type_ne' hA hS5.row (by decide)
    have es : s ≠ g := type_ne' hS5.obj hS5.row (by decide)
    have hkg : Kept (· = g) w5 (w5.setCell ⟨g, 0, none⟩ (.int .u64 1)) := (Kept.refl (· = g) w5).setCell (p := ⟨g, 0, none⟩) (.inl rfl) _
    have HF : Hid (MemPost (pn : Int) t ds w (.returned (.pointer (some ⟨a, 0, none⟩))) (w5.setCell ⟨g, 0, none⟩ (.int .u64 1))) := by
      refine ⟨fun h => absurd ⟨h1, h2, h3, h4⟩ h, fun _ => ⟨a, s, g, rs, rfl, ⟨hkg.at hA ea, ?_, ?_⟩, r1, r2, r3, r4, ha4, by rw [hn0]; omega, by rw [hn0]; omega⟩, ?_⟩
      · rw [hm]
        exact ⟨by rw [List.length_set]; exact hkg.at hS5.obj es, row_set hS5.row 0 1⟩
      · refine hR5.kept hkg (fun k hk e => ?_)
        rcases hk with h | h | h | h
        · exact type_ne' hR5.obj hS5.row (by decide) (h ▸ e)
        · exact type_ne' hR5.free hS5.row (by decide) (h ▸ e)
        · obtain ⟨cur, hc⟩ := ownsRow_type hR5.items h; exact type_ne' hc hS5.row (by decide) e
        · obtain ⟨cur, hc⟩ := ownsRow_type hR5.draws h; exact type_ne' hc hS5.row (by decide) e
      · exact hB5.setCell (p := ⟨g, 0, none⟩) (by show w.heap.size ≤ g; omega) _
    clear hA hR5 hS5 hB5 hkg hb34 hS hR
    go_wp2
    go_ret
    exact HF.out
end Go.Proofs.YtffafkmmfaaobaaGreat

namespace Go.Proofs.YtffafkmmfaaobaaGreat
set_option linter.unusedSimpArgs false
set_option linter.unusedVariables false
open Go.RowKit

/-- A slice that is nil, or lies at a block's head, and reads as given. -/
def RowOf (w : World) (v : Value) (n : Nat) (news : List Value) : Prop :=
  (v = .slice none 0 0 ∧ n = 0) ∨ ∃ g c, v = .slice (some ⟨g, 0, none⟩) n c ∧ g < w.heap.size ∧ ∀ j u, news[j]? = some u → w.cell? ⟨g, j, none⟩ = some u

theorem RowOf.of_own {w : World} {base : Nat} {e : TypeId} {size : Nat} {v : Value} {n : Nat} {xs : List Value} (h : w.ownsRow base e size v n xs) : RowOf w v n xs := by
  rcases h.2 with hn | ⟨g, cap, cur, rfl, h1, h2, _⟩
  · exact .inl hn
  · exact .inr ⟨g, cap, rfl, lt_of_block h2, fun j u hu => by have := h.cells (g := g) rfl j u hu; rwa [addAt] at this⟩
theorem RowOf.kept {w w' : World} {F : Nat → Prop} {v : Value} {n : Nat} {xs : List Value} (h : RowOf w v n xs) (hk : Kept F w w') (hn : ∀ k, v.ownBlock = some k → ¬ F k) : RowOf w' v n xs := by
  rcases h with h | ⟨g, c, rfl, h1, h2⟩
  · exact .inl h
  · exact .inr ⟨g, c, rfl, Nat.lt_of_lt_of_le h1 hk.size, fun j u hu => (hk.cell h1 (hn g rfl)).trans (h2 j u hu)⟩
theorem RowOf.below {w w' : World} {v : Value} {n : Nat} {xs : List Value} (h : RowOf w v n xs) (hb : Below w.heap.size w w') : RowOf w' v n xs :=
  h.kept (Kept.of_below_size hb) (fun _ _ h => h.elim)

set_option maxRecDepth 100000 in
set_option maxHeartbeats 2000000 in
theorem sameWords_any (xs : List Int) (va vb : Value) (w : World) (ha : RowOf w va xs.length (xs.map (Value.int .u64 ·))) (hb : RowOf w vb xs.length (xs.map (Value.int .u64 ·))) (hl : xs.length ≤ 1000000) :
    Calls Tryz.prog 69 #[va, vb] w fun e w' => e = .returned (.bool true) ∧ Below w.heap.size w w' := by
  obtain ⟨n, hn⟩ : ∃ n, n = xs.length := ⟨_, rfl⟩
  rw [← hn] at ha hb hl
  by_cases hz : n = 0
  · subst hz
    obtain ⟨aa, ac, rfl⟩ : ∃ a c, va = .slice a 0 c := by
      rcases ha with ⟨rfl, _⟩ | ⟨g, c, rfl, _⟩ <;> exact ⟨_, _, rfl⟩
    obtain ⟨ba, bc, rfl⟩ : ∃ a c, vb = .slice a 0 c := by
      rcases hb with ⟨rfl, _⟩ | ⟨g, c, rfl, _⟩ <;> exact ⟨_, _, rfl⟩
    clear ha hb hn hl
    go_enter Tryz.func69, Tryz.ntmps69
    go_wp2
    go_loopg [5] 0 (fun m v wr => w = wr ∧ v = .int .i64 0)
    case atStart => exact ⟨rfl, rfl⟩
    case round =>
      obtain ⟨rfl, rfl⟩ := hrel
      go_wp2
      go_ret
      exact ⟨rfl, Below.refl _ _⟩
  · obtain ⟨ga, ca, rfl, la, ra⟩ := ha.resolve_left (fun h => hz h.2)
    obtain ⟨gb, cb, rfl, lb, rb⟩ := hb.resolve_left (fun h => hz h.2)
    have HA := Lib.hid ra
    have HB := Lib.hid rb
    have HN := Lib.hid hn
    clear ra rb hn ha hb hz
    go_enter Tryz.func69, Tryz.ntmps69
    go_wp2
    go_loopg [5] n (fun m v wr => ∃ i : Nat, v = .int .i64 i ∧ i ≤ n ∧ n - i ≤ m ∧ Kept No w wr)
    case atStart => exact ⟨0, rfl, Nat.zero_le _, Nat.le_refl _, Kept.refl No w⟩
    case round =>
      obtain ⟨i, rfl, hin, hm, hk⟩ := hrel
      by_cases hlt : i < n
      · have hlt' : (i : Int) < n := by omega
        obtain ⟨x, hx⟩ : ∃ x, xs[i]? = some x := ⟨_, List.getElem?_eq_getElem (by have := HN.out; omega)⟩
        have n0 : (xs.map (Value.int .u64 ·))[i]? = some (.int .u64 x) := by rw [List.getElem?_map, hx]; rfl
        have a0 := (hk.cell la (fun h => h)).trans (HA.out i _ n0)
        have b0 := (hk.cell lb (fun h => h)).trans (HB.out i _ n0)
        clear n0
        have Hk := Lib.hid hk
        have Hm := Lib.hid hm
        clear hk hm hx
        go_wp2_with fail
        go_quiet (fail)
        go_wp2_with fail
        go_roundg (n - (i + 1))
        case measure => have := Hm.out; omega
        case rel => exact ⟨i + 1, by go_num, by omega, Nat.le_refl _, Hk.out.drewN _⟩
      · have hlt' : ¬ (i : Int) < n := by omega
        have Hk := Lib.hid hk
        clear hk hm
        go_wp2
        go_ret
        exact ⟨rfl, Hk.out.no_below⟩

set_option maxRecDepth 100000 in
set_option maxHeartbeats 2000000 in
theorem sameRuns_any (xs : List R2) (va vb : Value) (w : World) (ha : RowOf w va xs.length (runCells xs)) (hb : RowOf w vb xs.length (runCells xs)) (hl : xs.length ≤ 1000000) :
    Calls Tryz.prog 71 #[va, vb] w fun e w' => e = .returned (.bool true) ∧ Below w.heap.size w w' := by
  obtain ⟨n, hn⟩ : ∃ n, n = xs.length := ⟨_, rfl⟩
  rw [← hn] at ha hb hl
  by_cases hz : n = 0
  · subst hz
    obtain ⟨aa, ac, rfl⟩ : ∃ a c, va = .slice a 0 c := by
      rcases ha with ⟨rfl, _⟩ | ⟨g, c, rfl, _⟩ <;> exact ⟨_, _, rfl⟩
    obtain ⟨ba, bc, rfl⟩ : ∃ a c, vb = .slice a 0 c := by
      rcases hb with ⟨rfl, _⟩ | ⟨g, c, rfl, _⟩ <;> exact ⟨_, _, rfl⟩
    clear ha hb hn hl
    go_enter Tryz.func71, Tryz.ntmps71
    go_wp2
    go_loopg [5] 0 (fun m v wr => w = wr ∧ v = .int .i64 0)
    case atStart => exact ⟨rfl, rfl⟩
    case round =>
      obtain ⟨rfl, rfl⟩ := hrel
      go_wp2
      go_ret
      exact ⟨rfl, Below.refl _ _⟩
  · obtain ⟨ga, ca, rfl, la, ra⟩ := ha.resolve_left (fun h => hz h.2)
    obtain ⟨gb, cb, rfl, lb, rb⟩ := hb.resolve_left (fun h => hz h.2)
    have HA := Lib.hid ra
    have HB := Lib.hid rb
    have HN := Lib.hid hn
    clear ra rb hn ha hb hz
    go_enter Tryz.func71, Tryz.ntmps71
    go_wp2
    go_loopg [5] n (fun m v wr => ∃ i : Nat, v = .int .i64 i ∧ i ≤ n ∧ n - i ≤ m ∧ Kept No w wr)
    case atStart => exact ⟨0, rfl, Nat.zero_le _, Nat.le_refl _, Kept.refl No w⟩
    case round =>
      obtain ⟨i, rfl, hin, hm, hk⟩ := hrel
      by_cases hlt : i < n
      · have hlt' : (i : Int) < n := by omega
        obtain ⟨x, hx⟩ : ∃ x, xs[i]? = some x := ⟨_, List.getElem?_eq_getElem (by have := HN.out; omega)⟩
        obtain ⟨n0, n1⟩ := runCells_get xs i x hx
        have a0 := (hk.cell la (fun h => h)).trans (HA.out _ _ n0)
        have a1 := (hk.cell la (fun h => h)).trans (HA.out _ _ n1)
        have b0 := (hk.cell lb (fun h => h)).trans (HB.out _ _ n0)
        have b1 := (hk.cell lb (fun h => h)).trans (HB.out _ _ n1)
        clear n0 n1
        have Hk := Lib.hid hk
        have Hm := Lib.hid hm
        clear hk hm hx
        go_wp2_with fail
        go_quiet (fail)
        go_wp2_with fail
        go_roundg (n - (i + 1))
        case measure => have := Hm.out; omega
        case rel => exact ⟨i + 1, by go_num, by omega, Nat.le_refl _, Hk.out.drewN _⟩
      · have hlt' : ¬ (i : Int) < n := by omega
        have Hk := Lib.hid hk
        clear hk hm
        go_wp2
        go_ret
        exact ⟨rfl, Hk.out.no_below⟩

end Go.Proofs.YtffafkmmfaaobaaGreat

namespace Go.Proofs.YtffafkmmfaaobaaGreat
set_option linter.unusedSimpArgs false
set_option linter.unusedVariables false
open Go.RowKit Go.Shelf
attribute [local go_sem] Oper.semAt_some

theorem room_of_none {F : Fence} (hd : F.depth = none) (k : Nat) : F.room k := fun d h => by rw [hd] at h; cases h
theorem roundAnyDepth {F : Fence} (hd : F.depth = none) {m m' : Nat} {P : Program} {l : Nat} {f : FuncId} {tmps : Array Value} {assign body : Code} {w : World} {R : Ending → World → Prop}
    (h : RoundIn F m P l f tmps assign body w R) : RoundIn F m' P l f tmps assign body w R := ⟨h.1, fun c cs _ => h.2 c cs (room_of_none hd _)⟩
theorem yieldAnyDepth {F : Fence} (hd : F.depth = none) {m : Nat} (m' : Nat) {P : Program} {l : Nat} {args : Array Value} {W : World} {R : Ending → World → Prop} (h : YieldAt F m P l args W R) : YieldAt F m' P l args W R := by
  obtain ⟨fn, tmps, assign, body, hy, hR⟩ := h
  exact ⟨fn, tmps, assign, body, hy, roundAnyDepth hd hR⟩

/-- The nodes from the root on: block, key, how many stand above. -/
def preT (d : Int) : T → List (Nat × Int × Int)
  | .nil => []
  | .node b x l r => (b, x.key, d) :: (preT (d + 1) l ++ preT (d + 1) r)
theorem preT_length : ∀ (t : T) (d : Int), (preT d t).length = t.high
  | .nil, _ => rfl
  | .node b x l r, d => by simp [preT, T.high, preT_length l, preT_length r]

/-- A node of the world w: its block, its key, a number. -/
abbrev At (w : World) := { x : Nat × Int × Int // w.cell? ⟨x.1, 0, none⟩ = some (.int .i64 x.2.1) ∧ x.1 < w.heap.size }
def encN {w : World} (x : At w) : Array Value := #[.pointer (some ⟨x.1.1, 0, none⟩), .int .i64 x.1.2.2]

theorem T.In.below {w W : World} {t : T} (h : t.In w) (hb : Below w.heap.size w W) : t.In W := h.congr fun k hk => hb.block k (h.lt k hk)

theorem T.In.at {w W : World} {t : T} (h : t.In w) (hb : Below w.heap.size w W) : t.In W := h.below hb

end Go.Proofs.YtffafkmmfaaobaaGreat

namespace Go.Proofs.YtffafkmmfaaobaaGreat
set_option linter.unusedSimpArgs false
set_option linter.unusedVariables false
open Go.RowKit Go.Shelf

theorem rowsWide {n : Nat} {l : Nat} {P : Program} {row : String} {args : Array Value} {w : World} {R : Value → World → Prop} (h : Rows P row args w R) : RowsIn (Fence.wide.inRound l) n P row args w R := by
  intro c cs hr
  obtain ⟨v, w', q, s⟩ := h c cs
  exact ⟨v, w', q, stepsIn_wide.2 s⟩

theorem opWide {n l : Nat} {P : Program} {o : Oper} {a : Act} {w : World} {K : Act → World → Prop} {Q : Exit → Act → World → Prop} (hnd : ∀ c, o.op ≠ .defer c) (hQ : ¬ LetsOut Q) (h : o.wp P a w K Q) :
    o.wpIn (Fence.wide.inRound l) n P a w K Q := by
  unfold Oper.wp at h
  unfold Oper.wpIn
  refine ⟨fun _ _ => trivial, ?_⟩
  rw [Oper.semAt_eq _ _ _ hnd]
  generalize (execOp a.eval o).run P w = r at *
  cases r with
  | ok x w' =>
    cases x <;> simp only [Oper.upon, Oper.uponIn] at h ⊢
    case value => exact h
    case skip => exact h
    case defer => exact h
    case enter f args =>
      refine ⟨fun hh => by simp [Fence.wide, Fence.inRound] at hh, ?_⟩
      exact CallsIn.inRound l (callsIn_wide.2 h)
    case row r args => exact ⟨fun hh => by simp [Fence.wide, Fence.inRound] at hh, rowsWide h⟩
  | halt x w' => cases x <;> simp only [Oper.upon, Oper.uponIn] at h ⊢ <;> exact h

theorem wpOpWide {n l : Nat} {P : Program} {ops : Array Oper} {Q : Exit → Act → World → Prop} (hnd : ∀ (i : Nat) o, ops[i]? = some o → ∀ c, o.op ≠ .defer c) (hQ : ¬ LetsOut Q) {i : Nat} {K : Act → World → Prop} {a : Act} {w : World} (h : wpOp P ops Q i K a w) :
    wpOpIn (Fence.wide.inRound l) n P ops Q i K a w := by
  unfold wpOp at h
  unfold wpOpIn
  split
  · rename_i ho; simp only [ho] at h; exact h
  · rename_i o ho
    simp only [ho] at h
    split
    · rename_i hw
      simp only [hw, if_true] at h
      rcases h with h | h
      · exact opWide (hnd i o ho) hQ h
      · exact absurd h.2 hQ
    · rename_i hw
      simp only [hw] at h
      exact ⟨fun _ _ => trivial, h⟩

theorem wpAnyWide {n l : Nat} {P : Program} {md : Region.Mode} {ops : Array Oper} {Q : Exit → Act → World → Prop} (hnd : ∀ (i : Nat) o, ops[i]? = some o → ∀ c, o.op ≠ .defer c) (hQ : ¬ LetsOut Q) :
    ∀ (fuel : Nat) (listed : Array Bool) (a : Act) (w : World), wpAny P md ops Q fuel listed a w → wpAnyIn (Fence.wide.inRound l) n P md ops Q fuel listed a w
  | 0, _, _, _, h => h
  | fuel + 1, _, _, _, h => ⟨h.1, fun i hi => wpOpIn_mono (fun a w h => wpAnyWide hnd hQ fuel _ a w h) (wpOpWide hnd hQ (h.2 i hi))⟩

/-- The beginning: S is what is held of the world throughout. -/
theorem wpIn_round_held {n l id : Nat} {P : Program} {ops : Array Oper} {Q : Exit → Act → World → Prop} {a : Act} {w : World} (S : World → Prop) (hm : P.follows .mixedOrders = true) (hnd : ops.all (fun o => match o.op with | .defer _ => false | _ => true) = true) (hQ : ¬ LetsOut Q)
    (h : wpAnyH P .any ops Q S ops.size (Array.replicate ops.size false) a w.drew) : (Code.region id ops true).wpIn (Fence.wide.inRound l) n P Q a w :=
  wpIn_region_any hm (wpAnyWide (fun i o hi c hc => by
    rw [Array.all_eq_true_iff_forall_mem] at hnd
    have := hnd o (Array.mem_of_getElem? hi)
    simp [hc] at this) hQ _ _ _ _ (wpAny_of_held _ _ _ _ h))

theorem wp_append_run {P : Program} {w w' : World} {o : Oper} {a : Act} {K : Act → World → Prop} {Q : Exit → Act → World → Prop} (s x : Operand) (t : TypeId)
    (ho : o.op = .call { callee := .builtin .append, args := #[s, x], argTypes := #[t, t] }) {v u v' : Value} (hs : a.eval s = v) (hx : a.eval x = u)
    (hr : (Builtin.append_ #[t, t] o.type #[v, u]).run P w = .ok v' w') (h : K (a.put o.dst v') w') : o.wp P a w K Q := by
  unfold Oper.wp execOp
  simp only [ho, resolve, invoke, builtin, Sem.run_bind, Sem.run_pure, Result.andThen_ok, List.map_toArray, List.map_cons, List.map_nil, hs, hx, hr]
  exact h

end Go.Proofs.YtffafkmmfaaobaaGreat

namespace Go.Proofs.YtffafkmmfaaobaaGreat
set_option linter.unusedSimpArgs false
set_option linter.unusedVariables false
open Go.RowKit Go.Shelf
attribute [local go_sem] Oper.semAt_some

def nodeCells : List (Nat × Int × Int) → List Value
  | [] => []
  | x :: r => .int .i64 x.2.1 :: .int .i64 x.2.2 :: nodeCells r
theorem nodeCells_append : ∀ (a b : List (Nat × Int × Int)), nodeCells (a ++ b) = nodeCells a ++ nodeCells b
  | [], _ => rfl
  | x :: r, b => by simp [nodeCells, nodeCells_append r b]
theorem nodeCells_length : ∀ (a : List (Nat × Int × Int)), (nodeCells a).length = 2 * a.length
  | [] => rfl
  | x :: r => by simp [nodeCells, nodeCells_length r]; omega

end Go.Proofs.YtffafkmmfaaobaaGreat

namespace Go.Proofs.YtffafkmmfaaobaaGreat
set_option linter.unusedSimpArgs false
set_option linter.unusedVariables false
open Go.RowKit

section
variable {w : World} {a : Nat} {p t : Int} {s g : Nat} {ws : List Int} {rs : RSt}
theorem ArenaIs.below {w' : World} (h : ArenaIs w a p t s g ws rs) (hb : Below w.heap.size w w') : ArenaIs w' a p t s g ws rs :=
  ⟨(hb.block a (lt_of_block h.obj)).trans h.obj, h.store.below hb, h.runs.below hb⟩
theorem MemIs.below {w' : World} {rs : FSt} (h : MemIs w a p t s g ws rs) (hb : Below w.heap.size w w') : MemIs w' a p t s g ws rs :=
  ⟨(hb.block a (lt_of_block h.obj)).trans h.obj, h.store.below hb, h.runs.below hb⟩

set_option maxRecDepth 100000 in
set_option maxHeartbeats 1000000 in
theorem layout_any (h : ArenaIs w a p t s g ws rs) : Calls Tryz.prog 77 #[.pointer (some ⟨a, 0, none⟩)] w fun e w' => e = .returned (.agg #[.int .i64 p, .int .i64 t]) ∧ Below w.heap.size w w' := by
  have c0 := cellOf h.obj 0
  have c1 := cellOf h.obj 1
  have hl := lt_of_block h.obj
  clear h
  go_enter Tryz.func77, Tryz.ntmps77
  go_wp2
  refine bodyPost_ret (v := .agg #[.int .i64 p, .int .i64 t]) (by simp [results, Tryz.results77, go_sem, c0, c1]) rfl ⟨rfl, ?_⟩
  exact (Below.refl _ _).alloc (Nat.le_refl _) _

set_option maxRecDepth 100000 in
set_option maxHeartbeats 1000000 in
theorem store_any (h : ArenaIs w a p t s g ws rs) : Calls Tryz.prog 49 #[.pointer (some ⟨a, 0, none⟩)] w fun e w' => e = .returned (.pointer (some ⟨s, 0, none⟩)) ∧ w = w' := by
  have c2 := cellOf h.obj 2
  clear h
  go_enter Tryz.func49, Tryz.ntmps49
  go_wp2
  go_ret
  exact ⟨rfl, rfl⟩

set_option maxRecDepth 100000 in
set_option maxHeartbeats 1000000 in
theorem aruns_any (h : ArenaIs w a p t s g ws rs) : Calls Tryz.prog 50 #[.pointer (some ⟨a, 0, none⟩)] w fun e w' => e = .returned (.pointer (some ⟨rs.q, 0, none⟩)) ∧ w = w' := by
  have c3 := cellOf h.obj 3
  clear h
  generalize rs.q = q at c3
  go_enter Tryz.func50, Tryz.ntmps50
  go_wp2
  go_ret
  exact ⟨rfl, rfl⟩

set_option maxRecDepth 100000 in
set_option maxHeartbeats 1000000 in
theorem peek0_any {k a' o n m x : Int} (h : StoreIs 187 w s g ws k a' o n m) (hx : ws[0]? = some x) :
    Calls Tryz.prog 80 #[.pointer (some ⟨s, 0, none⟩), .int .i64 0] w fun e w' => e = .returned (.int .u64 x) ∧ w = w' := by
  have hlen : 0 < ws.length := by
    rcases Nat.eq_zero_or_pos ws.length with h0 | h0
    · rw [List.getElem?_eq_none (by omega)] at hx; cases hx
    · exact h0
  have F := Lib.hid (check_ok (ty := 81) h 0 (by omega) (by omega))
  have c0 := cellOf h.obj 0
  have g0 : w.cell? ⟨g, 0, none⟩ = some (.int .u64 x) := by rw [cellOf h.row 0, List.getElem?_toArray, List.getElem?_map, hx]; rfl
  generalize ws.length = len at c0 hlen
  have hl2 : (0 : Int) < len := by omega
  clear h hx
  go_enter Tryz.func80, Tryz.ntmps80
  go_wp2_with fail
  refine F.out.mono ?_
  rintro e w1 ⟨rfl, rfl⟩
  go_wp2
  go_ret
  exact ⟨rfl, rfl⟩

theorem StoreIs.row_own {ty : TypeId} {k a' o n m : Int} (h : StoreIs ty w s g ws k a' o n m) (hm : ws.length ≤ maxLen) : w.ownsRow 0 33 1 (.slice (some ⟨g, 0, none⟩) ws.length ws.length) ws.length (ws.map (Value.int .u64 ·)) :=
  ⟨by simp, .inr ⟨g, ws.length, _, rfl, Nat.zero_le _, h.row, Nat.le_refl _, hm, by simp, List.take_of_length_le (by simp)⟩⟩

theorem SrcOf.of_own {base : Nat} {e : TypeId} {size : Nat} {v : Value} {n : Nat} {xs : List Value} (h : w.ownsRow base e size v n xs) : SrcOf w size v n xs := by
  rcases h.2 with ⟨h1, h2⟩ | ⟨g, cap, cur, rfl, h1, h2, _⟩
  · subst h2; exact .inl ⟨h1, rfl, List.eq_nil_of_length_eq_zero (by simpa using h.1)⟩
  · exact .inr ⟨_, _, rfl, h.1, h.cells (g := g) rfl, fun _ => lt_of_block h2⟩

def RowPost (base : Nat) (n : Nat) (xs : List Value) (w : World) (e : Ending) (w' : World) : Prop := ∃ v, e = .returned v ∧ RowOf w' v n xs ∧ Below w.heap.size w w'

set_option maxRecDepth 100000 in
set_option maxHeartbeats 1000000 in
theorem wordsOut_any {k a' o n m : Int} (h : StoreIs 187 w s g ws k a' o n m) (hm : ws.length ≤ 100000) :
    Calls Tryz.prog 70 #[.pointer (some ⟨s, 0, none⟩)] w (RowPost 0 ws.length (ws.map (Value.int .u64 ·)) w) := by
  have c0 := cellOf h.obj 0
  have F := Lib.hid (clone64_any _ _ _ w (SrcOf.of_own (h.row_own (by unfold maxLen; omega))) (by simp [Value.oneCell']) (by omega))
  clear h
  go_enter Tryz.func70, Tryz.ntmps70
  go_wp2_with fail
  refine F.out.mono ?_
  rintro e w1 ⟨v, rfl, ho, _, hb⟩
  have HF : Hid (RowPost 0 ws.length (ws.map (Value.int .u64 ·)) w (.returned v) w1) := ⟨v, rfl, RowOf.of_own ho, hb⟩
  clear ho hb
  go_wp2
  go_ret
  exact HF.out

set_option maxRecDepth 100000 in
set_option maxHeartbeats 1000000 in
theorem runsList_any (h : RunsIs w rs) : Calls Tryz.prog 72 #[.pointer (some ⟨rs.q, 0, none⟩)] w (RowPost 0 rs.xs.length (runCells rs.xs) w) := by
  have c4 := cellOf h.obj 4
  have hfew := h.few
  have F := Lib.hid (cloneRun_any _ _ _ w (SrcOf.of_own h.list) (runCells_one _) (by omega))
  clear h
  obtain ⟨q, p, dv, lv, pages, ds, drawn, t, xs, total⟩ := rs
  dsimp only at *
  go_enter Tryz.func72, Tryz.ntmps72
  go_wp2_with fail
  refine F.out.mono ?_
  rintro e w1 ⟨v, rfl, ho, _, hb⟩
  have HF : Hid (RowPost 0 xs.length (runCells xs) w (.returned v) w1) := ⟨v, rfl, RowOf.of_own ho, hb⟩
  clear ho hb
  go_wp2
  go_ret
  exact HF.out

/-- A shape as pairs. -/
def pairs (l : List (Nat × Int × Int)) : List R2 := l.map (·.2)
theorem pairs_cells : ∀ l, nodeCells l = runCells (pairs l)
  | [] => rfl
  | x :: r => by simp [nodeCells, pairs, runCells, pairs_cells r]

end

end Go.Proofs.YtffafkmmfaaobaaGreat
