/- The reference's runs: add. -/
import Derived.Test.YtdeebagjmhpocaaG
import Derived.Deep.DeepCutAuto
namespace Go.Proofs.Ytdeebagjmhpocaa
set_option linter.unusedSimpArgs false
set_option linter.unusedVariables false
open Go.RowKit

/-- The reference's runs, as they lie in memory. -/
structure FSt where
  q : Nat
  fg : Nat
  tv : Value
  dv : Value
  free : List Bool
  its : List It
  ds : List Int
  n : Nat

structure RefIs (w : World) (s : FSt) : Prop where
  obj : w.heap[s.q]? = some (.cells #[.slice (some ⟨s.fg, 0, none⟩) s.free.length s.free.length, s.tv, s.dv, .int .i64 s.n] 91 (0, 0))
  free : w.heap[s.fg]? = some (.cells (s.free.map Value.bool).toArray 4 (0, 0))
  items : w.ownsRow 0 126 3 s.tv s.its.length (itCells s.its)
  draws : w.ownsRow 0 95 1 s.dv s.ds.length (s.ds.map (.int .u32 ·))
  fewFree : s.free.length ≤ 5000
  few : s.its.length ≤ 5000
  manyDraws : s.ds.length ≤ 100000
  nFits : s.n ≤ 1000000

theorem ownsRow_base {w : World} {b b' : Nat} {e : TypeId} {size : Nat} {v : Value} {n : Nat} {xs : List Value} (hb : b' ≤ b) (h : w.ownsRow b e size v n xs) : w.ownsRow b' e size v n xs := by
  refine ⟨h.1, ?_⟩
  rcases h.2 with hn | ⟨g, cap, cur, rfl, h1, rest⟩
  · exact .inl hn
  · exact .inr ⟨g, cap, cur, rfl, Nat.le_trans hb h1, rest⟩

def FSt.fp (s : FSt) (k : Nat) : Prop := k = s.q ∨ k = s.fg ∨ s.tv.ownBlock = some k ∨ s.dv.ownBlock = some k

theorem RefIs.lt {w : World} {s : FSt} (h : RefIs w s) : ∀ k, s.fp k → k < w.heap.size := by
  intro k hk
  rcases hk with rfl | rfl | hk | hk
  · exact lt_of_block h.obj
  · exact lt_of_block h.free
  · exact (h.items.lt k hk).2
  · exact (h.draws.lt k hk).2
theorem RefIs.kept {w w' : World} {F : Nat → Prop} {s : FSt} (h : RefIs w s) (hk : Kept F w w') (hn : ∀ k, s.fp k → ¬ F k) : RefIs w' s :=
  { h with
    obj := hk.at h.obj (hn _ (.inl rfl))
    free := hk.at h.free (hn _ (.inr (.inl rfl)))
    items := ownsRow_kept h.items hk (fun k e => hn k (.inr (.inr (.inl e))))
    draws := ownsRow_kept h.draws hk (fun k e => hn k (.inr (.inr (.inr e)))) }
theorem RefIs.below {w w' : World} {s : FSt} (h : RefIs w s) (hb : Below w.heap.size w w') : RefIs w' s :=
  h.kept (Kept.of_below_size hb) (fun _ _ h => h.elim)

/-- A store into a field of theirs. -/
theorem RefIs.setField {w : World} {s : FSt} (h : RefIs w s) (i : Nat) (v : Value) :
    (w.setCell ⟨s.q, i, none⟩ v).heap[s.q]? = some (.cells (#[.slice (some ⟨s.fg, 0, none⟩) s.free.length s.free.length, s.tv, s.dv, .int .i64 s.n].setIfInBounds i v) 91 (0, 0)) ∧
    (w.setCell ⟨s.q, i, none⟩ v).heap[s.fg]? = some (.cells (s.free.map Value.bool).toArray 4 (0, 0)) ∧
    (w.setCell ⟨s.q, i, none⟩ v).ownsRow 0 126 3 s.tv s.its.length (itCells s.its) ∧ (w.setCell ⟨s.q, i, none⟩ v).ownsRow 0 95 1 s.dv s.ds.length (s.ds.map (.int .u32 ·)) := by
  have hk : Kept (· = s.q) w (w.setCell ⟨s.q, i, none⟩ v) := (Kept.refl (· = s.q) w).setCell (p := ⟨s.q, i, none⟩) (.inl rfl) v
  refine ⟨block_set h.obj i v, hk.at h.free (fun e => type_ne h.obj h.free (by decide) e.symm), ownsRow_kept h.items hk (fun k e e' => ?_), ownsRow_kept h.draws hk (fun k e e' => ?_)⟩
  · obtain ⟨cur, hc⟩ := ownsRow_type h.items e; exact type_ne hc h.obj (by decide) e'
  · obtain ⟨cur, hc⟩ := ownsRow_type h.draws e; exact type_ne hc h.obj (by decide) e'

def itOf (x : R2) (d : Int) : It := ⟨keyOf x, d, x.1⟩

def AddPost (s : FSt) (x : R2) (i : Nat) (w : World) (e : Ending) (w' : World) : Prop :=
  e = .returned (.tuple #[]) ∧ ∃ tv', RefIs w' { s with tv := tv', n := s.n + 1, its := insI s.its i (itOf x (drawOf s.ds s.n)) } ∧ Kept (· = s.q) w w' ∧ (∀ k, tv'.ownBlock = some k → w.heap.size ≤ k)

set_option maxRecDepth 100000 in
set_option maxHeartbeats 4000000 in
theorem add_any (s : FSt) (x : R2) (i : Nat) (w : World) (h : RefIs w s) (hp : PartsI s.its (keyOf x) i) (hno : ∀ y, s.its[i]? = some y → y.key ≠ keyOf x)
    (hx0 : 0 ≤ x.1) (hx1 : x.1 ≤ 10000) (hx2 : 0 ≤ x.2) (hx3 : x.2 ≤ 10000) (hfew : s.its.length + 1 ≤ 5000) (hdf : s.n + 1 ≤ 1000000) :
    Calls Try.prog 48 #[.pointer (some ⟨s.q, 0, none⟩), .agg #[.int .i64 x.1, .int .i64 x.2]] w (AddPost s x i w) := by
  obtain ⟨q, fg, tv, dv, free, its, ds, n⟩ := s
  obtain ⟨xa, xn⟩ := x
  have hobj := h.obj
  have hdraws := h.draws
  have hmd := h.manyDraws
  dsimp only at *
  have hq := lt_of_block hobj
  obtain ⟨da, dc, rfl⟩ : ∃ a c, dv = .slice a ds.length c := by
    rcases hdraws.2 with ⟨h', h0⟩ | ⟨g, cap, cur, h', _⟩
    · exact ⟨none, 0, by rw [h', h0]⟩
    · exact ⟨_, _, h'⟩
  have c2 : w.cell? ⟨q, 2, none⟩ = some (.slice da ds.length dc) := cellOf hobj 2
  have c3 : w.cell? ⟨q, 3, none⟩ = some (.int .i64 n) := cellOf hobj 3
  have f3 : w.frozen? ⟨q, 3, none⟩ = false := freeOf hobj 3
  have HH := Lib.hid (And.intro h (And.intro hp (And.intro hno hdraws)))
  have b1 : (0 : Int) ≤ n := by omega
  clear h hp hno hobj hdraws
  go_enter Try.func48, Try.ntmps48
  go_wp2_with fail
  go_quiet (fail)
  go_upto_if 14 with fail
  go_cut [4] (fun s4 wx => s4 = .int .u32 (drawOf ds n) ∧ ∃ m, wx = (w.alloc (.cells #[.int .i64 xa, .int .i64 xn] 77)).drewN m)
  case first =>
    by_cases hd : n < ds.length
    · obtain ⟨d, hdd⟩ : ∃ d, ds[n]? = some d := ⟨_, List.getElem?_eq_getElem hd⟩
      have hdv : Hid (drawOf ds n = d) := by unfold Hid drawOf; rw [hdd]; rfl
      obtain ⟨g, rfl⟩ : ∃ g, da = some ⟨g, 0, none⟩ := by
        rcases HH.out.2.2.2.2 with ⟨h', h0⟩ | ⟨g, cap, cur, h', _⟩
        · omega
        · cases h'; exact ⟨g, rfl⟩
      have hgc : w.cell? ⟨g, n, none⟩ = some (.int .u32 d) := by
        have := HH.out.2.2.2.cells (g := g) rfl n (.int .u32 d) (by simp [hdd])
        rwa [addAt] at this
      have hglt := (HH.out.2.2.2.lt g rfl).2
      have b2 : (n : Int) < ds.length := by omega
      have b4 : decide (n < ds.length) = true := by simpa using hd
      clear hdd
      go_wp2_with fail
      go_quiet (fail)
      go_wp2_with fail
      go_meet
      exact ⟨by rw [hdv.out], _, World.drewN_drewN _ _ _⟩
    · have hdv : Hid (drawOf ds n = 0) := by unfold Hid drawOf; rw [List.getElem?_eq_none (by omega)]; rfl
      have b2 : ¬ (n : Int) < ds.length := by omega
      have b4 : decide (n < ds.length) = false := by simpa using hd
      go_wp2_with fail
      go_meet
      exact ⟨by rw [hdv.out], _, rfl⟩
  case rest =>
    obtain ⟨rfl, m, rfl⟩ := hcut
    go_wp2_with fail
    obtain ⟨h, hp, hno, _⟩ := HH.out
    have h1 : RefIs ((w.alloc (.cells #[.int .i64 xa, .int .i64 xn] 77)).drewN m) ⟨q, fg, tv, .slice da ds.length dc, free, its, ds, n⟩ :=
      h.kept (((Kept.refl No w).alloc _).drewN m) (fun _ _ h => h.elim)
    have hbx : ((w.alloc (.cells #[.int .i64 xa, .int .i64 xn] 77)).drewN m).heap[w.heap.size]? = some (.cells #[.int .i64 xa, .int .i64 xn] 77 (0, 0)) := heap_alloc_new w _
    have hbq : w.heap.size ≠ q := by omega
    have hsf := h1.setField 3 (.int .i64 ((n : Int) + 1))
    have hW : RefIs (((w.alloc (.cells #[.int .i64 xa, .int .i64 xn] 77)).drewN m).setCell ⟨q, 3, none⟩ (.int .i64 ((n : Int) + 1))) ⟨q, fg, tv, .slice da ds.length dc, free, its, ds, n + 1⟩ :=
      { obj := by rw [show ((n + 1 : Nat) : Int) = (n : Int) + 1 by omega]; exact hsf.1, free := hsf.2.1, items := hsf.2.2.1, draws := hsf.2.2.2, fewFree := h.fewFree, few := h.few, manyDraws := h.manyDraws, nFits := hdf }
    have hbxW := block_set_other hbx ⟨q, 3, none⟩ (.int .i64 ((n : Int) + 1)) hbq
    have hKW : Kept (· = q) w (((w.alloc (.cells #[.int .i64 xa, .int .i64 xn] 77)).drewN m).setCell ⟨q, 3, none⟩ (.int .i64 ((n : Int) + 1))) :=
      (((Kept.refl (· = q) w).alloc _).drewN m).setCell (p := ⟨q, 3, none⟩) (.inl rfl) _
    have hzW : (((w.alloc (.cells #[.int .i64 xa, .int .i64 xn] 77)).drewN m).setCell ⟨q, 3, none⟩ (.int .i64 ((n : Int) + 1))).heap.size = w.heap.size + 1 := by simp
    generalize ((w.alloc (.cells #[.int .i64 xa, .int .i64 xn] 77)).drewN m).setCell ⟨q, 3, none⟩ (.int .i64 ((n : Int) + 1)) = W at *
    have x0 : W.cell? ⟨w.heap.size, 0, none⟩ = some (.int .i64 xa) := cellOf hbxW 0
    have x1 : W.cell? ⟨w.heap.size, 1, none⟩ = some (.int .i64 xn) := cellOf hbxW 1
    have hW' : RefIs W.drew ⟨q, fg, tv, .slice da ds.length dc, free, its, ds, n + 1⟩ := hW.kept (Kept.refl No W).drew (fun _ _ h => h)
    have F69 := Lib.hid (tput_any its tv q (itOf (xa, xn) (drawOf ds n)) i W.drew 0 _ 91 hW'.obj rfl hW'.items (by omega) hp hno)
    have HW := Lib.hid hW
    have HbxW := Lib.hid hbxW
    have HKW := Lib.hid hKW
    have HzW := Lib.hid hzW
    have hbW : w.heap.size < W.heap.size := by omega
    have w1 : IntKind.i64.wrap (8192 * xn) = 8192 * xn := IntWalk.i64_in _ (by omega)
    have w2 : IntKind.i64.wrap (8192 * xn + xa) = 8192 * xn + xa := IntWalk.i64_in _ (by omega)
    clear h hp hno h1 hbx hsf hW hW' hbxW hKW hzW c2 c3 f3
    go_region_held3 (fun W' => W'.cell? ⟨w.heap.size, 0, none⟩ = some (.int .i64 xa) ∧ W'.cell? ⟨w.heap.size, 1, none⟩ = some (.int .i64 xn))
      (first
        | with_reducible exact ⟨s0, s1⟩
        | exact ⟨x0, x1⟩
        | go_keep)
      (first
        | (go_at_call 69
           refine F69.out.mono ?_
           rintro e w1 ⟨rfl, W1, g, cap, rfl, hk, ho⟩
           have s0 : (W1.setCell ⟨q, 1, none⟩ (.slice (some ⟨g, 0, none⟩) (its.length + 1) cap)).cell? ⟨w.heap.size, 0, none⟩ = some (.int .i64 xa) := cellOf (block_set_other (hk.at (show W.drew.heap[w.heap.size]? = _ from HbxW.out) (fun h => h)) _ _ hbq) 0
           have s1 : (W1.setCell ⟨q, 1, none⟩ (.slice (some ⟨g, 0, none⟩) (its.length + 1) cap)).cell? ⟨w.heap.size, 1, none⟩ = some (.int .i64 xn) := cellOf (block_set_other (hk.at (show W.drew.heap[w.heap.size]? = _ from HbxW.out) (fun h => h)) _ _ hbq) 1))
    go_end0
    have hk' : Kept No W W1 := ⟨hk.os, hk.tape, hk.output, hk.size, hk.block⟩
    have h2 := HW.out.kept hk' (fun _ _ h => h)
    have hsf := h2.setField 1 (.slice (some ⟨g, 0, none⟩) (its.length + 1) cap)
    have hlen : (insI its i (itOf (xa, xn) (drawOf ds n))).length = its.length + 1 := by
      have := HH.out.2.1.le
      rw [insI, List.length_append, List.length_take, List.length_cons, List.length_drop]; omega
    have hzW := HzW.out
    refine ⟨rfl, .slice (some ⟨g, 0, none⟩) (its.length + 1) cap, ⟨hsf.1, hsf.2.1, ?_, hsf.2.2.2, h2.fewFree, by rw [hlen]; exact hfew, h2.manyDraws, h2.nFits⟩, ?_, ?_⟩
    · dsimp only
      rw [hlen]
      have hks : Kept (· = q) W1 (W1.setCell ⟨q, 1, none⟩ (.slice (some ⟨g, 0, none⟩) (its.length + 1) cap)) := (Kept.refl (· = q) W1).setCell (p := ⟨q, 1, none⟩) (.inl rfl) _
      exact ownsRow_base (Nat.zero_le _) (ownsRow_kept ho hks (fun k e e' => by have h1 := (ho.lt k e).1; have h3 : W.drew.heap.size = W.heap.size := rfl; omega))
    · exact (HKW.out.trans hk' (fun _ h => h.elim)).setCell (p := ⟨q, 1, none⟩) (.inl rfl) _
    · intro k e
      have h1 := (ho.lt k e).1
      have h3 : W.drew.heap.size = W.heap.size := rfl
      omega

end Go.Proofs.Ytdeebagjmhpocaa
