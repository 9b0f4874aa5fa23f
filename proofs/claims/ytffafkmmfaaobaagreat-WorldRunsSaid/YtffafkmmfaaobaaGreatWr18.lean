/- The reference's runs: add. -/
import Derived.Test.YtffafkmmfaaobaaGreatWr17
import Derived.Deep.DeepCutAuto
namespace Go.Proofs.YtffafkmmfaaobaaGreat
set_option linter.unusedSimpArgs false
set_option linter.unusedVariables false
open Go.RowKit

/-- The reference's runs, as they lie in memory. -/
structure FSt where
  q : Nat
  fg : Nat
  tv : Value
  dv : Value
  free : List Bool
  its : List It
  ds : List Int
  n : Nat

structure RefIs (w : World) (s : FSt) : Prop where
  obj : w.heap[s.q]? = some (.cells #[.slice (some ⟨s.fg, 0, none⟩) s.free.length s.free.length, s.tv, s.dv, .int .i64 s.n] 198 (0, 0))
  free : w.heap[s.fg]? = some (.cells (s.free.map Value.bool).toArray 4 (0, 0))
  items : w.ownsRow 0 274 3 s.tv s.its.length (itCells s.its)
  draws : w.ownsRow 0 71 1 s.dv s.ds.length (s.ds.map (.int .u32 ·))
  fewFree : s.free.length ≤ 5000
  few : s.its.length ≤ 5000
  manyDraws : s.ds.length ≤ 100000
  nFits : s.n ≤ 1000000

theorem ownsRow_base {w : World} {b b' : Nat} {e : TypeId} {size : Nat} {v : Value} {n : Nat} {xs : List Value} (hb : b' ≤ b) (h : w.ownsRow b e size v n xs) : w.ownsRow b' e size v n xs := by
  refine ⟨h.1, ?_⟩
  rcases h.2 with hn | ⟨g, cap, cur, rfl, h1, rest⟩
  · exact .inl hn
  · exact .inr ⟨g, cap, cur, rfl, Nat.le_trans hb h1, rest⟩

def FSt.fp (s : FSt) (k : Nat) : Prop := k = s.q ∨ k = s.fg ∨ s.tv.ownBlock = some k ∨ s.dv.ownBlock = some k

theorem RefIs.lt {w : World} {s : FSt} (h : RefIs w s) : ∀ k, s.fp k → k < w.heap.size := by
  intro k hk
  rcases hk with rfl | rfl | hk | hk
  · exact lt_of_block h.obj
  · exact lt_of_block h.free
  · exact (h.items.lt k hk).2
  · exact (h.draws.lt k hk).2
theorem RefIs.kept {w w' : World} {F : Nat → Prop} {s : FSt} (h : RefIs w s) (hk : Kept F w w') (hn : ∀ k, s.fp k → ¬ F k) : RefIs w' s :=
  { h with
    obj := hk.at h.obj (hn _ (.inl rfl))
    free := hk.at h.free (hn _ (.inr (.inl rfl)))
    items := ownsRow_kept h.items hk (fun k e => hn k (.inr (.inr (.inl e))))
    draws := ownsRow_kept h.draws hk (fun k e => hn k (.inr (.inr (.inr e)))) }
theorem RefIs.below {w w' : World} {s : FSt} (h : RefIs w s) (hb : Below w.heap.size w w') : RefIs w' s :=
  h.kept (Kept.of_below_size hb) (fun _ _ h => h.elim)

/-- A store into a field of theirs. -/
theorem RefIs.setField {w : World} {s : FSt} (h : RefIs w s) (i : Nat) (v : Value) :
    (w.setCell ⟨s.q, i, none⟩ v).heap[s.q]? = some (.cells (#[.slice (some ⟨s.fg, 0, none⟩) s.free.length s.free.length, s.tv, s.dv, .int .i64 s.n].setIfInBounds i v) 198 (0, 0)) ∧
    (w.setCell ⟨s.q, i, none⟩ v).heap[s.fg]? = some (.cells (s.free.map Value.bool).toArray 4 (0, 0)) ∧
    (w.setCell ⟨s.q, i, none⟩ v).ownsRow 0 274 3 s.tv s.its.length (itCells s.its) ∧ (w.setCell ⟨s.q, i, none⟩ v).ownsRow 0 71 1 s.dv s.ds.length (s.ds.map (.int .u32 ·)) := by
  have hk : Kept (· = s.q) w (w.setCell ⟨s.q, i, none⟩ v) := (Kept.refl (· = s.q) w).setCell (p := ⟨s.q, i, none⟩) (.inl rfl) v
  refine ⟨block_set h.obj i v, hk.at h.free (fun e => type_ne h.obj h.free (by decide) e.symm), ownsRow_kept h.items hk (fun k e e' => ?_), ownsRow_kept h.draws hk (fun k e e' => ?_)⟩
  · obtain ⟨cur, hc⟩ := ownsRow_type h.items e; exact type_ne hc h.obj (by decide) e'
  · obtain ⟨cur, hc⟩ := ownsRow_type h.draws e; exact type_ne hc h.obj (by decide) e'

def itOf (x : R2) (d : Int) : It := ⟨keyOf x, d, x.1⟩

def AddPost (s : FSt) (x : R2) (i : Nat) (w : World) (e : Ending) (w' : World) : Prop :=
  e = .returned (.tuple #[]) ∧ ∃ tv', RefIs w' { s with tv := tv', n := s.n + 1, its := insI s.its i (itOf x (drawOf s.ds s.n)) } ∧ Kept (· = s.q) w w' ∧ (∀ k, tv'.ownBlock = some k → w.heap.size ≤ k)

set_option maxRecDepth 100000 in
set_option maxHeartbeats 4000000 in
theorem add_any (s : FSt) (x : R2) (i : Nat) (w : World) (h : RefIs w s) (hp : PartsI s.its (keyOf x) i) (hno : ∀ y, s.its[i]? = some y → y.key ≠ keyOf x)
    (hx0 : 0 ≤ x.1) (hx1 : x.1 ≤ 10000) (hx2 : 0 ≤ x.2) (hx3 : x.2 ≤ 10000) (hfew : s.its.length + 1 ≤ 5000) (hdf : s.n + 1 ≤ 1000000) :
    Calls Tryz.prog 155 #[.pointer (some ⟨s.q, 0, none⟩), .agg #[.int .i64 x.1, .int .i64 x.2]] w (AddPost s x i w) := by
  obtain ⟨q, fg, tv, dv, free, its, ds, n⟩ := s
  obtain ⟨xa, xn⟩ := x
  have hobj := h.obj
  have hdraws := h.draws
  have hmd := h.manyDraws
  dsimp only at *
  have hq := lt_of_block hobj
  obtain ⟨da, dc, rfl⟩ : ∃ a c, dv = .slice a ds.length c := by
    rcases hdraws.2 with ⟨h', h0⟩ | ⟨g, cap, cur, h', _⟩
    · exact ⟨none, 0, by rw [h', h0]⟩
    · exact ⟨_, _, h'⟩
  have c2 : w.cell? ⟨q, 2, none⟩ = some (.slice da ds.length dc) := cellOf hobj 2
  have c3 : w.cell? ⟨q, 3, none⟩ = some (.int .i64 n) := cellOf hobj 3
  have f3 : w.frozen? ⟨q, 3, none⟩ = false := freeOf hobj 3
  have HH := Lib.hid (And.intro h (And.intro hp (And.intro hno hdraws)))
  have b1 : (0 : Int) ≤ n := by omega
  clear h hp hno hobj hdraws
  go_enter Tryz.func155, Tryz.ntmps155
  go_wp2_with fail
  go_quiet (fail)
  go_upto_if 14 with fail
  go_cut [4] (fun s4 wx => s4 = .int .u32 (drawOf ds n) ∧ ∃ m, wx = (w.alloc (.cells #[.int .i64 xa, .int .i64 xn] 189)).drewN m)
  case first =>
    by_cases hd : n < ds.length
    · obtain ⟨d, hdd⟩ : ∃ d, ds[n]? = some d := ⟨_, List.getElem?_eq_getElem hd⟩
      have hdv : Hid (drawOf ds n = d) := by unfold Hid drawOf; rw [hdd]; rfl
      obtain ⟨g, rfl⟩ : ∃ g, da = some ⟨g, 0, none⟩ := by
        rcases HH.out.2.2.2.2 with ⟨h', h0⟩ | ⟨g, cap, cur, h', _⟩
        · omega
        · cases h'; exact ⟨g, rfl⟩
      have hgc : w.cell? ⟨g, n, none⟩ = some (.int .u32 d) := by
        have := HH.out.2.2.2.cells (g := g) rfl n (.int .u32 d) (by simp [hdd])
        rwa [addAt] at this
      have hglt := (HH.out.2.2.2.lt g rfl).2
      have b2 : (n : Int) < ds.length := by omega
      have b4 : decide (n < ds.length) = true := by simpa using hd
      clear hdd
      go_wp2_with fail
      go_quiet (fail)
      go_wp2_with fail
      go_meet
      exact ⟨by rw [hdv.out], _, World.drewN_drewN _ _ _⟩
    · have hdv : Hid (drawOf ds n = 0) := by unfold Hid drawOf; rw [List.getElem?_eq_none (by omega)]; rfl
      have b2 : ¬ (n : Int) < ds.length := by omega
      have b4 : decide (n < ds.length) = false := by simpa using hd
      go_wp2_with fail
      go_meet
      exact ⟨by rw [hdv.out], _, rfl⟩
  case rest =>
    obtain ⟨rfl, m, rfl⟩ := hcut
    go_wp2_with fail
    obtain ⟨h, hp, hno, _⟩ := HH.out
    have h1 : RefIs ((w.alloc (.cells #[.int .i64 xa, .int .i64 xn] 189)).drewN m) ⟨q, fg, tv, .slice da ds.length dc, free, its, ds, n⟩ :=
      h.kept (((Kept.refl No w).alloc _).drewN m) (fun _ _ h => h.elim)
    have hbx : ((w.alloc (.cells #[.int .i64 xa, .int .i64 xn] 189)).drewN m).heap[w.heap.size]? = some (.cells #[.int .i64 xa, .int .i64 xn] 189 (0, 0)) := heap_alloc_new w _
    have hbq : w.heap.size ≠ q := by omega
    have hsf := h1.setField 3 (.int .i64 ((n : Int) + 1))
    have hW : RefIs (((w.alloc (.cells #[.int .i64 xa, .int .i64 xn] 189)).drewN m).setCell ⟨q, 3, none⟩ (.int .i64 ((n : Int) + 1))) ⟨q, fg, tv, .slice da ds.length dc, free, its, ds, n + 1⟩ :=
      { obj := by rw [show ((n + 1 : Nat) : Int) = (n : Int) + 1 by omega]; exact hsf.1, free := hsf.2.1, items := hsf.2.2.1, draws := hsf.2.2.2, fewFree := h.fewFree, few := h.few, manyDraws := h.manyDraws, nFits := hdf }
    have hbxW := block_set_other hbx ⟨q, 3, none⟩ (.int .i64 ((n : Int) + 1)) hbq
    have hKW : Kept (· = q) w (((w.alloc (.cells #[.int .i64 xa, .int .i64 xn] 189)).drewN m).setCell ⟨q, 3, none⟩ (.int .i64 ((n : Int) + 1))) :=
      (((Kept.refl (· = q) w).alloc _).drewN m).setCell (p := ⟨q, 3, none⟩) (.inl rfl) _
    have hzW : (((w.alloc (.cells #[.int .i64 xa, .int .i64 xn] 189)).drewN m).setCell ⟨q, 3, none⟩ (.int .i64 ((n : Int) + 1))).heap.size = w.heap.size + 1 := by simp
    generalize ((w.alloc (.cells #[.int .i64 xa, .int .i64 xn] 189)).drewN m).setCell ⟨q, 3, none⟩ (.int .i64 ((n : Int) + 1)) = W at *
    have x0 : W.cell? ⟨w.heap.size, 0, none⟩ = some (.int .i64 xa) := cellOf hbxW 0
    have x1 : W.cell? ⟨w.heap.size, 1, none⟩ = some (.int .i64 xn) := cellOf hbxW 1
    have hW' : RefIs W.drew ⟨q, fg, tv, .slice da ds.length dc, free, its, ds, n + 1⟩ := hW.kept (Kept.refl No W).drew (fun _ _ h => h)
    have F69 := Lib.hid (tput_any its tv q (itOf (xa, xn) (drawOf ds n)) i W.drew 0 _ 198 hW'.obj rfl hW'.items (by omega) hp hno)
    have HW := Lib.hid hW
    have HbxW := Lib.hid hbxW
    have HKW := Lib.hid hKW
    have HzW := Lib.hid hzW
    have hbW : w.heap.size < W.heap.size := by omega
    have w1 : IntKind.i64.wrap (8192 * xn) = 8192 * xn := IntWalk.i64_in _ (by omega)
    have w2 : IntKind.i64.wrap (8192 * xn + xa) = 8192 * xn + xa := IntWalk.i64_in _ (by omega)
    clear h hp hno h1 hbx hsf hW hW' hbxW hKW hzW c2 c3 f3
    go_region_held3 (fun W' => W'.cell? ⟨w.heap.size, 0, none⟩ = some (.int .i64 xa) ∧ W'.cell? ⟨w.heap.size, 1, none⟩ = some (.int .i64 xn))
      (first
        | with_reducible exact ⟨s0, s1⟩
        | exact ⟨x0, x1⟩
        | go_keep)
      (first
        | (go_at_call 221
           refine F69.out.mono ?_
           rintro e w1 ⟨rfl, W1, g, cap, rfl, hk, ho⟩
           have s0 : (W1.setCell ⟨q, 1, none⟩ (.slice (some ⟨g, 0, none⟩) (its.length + 1) cap)).cell? ⟨w.heap.size, 0, none⟩ = some (.int .i64 xa) := cellOf (block_set_other (hk.at (show W.drew.heap[w.heap.size]? = _ from HbxW.out) (fun h => h)) _ _ hbq) 0
           have s1 : (W1.setCell ⟨q, 1, none⟩ (.slice (some ⟨g, 0, none⟩) (its.length + 1) cap)).cell? ⟨w.heap.size, 1, none⟩ = some (.int .i64 xn) := cellOf (block_set_other (hk.at (show W.drew.heap[w.heap.size]? = _ from HbxW.out) (fun h => h)) _ _ hbq) 1))
    go_end0
    have hk' : Kept No W W1 := ⟨hk.os, hk.tape, hk.output, hk.size, hk.block⟩
    have h2 := HW.out.kept hk' (fun _ _ h => h)
    have hsf := h2.setField 1 (.slice (some ⟨g, 0, none⟩) (its.length + 1) cap)
    have hlen : (insI its i (itOf (xa, xn) (drawOf ds n))).length = its.length + 1 := by
      have := HH.out.2.1.le
      rw [insI, List.length_append, List.length_take, List.length_cons, List.length_drop]; omega
    have hzW := HzW.out
    refine ⟨rfl, .slice (some ⟨g, 0, none⟩) (its.length + 1) cap, ⟨hsf.1, hsf.2.1, ?_, hsf.2.2.2, h2.fewFree, by rw [hlen]; exact hfew, h2.manyDraws, h2.nFits⟩, ?_, ?_⟩
    · dsimp only
      rw [hlen]
      have hks : Kept (· = q) W1 (W1.setCell ⟨q, 1, none⟩ (.slice (some ⟨g, 0, none⟩) (its.length + 1) cap)) := (Kept.refl (· = q) W1).setCell (p := ⟨q, 1, none⟩) (.inl rfl) _
      exact ownsRow_base (Nat.zero_le _) (ownsRow_kept ho hks (fun k e e' => by have h1 := (ho.lt k e).1; have h3 : W.drew.heap.size = W.heap.size := rfl; omega))
    · exact (HKW.out.trans hk' (fun _ h => h.elim)).setCell (p := ⟨q, 1, none⟩) (.inl rfl) _
    · intro k e
      have h1 := (ho.lt k e).1
      have h3 : W.drew.heap.size = W.heap.size := rfl
      omega

end Go.Proofs.YtffafkmmfaaobaaGreat

namespace Go.Proofs.YtffafkmmfaaobaaGreat
set_option linter.unusedSimpArgs false
set_option linter.unusedVariables false
open Go.RowKit

theorem Tryz.info4 : (Tryz.prog.info? 4).map (fun i => (i.zero, i.size, i.bytes)) = some (some (.bool false), 1, 1) := by kernel_rfl

theorem madeCells_bool (n : Nat) : (madeCells (Value.bool false).cells (n * 1)).toList = (List.replicate n false).map Value.bool := by
  apply List.ext_getElem?
  intro j
  simp [madeCells, Value.cells, List.getElem?_replicate, List.getElem?_range]
  by_cases h : j < n
  · simp [h, Nat.mod_one]
  · simp [h]

def RefNewPost (pages : Nat) (ds : List Int) (w : World) (e : Ending) (w' : World) : Prop :=
  ∃ s : FSt, e = .returned (.pointer (some ⟨s.q, 0, none⟩)) ∧ RefIs w' s ∧ s.free = List.replicate pages true ∧ s.its = [itOf (0, pages) (drawOf ds 0)] ∧ s.ds = ds ∧ s.n = 1 ∧ Below w.heap.size w w' ∧ (∀ k, s.fp k → w.heap.size ≤ k)

theorem wp_make_run {P : Program} {w w' : World} {o : Oper} {a : Act} {K : Act → World → Prop} {Q : Exit → Act → World → Prop} (l c : Operand) (t : TypeId) (hop : o.op = Op.makeSlice t l c) {x y v : Value} (hl : a.eval l = x) (hc : a.eval c = y)
    (hrun : (Instr.makeSlice t x y).run P w = .ok v w') (h : K (a.put o.dst v) w') : o.wp P a w K Q := by
  unfold Oper.wp
  simp [execOp, hop, hl, hc, hrun, Result.andThen]
  exact h

theorem make4 (n : Nat) (w W : World) (hk : Kept No w W) (hn : n ≤ 5000) :
    ∃ W', (Instr.makeSlice 68 (.int .i64 (n : Int)) (.int .i64 (n : Int))).run Tryz.prog W = .ok (.slice (some ⟨W.heap.size, 0, none⟩) n n) W' ∧ W'.heap[W.heap.size]? = some (.cells ((List.replicate n false).map Value.bool).toArray 4 (0, 0)) ∧ W.grownBy W' none ∧ Kept No w W' := by
  obtain ⟨i0, hi, hz0, hz1, hz2⟩ := info_parts Tryz.info4
  obtain ⟨W', h1, h2, h3⟩ := run_make_full (P := Tryz.prog) W W.heap.size 68 4 i0 _ 1 Tryz.underlying68 hi hz0 hz1 .i64 .i64 n (by rw [hz2]; omega) (by unfold maxLen; omega) (Nat.le_refl _)
  have hr := ownsRow_full h2
  rw [madeCells_bool] at hr
  exact ⟨W', h1, hr, h3, hk.grown h3 (fun k h => by cases h)⟩

theorem app32 (ty : TypeId) (w W : World) (v0 u : Value) (ds : List Int) (hk : Kept No w W) (h0 : W.ownsRow w.heap.size 71 1 v0 0 []) (hs : SrcOf w 1 u ds.length (ds.map (.int .u32 ·))) (hm : ds.length ≤ 100000) :
    ∃ v1 W', (Builtin.append_ #[23, 23] ty #[v0, u]).run Tryz.prog W = .ok v1 W' ∧ W'.ownsRow w.heap.size 71 1 v1 ds.length (ds.map (.int .u32 ·)) ∧ W.grownBy W' v0.ownBlock ∧ Kept No w W' := by
  obtain ⟨i0, hi, hz0, hz1, hz2⟩ := info_parts Tryz.info71
  obtain ⟨v1, W', h2, h3, h4, h6⟩ := run_append_src (P := Tryz.prog) W w.heap.size 23 ty 71 i0 _ 1 4 Tryz.underlying23 hi hz0 hz1 hz2 rfl (by decide) v0 0 [] h0 u ds.length _ (hs.below hk.no_below) (by simp [Value.oneCell']) (by unfold maxLen; omega) (by omega) hk.size
  exact ⟨v1, W', h2, by simpa using h3, h4, own_new (v' := v1) h0 (Nat.le_refl _) hk h4⟩

/-- What is there where the loop begins. -/
theorem RefIs.setFree {w : World} {s : FSt} (h : RefIs w s) (i : Nat) (b : Bool) : RefIs (w.setCell ⟨s.fg, i, none⟩ (.bool b)) { s with free := s.free.set i b } := by
  have hk : Kept (· = s.fg) w (w.setCell ⟨s.fg, i, none⟩ (.bool b)) := (Kept.refl (· = s.fg) w).setCell (p := ⟨s.fg, i, none⟩) (.inl rfl) (.bool b)
  refine ⟨?_, ?_, ownsRow_kept h.items hk (fun k e e' => ?_), ownsRow_kept h.draws hk (fun k e e' => ?_), by simpa using h.fewFree, h.few, h.manyDraws, h.nFits⟩
  · simp only [List.length_set]
    exact hk.at h.obj (fun e => type_ne h.obj h.free (by decide) e)
  · have := block_set h.free i (.bool b)
    simpa [List.map_set] using this
  · obtain ⟨cur, hc⟩ := ownsRow_type h.items e; exact type_ne hc h.free (by decide) e'
  · obtain ⟨cur, hc⟩ := ownsRow_type h.draws e; exact type_ne hc h.free (by decide) e'

theorem fill_step (n i : Nat) (h : i < n) : (List.replicate i true ++ List.replicate (n - i) false).set i true = List.replicate (i + 1) true ++ List.replicate (n - (i + 1)) false := by
  apply List.ext_getElem?
  intro j
  simp only [List.getElem?_set, List.getElem?_append, List.getElem?_replicate, List.length_append, List.length_replicate]
  by_cases h1 : i = j
  · subst h1; simp; omega
  · simp only [if_neg h1]
    by_cases h2 : j < i
    · simp [h2, show j < i + 1 by omega]
    · simp only [if_neg h2, if_neg (show ¬ j < i + 1 by omega)]
      by_cases h3 : j < n
      · rw [if_pos (by omega), if_pos (by omega)]
      · rw [if_neg (by omega), if_neg (by omega)]

def NewMid (n : Nat) (ds : List Int) (w : World) (q : Nat) (W : World) : Prop :=
  ∃ fg dv, RefIs W ⟨q, fg, .slice none 0 0, dv, List.replicate n false, [], ds, 0⟩ ∧ Kept No w W ∧ w.heap.size ≤ q ∧ w.heap.size ≤ fg ∧ (∀ k, dv.ownBlock = some k → w.heap.size ≤ k)

theorem newMid_of {n : Nat} {ds : List Int} {w W : World} {fg : Nat} {dv : Value} (hn : n ≤ 5000) (hm : ds.length ≤ 100000) (hk : Kept No w W) (hfg : W.heap[fg]? = some (.cells ((List.replicate n false).map Value.bool).toArray 4 (0, 0))) (hl : w.heap.size ≤ fg) (ho : W.ownsRow w.heap.size 71 1 dv ds.length (ds.map (.int .u32 ·))) :
    NewMid n ds w W.heap.size (W.alloc (.cells #[.slice (some ⟨fg, 0, none⟩) n n, .slice none 0 0, dv, .int .i64 0] 198)) := by
  refine ⟨fg, dv, ⟨?_, block_alloc hfg _, World.ownsRow_nil _ _ _ _, ownsRow_base (Nat.zero_le _) (ho.alloc _), by simpa using hn, by simp, hm, by simp⟩, hk.alloc _, hk.size, hl, fun k hk => (ho.lt k hk).1⟩
  simp only [List.length_replicate]
  exact heap_alloc_new W _

set_option maxRecDepth 100000 in
set_option maxHeartbeats 4000000 in
theorem refNew_any (n : Nat) (v : Value) (ds : List Int) (w : World) (h1 : 1 ≤ n) (h2 : n ≤ 4096) (hs : SrcOf w 1 v ds.length (ds.map (.int .u32 ·))) (hm : ds.length ≤ 100000) :
    Calls Tryz.prog 100 #[.int .i64 n, v] w (RefNewPost n ds w) := by
  have b1 : (1 : Int) ≤ n := by omega
  have b2 : (n : Int) ≤ 4096 := by omega
  obtain ⟨da, dn, dc, rfl⟩ : ∃ a n c, v = .slice a n c := by
    rcases hs with ⟨rfl, _⟩ | ⟨a, c, rfl, _⟩ <;> exact ⟨_, _, _, rfl⟩
  have Hs := Lib.hid hs
  clear hs
  go_enter Tryz.func100, Tryz.ntmps100
  go_upto_region 3 with fail
  go_cut [5] (fun s5 wx => ∃ q, s5 = .pointer (some ⟨q, 0, none⟩) ∧ NewMid n ds w q wx)
  case first =>
    go_wp2_with fail
    refine wp_drawnTo 7 (fun _ => True) (by kernel_rfl) ?_
    refine DrawnTo.take (i := 0) (v := .int .i64 n) rfl (by kernel_rfl) (by kernel_rfl) (by kernel_rfl) (by kernel_rfl) (fun _ _ _ h => h) trivial (Or.inl ⟨by rfl, fun W' hS => ?_⟩) ?_
    · go_simp
    refine DrawnTo.take (i := 3) (v := .slice da dn dc) rfl (by kernel_rfl) (by kernel_rfl) (by kernel_rfl) (by kernel_rfl) (fun _ _ _ h => h) trivial (Or.inl ⟨by rfl, fun W' hS => ?_⟩) ?_
    · go_simp
    have hk0 : Kept No w w.drew := (Kept.refl No w).drew
    refine DrawnTo.two (i := 1) (j := 2) (by kernel_rfl) rfl rfl (by rfl) (by rfl) (fun K hK => ?_) (fun K hK => ?_)
    · obtain ⟨W4, hr4, hf4, hg4, hk4⟩ := make4 n w w.drew hk0 (by omega)
      refine wp_make_run (.tmp 13) (.tmp 13) 68 rfl rfl rfl hr4 ?_
      refine hK.out _ _ (fun _ => trivial) (fun _ => ?_)
      have hl4 : w.heap.size < W4.heap.size := lt_of_block hf4
      refine DrawnTo.one (i := 2) (by kernel_rfl) rfl (by rfl) (fun K hK => ?_)
      unfold Oper.wp
      go_simp
      have hk5 : Kept No w (W4.alloc (.cells #[] 71)) := Kept.alloc hk4 (.cells #[] 71)
      have hE : (W4.alloc (.cells #[] 71)).ownsRow w.heap.size 71 1 (.slice (some ⟨W4.heap.size, 0, none⟩) 0 0) 0 [] := World.ownsRow_made W4 #[] 0 (Kept.size hk4) (by decide) (by simp)
      have hf4 := block_alloc hf4 (.cells #[] 71)
      generalize W4.alloc (.cells #[] 71) = W5 at hk5 hE hf4 ⊢
      refine hK.out _ _ (fun _ => trivial) (fun _ => ?_)
      refine DrawnTo.one (i := 4) (by kernel_rfl) rfl (by rfl) (fun K hK => ?_)
      obtain ⟨v6, W6, hr6, ho6, hg6, hk6⟩ := app32 23 w W5 _ (.slice da dn dc) ds hk5 hE Hs.out hm
      refine wp_append_run' (.tmp 15) (.tmp 16) 23 23 rfl rfl rfl hr6 ?_
      refine hK.out _ _ (fun _ => trivial) (fun _ => ?_)
      have hf6 := (hg6.block _ (lt_of_block hf4) (fun e => by simp [Value.ownBlock] at e; omega)).trans hf4
      have HN := newMid_of (by omega) hm hk6 hf6 (Nat.le_refl _) ho6
      obtain ⟨va, vn, vc, rfl⟩ : ∃ a n c, v6 = .slice a n c := by
        rcases ho6.2 with ⟨rfl, _⟩ | ⟨g, cap, cur, rfl, _⟩ <;> exact ⟨_, _, _, rfl⟩
      have HN := Lib.hid HN
      refine DrawnTo.one (i := 5) (by kernel_rfl) rfl (by rfl) (fun K hK => ?_)
      unfold Oper.wp
      go_simp
      refine hK.out _ _ (fun _ => trivial) (fun _ => ?_)
      refine DrawnTo.one (i := 6) (by kernel_rfl) rfl (by rfl) (fun K hK => ?_)
      unfold Oper.wp
      go_simp
      refine hK.out _ _ (fun _ => trivial) (fun _ => ?_)
      refine DrawnTo.one (i := 7) (by kernel_rfl) rfl (by rfl) (fun K hK => ?_)
      unfold Oper.wp
      go_simp
      refine hK.out _ _ (fun h => absurd rfl h) (fun _ => ?_)
      refine DrawnTo.done (by kernel_rfl) ?_ _
      go_wp2_with fail
      go_meet
      exact ⟨_, rfl, HN.out⟩
    · unfold Oper.wp
      go_simp
      have hk5 : Kept No w (w.alloc (.cells #[] 71)).drew := Kept.alloc hk0 (.cells #[] 71)
      have hE : (w.alloc (.cells #[] 71)).drew.ownsRow w.heap.size 71 1 (.slice (some ⟨w.heap.size, 0, none⟩) 0 0) 0 [] := World.ownsRow_made w.drew #[] 0 (Kept.size hk0) (by decide) (by simp)
      have hlW : w.heap.size < (w.alloc (.cells #[] 71)).drew.heap.size := by simp
      generalize (w.alloc (.cells #[] 71)).drew = W5 at hk5 hE hlW ⊢
      refine hK.out _ _ (fun _ => trivial) (fun _ => ?_)
      refine DrawnTo.two (i := 1) (j := 4) (by kernel_rfl) rfl rfl (by rfl) (by rfl) (fun K hK => ?_) (fun K hK => ?_)
      · obtain ⟨W4, hr4, hf4, hg4, hk4⟩ := make4 n w W5 hk5 (by omega)
        refine wp_make_run (.tmp 13) (.tmp 13) 68 rfl rfl rfl hr4 ?_
        refine hK.out _ _ (fun _ => trivial) (fun _ => ?_)
        have hE := ownsRow_kept hE ((Kept.refl No W5).grown hg4 (fun k h => by cases h)) (fun _ _ h => h)
        refine DrawnTo.one (i := 4) (by kernel_rfl) rfl (by rfl) (fun K hK => ?_)
        obtain ⟨v6, W6, hr6, ho6, hg6, hk6⟩ := app32 23 w W4 _ (.slice da dn dc) ds hk4 hE Hs.out hm
        refine wp_append_run' (.tmp 15) (.tmp 16) 23 23 rfl rfl rfl hr6 ?_
        refine hK.out _ _ (fun _ => trivial) (fun _ => ?_)
        have hf6 := (hg6.block _ (lt_of_block hf4) (fun e => by simp [Value.ownBlock] at e; omega)).trans hf4
        have HN := newMid_of (by omega) hm hk6 hf6 hk5.size ho6
        obtain ⟨va, vn, vc, rfl⟩ : ∃ a n c, v6 = .slice a n c := by
          rcases ho6.2 with ⟨rfl, _⟩ | ⟨g, cap, cur, rfl, _⟩ <;> exact ⟨_, _, _, rfl⟩
        have HN := Lib.hid HN
        refine DrawnTo.one (i := 5) (by kernel_rfl) rfl (by rfl) (fun K hK => ?_)
        unfold Oper.wp
        go_simp
        refine hK.out _ _ (fun _ => trivial) (fun _ => ?_)
        refine DrawnTo.one (i := 6) (by kernel_rfl) rfl (by rfl) (fun K hK => ?_)
        unfold Oper.wp
        go_simp
        refine hK.out _ _ (fun _ => trivial) (fun _ => ?_)
        refine DrawnTo.one (i := 7) (by kernel_rfl) rfl (by rfl) (fun K hK => ?_)
        unfold Oper.wp
        go_simp
        refine hK.out _ _ (fun h => absurd rfl h) (fun _ => ?_)
        refine DrawnTo.done (by kernel_rfl) ?_ _
        go_wp2_with fail
        go_meet
        exact ⟨_, rfl, HN.out⟩
      · obtain ⟨v6, W6, hr6, ho6, hg6, hk6⟩ := app32 23 w W5 _ (.slice da dn dc) ds hk5 hE Hs.out hm
        refine wp_append_run' (.tmp 15) (.tmp 16) 23 23 rfl rfl rfl hr6 ?_
        refine hK.out _ _ (fun _ => trivial) (fun _ => ?_)
        refine DrawnTo.one (i := 1) (by kernel_rfl) rfl (by rfl) (fun K hK => ?_)
        obtain ⟨W4, hr4, hf4, hg4, hk4⟩ := make4 n w W6 hk6 (by omega)
        refine wp_make_run (.tmp 13) (.tmp 13) 68 rfl rfl rfl hr4 ?_
        refine hK.out _ _ (fun _ => trivial) (fun _ => ?_)
        have ho7 := ownsRow_kept ho6 ((Kept.refl No W6).grown hg4 (fun k h => by cases h)) (fun _ _ h => h)
        have HN := newMid_of (by omega) hm hk4 hf4 hk6.size ho7
        obtain ⟨va, vn, vc, rfl⟩ : ∃ a n c, v6 = .slice a n c := by
          rcases ho6.2 with ⟨rfl, _⟩ | ⟨g, cap, cur, rfl, _⟩ <;> exact ⟨_, _, _, rfl⟩
        have HN := Lib.hid HN
        refine DrawnTo.one (i := 5) (by kernel_rfl) rfl (by rfl) (fun K hK => ?_)
        unfold Oper.wp
        go_simp
        refine hK.out _ _ (fun _ => trivial) (fun _ => ?_)
        refine DrawnTo.one (i := 6) (by kernel_rfl) rfl (by rfl) (fun K hK => ?_)
        unfold Oper.wp
        go_simp
        refine hK.out _ _ (fun _ => trivial) (fun _ => ?_)
        refine DrawnTo.one (i := 7) (by kernel_rfl) rfl (by rfl) (fun K hK => ?_)
        unfold Oper.wp
        go_simp
        refine hK.out _ _ (fun h => absurd rfl h) (fun _ => ?_)
        refine DrawnTo.done (by kernel_rfl) ?_ _
        go_wp2_with fail
        go_meet
        exact ⟨_, rfl, HN.out⟩
  case rest =>
    obtain ⟨q, rfl, hN⟩ := hcut
    obtain ⟨fg, dv, hR, hk, hq, hfg, hdv⟩ := hN
    have HK := Lib.hid (And.intro hk hdv)
    have hqz : w.heap.size ≤ q := hq
    have H0 : Hid (RefIs wc ⟨q, fg, .slice none 0 0, dv, List.replicate 0 true ++ List.replicate (n - 0) false, [], ds, 0⟩) := by simpa [Hid] using hR
    clear hR hk hdv
    go_wp2_with fail
    go_loopg [6] n (fun m s6 wr => ∃ i : Nat, s6 = .int .i64 i ∧ i ≤ n ∧ n - i ≤ m ∧ RefIs wr ⟨q, fg, .slice none 0 0, dv, List.replicate i true ++ List.replicate (n - i) false, [], ds, 0⟩ ∧ Kept No w wr)
    case atStart => exact ⟨0, rfl, Nat.zero_le _, Nat.le_refl _, H0.out, HK.out.1⟩
    case round =>
      obtain ⟨i, rfl, hin, hme, hR, hk⟩ := hrel
      by_cases hlt : i < n
      · have hlt' : (i : Int) < n := by omega
        have c0 : wr.cell? ⟨q, 0, none⟩ = some (.slice (some ⟨fg, 0, none⟩) n n) := by
          have := cellOf hR.obj 0
          simpa [show i + (n - i) = n by omega] using this
        obtain ⟨u, cf⟩ : ∃ u, wr.cell? ⟨fg, i, none⟩ = some u := by
          rw [cellOf hR.free i]
          exact ⟨_, Array.getElem?_eq_getElem (by simp; omega)⟩
        have ff := freeOf hR.free i
        have hqf : q < wr.heap.size := lt_of_block hR.obj
        have hS := hR.setFree i true
        rw [show (FSt.mk q fg (.slice none 0 0) dv (List.replicate i true ++ List.replicate (n - i) false) [] ds 0).free.set i true = List.replicate (i + 1) true ++ List.replicate (n - (i + 1)) false from fill_step n i hlt] at hS
        have HS := Lib.hid (And.intro hS (hk.setCell (p := ⟨fg, i, none⟩) (.inr hfg) (.bool true)))
        have Hm := Lib.hid hme
        clear hR hk hS hme
        go_wp2
        go_roundg (n - (i + 1))
        case measure => have := Hm.out; omega
        case rel => exact ⟨i + 1, by go_num, by omega, Nat.le_refl _, HS.out.1, HS.out.2⟩
      · have hlt' : ¬ (i : Int) < n := by omega
        obtain rfl : i = n := by omega
        have hR' : RefIs wr ⟨q, fg, .slice none 0 0, dv, List.replicate i true, [], ds, 0⟩ := by simpa using hR
        have F := Lib.hid (add_any _ (0, (i : Int)) 0 wr hR' ⟨Nat.zero_le _, fun p x h => absurd h (Nat.not_lt_zero _), fun x h => by simp at h⟩ (fun y h => by simp at h) (by simp) (by simp) (by simp) (by simp; omega) (by simp) (by simp))
        have Hk := Lib.hid hk
        clear hR hR' hk hme hin
        go_wp2_with fail
        refine F.out.mono ?_
        rintro e w3 ⟨rfl, tv', h3, hk3, hl3⟩
        have HF : Hid (RefNewPost i ds w (.returned (.pointer (some ⟨q, 0, none⟩))) w3) := by
          refine ⟨_, rfl, h3, rfl, rfl, rfl, rfl, ?_, ?_⟩
          · exact (Hk.out.trans hk3 (fun k e => .inr (by rw [e]; exact hqz))).no_below
          · intro k hk'
            have hz := Hk.out.size
            rcases hk' with rfl | rfl | hk' | hk'
            · exact hqz
            · exact hfg
            · have := hl3 k hk'; omega
            · exact HK.out.2 k hk'
        go_wp2
        go_ret
        exact HF.out

end Go.Proofs.YtffafkmmfaaobaaGreat