/- runs.put. -/
import Derived.Test.YtffafkmmfaaobaaGreatWr14
import Derived.Deep.DeepCutAuto
namespace Go.Proofs.YtffafkmmfaaobaaGreat
set_option linter.unusedSimpArgs false
set_option linter.unusedVariables false
open Go.RowKit

/-- A store into a field of theirs. -/
theorem RunsIs.setField {w : World} {s : RSt} (h : RunsIs w s) (i : Nat) (v : Value) :
    (w.setCell ⟨s.q, i, none⟩ v).heap[s.q]? = some (.cells (#[.int .i64 s.pages, s.dv, .int .i64 s.drawn, .pointer (some ⟨s.p, 0, none⟩), s.lv, .int .i64 s.total].setIfInBounds i v) 193 (0, 0)) ∧
    (w.setCell ⟨s.q, i, none⟩ v).ownsRow 0 71 1 s.dv s.ds.length (s.ds.map (.int .u32 ·)) ∧ TreapAt (w.setCell ⟨s.q, i, none⟩ v) s.p s.t ∧
    (w.setCell ⟨s.q, i, none⟩ v).ownsRow 0 189 2 s.lv s.xs.length (runCells s.xs) := by
  have hk : Kept (· = s.q) w (w.setCell ⟨s.q, i, none⟩ v) := (Kept.refl (· = s.q) w).setCell (p := ⟨s.q, i, none⟩) (.inl rfl) v
  obtain ⟨m, h1, h2, h3⟩ := h.tree
  refine ⟨block_set h.obj i v, ownsRow_kept h.draws hk (fun k e e' => ?_), h.tree.kept hk (fun e => type_ne h.obj h1 (by decide) e.symm) (fun k hm e => ?_), ownsRow_kept h.list hk (fun k e e' => ?_)⟩
  · obtain ⟨cur, hc⟩ := ownsRow_type h.draws e; exact type_ne hc h.obj (by decide) e'
  · obtain ⟨cs, hc⟩ := h2.type k hm; exact type_ne hc h.obj (by decide) e
  · obtain ⟨cur, hc⟩ := ownsRow_type h.list e; exact type_ne hc h.obj (by decide) e'

/-- The tree has turned, and nothing else. -/
theorem RunsIs.treeTurned {w w' : World} {s : RSt} {t' : T} (h : RunsIs w s) (hk : Kept (fun k => k = s.p ∨ k ∈ s.t.blocks) w w') (ht : TreapAt w' s.p t') : RunsIs w' { s with t := t' } := by
  obtain ⟨m, h1, h2, h3⟩ := h.tree
  have ne : ∀ k cs ty, w.heap[k]? = some (.cells cs ty (0, 0)) → ty ≠ 243 → ty ≠ 268 → ¬ (k = s.p ∨ k ∈ s.t.blocks) := fun k cs ty hc n1 n2 h => by
    rcases h with h | h
    · exact type_ne hc h1 n1 h
    · obtain ⟨cs', hc'⟩ := h2.type k h; exact type_ne hc hc' n2 rfl
  exact { h with
    obj := hk.at h.obj (ne _ _ _ h.obj (by decide) (by decide))
    draws := ownsRow_kept h.draws hk (fun k e => by obtain ⟨cur, hc⟩ := ownsRow_type h.draws e; exact ne _ _ _ hc (by decide) (by decide))
    tree := ht
    list := ownsRow_kept h.list hk (fun k e => by obtain ⟨cur, hc⟩ := ownsRow_type h.list e; exact ne _ _ _ hc (by decide) (by decide)) }

/-- The list has turned, and was laid anew. -/
theorem RunsIs.listTurned {w w' : World} {s : RSt} (h : RunsIs w s) (hg : w.grownBy w' s.lv.ownBlock) (v' : Value) (xs' : List R2) (ho : w'.ownsRow 0 189 2 v' xs'.length (runCells xs'))
    (hf : ∀ (p : Nat) (x : R2), xs'[p]? = some x → 0 ≤ x.1 ∧ x.1 ≤ 10000 ∧ 0 ≤ x.2 ∧ x.2 ≤ 10000) (hl : xs'.length ≤ 5000) :
    RunsIs (w'.setCell ⟨s.q, 4, none⟩ v') { s with lv := v', xs := xs' } ∧ Kept s.fp w (w'.setCell ⟨s.q, 4, none⟩ v') := by
  obtain ⟨m, h1, h2, h3⟩ := h.tree
  have hk : Kept (fun k => s.lv.ownBlock = some k) w w' := (Kept.refl _ w).grown hg (fun k e => .inl e)
  have ne : ∀ k cs ty, w.heap[k]? = some (.cells cs ty (0, 0)) → ty ≠ 189 → ¬ (s.lv.ownBlock = some k) := fun k cs ty hc n1 e => by
    obtain ⟨cur, hc'⟩ := ownsRow_type h.list e; exact type_ne hc hc' n1 rfl
  have hobj' := hk.at h.obj (ne _ _ _ h.obj (by decide))
  have htree' := h.tree.kept hk (ne _ _ _ h1 (by decide)) (fun k hm => by obtain ⟨cs, hc⟩ := h2.type k hm; exact ne _ _ _ hc (by decide))
  have hdraws' := ownsRow_kept h.draws hk (fun k e => by obtain ⟨cur, hc⟩ := ownsRow_type h.draws e; exact ne _ _ _ hc (by decide))
  have hk2 : Kept (· = s.q) w' (w'.setCell ⟨s.q, 4, none⟩ v') := (Kept.refl (· = s.q) w').setCell (p := ⟨s.q, 4, none⟩) (.inl rfl) v'
  obtain ⟨m', h1', h2', h3'⟩ := htree'
  refine ⟨{ h with
    obj := block_set hobj' 4 v'
    draws := ownsRow_kept hdraws' hk2 (fun k e e' => by obtain ⟨cur, hc⟩ := ownsRow_type hdraws' e; exact type_ne hc hobj' (by decide) e')
    tree := TreapAt.kept ⟨m', h1', h2', h3'⟩ hk2 (fun e => type_ne h1' hobj' (by decide) e) (fun k hm e => by obtain ⟨cs, hc⟩ := h2'.type k hm; exact type_ne hc hobj' (by decide) e)
    list := ownsRow_kept ho hk2 (fun k e e' => by obtain ⟨cur, hc⟩ := ownsRow_type ho e; exact type_ne hc hobj' (by decide) e')
    fits := hf
    few := hl }, (hk.mono (G := s.fp) (fun k e => .inl (.inr (.inr (.inr e))))).trans hk2 (fun k e => .inl (.inl e))⟩

/-- Behind the insertion. -/
def Mid6 (s : RSt) (x : R2) (i bx : Nat) (w wx : World) : Prop :=
  ∃ lv', RunsIs wx { s with lv := lv', xs := insR s.xs i x } ∧ wx.heap[bx]? = some (.cells #[.int .i64 x.1, .int .i64 x.2] 189 (0, 0)) ∧ Kept s.fp w wx ∧ (∀ k, lv'.ownBlock = some k → s.fp k ∨ w.heap.size ≤ k)

theorem insR_get {xs : List R2} {i : Nat} {x : R2} {p : Nat} {y : R2} (h : (insR xs i x)[p]? = some y) : y = x ∨ ∃ j : Nat, xs[j]? = some y := by
  have hm : y ∈ insR xs i x := List.mem_of_getElem? h
  simp only [insR, List.mem_append, List.mem_cons] at hm
  rcases hm with hm | rfl | hm
  · exact .inr (List.getElem?_of_mem (List.mem_of_mem_take hm))
  · exact .inl rfl
  · exact .inr (List.getElem?_of_mem (List.mem_of_mem_drop hm))
theorem insR_length {xs : List R2} {i : Nat} {x : R2} (h : i ≤ xs.length) : (insR xs i x).length = xs.length + 1 := by
  simp [insR]; omega

/-- The call of Insert, and the store of what it hands back. -/
theorem ins6 {s : RSt} {x : R2} {i bx : Nat} {w w4 : World} {B : Nat} (h : RunsIs w s) (hk : Kept No w w4) (hi : i ≤ s.xs.length) (hfew : s.xs.length < 5000)
    (hx0 : 0 ≤ x.1) (hx1 : x.1 ≤ 10000) (hx2 : 0 ≤ x.2) (hx3 : x.2 ≤ 10000) (hbx : w.heap[bx]? = some (.cells #[.int .i64 x.1, .int .i64 x.2] 189 (0, 0))) (hbxl : s.lv.ownBlock ≠ some bx) (hB : w4.heap[B]? = some (.cells #[.int .i64 x.1, .int .i64 x.2] 189 (0, 0))) (hBn : w.heap.size ≤ B) :
    Calls Tryz.prog 219 #[s.lv, .int .i64 i, .slice (some ⟨B, 0, none⟩) 1 1] w4 fun e w5 => ∃ g cap, e = .returned (.slice (some ⟨g, 0, none⟩) (s.xs.length + 1) cap) ∧
      w5.cell? ⟨s.q, 4, none⟩ = some s.lv ∧ w5.frozen? ⟨s.q, 4, none⟩ = false ∧ w5.heap[bx]? = some (.cells #[.int .i64 x.1, .int .i64 x.2] 189 (0, 0)) ∧
      Mid6 s x i bx w (w5.setCell ⟨s.q, 4, none⟩ (.slice (some ⟨g, 0, none⟩) (s.xs.length + 1) cap)) := by
  have h4 : RunsIs w4 s := h.kept hk (fun _ _ h => h.elim)
  have hlvB : s.lv.ownBlock ≠ some B := fun e => by have := (h.list.lt B e).2; omega
  refine (insert_any s.xs s.lv i x B w4 0 h4.list hi (by omega) hB hlvB (Nat.zero_le _)).mono ?_
  rintro e w5 ⟨v', rfl, ho, hg, hnew⟩
  have ho' : w5.ownsRow 0 189 2 v' (insR s.xs i x).length (runCells (insR s.xs i x)) := by rw [insR_length hi]; exact ho
  obtain ⟨r1, r2⟩ := h4.listTurned hg v' (insR s.xs i x) ho' (fun p y hy => by
    rcases insR_get hy with rfl | ⟨j, hj⟩
    · exact ⟨hx0, hx1, hx2, hx3⟩
    · exact h.fits j y hj) (by rw [insR_length hi]; omega)
  have hk5 : Kept (fun k => s.lv.ownBlock = some k) w4 w5 := (Kept.refl _ w4).grown hg (fun k e => .inl e)
  have hq5 : w5.heap[s.q]? = _ := hk5.at h4.obj (fun e => by obtain ⟨cur, hc⟩ := ownsRow_type h4.list e; exact type_ne hc h4.obj (by decide) rfl)
  have hbx5 := hk5.at (hk.at hbx (fun h => h.elim)) hbxl
  obtain ⟨g, cap, rfl⟩ : ∃ g cap, v' = .slice (some ⟨g, 0, none⟩) (s.xs.length + 1) cap := by
    rcases ho.2 with ⟨_, h0⟩ | ⟨g, cap, _, rfl, _⟩
    · omega
    · exact ⟨g, cap, rfl⟩
  have hbq : bx ≠ s.q := type_ne hbx h.obj (by decide)
  refine ⟨g, cap, rfl, cellOf hq5 4, freeOf hq5 4, hbx5, _, r1, block_set_other hbx5 _ _ hbq, (hk.mono (fun _ h => h.elim)).trans r2 (fun k hk => .inl hk), fun k hk' => (hnew k hk').imp (fun e => .inr (.inr (.inr e))) (fun e => Nat.le_trans hk.size e)⟩

def drawOf (ds : List Int) (drawn : Nat) : Int := ds[drawn]?.getD 0
def ndOf (x : R2) (d : Int) : Nd := ⟨keyOf x, d, x.1, x.2⟩

def PutRunPost (s : RSt) (x : R2) (i : Nat) (w : World) (e : Ending) (w' : World) : Prop :=
  e = .returned (.tuple #[]) ∧ ∃ B lv', w.heap.size ≤ B ∧
    RunsIs w' { s with lv := lv', drawn := s.drawn + 1, t := putT B (ndOf x (drawOf s.ds s.drawn)) s.t, xs := insR s.xs i x, total := s.total + x.2 } ∧
    Kept s.fp w w' ∧ (∀ k, lv'.ownBlock = some k → s.fp k ∨ w.heap.size ≤ k)

set_option maxRecDepth 100000 in
set_option maxHeartbeats 4000000 in
theorem put_run (s : RSt) (x : R2) (i : Nat) (w : World) (h : RunsIs w s) (hp : Parts s.xs x.1 i) (hx0 : 0 ≤ x.1) (hx1 : x.1 ≤ 10000) (hx2 : 0 ≤ x.2) (hx3 : x.2 ≤ 10000)
    (hs : s.t.seek (keyOf x) = .nil) (hfew : s.xs.length < 5000) (hdr : s.drawn < 1000000) (htot : s.total + x.2 ≤ 1000000) :
    Calls Tryz.prog 154 #[.pointer (some ⟨s.q, 0, none⟩), .agg #[.int .i64 x.1, .int .i64 x.2]] w (PutRunPost s x i w) := by
  obtain ⟨q, p, dv, lv, pages, ds, drawn, t, xs, total⟩ := s
  obtain ⟨xa, xn⟩ := x
  have hobj := h.obj
  have hdraws := h.draws
  dsimp only at *
  obtain ⟨da, dc, rfl⟩ : ∃ a c, dv = .slice a ds.length c := by
    rcases hdraws.2 with ⟨rfl, h0⟩ | ⟨g, cap, cur, rfl, _⟩
    · exact ⟨none, 0, by rw [h0]⟩
    · exact ⟨_, _, rfl⟩
  have hqlt := lt_of_block hobj
  have c1 : w.cell? ⟨q, 1, none⟩ = some (.slice da ds.length dc) := cellOf hobj 1
  have c2 : w.cell? ⟨q, 2, none⟩ = some (.int .i64 drawn) := cellOf hobj 2
  have f2 : w.frozen? ⟨q, 2, none⟩ = false := freeOf hobj 2
  have hbl := h.manyDraws
  dsimp only at hbl
  have HH := Lib.hid (And.intro h (And.intro hp (And.intro hs hdraws)))
  clear h hp hs hobj hdraws
  have b1 : (0 : Int) ≤ drawn := by omega
  go_enter Tryz.func154, Tryz.ntmps154
  go_wp2_with fail
  go_quiet (fail)
  go_upto_if 14 with fail
  go_cut [4] (fun s4 wx => s4 = .int .u32 (drawOf ds drawn) ∧ ∃ m, wx = (w.alloc (.cells #[.int .i64 xa, .int .i64 xn] 189)).drewN m)
  case first =>
    by_cases hd : drawn < ds.length
    · obtain ⟨d, hdd⟩ : ∃ d, ds[drawn]? = some d := ⟨_, List.getElem?_eq_getElem hd⟩
      have hdv : Hid (drawOf ds drawn = d) := by unfold Hid drawOf; rw [hdd]; rfl
      obtain ⟨g, rfl⟩ : ∃ g, da = some ⟨g, 0, none⟩ := by
        rcases HH.out.2.2.2.2 with ⟨h', h0⟩ | ⟨g, cap, cur, h', _⟩
        · omega
        · cases h'; exact ⟨g, rfl⟩
      have hgc : w.cell? ⟨g, drawn, none⟩ = some (.int .u32 d) := by
        have := HH.out.2.2.2.cells (g := g) rfl drawn (.int .u32 d) (by simp [hdd])
        rwa [addAt] at this
      have hglt := (HH.out.2.2.2.lt g rfl).2
      have b2 : (drawn : Int) < ds.length := by omega
      have b4 : decide (drawn < ds.length) = true := by simpa using hd
      clear hdd
      go_wp2_with fail
      go_quiet (fail)
      go_wp2_with fail
      go_meet
      exact ⟨by rw [hdv.out], _, World.drewN_drewN _ _ _⟩
    · have hdv : Hid (drawOf ds drawn = 0) := by unfold Hid drawOf; rw [List.getElem?_eq_none (by omega)]; rfl
      have b2 : ¬ (drawn : Int) < ds.length := by omega
      have b4 : decide (drawn < ds.length) = false := by simpa using hd
      go_wp2_with fail
      go_meet
      exact ⟨by rw [hdv.out], _, rfl⟩
  case rest =>
    obtain ⟨rfl, m, rfl⟩ := hcut
    go_wp2_with fail
    obtain ⟨h, hp, hs, _⟩ := HH.out
    have h1 : RunsIs ((w.alloc (.cells #[.int .i64 xa, .int .i64 xn] 189)).drewN m) ⟨q, p, .slice da ds.length dc, lv, pages, ds, drawn, t, xs, total⟩ :=
      h.kept (((Kept.refl No w).alloc _).drewN m) (fun _ _ h => h.elim)
    have hbx : ((w.alloc (.cells #[.int .i64 xa, .int .i64 xn] 189)).drewN m).heap[w.heap.size]? = some (.cells #[.int .i64 xa, .int .i64 xn] 189 (0, 0)) := heap_alloc_new w _
    have hbq : w.heap.size ≠ q := by omega
    have hsf := h1.setField 2 (.int .i64 ((drawn : Int) + 1))
    have hW : RunsIs (((w.alloc (.cells #[.int .i64 xa, .int .i64 xn] 189)).drewN m).setCell ⟨q, 2, none⟩ (.int .i64 ((drawn : Int) + 1))) ⟨q, p, .slice da ds.length dc, lv, pages, ds, drawn + 1, t, xs, total⟩ :=
      { obj := by rw [show ((drawn + 1 : Nat) : Int) = (drawn : Int) + 1 by omega]; exact hsf.1, draws := hsf.2.1, tree := hsf.2.2.1, list := hsf.2.2.2, fits := h.fits, few := h.few, manyDraws := h.manyDraws, drawnFits := by show drawn + 1 ≤ _; omega, totalFits := h.totalFits }
    have hbxW := block_set_other hbx ⟨q, 2, none⟩ (.int .i64 ((drawn : Int) + 1)) hbq
    have hKW : Kept (RSt.fp ⟨q, p, .slice da ds.length dc, lv, pages, ds, drawn, t, xs, total⟩) w (((w.alloc (.cells #[.int .i64 xa, .int .i64 xn] 189)).drewN m).setCell ⟨q, 2, none⟩ (.int .i64 ((drawn : Int) + 1))) :=
      (((Kept.refl _ w).alloc _).drewN m).setCell (p := ⟨q, 2, none⟩) (.inl (.inl rfl)) _
    have hzW : (((w.alloc (.cells #[.int .i64 xa, .int .i64 xn] 189)).drewN m).setCell ⟨q, 2, none⟩ (.int .i64 ((drawn : Int) + 1))).heap.size = w.heap.size + 1 := by simp
    generalize ((w.alloc (.cells #[.int .i64 xa, .int .i64 xn] 189)).drewN m).setCell ⟨q, 2, none⟩ (.int .i64 ((drawn : Int) + 1)) = W at *
    obtain ⟨tm, htp, hti, htn⟩ := hW.tree
    have hqp : q ≠ p := type_ne hW.obj htp (by decide)
    have hqt : ∀ k ∈ t.blocks, k ≠ q := fun k hk e => by obtain ⟨cs, hc⟩ := hti.type k hk; exact type_ne hc hW.obj (by decide) e
    have hbp : w.heap.size ≠ p := type_ne hbxW htp (by decide)
    have hbt : ∀ k ∈ t.blocks, k ≠ w.heap.size := fun k hk e => by obtain ⟨cs, hc⟩ := hti.type k hk; exact type_ne hc hbxW (by decide) e
    have q3 : W.cell? ⟨q, 3, none⟩ = some (.pointer (some ⟨p, 0, none⟩)) := cellOf hW.obj 3
    have x0 : W.cell? ⟨w.heap.size, 0, none⟩ = some (.int .i64 xa) := cellOf hbxW 0
    have x1 : W.cell? ⟨w.heap.size, 1, none⟩ = some (.int .i64 xn) := cellOf hbxW 1
    have F65 := Lib.hid (fun (W' : World) (hb : Below W.heap.size W W') => show Calls Tryz.prog 217 #[.pointer (some ⟨p, 0, none⟩), .int .i64 (keyOf (xa, xn)), .int .u32 (drawOf ds drawn), .agg #[.int .i64 xa, .int .i64 xn]] W' (PutPost p (ndOf (xa, xn) (drawOf ds drawn)) t W') from
      put_any p (ndOf (xa, xn) (drawOf ds drawn)) t W' (hW.tree.kept (Kept.of_below_size hb) (fun h => h.elim) (fun _ _ h => h.elim)) hs)
    have HW := Lib.hid hW
    have HbxW := Lib.hid hbxW
    have HKW := Lib.hid hKW
    have HzW := Lib.hid hzW
    have HT := Lib.hid (And.intro hqt hbt)
    have hqW : q < W.heap.size := by omega
    have hbW : w.heap.size < W.heap.size := by omega
    clear h hp hs h1 hbx hsf hW hbxW hKW hzW htp hti htn hqt hbt c1 c2 f2
    go_region_held3 (fun W' => W'.cell? ⟨q, 3, none⟩ = some (.pointer (some ⟨p, 0, none⟩)) ∧ W'.cell? ⟨w.heap.size, 0, none⟩ = some (.int .i64 xa) ∧ W'.cell? ⟨w.heap.size, 1, none⟩ = some (.int .i64 xn))
      (first
        | go_keep
        | exact ⟨s1, s2, s3⟩
        | exact ⟨(hb66.cell (p := ⟨q, 3, none⟩) hqW).trans q3, (hb66.cell (p := ⟨w.heap.size, 0, none⟩) hbW).trans x0, (hb66.cell (p := ⟨w.heap.size, 1, none⟩) hbW).trans x1⟩)
      (first
        | (go_at_call 218
           refine (key_any (xa, xn) W.drew hx0 hx1 hx2 hx3).mono ?_
           rintro e w1 ⟨rfl, hb66⟩)
        | (go_at_call 217
           refine (F65.out _ ⟨hb66.os, hb66.tape, hb66.output, hb66.size, hb66.block⟩).mono ?_
           rintro e w2 ⟨rfl, B, hBz, hT2, hk65⟩
           have s1 := (hk65.cell (i := 3) (Nat.lt_of_lt_of_le hqW hb66.size) (fun h => h.elim hqp (fun h => HT.out.1 _ h rfl))).trans ((hb66.cell (p := ⟨q, 3, none⟩) hqW).trans q3)
           have s2 := (hk65.cell (i := 0) (Nat.lt_of_lt_of_le hbW hb66.size) (fun h => h.elim hbp (fun h => HT.out.2 _ h rfl))).trans ((hb66.cell (p := ⟨w.heap.size, 0, none⟩) hbW).trans x0)
           have s3 := (hk65.cell (i := 1) (Nat.lt_of_lt_of_le hbW hb66.size) (fun h => h.elim hbp (fun h => HT.out.2 _ h rfl))).trans ((hb66.cell (p := ⟨w.heap.size, 1, none⟩) hbW).trans x1)))
    have hk2 : Kept (fun k => k = p ∨ k ∈ t.blocks) W w2 :=
      ((Kept.of_below_size ⟨hb66.os, hb66.tape, hb66.output, hb66.size, hb66.block⟩ : Kept No W w1).mono (fun _ h => h.elim)).trans hk65 (fun k h => .inl h)
    have hW2 := HW.out.treeTurned hk2 hT2
    have hbx2 := hk2.at HbxW.out (fun h => h.elim hbp (fun h => HT.out.2 _ h rfl))
    have hK2 := HKW.out.trans hk2 (fun k h => .inl (h.elim (fun h => .inr (.inl h)) (fun h => .inr (.inr (.inl h)))))
    dsimp only at hW2
    obtain ⟨t', ht'⟩ : ∃ t', putT B (ndOf (xa, xn) (drawOf ds drawn)) t = t' := ⟨_, rfl⟩
    rw [ht'] at hW2
    have hz2 : w.heap.size + 1 ≤ w2.heap.size := by have := hk2.size; have := HzW.out; omega
    have hlv : w2.cell? ⟨q, 4, none⟩ = some lv := cellOf hW2.obj 4
    have y0 : w2.cell? ⟨w.heap.size, 0, none⟩ = some (.int .i64 xa) := cellOf hbx2 0
    have y1 : w2.cell? ⟨w.heap.size, 1, none⟩ = some (.int .i64 xn) := cellOf hbx2 1
    have HW2 := Lib.hid hW2
    have Hbx2 := Lib.hid hbx2
    have HK2 := Lib.hid hK2
    have Ht' := Lib.hid ht'
    have hBz' : Hid (w.heap.size ≤ B) := by have h1 := hb66.size; have h2 := HzW.out; rw [World.size_drew] at h1; unfold Hid; omega
    clear hW2 hbx2 hK2 ht' hk2 hT2 hk65 hb66 s1 s2 s3 q3 x0 x1 hBz
    go_upto_region 6 with fail
    go_cut [3] (fun s3 wx => s3 = .pointer (some ⟨w.heap.size, 0, none⟩) ∧ Mid6 ⟨q, p, .slice da ds.length dc, lv, pages, ds, drawn + 1, t', xs, total⟩ (xa, xn) i w.heap.size w2 wx)
    case first =>
      refine wp_drawnTo 14 (fun W' => W'.cell? ⟨q, 4, none⟩ = some lv ∧ W'.cell? ⟨w.heap.size, 0, none⟩ = some (.int .i64 xa) ∧ W'.cell? ⟨w.heap.size, 1, none⟩ = some (.int .i64 xn)) (by kernel_rfl) ?_
      have hS : (fun W' : World => W'.cell? ⟨q, 4, none⟩ = some lv ∧ W'.cell? ⟨w.heap.size, 0, none⟩ = some (.int .i64 xa) ∧ W'.cell? ⟨w.heap.size, 1, none⟩ = some (.int .i64 xn)) w2.drew := ⟨hlv, y0, y1⟩
      refine DrawnTo.take (i := 0) (v := .pointer (some ⟨q, 0, none⟩)) rfl (by kernel_rfl) (by kernel_rfl) (by kernel_rfl) (by kernel_rfl) (fun _ _ _ h => h) hS (Or.inl ⟨by rfl, fun W' hS => ?_⟩) ?_
      · go_simp
      refine DrawnTo.take (i := 1) (v := .pointer (some ⟨q, 0, none⟩)) rfl (by kernel_rfl) (by kernel_rfl) (by kernel_rfl) (by kernel_rfl) (fun _ _ _ h => h) hS (Or.inl ⟨by rfl, fun W' hS => ?_⟩) ?_
      · go_simp
      refine DrawnTo.take (i := 2) (v := .pointer (some ⟨q, 0, none⟩)) rfl (by kernel_rfl) (by kernel_rfl) (by kernel_rfl) (by kernel_rfl) (fun _ _ _ h => h) hS (Or.inl ⟨by rfl, fun W' hS => ?_⟩) ?_
      · go_simp
      refine DrawnTo.take (i := 3) (v := .pointer (some ⟨q, 4, none⟩)) rfl (by kernel_rfl) (by kernel_rfl) (by kernel_rfl) (by kernel_rfl) (fun _ _ _ h => h) hS (Or.inl ⟨by rfl, fun W' hS => ?_⟩) ?_
      · go_simp
      refine DrawnTo.take (i := 4) (v := lv) rfl (by kernel_rfl) (by kernel_rfl) (by kernel_rfl) (by kernel_rfl) (fun _ _ _ h => h) hS (Or.inl ⟨by rfl, fun W' hS => ?_⟩) ?_
      · obtain ⟨s1, s2, s3⟩ := hS; go_simp
      refine DrawnTo.take (i := 5) (v := .pointer (some ⟨q, 0, none⟩)) rfl (by kernel_rfl) (by kernel_rfl) (by kernel_rfl) (by kernel_rfl) (fun _ _ _ h => h) hS (Or.inl ⟨by rfl, fun W' hS => ?_⟩) ?_
      · go_simp
      refine DrawnTo.take (i := 6) (v := .pointer (some ⟨w.heap.size, 0, none⟩)) rfl (by kernel_rfl) (by kernel_rfl) (by kernel_rfl) (by kernel_rfl) (fun _ _ _ h => h) hS (Or.inl ⟨by rfl, fun W' hS => ?_⟩) ?_
      · go_simp
      refine DrawnTo.take (i := 7) (v := .int .i64 xa) rfl (by kernel_rfl) (by kernel_rfl) (by kernel_rfl) (by kernel_rfl) (fun _ _ _ h => h) hS (Or.inl ⟨by rfl, fun W' hS => ?_⟩) ?_
      · obtain ⟨s1, s2, s3⟩ := hS; go_simp
      refine DrawnTo.take (i := 9) (v := .agg #[.int .i64 xa, .int .i64 xn]) rfl (by kernel_rfl) (by kernel_rfl) (by kernel_rfl) (by kernel_rfl) (fun _ _ _ h => h) hS (Or.inl ⟨by rfl, fun W' hS => ?_⟩) ?_
      · obtain ⟨s1, s2, s3⟩ := hS; go_simp
      have hbxl : lv.ownBlock ≠ some w.heap.size := fun e => by have := (HH.out.1.list.lt _ e).2; omega
      have hpi : i ≤ xs.length := HH.out.2.1.le
      refine DrawnTo.two (i := 8) (j := 10) (by kernel_rfl) rfl rfl (by rfl) (by rfl) (fun K hK => ?_) (fun K hK => ?_)
      · unfold Oper.wp
        go_simp
        refine (place_any ⟨q, p, .slice da ds.length dc, lv, pages, ds, drawn + 1, t', xs, total⟩ xa i w2.drew (HW2.out.kept (Kept.refl No w2).drew (fun _ _ h => h.elim)) HH.out.2.1).mono ?_
        rintro e w3 ⟨rfl, hb3⟩
        have hk3 : Kept No w2 w3 := Kept.of_below_size ⟨hb3.os, hb3.tape, hb3.output, hb3.size, hb3.block⟩
        refine hK.out _ _ (fun _ => ⟨(hk3.cell (lt_of_block HW2.out.obj) (fun h => h.elim)).trans hlv, (hk3.cell (by omega) (fun h => h.elim)).trans y0, (hk3.cell (by omega) (fun h => h.elim)).trans y1⟩) (fun hS => ?_)
        have hS := hS (by decide)
        refine DrawnTo.one (i := 10) (by kernel_rfl) rfl (by rfl) (fun K hK => ?_)
        unfold Oper.wp
        go_simp
        have hkn : Kept No w2 (w3.alloc (Obj.cells #[Value.int IntKind.i64 xa, Value.int IntKind.i64 xn] 189)) := hk3.alloc _
        have hBn : (w3.alloc (Obj.cells #[Value.int IntKind.i64 xa, Value.int IntKind.i64 xn] 189)).heap[w3.heap.size]? = some (.cells #[.int .i64 xa, .int .i64 xn] 189 (0, 0)) := heap_alloc_new w3 _
        have hBl : w2.heap.size ≤ w3.heap.size := hk3.size
        refine hK.out _ _ (fun _ => ⟨(hkn.cell (lt_of_block HW2.out.obj) (fun h => h.elim)).trans hlv, (hkn.cell (by omega) (fun h => h.elim)).trans y0, (hkn.cell (by omega) (fun h => h.elim)).trans y1⟩) (fun hS => ?_)
        have hS := hS (by decide)
        refine DrawnTo.one (i := 11) (by kernel_rfl) rfl (by rfl) (fun K hK => ?_)
        unfold Oper.wp
        go_simp
        refine (ins6 (s := ⟨q, p, .slice da ds.length dc, lv, pages, ds, drawn + 1, t', xs, total⟩) (x := (xa, xn)) (i := i) (bx := w.heap.size) HW2.out hkn hpi hfew hx0 hx1 hx2 hx3 Hbx2.out hbxl hBn hBl).mono ?_
        rintro e w5 ⟨g5, cap5, rfl, q4, fq4, b5, mid⟩
        have z0 : w5.cell? ⟨w.heap.size, 0, none⟩ = some (.int .i64 xa) := cellOf b5 0
        have z1 : w5.cell? ⟨w.heap.size, 1, none⟩ = some (.int .i64 xn) := cellOf b5 1
        have hmid := Lib.hid mid
        clear mid
        refine hK.out _ _ (fun _ => ⟨q4, z0, z1⟩) (fun hS => ?_)
        have hS := hS (by decide)
        refine DrawnTo.one (i := 12) (by kernel_rfl) rfl (by rfl) (fun K hK => ?_)
        unfold Oper.wp
        go_simp
        refine hK.out _ _ (fun _ => hS) (fun hS => ?_)
        have hS := hS (by decide)
        refine DrawnTo.one (i := 13) (by kernel_rfl) rfl (by rfl) (fun K hK => ?_)
        unfold Oper.wp
        go_simp
        refine hK.out _ _ (fun _ => hS) (fun hS => ?_)
        have hS := hS (by decide)
        refine DrawnTo.one (i := 14) (by kernel_rfl) rfl (by rfl) (fun K hK => ?_)
        unfold Oper.wp
        go_simp
        refine hK.out _ _ (fun h => absurd rfl h) (fun _ => ?_)
        refine DrawnTo.done (by kernel_rfl) ?_ _
        go_wp2_with fail
        go_meet
        exact ⟨rfl, hmid.out⟩
      · unfold Oper.wp
        go_simp
        have hkA : Kept No w2 (w2.alloc (Obj.cells #[Value.int IntKind.i64 xa, Value.int IntKind.i64 xn] 189)).drew := ((Kept.refl No w2).alloc _).drew
        have hBA : (w2.alloc (Obj.cells #[Value.int IntKind.i64 xa, Value.int IntKind.i64 xn] 189)).drew.heap[w2.heap.size]? = some (.cells #[.int .i64 xa, .int .i64 xn] 189 (0, 0)) := heap_alloc_new w2 _
        refine hK.out _ _ (fun _ => ⟨(hkA.cell (lt_of_block HW2.out.obj) (fun h => h.elim)).trans hlv, (hkA.cell (by omega) (fun h => h.elim)).trans y0, (hkA.cell (by omega) (fun h => h.elim)).trans y1⟩) (fun hS => ?_)
        have hS := hS (by decide)
        refine DrawnTo.one (i := 8) (by kernel_rfl) rfl (by rfl) (fun K hK => ?_)
        unfold Oper.wp
        go_simp
        refine (place_any ⟨q, p, .slice da ds.length dc, lv, pages, ds, drawn + 1, t', xs, total⟩ xa i _ (HW2.out.kept hkA (fun _ _ h => h.elim)) HH.out.2.1).mono ?_
        rintro e w3 ⟨rfl, hb3⟩
        have hk3 : Kept No (w2.alloc (Obj.cells #[Value.int IntKind.i64 xa, Value.int IntKind.i64 xn] 189)).drew w3 := Kept.of_below_size ⟨hb3.os, hb3.tape, hb3.output, hb3.size, hb3.block⟩
        have hkn : Kept No w2 w3 := hkA.trans hk3 (fun _ h => h.elim)
        have hBn := hk3.at hBA (fun h => h.elim)
        have hBl : w2.heap.size ≤ w2.heap.size := Nat.le_refl _
        refine hK.out _ _ (fun _ => ⟨(hkn.cell (lt_of_block HW2.out.obj) (fun h => h.elim)).trans hlv, (hkn.cell (by omega) (fun h => h.elim)).trans y0, (hkn.cell (by omega) (fun h => h.elim)).trans y1⟩) (fun hS => ?_)
        have hS := hS (by decide)
        refine DrawnTo.one (i := 11) (by kernel_rfl) rfl (by rfl) (fun K hK => ?_)
        unfold Oper.wp
        go_simp
        refine (ins6 (s := ⟨q, p, .slice da ds.length dc, lv, pages, ds, drawn + 1, t', xs, total⟩) (x := (xa, xn)) (i := i) (bx := w.heap.size) HW2.out hkn hpi hfew hx0 hx1 hx2 hx3 Hbx2.out hbxl hBn hBl).mono ?_
        rintro e w5 ⟨g5, cap5, rfl, q4, fq4, b5, mid⟩
        have z0 : w5.cell? ⟨w.heap.size, 0, none⟩ = some (.int .i64 xa) := cellOf b5 0
        have z1 : w5.cell? ⟨w.heap.size, 1, none⟩ = some (.int .i64 xn) := cellOf b5 1
        have hmid := Lib.hid mid
        clear mid
        refine hK.out _ _ (fun _ => ⟨q4, z0, z1⟩) (fun hS => ?_)
        have hS := hS (by decide)
        refine DrawnTo.one (i := 12) (by kernel_rfl) rfl (by rfl) (fun K hK => ?_)
        unfold Oper.wp
        go_simp
        refine hK.out _ _ (fun _ => hS) (fun hS => ?_)
        have hS := hS (by decide)
        refine DrawnTo.one (i := 13) (by kernel_rfl) rfl (by rfl) (fun K hK => ?_)
        unfold Oper.wp
        go_simp
        refine hK.out _ _ (fun _ => hS) (fun hS => ?_)
        have hS := hS (by decide)
        refine DrawnTo.one (i := 14) (by kernel_rfl) rfl (by rfl) (fun K hK => ?_)
        unfold Oper.wp
        go_simp
        refine hK.out _ _ (fun h => absurd rfl h) (fun _ => ?_)
        refine DrawnTo.done (by kernel_rfl) ?_ _
        go_wp2_with fail
        go_meet
        exact ⟨rfl, hmid.out⟩
    case rest =>
      obtain ⟨rfl, lv', h3, hb3, hk3, hl3⟩ := hcut
      have h5 := cellOf h3.obj 5
      have g5 := freeOf h3.obj 5
      have e1 := cellOf hb3 1
      have e0 := cellOf hb3 0
      dsimp only at h5 g5 e1 e0
      simp only [List.getElem?_toArray, List.getElem?_cons_succ, List.getElem?_cons_zero] at h5 e1 e0
      have hbq : w.heap.size ≠ q := by omega
      have hqb : q ≠ w.heap.size := by omega
      have ht := h3.totalFits
      dsimp only at ht
      have H3 := Lib.hid (And.intro h3 (And.intro hb3 (And.intro hk3 hl3)))
      clear h3 hb3 hk3 hl3 hlv y0 y1
      go_wp2_with fail
      go_region
      all_goals
        go_end0
        obtain ⟨h3, hb3, hk3, hl3⟩ := H3.out
        have hsf := h3.setField 5 (.int .i64 (total + xn))
        have hfp : ∀ k, RSt.fp ⟨q, p, .slice da ds.length dc, lv, pages, ds, drawn + 1, t', xs, total⟩ k → RSt.fp ⟨q, p, .slice da ds.length dc, lv, pages, ds, drawn, t, xs, total⟩ k ∨ w.heap.size ≤ k := fun k hk => by
          rcases hk with hk | hk | hk | hk
          · exact .inl (.inl hk)
          · exact .inl (.inr (.inl hk))
          · rw [← Ht'.out] at hk
            rcases putT_mem hk with hk | hk
            · exact .inl (.inr (.inr (.inl hk)))
            · exact .inr (by have := hBz'.out; omega)
          · exact .inl (.inr (.inr (.inr hk)))
        refine ⟨rfl, B, lv', hBz'.out, ?_, ?_, ?_⟩
        · have hR : RunsIs (wc.setCell ⟨q, 5, none⟩ (.int .i64 (total + xn))) ⟨q, p, .slice da ds.length dc, lv', pages, ds, drawn + 1, t', insR xs i (xa, xn), total + xn⟩ :=
            { obj := hsf.1, draws := hsf.2.1, tree := hsf.2.2.1, list := hsf.2.2.2, fits := h3.fits, few := h3.few, manyDraws := h3.manyDraws, drawnFits := h3.drawnFits, totalFits := ⟨by show 0 ≤ total + xn; omega, htot⟩ }
          rw [Ht'.out]
          exact hR.kept (Kept.refl No _).drew (fun _ _ h => h.elim)
        · exact ((HK2.out.trans hk3 hfp).setCell (p := ⟨q, 5, none⟩) (.inl (.inl rfl)) (.int .i64 (total + xn))).drew
        · intro k hk
          rcases hl3 k hk with h | h
          · exact hfp k h
          · exact .inr (by omega)

end Go.Proofs.YtffafkmmfaaobaaGreat
