/- runs.drop. -/
import Derived.Test.YtdeebagjmhpocaaZ2
import Derived.Test.YtdeebagjmhpocaaZ1
import Derived.Deep.DeepCutAuto
namespace Go.Proofs.Ytdeebagjmhpocaa
set_option linter.unusedSimpArgs false
set_option linter.unusedVariables false
open Go.RowKit

theorem delR_mem {xs : List R2} {i : Nat} {y : R2} {p : Nat} (h : (delR xs i)[p]? = some y) : ∃ j : Nat, xs[j]? = some y := by
  have hm : y ∈ delR xs i := List.mem_of_getElem? h
  simp only [delR, List.mem_append] at hm
  exact List.getElem?_of_mem (hm.elim List.mem_of_mem_take List.mem_of_mem_drop)
theorem delR_length {xs : List R2} {i : Nat} (h : i < xs.length) : (delR xs i).length = xs.length - 1 := by
  simp [delR]; omega

def DropRunPost (s : RSt) (x : R2) (i : Nat) (w : World) (e : Ending) (w' : World) : Prop :=
  e = .returned (.tuple #[]) ∧ ∃ lv', RunsIs w' { s with lv := lv', t := dropT (keyOf x) s.t, xs := delR s.xs i, total := s.total - x.2 } ∧
    Kept s.fp w w' ∧ (∀ k, lv'.ownBlock = some k → s.fp k)

set_option maxRecDepth 100000 in
set_option maxHeartbeats 4000000 in
theorem drop_run (s : RSt) (x : R2) (i : Nat) (w : World) (c : Nat) (y : Nd) (l r : T) (h : RunsIs w s) (hx : s.xs[i]? = some x) (hp : Parts s.xs (x.1 + x.2) i)
    (hs : s.t.seek (keyOf x) = .node c y l r) (htot : x.2 ≤ s.total) :
    Calls Try.prog 50 #[.pointer (some ⟨s.q, 0, none⟩), .agg #[.int .i64 x.1, .int .i64 x.2]] w (DropRunPost s x i w) := by
  obtain ⟨hx0, hx1, hx2, hx3⟩ := h.fits i x hx
  obtain ⟨q, p, dv, lv, pages, ds, drawn, t, xs, total⟩ := s
  obtain ⟨xa, xn⟩ := x
  have hobj := h.obj
  dsimp only at *
  have hil : i < xs.length := (List.getElem?_eq_some_iff.1 hx).1
  have hfew := h.few
  dsimp only at hfew
  obtain ⟨g, cap, rfl⟩ : ∃ g cap, lv = .slice (some ⟨g, 0, none⟩) xs.length cap := by
    rcases h.list.2 with ⟨_, h0⟩ | ⟨g, cap, _, h1, _⟩
    · dsimp only at h0; omega
    · exact ⟨g, cap, h1⟩
  have hqlt := lt_of_block hobj
  have HH := Lib.hid (And.intro h (And.intro hp (And.intro hs hx)))
  clear hp hs hx
  go_enter Try.func50, Try.ntmps50
  go_wp2_with fail
  have hW : RunsIs (w.alloc (.cells #[.int .i64 xa, .int .i64 xn] 77)) ⟨q, p, dv, .slice (some ⟨g, 0, none⟩) xs.length cap, pages, ds, drawn, t, xs, total⟩ :=
    h.kept ((Kept.refl No w).alloc _) (fun _ _ h => h.elim)
  have hbxW : (w.alloc (.cells #[.int .i64 xa, .int .i64 xn] 77)).heap[w.heap.size]? = some (.cells #[.int .i64 xa, .int .i64 xn] 77 (0, 0)) := heap_alloc_new w _
  have hKW : Kept (RSt.fp ⟨q, p, dv, .slice (some ⟨g, 0, none⟩) xs.length cap, pages, ds, drawn, t, xs, total⟩) w (w.alloc (.cells #[.int .i64 xa, .int .i64 xn] 77)) := (Kept.refl _ w).alloc _
  have hzW : (w.alloc (.cells #[.int .i64 xa, .int .i64 xn] 77)).heap.size = w.heap.size + 1 := by simp
  generalize w.alloc (.cells #[.int .i64 xa, .int .i64 xn] 77) = W at *
  obtain ⟨tm, htp, hti, htn⟩ := hW.tree
  dsimp only at htp hti htn
  have hqp : q ≠ p := type_ne hW.obj htp (by decide)
  have hqt : ∀ k ∈ t.blocks, k ≠ q := fun k hk e => by obtain ⟨cs, hc⟩ := hti.type k hk; exact type_ne hc hW.obj (by decide) e
  have hbp : w.heap.size ≠ p := type_ne hbxW htp (by decide)
  have hbt : ∀ k ∈ t.blocks, k ≠ w.heap.size := fun k hk e => by obtain ⟨cs, hc⟩ := hti.type k hk; exact type_ne hc hbxW (by decide) e
  have hbg : w.heap.size ≠ g := fun e => by have := (h.list.lt g rfl).2; omega
  have hgq : g ≠ q := fun e => by obtain ⟨cur, hc⟩ := ownsRow_type h.list (k := g) rfl; exact type_ne hc h.obj (by decide) e
  have q3 : W.cell? ⟨q, 3, none⟩ = some (.pointer (some ⟨p, 0, none⟩)) := cellOf hW.obj 3
  have x0 : W.cell? ⟨w.heap.size, 0, none⟩ = some (.int .i64 xa) := cellOf hbxW 0
  have x1 : W.cell? ⟨w.heap.size, 1, none⟩ = some (.int .i64 xn) := cellOf hbxW 1
  have F71 := Lib.hid (fun (W' : World) (hb : Below W.heap.size W W') => show Calls Try.prog 71 #[.pointer (some ⟨p, 0, none⟩), .int .i64 (keyOf (xa, xn))] W' (DropPost p (keyOf (xa, xn)) t y W') from
    drop_any p (keyOf (xa, xn)) t W' (hW.tree.kept (Kept.of_below_size hb) (fun h => h.elim) (fun _ _ h => h.elim)) c y l r HH.out.2.2.1)
  have HW := Lib.hid hW
  have HbxW := Lib.hid hbxW
  have HKW := Lib.hid hKW
  have HzW := Lib.hid hzW
  have HT := Lib.hid (And.intro hqt hbt)
  have hqW : q < W.heap.size := by omega
  have hbW : w.heap.size < W.heap.size := by omega
  clear h hobj hW hbxW hKW hzW htp hti htn hqt hbt
  generalize hbx : w.heap.size = bx at *
  have Hbx := Lib.hid hbx
  clear hbx
  go_region_held3 (fun W' => W'.cell? ⟨q, 3, none⟩ = some (.pointer (some ⟨p, 0, none⟩)) ∧ W'.cell? ⟨bx, 0, none⟩ = some (.int .i64 xa) ∧ W'.cell? ⟨bx, 1, none⟩ = some (.int .i64 xn))
    (first
      | go_keep
      | exact ⟨s1, s2, s3⟩
      | exact ⟨(hb66.cell (p := ⟨q, 3, none⟩) hqW).trans q3, (hb66.cell (p := ⟨bx, 0, none⟩) hbW).trans x0, (hb66.cell (p := ⟨bx, 1, none⟩) hbW).trans x1⟩)
    (first
      | (go_at_call 66
         refine (key_any (xa, xn) W.drew hx0 hx1 hx2 hx3).mono ?_
         rintro e w1 ⟨rfl, hb66⟩)
      | (go_at_call 71
         refine (F71.out _ ⟨hb66.os, hb66.tape, hb66.output, hb66.size, hb66.block⟩).mono ?_
         rintro e w2 ⟨rfl, hT2, hk65⟩
         have s1 := (hk65.cell (i := 3) (Nat.lt_of_lt_of_le hqW hb66.size) (fun h => h.elim hqp (fun h => HT.out.1 _ h rfl))).trans ((hb66.cell (p := ⟨q, 3, none⟩) hqW).trans q3)
         have s2 := (hk65.cell (i := 0) (Nat.lt_of_lt_of_le hbW hb66.size) (fun h => h.elim hbp (fun h => HT.out.2 _ h rfl))).trans ((hb66.cell (p := ⟨bx, 0, none⟩) hbW).trans x0)
         have s3 := (hk65.cell (i := 1) (Nat.lt_of_lt_of_le hbW hb66.size) (fun h => h.elim hbp (fun h => HT.out.2 _ h rfl))).trans ((hb66.cell (p := ⟨bx, 1, none⟩) hbW).trans x1)))
  have hk2 : Kept (fun k => k = p ∨ k ∈ t.blocks) W w2 :=
    ((Kept.of_below_size ⟨hb66.os, hb66.tape, hb66.output, hb66.size, hb66.block⟩ : Kept No W w1).mono (fun _ h => h.elim)).trans hk65 (fun k h => .inl h)
  have hW2 := HW.out.treeTurned hk2 hT2
  have hbx2 := hk2.at HbxW.out (fun h => h.elim hbp (fun h => HT.out.2 _ h rfl))
  have hK2 := HKW.out.trans hk2 (fun k h => .inl (h.elim (fun h => .inr (.inl h)) (fun h => .inr (.inr (.inl h)))))
  dsimp only at hW2
  obtain ⟨t', ht'⟩ : ∃ t', dropT (keyOf (xa, xn)) t = t' := ⟨_, rfl⟩
  rw [ht'] at hW2
  have hz2 : bx + 1 ≤ w2.heap.size := by have := hk2.size; omega
  have hlv : w2.cell? ⟨q, 4, none⟩ = some (.slice (some ⟨g, 0, none⟩) xs.length cap) := cellOf hW2.obj 4
  have y0 : w2.cell? ⟨bx, 0, none⟩ = some (.int .i64 xa) := cellOf hbx2 0
  have y1 : w2.cell? ⟨bx, 1, none⟩ = some (.int .i64 xn) := cellOf hbx2 1
  have HW2 := Lib.hid hW2
  have Hbx2 := Lib.hid hbx2
  have HK2 := Lib.hid hK2
  have Ht' := Lib.hid ht'
  have hq2 : q < w2.heap.size := by omega
  have hbl2 : bx < w2.heap.size := by omega
  clear hW2 hbx2 hK2 ht' hk2 hT2 hk65 hb66 s1 s2 s3 q3 x0 x1
  go_wp2_with fail
  refine (place_any ⟨q, p, dv, .slice (some ⟨g, 0, none⟩) xs.length cap, pages, ds, drawn, t', xs, total⟩ (xa + xn) i w2 HW2.out HH.out.2.1).mono ?_
  rintro e w3 ⟨rfl, hb3⟩
  have hk3 : Kept No w2 w3 := Kept.of_below_size hb3
  have hW3 := HW2.out.kept hk3 (fun _ _ h => h.elim)
  have hbx3 := hk3.at Hbx2.out (fun h => h.elim)
  have hK3 := HK2.out.trans hk3 (fun k h => h.elim)
  have hlv3 : w3.cell? ⟨q, 4, none⟩ = some (.slice (some ⟨g, 0, none⟩) xs.length cap) := cellOf hW3.obj 4
  have hz3 : bx + 1 ≤ w3.heap.size := by have := hk3.size; omega
  have HW3 := Lib.hid hW3
  have Hbx3 := Lib.hid hbx3
  have HK3 := Lib.hid hK3
  have hq3 : q < w3.heap.size := by omega
  clear hW3 hbx3 hK3 hlv y0 y1 hk3 hb3
  go_wp2_with fail
  refine (delete_any xs i w3 0 xs.length g cap rfl HW3.out.list hil (by omega)).mono ?_
  rintro e w4 ⟨rfl, ho4, hg4⟩
  have ho4' : w4.ownsRow 0 77 2 (.slice (some ⟨g, 0, none⟩) (xs.length - 1) cap) (delR xs i).length (runCells (delR xs i)) := by rw [delR_length hil]; exact ho4
  obtain ⟨r1, r2⟩ := HW3.out.listTurned hg4 (.slice (some ⟨g, 0, none⟩) (xs.length - 1) cap) (delR xs i) ho4' (fun p y hy => by
    obtain ⟨j, hj⟩ := delR_mem hy
    exact HW3.out.fits j y hj) (by rw [delR_length hil]; omega)
  have hk4 : Kept (fun k => some k = some g) w3 w4 := (Kept.refl _ w3).grown hg4 (fun k e => .inl e.symm)
  have hq4 : w4.heap[q]? = _ := hk4.at HW3.out.obj (fun e => hgq (by cases e; rfl))
  have hbx4 := hk4.at Hbx3.out (fun e => hbg (by cases e; rfl))
  have c4 : w4.cell? ⟨q, 4, none⟩ = some (.slice (some ⟨g, 0, none⟩) xs.length cap) := cellOf hq4 4
  have f4 : w4.frozen? ⟨q, 4, none⟩ = false := freeOf hq4 4
  have hbq : bx ≠ q := type_ne Hbx3.out HW3.out.obj (by decide)
  have hbx5 := block_set_other hbx4 ⟨q, 4, none⟩ (.slice (some ⟨g, 0, none⟩) (xs.length - 1) cap) hbq
  have hK5 := HK3.out.trans r2 (fun k hk => by
    rcases hk with hk | hk | hk | hk
    · exact .inl (.inl hk)
    · exact .inl (.inr (.inl hk))
    · have hk' : k ∈ t'.blocks := hk
      rw [← Ht'.out] at hk'
      exact .inl (.inr (.inr (.inl (drop_mem hk'))))
    · exact .inl (.inr (.inr (.inr hk))))
  have H5 := Lib.hid (And.intro r1 (And.intro hbx5 hK5))
  clear r1 r2 hk4 hq4 hbx4 hbx5 hK5 ho4 ho4' hg4 hlv3
  go_wp2_with fail
  obtain ⟨r1, hbx5, hK5⟩ := H5.out
  generalize w4.setCell ⟨q, 4, none⟩ (.slice (some ⟨g, 0, none⟩) (xs.length - 1) cap) = w5 at *
  have h5 : w5.cell? ⟨q, 5, none⟩ = some (.int .i64 total) := cellOf r1.obj 5
  have g5 : w5.frozen? ⟨q, 5, none⟩ = false := freeOf r1.obj 5
  have e1 : w5.cell? ⟨bx, 1, none⟩ = some (.int .i64 xn) := cellOf hbx5 1
  have hqb : q ≠ bx := Ne.symm hbq
  have ht := HH.out.1.totalFits
  dsimp only at ht
  have H6 := Lib.hid (And.intro r1 hK5)
  clear r1 hK5 hbx5 c4 f4
  go_region
  all_goals
    go_end0
    obtain ⟨r1, hK5⟩ := H6.out
    have hsf := r1.setField 5 (.int .i64 (total - xn))
    refine ⟨rfl, .slice (some ⟨g, 0, none⟩) (xs.length - 1) cap, ?_, ?_, ?_⟩
    · have hR : RunsIs (w5.setCell ⟨q, 5, none⟩ (.int .i64 (total - xn))) ⟨q, p, dv, .slice (some ⟨g, 0, none⟩) (xs.length - 1) cap, pages, ds, drawn, t', delR xs i, total - xn⟩ :=
        { obj := hsf.1, draws := hsf.2.1, tree := hsf.2.2.1, list := hsf.2.2.2, fits := r1.fits, few := r1.few, manyDraws := r1.manyDraws, drawnFits := r1.drawnFits, totalFits := ⟨by show 0 ≤ total - xn; omega, by show total - xn ≤ _; omega⟩ }
      rw [Ht'.out]
      exact hR.kept (Kept.refl No _).drew (fun _ _ h => h.elim)
    · exact (hK5.setCell (p := ⟨q, 5, none⟩) (.inl (.inl rfl)) (.int .i64 (total - xn))).drew
    · intro k hk
      exact .inr (.inr (.inr hk))

end Go.Proofs.Ytdeebagjmhpocaa
