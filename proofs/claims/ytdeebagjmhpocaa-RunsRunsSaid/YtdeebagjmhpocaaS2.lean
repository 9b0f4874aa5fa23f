/- The tree's shape, told. -/
import Derived.Test.YtdeebagjmhpocaaR
import Derived.Deep.RegionHeld
namespace Go.Proofs.Ytdeebagjmhpocaa
set_option linter.unusedSimpArgs false
set_option linter.unusedVariables false
open Go.RowKit Go.Shelf
attribute [local go_sem] Oper.semAt_some

def nodeCells : List (Nat × Int × Int) → List Value
  | [] => []
  | x :: r => .int .i64 x.2.1 :: .int .i64 x.2.2 :: nodeCells r
theorem nodeCells_append : ∀ (a b : List (Nat × Int × Int)), nodeCells (a ++ b) = nodeCells a ++ nodeCells b
  | [], _ => rfl
  | x :: r, b => by simp [nodeCells, nodeCells_append r b]
theorem nodeCells_length : ∀ (a : List (Nat × Int × Int)), (nodeCells a).length = 2 * a.length
  | [] => rfl
  | x :: r => by simp [nodeCells, nodeCells_length r]; omega

theorem Try.info93 : (Try.prog.info? 93).map (fun i => (i.zero, i.size, i.bytes)) = some (some (.agg #[.int .i64 0, .int .i64 0]), 2, 16) := by kernel_rfl

def ShapePost (t : T) (w : World) (e : Ending) (w' : World) : Prop :=
  ∃ v n, e = .returned v ∧ w'.ownsRow w.heap.size 93 2 v n (nodeCells (preT 0 t)) ∧ n = t.high ∧ (v = .slice none 0 0 ↔ t.high = 0) ∧ Below w.heap.size w w'

set_option maxRecDepth 100000 in
set_option maxHeartbeats 4000000 in
theorem shape_in (n : Nat) (hn : 3 ≤ n) (p : Nat) (t : T) (w : World) (h : TreapAt w p t) (hN : t.high ≤ 1000000) :
    CallsIn Fence.wide n Try.prog 43 #[.pointer (some ⟨p, 0, none⟩)] w (ShapePost t w) := by
  have hd : Fence.wide.depth = none := rfl
  have h43 : Fence.wide.fn 43 := trivial
  have h63 : Fence.wide.fn 63 := trivial
  have h78 : Fence.wide.fn 78 := trivial
  have h79 : Fence.wide.fn 79 := trivial
  have hro : Fence.wide.round = none := rfl
  obtain ⟨m, hp, ht, hnd⟩ := h
  have hplt := lt_of_block hp
  have c0 : w.cell? ⟨p, 0, none⟩ = some t.ptr := cellOf hp 0
  have Ht := Lib.hid ht
  clear hp ht hnd
  obtain ⟨u, hu⟩ := T.ptr_pointer t
  rw [hu] at c0
  have Hu := Lib.hid hu
  clear hu
  have h1 : 1 ≤ n := by omega
  refine callsIn_of_wp_marks Try.func43 rfl h43 ?_ hro
  simp only [Try.ntmps43, List.size_toArray, List.length_cons, List.length_nil, Nat.reduceAdd, Nat.reduceSub, Array.replicate_succ, Array.replicate_zero, List.push_toArray, List.append_toArray, List.nil_append, List.cons_append]
  gi_wp2_with (gi_at_call 63; refine (down_in Fence.wide (n - 1) h63 hro _ _).mono ?_; rintro e w' ⟨rfl, rfl⟩)
  have hb1 : Below w.heap.size w ((w.alloc (Obj.cells #[Value.slice none 0 0] 54)).alloc (Obj.cells #[Value.pointer u] 108)) := ((Below.refl _ w).alloc (Nat.le_refl _) _).alloc (by simp) _
  have hbox := Boxed.alloc (Boxed.new w 54 (.slice none 0 0)) (Obj.cells #[Value.pointer u] 108)
  have hcT : ((w.alloc (Obj.cells #[Value.slice none 0 0] 54)).alloc (Obj.cells #[Value.pointer u] 108)).cell? ⟨w.heap.size + 1, 0, none⟩ = some t.ptr := by
    have := (Boxed.new (w.alloc (Obj.cells #[Value.slice none 0 0] 54)) 108 (.pointer u)).cell
    rw [World.size_alloc] at this
    rw [Hu.out]; exact this
  refine wpIn_rangeFunc_ownF hro h1 (gf := 78) (lb := #[.pointer (some ⟨w.heap.size + 1, 0, none⟩)]) rfl h78 (enters_of Try.func78 (by kernel_rfl) rfl)
    (down_stops Fence.wide hd (n - 1) h78 h79 hro (w.heap.size + 1) t w _ hb1 (by simp) hcT Ht.out hN) belowK_t (belowK_b (by simp; omega)) (Below.refl _ _) (fun _ => rfl)
    (fun pre W => (∃ v, Boxed W w.heap.size 54 v ∧ W.ownsRow w.heap.size 93 2 v pre.length (nodeCells (pre.map (·.1))) ∧ (v = .slice none 0 0 ↔ pre = [])) ∧ Below w.heap.size w W)
    (fun _ _ _ => False)
    (OwnFrom.and (Own.from (holdsRow_own w.heap.size w.heap.size 54 93 2 (fun pre : List (At w) => pre.length) (fun pre => nodeCells (pre.map (·.1))) (fun pre v => v = .slice none 0 0 ↔ pre = [])) _) (ownFrom_below (Nat.le_refl _) (by simp; omega)))
    (fun _ _ _ _ _ hs _ _ => hs)
    ⟨⟨_, hbox, World.ownsRow_nil _ _ _ _, by simp⟩, hb1⟩
    (fun x => { tmps := #[.pointer (some ⟨p, 0, none⟩), undef, .pointer (some ⟨w.heap.size, 0, none⟩), .pointer (some ⟨x.1.1, 0, none⟩), .int .i64 x.1.2.2, .pointer (some ⟨p, 0, none⟩), .bool false,
      .pointer (some ⟨p, 0, none⟩), .pointer (some ⟨p, 0, none⟩), .pointer (some ⟨p, 0, none⟩), .pointer u, .func (.func 78) #[] #[.pointer (some ⟨w.heap.size + 1, 0, none⟩)], .pointer (some ⟨x.1.1, 0, none⟩), .int .i64 x.1.2.2,
      undef, undef, undef, undef, undef, undef, undef, undef, undef, undef], defers := [] }) ?assign ?body ?done ?stop
  case assign =>
    intro l x W K hK
    dsimp only [encN]
    gi_wp2
    exact hK
  case body =>
    rintro l pre x W ⟨⟨v, hv, hrow, hnil⟩, hB⟩ hlen
    obtain ⟨⟨b, key, dep⟩, hx, hxlt⟩ := x
    dsimp only at hx hxlt ⊢
    have hmix : Try.prog.follows .mixedOrders = true := by kernel_rfl
    obtain ⟨i0, hi, hz0, hz1, hz2⟩ := info_parts Try.info93
    have hcb : W.cell? ⟨b, 0, none⟩ = some (.int .i64 key) := (hB.cell (p := ⟨b, 0, none⟩) hxlt).trans hx
    have hWs := hB.size
    have tmp : Obj := .cells #[.int .i64 key, .int .i64 dep] 93
    obtain ⟨v', w1, hrun, hown', hgrow, hnil'⟩ := run_append_own (P := Try.prog) (W.alloc (.cells #[.int .i64 key, .int .i64 dep] 93)).drew w.heap.size 54 54 93 i0 _ 2 16 Try.underlying54 hi hz0 hz1 hz2 rfl (by decide) v pre.length _ (hrow.alloc _)
      ⟨W.heap.size, 0, none⟩ 1 1 [.int .i64 key, .int .i64 dep] rfl (World.news_of_block (cs := #[.int .i64 key, .int .i64 dep]) (t := 93) (fr := (0, 0)) (heap_alloc_new W _)) (by simp [Value.oneCell']) (by unfold maxLen; omega) (by omega) (by simp; omega)
    obtain ⟨g', cap', rfl⟩ := ownsRow_succ hown'
    obtain ⟨hv1, hv2, hr2, hk2, hb2⟩ := hv.appended (by decide) hrow hB.size (Nat.le_refl _) hown' (tmp := .cells #[.int .i64 key, .int .i64 dep] 93) ⟨hgrow.os, hgrow.tape, hgrow.output, hgrow.size, hgrow.block⟩
    have hc1 := hv1.cell
    have hf1 := hv1.frozen
    have hc0 := hv.cell
    have hf0 := hv.frozen
    have hcb1 : w1.cell? ⟨b, 0, none⟩ = some (.int .i64 key) := by
      rw [hgrow.cell_far ⟨b, 0, none⟩ (by simp; omega) (fun e => by have := hrow.lt _ e.symm; simp at this; omega)]
      exact (World.cell?_alloc_some W _ _ (by rw [hcb]; rfl)).trans hcb
    have HH := Lib.hid (And.intro hv2 (And.intro hr2 (And.intro hk2 (And.intro hb2 hB))))
    clear hv hrow hv1 hv2 hr2 hk2 hb2 hown' hgrow hnil hnil' hB hi hz0 hz1 hz2
    gi_wp2_with fail
    have hS : (fun W' : World => W'.cell? ⟨b, 0, none⟩ = some (.int .i64 key)) W.drew := hcb
    refine wpIn_round_held (fun W' => W'.cell? ⟨b, 0, none⟩ = some (.int .i64 key)) hmix (by kernel_rfl) (by rintro ⟨a, w, h⟩; exact h) ?_
    refine wpAnyH_take (i := 1) (v := .pointer (some ⟨b, 0, none⟩)) rfl (by kernel_rfl) (by kernel_rfl) (by kernel_rfl) (fun _ _ _ h => h) (Or.inl ⟨by rfl, fun W' hS => ?_⟩) hS ?_
    · go_simp
    refine wpAnyH_take (i := 2) (v := .pointer (some ⟨b, 0, none⟩)) rfl (by kernel_rfl) (by kernel_rfl) (by kernel_rfl) (fun _ _ _ h => h) (Or.inl ⟨by rfl, fun W' hS => ?_⟩) hS ?_
    · go_simp
    refine wpAnyH_take (i := 3) (v := .pointer (some ⟨b, 0, none⟩)) rfl (by kernel_rfl) (by kernel_rfl) (by kernel_rfl) (fun _ _ _ h => h) (Or.inl ⟨by rfl, fun W' hS => ?_⟩) hS ?_
    · go_simp
    refine wpAnyH_take (i := 4) (v := .int .i64 key) rfl (by kernel_rfl) (by kernel_rfl) (by kernel_rfl) (fun _ _ _ h => h) (Or.inl ⟨by rfl, fun W' hS => ?_⟩) hS ?_
    · go_simp
    refine wpAnyH_take (i := 5) (v := .int .i64 dep) rfl (by kernel_rfl) (by kernel_rfl) (by kernel_rfl) (fun _ _ _ h => h) (Or.inl ⟨by rfl, fun W' hS => ?_⟩) hS ?_
    · go_simp
    refine wpAnyH_take (i := 6) (v := .agg #[.int .i64 key, .int .i64 dep]) rfl (by kernel_rfl) (by kernel_rfl) (by kernel_rfl) (fun _ _ _ h => h) (Or.inl ⟨by rfl, fun W' hS => ?_⟩) hS ?_
    · go_simp
    refine wpAnyH_ready (rs := [0, 7]) (by kernel_rfl) (by simp) (AllReadyH.cons rfl (fun K hK => ?_) (AllReadyH.cons rfl (fun K hK => ?_) AllReadyH.nil))
    · rw [if_pos (by rfl)]
      unfold Oper.wp
      go_simp
      refine hK.out _ _ hcb (fun hS => ?_)
      refine wpAnyH_ready (rs := [7]) (by kernel_rfl) (by simp) (AllReadyH.cons rfl (fun K hK => ?_) AllReadyH.nil)
      rw [if_pos (by rfl)]
      unfold Oper.wp
      go_simp
      refine hK.out _ _ ((World.cell?_alloc_some W _ _ (by rw [hcb]; rfl)).trans hcb) (fun hS => ?_)
      refine wpAnyH_ready (rs := [8]) (by kernel_rfl) (by simp) (AllReadyH.cons rfl (fun K hK => ?_) AllReadyH.nil)
      rw [if_pos (by rfl)]
      refine wp_append_run (.tmp 14) (.tmp 21) 54 rfl rfl rfl hrun ?_
      refine hK.out _ _ hcb1 (fun hS => ?_)
      refine wpAnyH_ready (rs := [9]) (by kernel_rfl) (by simp) (AllReadyH.cons rfl (fun K hK => ?_) AllReadyH.nil)
      rw [if_pos (by rfl)]
      unfold Oper.wp
      go_simp
      refine hK.out _ _ ((World.cell?_setCell_other _ _ _ _ (by first | (simp; omega) | simp)).trans hcb1) (fun hS => ?_)
      refine wpAnyH_done (by kernel_rfl) ?_ _
      obtain ⟨hv2, hr2, hk2, hb2, hB⟩ := HH.out
      exact ⟨⟨hk2.size, hk2.same⟩, ⟨hb2.os, hb2.tape, hb2.output, hb2.size, hb2.block⟩, ⟨_, hv2, by simpa [nodeCells_append, nodeCells] using hr2, by simp⟩, hB.trans ⟨hb2.os, hb2.tape, hb2.output, hb2.size, hb2.block⟩⟩
    · rw [if_pos (by rfl)]
      unfold Oper.wp
      go_simp
      refine hK.out _ _ ((World.cell?_alloc_some W _ _ (by rw [hcb]; rfl)).trans hcb) (fun hS => ?_)
      have hc0A := (World.cell?_alloc_some W ⟨w.heap.size, 0, none⟩ (Obj.cells #[Value.int IntKind.i64 key, Value.int IntKind.i64 dep] 93) (by rw [hc0]; rfl)).trans hc0
      refine wpAnyH_ready (rs := [0]) (by kernel_rfl) (by simp) (AllReadyH.cons rfl (fun K hK => ?_) AllReadyH.nil)
      rw [if_pos (by rfl)]
      unfold Oper.wp
      go_simp
      refine hK.out _ _ ((World.cell?_alloc_some W _ _ (by rw [hcb]; rfl)).trans hcb) (fun hS => ?_)
      refine wpAnyH_ready (rs := [8]) (by kernel_rfl) (by simp) (AllReadyH.cons rfl (fun K hK => ?_) AllReadyH.nil)
      rw [if_pos (by rfl)]
      refine wp_append_run (.tmp 14) (.tmp 21) 54 rfl rfl rfl hrun ?_
      refine hK.out _ _ hcb1 (fun hS => ?_)
      refine wpAnyH_ready (rs := [9]) (by kernel_rfl) (by simp) (AllReadyH.cons rfl (fun K hK => ?_) AllReadyH.nil)
      rw [if_pos (by rfl)]
      unfold Oper.wp
      go_simp
      refine hK.out _ _ ((World.cell?_setCell_other _ _ _ _ (by first | (simp; omega) | simp)).trans hcb1) (fun hS => ?_)
      refine wpAnyH_done (by kernel_rfl) ?_ _
      obtain ⟨hv2, hr2, hk2, hb2, hB⟩ := HH.out
      exact ⟨⟨hk2.size, hk2.same⟩, ⟨hb2.os, hb2.tape, hb2.output, hb2.size, hb2.block⟩, ⟨_, hv2, by simpa [nodeCells_append, nodeCells] using hr2, by simp⟩, hB.trans ⟨hb2.os, hb2.tape, hb2.output, hb2.size, hb2.block⟩⟩
  case done =>
    rintro D xs W hD hxs ⟨⟨v, hv, hrow, hnil⟩, hB⟩ hK
    obtain ⟨sa, sn, sc, rfl⟩ : ∃ a n c, v = .slice a n c := by
      rcases hrow.2 with ⟨rfl, _⟩ | ⟨g, cap, cur, rfl, _⟩ <;> exact ⟨_, _, _, rfl⟩
    have hc := hv.cell
    have hf := hv.frozen
    have HH := Lib.hid (And.intro hv (And.intro hrow (And.intro hnil (And.intro hB (And.intro hxs (And.intro hD hK))))))
    clear hv hrow hnil hB hxs hD
    gi_wp2
    obtain ⟨hv, hrow, hnil, hB, hxs, hD, _⟩ := HH.out
    have hne : D ≠ w.heap.size := by simp at hD; omega
    have hK2 : (W.setCell ⟨w.heap.size, 0, none⟩ (.slice sa sn sc)).heap[D]? = some (.deferred (some [])) := (Below.heap_setCell W ⟨w.heap.size, 0, none⟩ _ D hne).trans hK
    have hv2 := hv.set (.slice sa sn sc)
    have hrow2 := hrow.kept (grownBy_setCell' W w.heap.size (.slice sa sn sc)) (.inr (hv.not_row (by decide) hrow).symm)
    have hB2 : Below w.heap.size w (W.setCell ⟨w.heap.size, 0, none⟩ (.slice sa sn sc)) := hB.setCell (p := ⟨w.heap.size, 0, none⟩) (Nat.le_refl _) _
    generalize W.setCell ⟨w.heap.size, 0, none⟩ (.slice sa sn sc) = W2 at *
    refine ⟨by simp, .inl ⟨_, _, rfl, run_takeDeferred hK2, ?_⟩⟩
    have hv3 := hv2.kept (grownBy_putObj' W2 D (.deferred none)) (fun e => hne (by cases e; rfl))
    have hrow3 := ownsRow_putObj hrow2 (.deferred none) hK2 rfl
    have hB3 : Below w.heap.size w (W2.putObj D (.deferred none)) := hB2.grown (grownBy_putObj' W2 D (.deferred none)) hB2.size (fun k e => by cases e; simp at hD; omega)
    have hlen : xs.length = t.high := by rw [← preT_length t 0, ← hxs, List.length_map]
    generalize W2.putObj D (.deferred none) = W3 at *
    have c0 := hv3.cell
    refine ⟨.slice sa sn sc, by simp [results, Try.results43, go_sem, c0], _, _, rfl, hxs ▸ hrow3, hlen, ?_, hB3⟩
    rw [hnil, ← hlen]
    exact List.length_eq_zero_iff.symm
  case stop =>
    rintro D c pre W _ _ h _
    exact h.elim

theorem treapShape_any (p : Nat) (t : T) (w : World) (h : TreapAt w p t) (hN : t.high ≤ 1000000) : Calls Try.prog 43 #[.pointer (some ⟨p, 0, none⟩)] w (ShapePost t w) :=
  callsIn_wide.1 (shape_in 3 (Nat.le_refl _) p t w h hN)

end Go.Proofs.Ytdeebagjmhpocaa
