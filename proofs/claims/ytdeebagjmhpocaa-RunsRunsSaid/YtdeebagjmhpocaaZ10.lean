/- near, slices.AppendSeq, slices.Collect. -/
import Derived.Test.YtdeebagjmhpocaaZ9
namespace Go.Proofs.Ytdeebagjmhpocaa
set_option linter.unusedSimpArgs false
set_option linter.unusedVariables false
open Go.RowKit Go.Shelf
attribute [local go_sem] Oper.semAt_some

set_option maxHeartbeats 1000000 in
theorem near_any (q : Nat) (a e : Int) (w : World) : Calls Try.prog 54 #[.pointer (some ⟨q, 0, none⟩), .int .i64 a, .int .i64 e] w fun ee w' =>
    ee = .returned (.func (.func 76) #[] #[.pointer (some ⟨w.heap.size, 0, none⟩), .pointer (some ⟨w.heap.size + 1, 0, none⟩), .pointer (some ⟨w.heap.size + 1 + 1, 0, none⟩)]) ∧
    w' = ((w.alloc (.cells #[.pointer (some ⟨q, 0, none⟩)] 50)).alloc (.cells #[.int .i64 a] 3)).alloc (.cells #[.int .i64 e] 3) := by
  go_enter Try.func54, Try.ntmps54
  go_wp2
  go_ret
  exact ⟨rfl, rfl⟩

def CollectPost (L : List R2) (w : World) (e : Ending) (w' : World) : Prop :=
  ∃ v n, e = .returned v ∧ n = L.length ∧ w'.ownsRow w.heap.size 77 2 v n (runCells L) ∧ Below w.heap.size w w'

theorem appendSeq_step {W : World} {n₀ b : Nat} {v : Value} {k : Nat} {xs : List R2} {x : R2} {v' : Value} {w1 : World} (hv : Boxed W b 49 v) (hrow : W.ownsRow n₀ 77 2 v k (runCells xs)) (hn₀ : n₀ ≤ W.heap.size) (hb : n₀ ≤ b) (tmp : Obj)
    (hown' : w1.ownsRow n₀ 77 2 v' (k + 1) (runCells xs ++ runCells [x])) (hgrow : (W.alloc tmp).grownBy w1 v.ownBlock) :
    Boxed w1 b 49 v ∧ Boxed (w1.setCell ⟨b, 0, none⟩ v') b 49 v' ∧ (w1.setCell ⟨b, 0, none⟩ v').ownsRow n₀ 77 2 v' (k + 1) (runCells (xs ++ [x])) ∧ KeepsOthers W (w1.setCell ⟨b, 0, none⟩ v') ∧ Below n₀ W (w1.setCell ⟨b, 0, none⟩ v') := by
  rw [runCells_append]
  exact hv.appended (by decide) hrow hn₀ hb hown' hgrow

set_option maxRecDepth 100000 in
set_option maxHeartbeats 4000000 in
theorem appendSeq_in (n : Nat) (hn : 3 ≤ n) (s : RSt) (i : Nat) (a e : Int) (b1 b2 b3 : Nat) (w : World) (hs : RunsIs w s) (hp : Parts s.xs a i)
    (h1 : w.cell? ⟨b1, 0, none⟩ = some (.pointer (some ⟨s.q, 0, none⟩))) (h2 : w.cell? ⟨b2, 0, none⟩ = some (.int .i64 a)) (h3 : w.cell? ⟨b3, 0, none⟩ = some (.int .i64 e))
    (l1 : b1 < w.heap.size) (l2 : b2 < w.heap.size) (l3 : b3 < w.heap.size) :
    CallsIn Fence.wide n Try.prog 75 #[.slice none 0 0, .func (.func 76) #[] #[.pointer (some ⟨b1, 0, none⟩), .pointer (some ⟨b2, 0, none⟩), .pointer (some ⟨b3, 0, none⟩)]] w (CollectPost (nearW s.xs i e) w) := by
  have h75 : Fence.wide.fn 75 := trivial
  have h76 : Fence.wide.fn 76 := trivial
  have hro : Fence.wide.round = none := rfl
  have h1n : 1 ≤ n := by omega
  have hfew : (nearW s.xs i e).length ≤ 5000 := by
    have h1 := (List.takeWhile_sublist (fun x : R2 => decide (x.1 ≤ e)) (l := s.xs.drop i)).length_le
    have h2 := hs.few
    unfold nearW
    rw [List.length_drop] at h1
    omega
  have hstops : ∀ W0 : World, Below w.heap.size w W0 → SeqStopsK Fence.wide (n - 1) Try.prog 76 #[.pointer (some ⟨b1, 0, none⟩), .pointer (some ⟨b2, 0, none⟩), .pointer (some ⟨b3, 0, none⟩)] encR (Below w.heap.size) (fun xs => xs = nearW s.xs i e) (fun _ => True) (nearW s.xs i e).length W0 :=
    fun W0 hW0 l J Jx W hW hJ hJx hY h0 => near1_in (n - 1) s i a e b1 b2 b3 w hs hp h1 h2 h3 l1 l2 l3 l J Jx W (hW0.trans (hW.mono hW0.size)) hJ hY h0
  have HS := Lib.hid hstops
  clear hstops hs hp h1 h2 h3
  generalize nearW s.xs i e = L at *
  refine callsIn_of_wp_marks Try.func75 rfl h75 ?_ hro
  simp only [Try.ntmps75, List.size_toArray, List.length_cons, List.length_nil, Nat.reduceAdd, Nat.reduceSub, Array.replicate_succ, Array.replicate_zero, List.push_toArray, List.append_toArray, List.nil_append, List.cons_append]
  gi_wp2_with fail
  have hb1 : Below w.heap.size w (w.alloc (Obj.cells #[Value.slice none 0 0] 49)) := (Below.refl _ w).alloc (Nat.le_refl _) _
  have hbox := Boxed.new w 49 (.slice none 0 0)
  have hsz : (w.alloc (Obj.cells #[Value.slice none 0 0] 49)).heap.size = w.heap.size + 1 := by simp
  obtain ⟨W0, hW0⟩ : ∃ W0, w.alloc (Obj.cells #[Value.slice none 0 0] 49) = W0 := ⟨_, rfl⟩
  rw [hW0] at hb1 hbox hsz ⊢
  clear hW0
  refine wpIn_rangeFunc_ownH hro h1n (gf := 76) (lb := #[.pointer (some ⟨b1, 0, none⟩), .pointer (some ⟨b2, 0, none⟩), .pointer (some ⟨b3, 0, none⟩)]) rfl h76 (enters_of Try.func76 (by kernel_rfl) rfl)
    (HS.out W0 hb1) belowK_t (belowK_b (by omega)) (Below.refl _ _) (fun _ => rfl)
    (fun pre W => (∃ v, Boxed W w.heap.size 49 v ∧ W.ownsRow w.heap.size 77 2 v pre.length (runCells pre) ∧ True) ∧ Below w.heap.size w W)
    (fun _ _ _ => False)
    (OwnFrom.and (Own.from (holdsRow_own w.heap.size w.heap.size 49 77 2 (fun pre : List R2 => pre.length) runCells (fun _ _ => True)) _) (ownFrom_below (Nat.le_refl _) (by omega)))
    (fun _ _ _ _ _ hs _ _ => hs)
    ⟨⟨_, hbox, World.ownsRow_nil _ _ _ _, trivial⟩, hb1⟩
    (fun x a' W => ∃ Bx, w.heap.size < Bx ∧ W.heap[Bx]? = some (.cells #[.int .i64 x.1, .int .i64 x.2] 77 (0, 0)) ∧ a' = { tmps := #[.slice none 0 0, .func (.func 76) #[] #[.pointer (some ⟨b1, 0, none⟩), .pointer (some ⟨b2, 0, none⟩), .pointer (some ⟨b3, 0, none⟩)], .pointer (some ⟨w.heap.size, 0, none⟩), undef, .slice none 0 0, .pointer (some ⟨Bx, 0, none⟩),
      .func (.func 76) #[] #[.pointer (some ⟨b1, 0, none⟩), .pointer (some ⟨b2, 0, none⟩), .pointer (some ⟨b3, 0, none⟩)], .agg #[.int .i64 x.1, .int .i64 x.2], undef, undef, undef, undef, undef], defers := [] })
    (fun x a' _ X Y row hs hg hr => by
      obtain ⟨Bx, h1, h2, h3⟩ := hs
      refine ⟨Bx, h1, (hg.block Bx (lt_of_block h2) (fun e' => ?_)).trans h2, h3⟩
      obtain ⟨_, o, ho, hc⟩ := hr Bx e'.symm
      rw [h2] at ho; cases ho; cases hc)
    ?assign ?body ?done ?stop
  case assign =>
    rintro l pre x W K ⟨⟨v, hv, hrow, _⟩, hB⟩ hK
    dsimp only [encR]
    have hfin : Hid (∀ a', a' = ({ tmps := #[.slice none 0 0, .func (.func 76) #[] #[.pointer (some ⟨b1, 0, none⟩), .pointer (some ⟨b2, 0, none⟩), .pointer (some ⟨b3, 0, none⟩)], .pointer (some ⟨w.heap.size, 0, none⟩), undef, .slice none 0 0, .pointer (some ⟨W.heap.size, 0, none⟩),
      .func (.func 76) #[] #[.pointer (some ⟨b1, 0, none⟩), .pointer (some ⟨b2, 0, none⟩), .pointer (some ⟨b3, 0, none⟩)], .agg #[.int .i64 x.1, .int .i64 x.2], undef, undef, undef, undef, undef], defers := [] } : Act) → K a' (W.alloc (.cells #[.int .i64 x.1, .int .i64 x.2] 77))) := fun a' ha' =>
      hK a' _ ((KeepsOthers.alloc _ _).from _) ((Below.refl _ W).alloc hB.size _) ⟨⟨v, hv.alloc _, hrow.alloc _, trivial⟩, hB.alloc hB.size _⟩ ⟨W.heap.size, hv.lt, heap_alloc_new W _, ha'⟩
    clear hK hv hrow hB
    gi_wp2
    exact hfin.out _ rfl
  case body =>
    rintro l pre x a' W hl _ ⟨⟨v, hv, hrow, _⟩, hB⟩ ⟨Bx, hBx, hX, rfl⟩ hlen
    obtain ⟨x1, x2⟩ := x
    dsimp only at hX ⊢
    obtain ⟨i0, hi, hz0, hz1, hz2⟩ := info_parts Try.info77
    have hc0 := hv.cell
    have hf0 := hv.frozen
    have x0 : W.cell? ⟨Bx, 0, none⟩ = some (.int .i64 x1) := cellOf hX 0
    have y0 : W.cell? ⟨Bx, 1, none⟩ = some (.int .i64 x2) := cellOf hX 1
    have hWs := hB.size
    have HH := Lib.hid (And.intro hv (And.intro hrow hB))
    have hpl : pre.length ≤ 5000 := by omega
    clear hv hrow hB hX
    gi_wp2_with (gi_at_builtin; go_loud (refine wpListIn_append_own _ rfl _ _ 49 rfl w.heap.size 77 i0 _ 2 16 Try.underlying49 hi hz0 hz1 hz2 rfl (by decide) v pre.length (runCells pre) rfl (HH.out.2.1.alloc _) ⟨W.heap.size, 0, none⟩ 1 1 [.int .i64 x1, .int .i64 x2] rfl rfl (World.news_of_block (cs := #[.int .i64 x1, .int .i64 x2]) (heap_alloc_new W _)) (by simp [Value.oneCell']) (by unfold maxLen; omega) (by omega) (by simp; omega) ?_; intro v' w1 hown' hgrow _; obtain ⟨g', cap', rfl⟩ := ownsRow_succ hown'; obtain ⟨hv1, hv2, hr2, hk2, hb2⟩ := appendSeq_step (x := (x1, x2)) HH.out.1 HH.out.2.1 hWs (Nat.le_refl _) _ hown' hgrow; have hc1 := hv1.cell; have hf1 := hv1.frozen; have H2 := Lib.hid (And.intro hv2 (And.intro hr2 (And.intro hk2 hb2))); clear hv1 hv2 hr2 hk2 hb2 hown' hgrow))
    obtain ⟨hv2, hr2, hk2, hb2⟩ := H2.out
    exact ⟨hk2.from _, hb2, ⟨_, hv2, by rw [List.length_append]; exact hr2, trivial⟩, HH.out.2.2.trans hb2⟩
  case done =>
    rintro D xs W hD rfl ⟨⟨v, hv, hrow, _⟩, hB⟩ hK
    obtain ⟨sa, sn, sc, rfl⟩ : ∃ a n c, v = .slice a n c := by
      rcases hrow.2 with ⟨rfl, _⟩ | ⟨g, cap, cur, rfl, _⟩ <;> exact ⟨_, _, _, rfl⟩
    have hc := hv.cell
    have HH := Lib.hid (And.intro hv (And.intro hrow (And.intro hB hK)))
    clear hv hrow hB
    gi_wp2
    obtain ⟨hv, hrow, hB, _⟩ := HH.out
    refine ⟨by simp, .inl ⟨_, _, rfl, run_takeDeferred hK, ?_⟩⟩
    have hrow3 := ownsRow_putObj hrow (.deferred none) hK rfl
    have hB3 : Below w.heap.size w (W.putObj D (.deferred none)) := hB.grown (grownBy_putObj' W D (.deferred none)) hB.size (fun k e => by cases e; omega)
    exact ⟨.slice sa sn sc, by simp [results, Try.results75, go_sem], _, _, rfl, rfl, hrow3, hB3⟩
  case stop =>
    rintro D c pre W _ _ h _
    exact h.elim

set_option maxHeartbeats 1000000 in
theorem collect_any (s : RSt) (i : Nat) (a e : Int) (b1 b2 b3 : Nat) (w : World) (hs : RunsIs w s) (hp : Parts s.xs a i)
    (h1 : w.cell? ⟨b1, 0, none⟩ = some (.pointer (some ⟨s.q, 0, none⟩))) (h2 : w.cell? ⟨b2, 0, none⟩ = some (.int .i64 a)) (h3 : w.cell? ⟨b3, 0, none⟩ = some (.int .i64 e))
    (l1 : b1 < w.heap.size) (l2 : b2 < w.heap.size) (l3 : b3 < w.heap.size) :
    Calls Try.prog 53 #[.func (.func 76) #[] #[.pointer (some ⟨b1, 0, none⟩), .pointer (some ⟨b2, 0, none⟩), .pointer (some ⟨b3, 0, none⟩)]] w (CollectPost (nearW s.xs i e) w) := by
  have F := Lib.hid (callsIn_wide.1 (appendSeq_in 3 (Nat.le_refl _) s i a e b1 b2 b3 w hs hp h1 h2 h3 l1 l2 l3))
  clear hs hp h1 h2 h3
  go_enter Try.func53, Try.ntmps53
  go_wp2_with fail
  refine F.out.mono ?_
  rintro ee w1 ⟨v, n, rfl, hn, ho, hb⟩
  have HF : Hid (CollectPost (nearW s.xs i e) w (.returned v) w1) := ⟨v, n, rfl, hn, ho, hb⟩
  clear hn ho hb
  go_wp2
  go_ret
  exact HF.out

end Go.Proofs.Ytdeebagjmhpocaa
