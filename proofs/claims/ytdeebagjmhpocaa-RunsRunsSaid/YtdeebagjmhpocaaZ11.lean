/- The runs: Put. -/
import Derived.Test.YtdeebagjmhpocaaZ10
import Derived.Test.YtdeebagjmhpocaaZ8
namespace Go.Proofs.Ytdeebagjmhpocaa
set_option linter.unusedSimpArgs false
set_option linter.unusedVariables false
open Go.RowKit

def OkArgs (pages a n : Int) : Prop := 0 ≤ a ∧ 1 ≤ n ∧ a + n ≤ pages

def PutPost' (s : RSt) (a n : Int) (w : World) (e : Ending) (w' : World) : Prop :=
  (¬ OkArgs s.pages a n → e = .returned (.int .i64 1) ∧ Below w.heap.size w w') ∧
  (OkArgs s.pages a n → Over s.xs a n → e = .returned (.int .i64 4) ∧ Below w.heap.size w w') ∧
  (OkArgs s.pages a n → ¬ Over s.xs a n → e = .returned (.int .i64 0) ∧ ∃ s', RunStep s s' w w' ∧ PutBy s s' a n)

/-- Behind so many drops. -/
structure MidPut (s sj : RSt) (L : List R2) (w wr : World) : Prop where
  step : RunStep s sj w wr
  inv : PInv sj
  mem : ∀ y, y ∈ sj.xs ↔ y ∈ s.xs ∧ y ∉ L
  nodes : inord sj.t = delAllN L (inord s.t)
  q : sj.q = s.q
  pages : sj.pages = s.pages
  ds : sj.ds = s.ds
  drawn : sj.drawn = s.drawn
  sub : ∀ b, sj.fp b → s.fp b
  len : sj.xs.length ≤ s.xs.length
  tot : sj.total ≤ s.total

theorem put_bad (s : RSt) (a n : Int) (w : World) (h : RunsIs w s) (hsm : s.pages ≤ 4096) (hsm1 : 1 ≤ s.pages) (hbad : ¬ OkArgs s.pages a n) :
    Calls Try.prog 27 #[.pointer (some ⟨s.q, 0, none⟩), .int .i64 a, .int .i64 n] w (PutPost' s a n w) := by
  have c0 : w.cell? ⟨s.q, 0, none⟩ = some (.int .i64 s.pages) := cellOf h.obj 0
  have HP : Hid (PutPost' s a n w (.returned (.int .i64 1)) w) := ⟨fun _ => ⟨rfl, Below.refl _ _⟩, fun h => absurd h hbad, fun h => absurd h hbad⟩
  unfold OkArgs at hbad
  clear h
  generalize s.q = q at *
  generalize s.pages = pages at *
  by_cases h1 : a < 0
  · go_enter Try.func27, Try.ntmps27
    go_wp2
    go_ret
    exact HP.out
  · by_cases h2 : n < 1
    · go_enter Try.func27, Try.ntmps27
      go_wp2
      go_ret
      exact HP.out
    · by_cases h3 : pages < a
      · go_enter Try.func27, Try.ntmps27
        go_wp2
        go_ret
        exact HP.out
      · have h4 : pages - a < n := by omega
        clear hbad
        go_enter Try.func27, Try.ntmps27
        go_wp2
        go_ret
        exact HP.out

theorem over_near {xs : List R2} {a n : Int} (hn : 1 ≤ n) : Over xs a n ↔ Over (nearL xs a (a + n)) a n := by
  constructor
  · rintro ⟨x, hx, h1, h2⟩
    exact ⟨x, nearL_mem.2 ⟨hx, by omega, by omega⟩, h1, h2⟩
  · rintro ⟨x, hx, h⟩
    exact ⟨x, (nearL_mem.1 hx).1, h⟩
theorem mergeL_fit : ∀ (l : List R2) (w : R2) (M : Int), 0 ≤ w.1 → 0 ≤ w.2 → w.2 + 4096 * l.length ≤ M → (∀ x ∈ l, 0 ≤ x.1 ∧ 1 ≤ x.2 ∧ x.2 ≤ 4096) → 0 ≤ (mergeL w l).1 ∧ (mergeL w l).1 ≤ w.1 ∧ w.2 ≤ (mergeL w l).2 ∧ (mergeL w l).2 ≤ M
  | [], w, M, h0, h1, h2, _ => ⟨h0, Int.le_refl _, Int.le_refl _, by simp at h2; exact h2⟩
  | x :: l, w, M, h0, h1, h2, h => by
    obtain ⟨x0, x1, x2⟩ := h x (by simp)
    have := mergeL_fit l (min w.1 x.1, w.2 + x.2) M (by dsimp only; omega) (by dsimp only; omega) (by simp only [List.length_cons] at h2; dsimp only; omega) (fun y hy => h y (by simp [hy]))
    dsimp only at this
    rw [mergeL]
    omega

set_option maxRecDepth 100000 in
set_option maxHeartbeats 4000000 in
theorem put_ok (s : RSt) (a n : Int) (w : World) (h : RunsIs w s) (hi : PInv s) (hok : OkArgs s.pages a n) (hdr : s.drawn < 900000) (hlen : s.xs.length ≤ 4500) (htot : s.total ≤ 900000) :
    Calls Try.prog 27 #[.pointer (some ⟨s.q, 0, none⟩), .int .i64 a, .int .i64 n] w (PutPost' s a n w) := by
  have c0 : w.cell? ⟨s.q, 0, none⟩ = some (.int .i64 s.pages) := cellOf h.obj 0
  have hsm := hi.small
  obtain ⟨i, hp⟩ := parts_exists a s.xs hi.gaps
  have hL : nearW s.xs i (a + n) = nearL s.xs a (a + n) := nearW_eq hi.gaps hp
  have HPT : Hid (Over s.xs a n → ∀ W, Below w.heap.size w W → PutPost' s a n w (.returned (.int .i64 4)) W) := fun ho W hW => ⟨fun h => absurd hok h, fun _ _ => ⟨rfl, hW⟩, fun _ h => absurd ho h⟩
  have HPO : Hid (∀ W s', ¬ Over s.xs a n → RunStep s s' w W → PutBy s s' a n → PutPost' s a n w (.returned (.int .i64 0)) W) := fun W s' ho h1 h2 => ⟨fun h => absurd hok h, fun _ h => absurd h ho, fun _ _ => ⟨rfl, s', h1, h2⟩⟩
  have hqlt := lt_of_block h.obj
  obtain ⟨a0, n1, hap⟩ := hok
  have HI := Lib.hid (And.intro h (And.intro hi (And.intro hp hL)))
  clear h hi hp hL
  obtain ⟨q, hq⟩ : ∃ q, s.q = q := ⟨_, rfl⟩
  rw [hq] at c0 hqlt ⊢
  have Hq := Lib.hid hq
  clear hq
  obtain ⟨pages, hpg⟩ : ∃ p, s.pages = p := ⟨_, rfl⟩
  rw [hpg] at c0 hap hsm
  have Hpg := Lib.hid hpg
  clear hpg
  obtain ⟨hsm1, hsm2⟩ := hsm
  go_enter Try.func27, Try.ntmps27
  go_wp2_with fail
  refine (near_any q a (a + n) _).mono ?_
  rintro e w1 ⟨rfl, rfl⟩
  have hWh : (w.alloc (Obj.cells #[Value.int IntKind.i64 a, Value.int IntKind.i64 n] 77)).heap[w.heap.size]? = some (.cells #[.int .i64 a, .int .i64 n] 77 (0, 0)) := heap_alloc_new w _
  have hk0 : Kept No w (w.alloc (Obj.cells #[Value.int IntKind.i64 a, Value.int IntKind.i64 n] 77)) := (Kept.refl No w).alloc _
  have hz0 : (w.alloc (Obj.cells #[Value.int IntKind.i64 a, Value.int IntKind.i64 n] 77)).heap.size = w.heap.size + 1 := by simp
  generalize w.alloc (Obj.cells #[Value.int IntKind.i64 a, Value.int IntKind.i64 n] 77) = Wa at *
  have hB1 := heap_alloc_new Wa (Obj.cells #[Value.pointer (some ⟨q, 0, none⟩)] 50)
  have hB2 := heap_alloc_new (Wa.alloc (Obj.cells #[Value.pointer (some ⟨q, 0, none⟩)] 50)) (Obj.cells #[Value.int IntKind.i64 a] 3)
  have hB3 := heap_alloc_new ((Wa.alloc (Obj.cells #[Value.pointer (some ⟨q, 0, none⟩)] 50)).alloc (Obj.cells #[Value.int IntKind.i64 a] 3)) (Obj.cells #[Value.int IntKind.i64 (a + n)] 3)
  simp only [World.size_alloc] at hB2 hB3
  have hB1' := block_alloc (block_alloc hB1 (Obj.cells #[Value.int IntKind.i64 a] 3)) (Obj.cells #[Value.int IntKind.i64 (a + n)] 3)
  have hB2' := block_alloc hB2 (Obj.cells #[Value.int IntKind.i64 (a + n)] 3)
  have hk1 : Kept No w (((Wa.alloc (Obj.cells #[Value.pointer (some ⟨q, 0, none⟩)] 50)).alloc (Obj.cells #[Value.int IntKind.i64 a] 3)).alloc (Obj.cells #[Value.int IntKind.i64 (a + n)] 3)) := ((hk0.alloc _).alloc _).alloc _
  have hWh1 := block_alloc (block_alloc (block_alloc hWh (Obj.cells #[Value.pointer (some ⟨q, 0, none⟩)] 50)) (Obj.cells #[Value.int IntKind.i64 a] 3)) (Obj.cells #[Value.int IntKind.i64 (a + n)] 3)
  clear hB1 hB2 hWh hk0
  generalize ((Wa.alloc (Obj.cells #[Value.pointer (some ⟨q, 0, none⟩)] 50)).alloc (Obj.cells #[Value.int IntKind.i64 a] 3)).alloc (Obj.cells #[Value.int IntKind.i64 (a + n)] 3) = W at *
  have hsW := HI.out.1.kept hk1 (fun _ _ h => h)
  have F53 := collect_any s i a (a + n) Wa.heap.size (Wa.heap.size + 1) (Wa.heap.size + 1 + 1) W hsW HI.out.2.2.1 (by rw [Hq.out]; exact cellOf hB1' 0) (cellOf hB2' 0) (cellOf hB3 0) (lt_of_block hB1') (lt_of_block hB2') (lt_of_block hB3)
  rw [HI.out.2.2.2, hz0] at F53
  have F53 := Lib.hid F53
  have HW := Lib.hid (And.intro hk1 (And.intro hWh1 hsW))
  have hzW := lt_of_block hWh1
  clear hB1' hB2' hB3 hk1 hWh1 hsW
  go_wp2_with fail
  refine F53.out.mono ?_
  rintro e w1 ⟨v, M, rfl, hM, hrow, hbl⟩
  obtain ⟨va, vn, vc, rfl⟩ : ∃ a n c, v = .slice a n c := by
    rcases hrow.2 with ⟨rfl, _⟩ | ⟨g, cap, cur, rfl, _⟩ <;> exact ⟨_, _, _, rfl⟩
  obtain ⟨hk1, hWh1, hsW⟩ := HW.out
  have hzz := hbl.size
  have hk2 : Kept No w w1 := hk1.trans (Kept.of_below_size hbl) (fun _ h => h.elim)
  have hWh2 := (hbl.block _ hzW).trans hWh1
  have hrow1 : RowOf w1 (.slice va vn vc) M (runCells (nearL s.xs a (a + n))) := RowOf.of_own hrow
  obtain rfl : vn = M := by
    rcases hrow.2 with ⟨h1, h2⟩ | ⟨g, cap, cur, h1, _⟩
    · cases h1; exact h2.symm
    · cases h1; rfl
  have hvg : ∀ g o, va = some ⟨g, o, none⟩ → W.heap.size ≤ g := fun g o e => by
    rcases hrow.2 with ⟨h1, h2⟩ | ⟨g', cap, cur, h1, h3, _⟩
    · cases h1; cases e
    · cases h1; cases e; exact h3
  obtain ⟨L, hL⟩ : ∃ L, nearL s.xs a (a + n) = L := ⟨_, rfl⟩
  rw [hL] at hrow1 hM
  have HL := Lib.hid hL
  have hLm : ∀ x ∈ L, x ∈ s.xs ∧ a ≤ x.1 + x.2 ∧ x.1 ≤ a + n := fun x hx => by rw [← hL] at hx; exact nearL_mem.1 hx
  have hgL : Gaps L := by rw [← hL]; exact nearL_gaps HI.out.2.1.gaps a (a + n)
  have hfitL : ∀ x ∈ L, 0 ≤ x.1 ∧ 1 ≤ x.2 ∧ x.2 ≤ 4096 := fun x hx => by
    have h1 := HI.out.2.1.inb x (hLm x hx).1
    have h2 := hgL.pos x hx
    have h3 := HI.out.2.1.small
    omega
  have hM5 : vn ≤ 5000 := by
    rw [hM, ← hL]
    have := List.length_filter_le (fun x : R2 => decide (a ≤ x.1 + x.2 ∧ x.1 ≤ a + n)) s.xs
    unfold nearL; omega
  have hcell : Hid (∀ j x, L[j]? = some x → ∃ g, va = some ⟨g, 0, none⟩ ∧ W.heap.size ≤ g ∧ g < w1.heap.size ∧ w1.cell? ⟨g, j * 2, none⟩ = some (.int .i64 x.1) ∧ w1.cell? ⟨g, j * 2 + 1, none⟩ = some (.int .i64 x.2)) := fun j x hx => by
    rcases hrow1 with ⟨h1, h0⟩ | ⟨g, c, h1, h2, h3⟩
    · have := (List.getElem?_eq_some_iff.1 hx).1; omega
    · cases h1
      obtain ⟨k1, k2⟩ := runCells_get L j x hx
      exact ⟨g, rfl, hvg g 0 rfl, h2, h3 _ _ k1, h3 _ _ k2⟩
  have HF1 := Lib.hid hfitL
  have HM := Lib.hid hM
  have H1 := Lib.hid (And.intro hk2 (And.intro hWh2 (And.intro hLm hgL)))
  have hzb : w.heap.size < w1.heap.size := by omega
  clear hk1 hWh1 hsW hk2 hWh2 hrow1 hvg hLm hgL hfitL hM hL hrow hbl HW F53
  go_wp2_with fail
  generalize hbw : w.heap.size = bw at *
  have Hbw := Lib.hid hbw
  clear hbw
  have HBl : Hid (∀ W', Kept (· = bw) w1 W' → Below bw w W') := fun W' hk => by
    have h1 := H1.out.1.no_below
    rw [Hbw.out] at h1
    exact h1.trans (hk.below (B := bw) (Nat.le_of_lt hzb) (fun k e => by have : k = bw := e; omega))
  go_loopg [53] vn (fun m v53 wr => ∃ j : Nat, v53 = .int .i64 j ∧ j ≤ vn ∧ vn - j ≤ m ∧ ¬ Over (L.take j) a n ∧ Kept (· = bw) w1 wr ∧ wr.heap[bw]? = some (.cells #[.int .i64 (mergeL (a, n) (L.take j)).1, .int .i64 (mergeL (a, n) (L.take j)).2] 77 (0, 0)))
  case atStart => exact ⟨0, rfl, Nat.zero_le _, Nat.le_refl _, by rintro ⟨x, hx, _⟩; simp at hx, Kept.refl _ _, H1.out.2.1⟩
  case round =>
    obtain ⟨j, rfl, hj, hm, hno, hk, hwh⟩ := hrel
    by_cases hlt : j < vn
    · obtain ⟨x, hx⟩ : ∃ x, L[j]? = some x := ⟨_, List.getElem?_eq_getElem (by have := HM.out; omega)⟩
      obtain ⟨g, rfl, hgW, hg1, k1, k2⟩ := hcell.out j x hx
      have hgb : g ≠ bw := by omega
      have hxL := List.mem_of_getElem? hx
      obtain ⟨f0, f1, f2⟩ := HF1.out x hxL
      have hxm := H1.out.2.2.1 x hxL
      have d0 := (hk.cell (i := j * 2) hg1 hgb).trans k1
      have d1 := (hk.cell (i := j * 2 + 1) hg1 hgb).trans k2
      have w0 : wr.cell? ⟨bw, 0, none⟩ = some (.int .i64 (mergeL (a, n) (L.take j)).1) := cellOf hwh 0
      have w1' : wr.cell? ⟨bw, 1, none⟩ = some (.int .i64 (mergeL (a, n) (L.take j)).2) := cellOf hwh 1
      have e0 : wr.frozen? ⟨bw, 0, none⟩ = false := freeOf hwh 0
      have e1 : wr.frozen? ⟨bw, 1, none⟩ = false := freeOf hwh 1
      have hbl := lt_of_block hwh
      have hgl : g < wr.heap.size := Nat.lt_of_lt_of_le hg1 hk.size
      have hfit := mergeL_fit (L.take j) (a, n) 40000000 a0 (by dsimp only; omega) (by dsimp only; rw [List.length_take]; omega) (fun y hy => HF1.out y (List.mem_of_mem_take hy))
      have htk : L.take (j + 1) = L.take j ++ [x] := by rw [List.take_add_one, hx]; rfl
      have hnext : Hid (mergeL (a, n) (L.take (j + 1)) = (min (mergeL (a, n) (L.take j)).1 x.1, (mergeL (a, n) (L.take j)).2 + x.2)) := by unfold Hid; rw [htk, mergeL_append]
      have hov : Hid (¬ (x.1 < a + n ∧ a < x.1 + x.2) → ¬ Over (L.take (j + 1)) a n) := fun hnx => by
        rw [htk]
        rintro ⟨y, hy, h1, h2⟩
        rcases List.mem_append.1 hy with hy | hy
        · exact hno ⟨y, hy, h1, h2⟩
        · simp at hy; subst hy; exact hnx ⟨h1, h2⟩
      have hyes : Hid (x.1 < a + n ∧ a < x.1 + x.2 → Over s.xs a n) := fun hh => ⟨x, hxm.1, hh⟩
      generalize mergeL (a, n) (L.take j) = mm at *
      obtain ⟨m1, m2⟩ := mm
      obtain ⟨x1, x2⟩ := x
      dsimp only at *
      have hltI : (j : Int) < vn := by omega
      have HS : Hid (∀ z0 z1 : Int, (((wr.setCell ⟨bw, 0, none⟩ (.int .i64 z0)).setCell ⟨bw, 1, none⟩ (.int .i64 z1)).alloc (.cells #[.int .i64 x1, .int .i64 x2] 77)).heap[bw]? = some (.cells #[.int .i64 z0, .int .i64 z1] 77 (0, 0)) ∧
          Kept (· = bw) w1 (((wr.setCell ⟨bw, 0, none⟩ (.int .i64 z0)).setCell ⟨bw, 1, none⟩ (.int .i64 z1)).alloc (.cells #[.int .i64 x1, .int .i64 x2] 77))) := fun z0 z1 =>
        ⟨block_alloc (block_set (block_set hwh 0 _) 1 _) _, ((hk.setCell (p := ⟨bw, 0, none⟩) (.inl rfl) _).setCell (p := ⟨bw, 1, none⟩) (.inl rfl) _).alloc _⟩
      have HBx := Lib.hid (HBl.out _ (hk.alloc (.cells #[.int .i64 x1, .int .i64 x2] 77)))
      have Hm := Lib.hid hm
      clear hx hk hwh hm hno hxm hxL htk k1 k2
      have hbn : bw ≠ wr.heap.size := by omega
      have hgn : g ≠ wr.heap.size := by omega
      by_cases t1 : x1 < a + n
      · by_cases t2 : a < x1 + x2
        · have ho := Lib.hid (HPT.out (hyes.out ⟨t1, t2⟩))
          go_wp2_with fail
          go_ret
          exact ho.out _ HBx.out
        · have hov' := Lib.hid (hov.out (fun h => t2 h.2))
          go_wp2_with fail
          all_goals
            go_roundg (vn - (j + 1))
            case measure => have := Hm.out; omega
            case rel => exact ⟨j + 1, by go_num, by omega, Nat.le_refl _, hov'.out, (HS.out _ _).2, by (rw [hnext.out]; dsimp only; first | (rw [show min m1 x1 = m1 by omega]; exact (HS.out _ _).1) | (rw [show min m1 x1 = x1 by omega]; exact (HS.out _ _).1))⟩
      · have hov' := Lib.hid (hov.out (fun h => t1 h.1))
        go_wp2_with fail
        all_goals
          go_roundg (vn - (j + 1))
          case measure => have := Hm.out; omega
          case rel => exact ⟨j + 1, by go_num, by omega, Nat.le_refl _, hov'.out, (HS.out _ _).2, by (rw [hnext.out]; dsimp only; first | (rw [show min m1 x1 = m1 by omega]; exact (HS.out _ _).1) | (rw [show min m1 x1 = x1 by omega]; exact (HS.out _ _).1))⟩
    · obtain rfl : j = vn := by omega
      rw [List.take_of_length_le (by have := HM.out; omega)] at hno hwh
      have hnov : ¬ Over s.xs a n := fun h => hno (by rw [← HL.out]; exact (over_near n1).1 h)
      have hWO := whole_ok HI.out.2.1.gaps a0 n1 (by rw [Hpg.out]; exact hap) HI.out.2.1.inb hnov
      rw [HL.out] at hWO
      have hfl : ∀ b, s.fp b → b < bw := fun b hb => by rw [← Hbw.out]; exact HI.out.1.lt b (.inl hb)
      have hk0 : Kept s.fp w wr := (H1.out.1.mono (fun _ h => h.elim)).trans hk (fun k e => .inr (by have : k = bw := e; rw [Hbw.out]; omega))
      have hR0 : RunStep s s w wr := ⟨(HI.out.1.kept H1.out.1 (fun _ _ h => h)).kept hk (fun k hk' e => by have h1 := HI.out.1.lt k hk'; rw [Hbw.out] at h1; have : k = bw := e; omega), hk0, fun _ h => .inl h, rfl⟩
      have hM0 : MidPut s s [] w wr := ⟨hR0, HI.out.2.1, fun y => by simp, rfl, rfl, rfl, rfl, rfl, fun _ h => h, Nat.le_refl _, Int.le_refl _⟩
      have hcell2 : Hid (∀ i x, L[i]? = some x → ∃ g, va = some ⟨g, 0, none⟩ ∧ ¬ s.fp g ∧ g < wr.heap.size ∧ wr.cell? ⟨g, i * 2, none⟩ = some (.int .i64 x.1) ∧ wr.cell? ⟨g, i * 2 + 1, none⟩ = some (.int .i64 x.2)) := fun i x hx => by
        obtain ⟨g, h1, h2, h3, h4, h5⟩ := hcell.out i x hx
        refine ⟨g, h1, fun h => by have := hfl g h; omega, Nat.lt_of_lt_of_le h3 hk.size, (hk.cell h3 (by show ¬ g = bw; omega)).trans h4, (hk.cell h3 (by show ¬ g = bw; omega)).trans h5⟩
      have hbl := lt_of_block hwh
      have H2 := Lib.hid (And.intro hM0 (And.intro hwh (And.intro hnov hWO)))
      have hndL : L.Nodup := gaps_nodup H1.out.2.2.2
      have HND := Lib.hid hndL
      have Hfl := Lib.hid hfl
      have hwfit : Hid ((mergeL (a, n) L).2 ≤ 4096) := by have := hWO.hi; have := hWO.lo; rw [Hpg.out] at *; unfold Hid; omega
      generalize hwe : mergeL (a, n) L = whole at *
      have HWE := Lib.hid hwe
      clear hwe
      obtain ⟨m1, m2⟩ := whole
      clear hno hwh hnov hWO hfl hk0 hR0 hM0 hk hndL hm
      dsimp only at *
      go_wp2_with fail
      generalize wr = wq at *
      go_loopg [87] j (fun m v87 wr => ∃ (k : Nat) (sj : RSt), v87 = .int .i64 k ∧ k ≤ j ∧ j - k ≤ m ∧ MidPut s sj (L.take k) w wr ∧ Kept s.fp wq wr)
      case atStart => exact ⟨0, s, rfl, Nat.zero_le _, Nat.le_refl _, H2.out.1, Kept.refl _ _⟩
      case round =>
        obtain ⟨k, sj, rfl, hkj, hm, hmid, hkq⟩ := hrel
        have hsq : sj.q = q := hmid.q.trans Hq.out
        by_cases hlt : k < j
        · obtain ⟨x, hx⟩ : ∃ x, L[k]? = some x := ⟨_, List.getElem?_eq_getElem (by have := HM.out; omega)⟩
          obtain ⟨g, rfl, hgf, hgl, k1, k2⟩ := hcell2.out k x hx
          have d0 := (hkq.cell hgl hgf).trans k1
          have d1 := (hkq.cell hgl hgf).trans k2
          have hxL := List.mem_of_getElem? hx
          have hxm := H1.out.2.2.1 x hxL
          have htk : L.take (k + 1) = L.take k ++ [x] := by rw [List.take_add_one, hx]; rfl
          have hxn : x ∉ L.take k := fun h => by
            have := HND.out
            rw [← List.take_append_drop k L] at this
            refine (List.nodup_append.1 this).2.2 x h x ?_ rfl
            exact List.mem_of_getElem? (i := 0) (by rw [List.getElem?_drop]; exact hx)
          have hxj : x ∈ sj.xs := (hmid.mem x).2 ⟨hxm.1, hxn⟩
          have hgwr : g < wr.heap.size := Nat.lt_of_lt_of_le hgl hkq.size
          have hgn : g ≠ wr.heap.size := by omega
          have hA : Kept No wr (wr.alloc (.cells #[.int .i64 x.1, .int .i64 x.2] 77)) := (Kept.refl No wr).alloc _
          have F50 := dropStep sj x _ (hmid.step.no hA).is hmid.inv hxj
          rw [hsq] at F50
          have F50 := Lib.hid F50
          have HX := Lib.hid (And.intro hmid (And.intro hkq (And.intro htk (And.intro hxn hA))))
          have Hm := Lib.hid hm
          obtain ⟨x1, x2⟩ := x
          dsimp only at *
          have hltI : (k : Int) < j := by omega
          clear hx hmid hkq htk hxn hxj hA hm hxm hxL k1 k2 hsq
          go_wp2_with fail
          refine F50.out.mono ?_
          rintro e w4 ⟨rfl, i4, lv4, hxi, R4, hsub⟩
          obtain ⟨hmid, hkq, htk, hxn, hA⟩ := HX.out
          obtain ⟨p1, p2, p3⟩ := hmid.inv.drop hxi lv4
          have hmid' : MidPut s (sj.dropped (x1, x2) i4 lv4) (L.take (k + 1)) w w4 :=
            ⟨(hmid.step.no hA).trans R4, p1, fun y => by
              rw [p2, hmid.mem, htk]
              simp only [List.mem_append, List.mem_singleton, not_or]
              exact ⟨fun h => ⟨h.1.1, h.1.2, h.2⟩, fun h => ⟨⟨h.1, h.2.1⟩, h.2.2⟩⟩, by rw [p3, hmid.nodes, htk, delAllN_snoc], hmid.q, hmid.pages, hmid.ds, hmid.drawn, fun b hb => hmid.sub b (hsub b hb), by
              show (delR sj.xs i4).length ≤ _
              rw [delR_length (List.getElem?_eq_some_iff.1 hxi).1]; have := hmid.len; omega, by
              show sj.total - x2 ≤ _
              have := hmid.tot; have := hmid.inv.gaps.pos (x1, x2) (List.mem_of_getElem? hxi); dsimp only at this; omega⟩
          have hkq' : Kept s.fp wq w4 := (hkq.trans hA (fun _ h => h.elim)).trans R4.kept (fun b hb => .inl (hmid.sub b hb))
          have HN := Lib.hid (And.intro hmid' hkq')
          clear hmid hkq htk hxn hA p1 p2 p3 hmid' hkq' R4 hsub hxi
          go_wp2_with fail
          go_roundg (j - (k + 1))
          case measure => have := Hm.out; omega
          case rel => exact ⟨k + 1, _, by go_num, by omega, Nat.le_refl _, HN.out.1, HN.out.2⟩
        · obtain rfl : k = j := by omega
          rw [List.take_of_length_le (by have := HM.out; omega)] at hmid
          obtain ⟨_, hwh, hnov, hWO⟩ := H2.out
          have hbf : ¬ s.fp bw := fun h => by have := Hfl.out bw h; omega
          have hwh2 := hkq.at hwh hbf
          have y0 : wr.cell? ⟨bw, 0, none⟩ = some (.int .i64 m1) := cellOf hwh2 0
          have y1 : wr.cell? ⟨bw, 1, none⟩ = some (.int .i64 m2) := cellOf hwh2 1
          have ha : ∀ y ∈ sj.xs, y.1 + y.2 < m1 ∨ m1 + m2 < y.1 := fun y hy => by
            obtain ⟨h1, h2⟩ := (hmid.mem y).1 hy
            exact hWO.apart y h1 (by rw [HL.out]; exact h2)
          have F47 := putStep sj (m1, m2) wr hmid.step.is hmid.inv hWO.lo hWO.pos (by rw [hmid.pages, Hpg.out]; have := hWO.hi; rw [Hpg.out] at this; exact this) ha (by have := hmid.len; omega) (by have := hmid.drawn; omega) (by have := hmid.tot; have := hwfit.out; dsimp only at *; omega)
          rw [hsq] at F47
          have F47 := Lib.hid F47
          have HX := Lib.hid (And.intro hmid (And.intro ha (And.intro hnov hWO)))
          clear hmid hwh hnov hWO hwh2 ha hkq hm hsq
          go_wp2_with fail
          refine F47.out.mono ?_
          rintro e w5 ⟨rfl, i5, B5, lv5, hp5, R5⟩
          obtain ⟨hmid, ha, hnov, hWO⟩ := HX.out
          obtain ⟨p1, p2, p3⟩ := hmid.inv.put hp5 hWO.lo hWO.pos (by rw [hmid.pages, Hpg.out]; have := hWO.hi; rw [Hpg.out] at this; exact this) ha B5 lv5
          have HF := Lib.hid (HPO.out w5 _ hnov (hmid.step.trans R5) ⟨p1, hmid.q, hmid.pages, hmid.ds, by show sj.drawn + 1 = _; rw [hmid.drawn], fun y => by
            rw [p2, hmid.mem, HL.out, HWE.out], by rw [p3, hmid.nodes, HL.out, HWE.out, hmid.ds, hmid.drawn]⟩)
          clear hmid ha hnov hWO p1 p2 p3 R5 hp5
          go_wp2_with fail
          go_ret
          exact HF.out

theorem put_any' (s : RSt) (a n : Int) (w : World) (h : RunsIs w s) (hi : PInv s) (hdr : s.drawn < 900000) (hlen : s.xs.length ≤ 4500) (htot : s.total ≤ 900000) :
    Calls Try.prog 27 #[.pointer (some ⟨s.q, 0, none⟩), .int .i64 a, .int .i64 n] w (PutPost' s a n w) := by
  by_cases hok : OkArgs s.pages a n
  · exact put_ok s a n w h hi hok hdr hlen htot
  · exact put_bad s a n w h hi.small.2 hi.small.1 hok

end Go.Proofs.Ytdeebagjmhpocaa
