/- same; what is new. -/
import Derived.Test.YtdeebagjmhpocaaZ13
import Derived.Test.YtdeebagjmhpocaaQ
namespace Go.Proofs.Ytdeebagjmhpocaa
set_option linter.unusedSimpArgs false
set_option linter.unusedVariables false
open Go.RowKit

theorem keepC {wb W W' : World} {P1 : Option Value} {a1 : Addr} (h : Below wb.heap.size wb W ∧ W.cell? a1 = P1) (h1 : a1.block < wb.heap.size) (hb : Below W.heap.size W W') :
    Below wb.heap.size wb W' ∧ W'.cell? a1 = P1 :=
  ⟨h.1.trans (hb.mono h.1.size), (hb.cell (Nat.lt_of_lt_of_le h1 h.1.size)).trans h.2⟩

set_option maxRecDepth 100000 in
set_option maxHeartbeats 8000000 in
theorem same_any {w0 : World} {s : RSt} {f : FSt} {w : World} (h : Both w0 s f w) :
    Calls Try.prog 29 #[.pointer (some ⟨s.q, 0, none⟩), .pointer (some ⟨f.q, 0, none⟩)] w fun e w' => e = .returned (.bool true) ∧ Both w0 s f w' := by
  have hgo : Hid (∀ W, Below w.heap.size w W → Both w0 s f W) := fun W hW => h.go hW
  have hH : s.t.high ≤ 4096 := by rw [← inord_length]; exact h.coup.nodes
  have hL := h.coup.xsLen
  have F17 : Hid (∀ W, Below w.heap.size w W → Calls Try.prog 17 #[.pointer (some ⟨s.q, 0, none⟩)] W (RowPost 0 s.xs.length (runCells s.xs) W)) := fun W hW => runsList_any (h.rs.below hW)
  have F18 : Hid (∀ W, Below w.heap.size w W → Calls Try.prog 18 #[.pointer (some ⟨f.q, 0, none⟩)] W (RowPost 0 s.xs.length (runCells s.xs) W)) := fun W hW => by rw [h.coup.xs]; exact refList_any f W (h.rf.below hW)
  have F55 : Hid (∀ W, Below w.heap.size w W → Calls Try.prog 55 #[.pointer (some ⟨s.q, 0, none⟩)] W fun e w' => e = .returned (.int .i64 s.total) ∧ W = w') := fun W hW => total_any s W (h.rs.below hW)
  have F56 : Hid (∀ W, Below w.heap.size w W → Calls Try.prog 56 #[.pointer (some ⟨f.q, 0, none⟩)] W fun e w' => e = .returned (.int .i64 s.total) ∧ W = w') := fun W hW => by rw [h.coup.total]; exact refTotal_any f W (h.rf.below hW)
  have F57 : Hid (∀ W, Below w.heap.size w W → Calls Try.prog 57 #[.pointer (some ⟨s.q, 0, none⟩)] W fun e w' => e = .returned (.int .i64 s.drawn) ∧ W = w') := fun W hW => drawn_any s W (h.rs.below hW)
  have F20 : Hid (∀ W, Below w.heap.size w W → Calls Try.prog 20 #[.pointer (some ⟨s.q, 0, none⟩)] W (RowPost 0 s.t.high (runCells (pairs (preT 0 s.t))) W)) := fun W hW => runsShape_any (h.rs.below hW) (by omega)
  have hpl : (pairs (preT 0 s.t)).length = s.t.high := by rw [pairs, List.length_map, preT_length]
  have F21 : Hid (∀ W, Below w.heap.size w W → Calls Try.prog 21 #[.pointer (some ⟨f.q, 0, none⟩)] W (RowPost 0 s.t.high (runCells (pairs (preT 0 s.t))) W)) := fun W hW => by rw [← hpl, ← h.coup.shape]; exact refShape_any f W (h.rf.below hW)
  have F15 : Hid (∀ W va vb, RowOf W va s.xs.length (runCells s.xs) → RowOf W vb s.xs.length (runCells s.xs) → Calls Try.prog 15 #[va, vb] W fun e w' => e = .returned (.bool true) ∧ Below W.heap.size W w') := fun W va vb ha hb => sameRuns_any s.xs va vb W ha hb (by omega)
  have F19 : Hid (∀ W va vb, RowOf W va s.t.high (runCells (pairs (preT 0 s.t))) → RowOf W vb s.t.high (runCells (pairs (preT 0 s.t))) → Calls Try.prog 19 #[va, vb] W fun e w' => e = .returned (.bool true) ∧ Below W.heap.size W w') := fun W va vb ha hb => sameNodes_any (pairs (preT 0 s.t)) va vb W (by rw [hpl]; exact ha) (by rw [hpl]; exact hb) (by omega)
  have c3 : w.cell? ⟨f.q, 3, none⟩ = some (.int .i64 s.drawn) := by rw [h.coup.drawn]; exact cellOf h.rf.obj 3
  have hql := lt_of_block h.rf.obj
  clear h hpl hH hL
  generalize s.t.high = H at *
  generalize runCells (pairs (preT 0 s.t)) = C at *
  generalize s.xs.length = X at *
  generalize runCells s.xs = Y at *
  generalize s.q = q at *
  generalize f.q = fq at *
  generalize s.total = T at *
  generalize s.drawn = D at *
  go_enter Try.func29, Try.ntmps29
  go_wp2_with fail
  have hS0 : Below w.heap.size w w.drew ∧ w.drew.cell? ⟨fq, 3, none⟩ = some (.int .i64 D) := ⟨(Below.refl _ _).drew, c3⟩
  go_region_held3 (fun W => Below w.heap.size w W ∧ W.cell? ⟨fq, 3, none⟩ = some (.int .i64 D))
    (first
      | with_reducible exact hS0
      | with_reducible assumption
      | with_reducible exact keepC (by assumption) hql hb17
      | with_reducible exact keepC (by assumption) hql hb18
      | with_reducible exact keepC (by assumption) hql hb15
      | with_reducible exact keepC (by assumption) hql hb20
      | with_reducible exact keepC (by assumption) hql hb21
      | with_reducible exact keepC (by assumption) hql hb19
      | go_keep)
    (first
      | (go_at_call 17; refine (F17.out _ (And.left (by assumption))).mono ?_; rintro e w17 ⟨v17, rfl, hv17, hb17⟩)
      | (go_at_call 18; refine (F18.out _ (And.left (by assumption))).mono ?_; rintro e w18 ⟨v18, rfl, hv18, hb18⟩)
      | (go_at_call 15; refine (F15.out _ v17 v18 (hv17.below hb18) hv18).mono ?_; rintro e w15 ⟨rfl, hb15⟩)
      | (go_at_call 55; refine (F55.out _ (And.left (by assumption))).mono ?_; rintro e w55 ⟨rfl, rfl⟩)
      | (go_at_call 56; refine (F56.out _ (And.left (by assumption))).mono ?_; rintro e w56 ⟨rfl, rfl⟩)
      | (go_at_call 57; refine (F57.out _ (And.left (by assumption))).mono ?_; rintro e w57 ⟨rfl, rfl⟩)
      | (go_at_call 20; refine (F20.out _ (And.left (by assumption))).mono ?_; rintro e w20 ⟨v20, rfl, hv20, hb20⟩)
      | (go_at_call 21; refine (F21.out _ (And.left (by assumption))).mono ?_; rintro e w21 ⟨v21, rfl, hv21, hb21⟩)
      | (go_at_call 19; refine (F19.out _ v20 v21 (hv20.below hb21) hv21).mono ?_; rintro e w19 ⟨rfl, hb19⟩))
  have hfin : Below w.heap.size w w19 := And.left (by assumption)
  go_wp2_with fail
  go_ret
  exact ⟨rfl, hgo.out _ hfin⟩

set_option maxHeartbeats 1000000 in
theorem runsNew_nil (pages : Int) (v : Value) (w : World) (h : pages < 1 ∨ 4096 < pages) : Calls Try.prog 22 #[.int .i64 pages, v] w fun e w' => e = .returned (.pointer none) ∧ w = w' := by
  rcases h with h | h
  · go_enter Try.func22, Try.ntmps22
    go_wp2
    go_ret
    exact ⟨rfl, rfl⟩
  · have h' : ¬ pages < 1 := by omega
    go_enter Try.func22, Try.ntmps22
    go_wp2
    go_ret
    exact ⟨rfl, rfl⟩
set_option maxHeartbeats 1000000 in
theorem refNew_nil (pages : Int) (v : Value) (w : World) (h : pages < 1 ∨ 4096 < pages) : Calls Try.prog 24 #[.int .i64 pages, v] w fun e w' => e = .returned (.pointer none) ∧ w = w' := by
  rcases h with h | h
  · go_enter Try.func24, Try.ntmps24
    go_wp2
    go_ret
    exact ⟨rfl, rfl⟩
  · have h' : ¬ pages < 1 := by omega
    go_enter Try.func24, Try.ntmps24
    go_wp2
    go_ret
    exact ⟨rfl, rfl⟩

theorem inord_one (B : Nat) (x : Nd) : inord (putT B x .nil) = [x] := by
  rw [inord_put B x .nil (by simp [inord])]; simp [insN, inord]
theorem PInv.new {s : RSt} {pages : Int} (h1 : 1 ≤ pages) (h2 : pages ≤ 4096) (hp : s.pages = pages) (hx : s.xs = [(0, pages)]) (ht : s.total = pages) (hB : ∃ B, s.t = putT B (ndOf (0, pages) (drawOf s.ds 0)) .nil) : PInv s := by
  obtain ⟨B, hB⟩ := hB
  have hi : inord s.t = [ndOf (0, pages) (drawOf s.ds 0)] := by rw [hB, inord_one]
  refine ⟨by rw [hx]; exact ⟨by simp, fun x hx => by simp at hx; subst hx; exact h1⟩, fun x hm => by rw [hx] at hm; simp at hm; subst hm; rw [hp]; dsimp only; omega, by rw [hp]; exact ⟨h1, h2⟩, by rw [ht, hx, sumL_one], by rw [hi]; simp, ?_, fun x => ?_, fun y hy => ?_⟩
  · rw [hB]; exact heap_put B _ .nil (by simp [inord]) trivial (by simp [inord])
  · rw [hx, hi]; simp only [List.mem_singleton, exists_eq_left, ndOf]
    constructor
    · rintro rfl; exact ⟨rfl, rfl⟩
    · rintro ⟨e1, e2⟩; exact Prod.ext e1.symm e2.symm
  · rw [hi] at hy; simp at hy; subst hy; rfl

theorem Both.made {w0 w1 w2 : World} {n : Nat} {s : RSt} {f : FSt} {ds : List Int} (h1 : 1 ≤ n) (h2 : n ≤ 4096) (hb0 : Below w0.heap.size w0 w0)
    (hR : RunsIs w1 s) (a1 : s.pages = n) (a2 : s.ds = ds) (a3 : s.drawn = 1) (a4 : s.xs = [(0, (n : Int))]) (a5 : s.total = n) (a6 : ∃ B, s.t = putT B (ndOf (0, (n : Int)) (drawOf ds 0)) .nil) (a7 : Below w0.heap.size w0 w1) (a8 : ∀ k, s.fp k ∨ s.dv.ownBlock = some k → w0.heap.size ≤ k)
    (hF : RefIs w2 f) (b1 : f.free = List.replicate n true) (b2 : f.its = [itOf (0, (n : Int)) (drawOf ds 0)]) (b3 : f.ds = ds) (b4 : f.n = 1) (b5 : Below w1.heap.size w1 w2) (b6 : ∀ k, f.fp k → w1.heap.size ≤ k) : Both w0 s f w2 := by
  have hi := PInv.new (pages := n) (by omega) (by omega) a1 a4 a5 (by rw [a2]; exact a6)
  refine ⟨hR.below b5, hF, ⟨hi, by rw [a1, b1, List.length_replicate], fun p => ?_, by rw [a3, b4], by rw [a2, b3], ?_⟩, fun b hb hfb => ?_, fun b hb => ?_, a7.trans (b5.mono a7.size)⟩
  · rw [a4, cov_one, b1, List.length_replicate, List.getD_eq_getElem?_getD, List.getElem?_replicate]
    dsimp only
    constructor
    · rintro ⟨e1, e2⟩; exact ⟨e1, by omega, by rw [if_pos (by omega)]; rfl⟩
    · rintro ⟨e1, e2, _⟩; exact ⟨e1, by omega⟩
  · obtain ⟨B, hB⟩ := a6
    rw [b2, hB, inord_one]; rfl
  · have := hR.lt b hb; have := b6 b hfb; omega
  · have := a7.size
    rcases hb with hb | hb
    · exact a8 b hb
    · have := b6 b hb; omega

end Go.Proofs.Ytdeebagjmhpocaa
