/- The document's example of runs. -/
import Derived.Test.YtdeebagjmhpocaaZ14
namespace Go.Proofs.Ytdeebagjmhpocaa
set_option linter.unusedSimpArgs false
set_option linter.unusedVariables false
open Go.RowKit

set_option maxRecDepth 100000 in
set_option maxHeartbeats 1000000 in
theorem runsListN_any {w : World} {rs : RSt} (h : RunsIs w rs) : Calls Try.prog 17 #[.pointer (some ⟨rs.q, 0, none⟩)] w (RowPostN rs.xs.length (runCells rs.xs) w) := by
  have c4 : w.cell? ⟨rs.q, 4, none⟩ = some rs.lv := cellOf h.obj 4
  have hfew := h.few
  have F := Lib.hid (cloneRun_any _ _ _ w (SrcOf.of_own h.list) (runCells_one _) (by omega))
  clear h
  obtain ⟨q, p, dv, lv, pages, ds, drawn, t, xs, total⟩ := rs
  dsimp only at *
  go_enter Try.func17, Try.ntmps17
  go_wp2_with fail
  refine F.out.mono ?_
  rintro e w1 ⟨v, rfl, ho, _, hb⟩
  have HF : Hid (RowPostN xs.length (runCells xs) w (.returned v) w1) := ⟨v, rfl, RowOf.of_own ho, hb, fun g hg => (ho.lt g hg).1⟩
  clear ho hb
  go_wp2
  go_ret
  exact HF.out

theorem gaps_ext {xs ys : List R2} (h : Gaps xs) (k : Gaps ys) (hm : ∀ y, y ∈ xs ↔ y ∈ ys) : xs = ys :=
  gaps_unique xs ys h k fun p => ⟨fun ⟨x, hx, e⟩ => ⟨x, (hm x).1 hx, e⟩, fun ⟨x, hx, e⟩ => ⟨x, (hm x).2 hx, e⟩⟩

/-- Runs of the example. -/
structure Ex (w0 : World) (s : RSt) (w : World) (xs : List R2) (d : Nat) : Prop where
  rs : RunsIs w s
  inv : PInv s
  xs : s.xs = xs
  pages : s.pages = 8
  drawn : s.drawn ≤ d
  new : ∀ b, s.fp b → w0.heap.size ≤ b
  below : Below w0.heap.size w0 w
theorem Ex.step {w0 : World} {s s' : RSt} {w w' : World} {xs xs' : List R2} {d : Nat} (h : Ex w0 s w xs d) (hr : RunStep s s' w w') (hi : PInv s') (hx : s'.xs = xs') (hp : s'.pages = s.pages) (hd : s'.drawn ≤ s.drawn + 1) : Ex w0 s' w' xs' (d + 1) :=
  ⟨hr.is, hi, hx, by rw [hp, h.pages], by have := h.drawn; omega, fun b hb => (hr.new b hb).elim (h.new b) fun h1 => by have := h.below.size; omega, h.below.trans (hr.kept.below h.below.size h.new)⟩
theorem Ex.go {w0 : World} {s : RSt} {w w1 : World} {xs : List R2} {d : Nat} (h : Ex w0 s w xs d) (hb : Below w.heap.size w w1) : Ex w0 s w1 xs d :=
  { h with rs := h.rs.below hb, below := h.below.trans (hb.mono h.below.size) }

theorem ex_take {w0 : World} {s : RSt} {w : World} {xs : List R2} {d : Nat} (h : Ex w0 s w xs d) (hd : d < 1000) (k : Int) (x : R2) (ys : List R2) (hk : 1 ≤ k) (hb : bestR k xs = some x) (hg : Gaps ys) (hm : ∀ y, ((y ∈ xs ∧ y ≠ x) ∨ (k < x.2 ∧ y = (x.1 + k, x.2 - k))) ↔ y ∈ ys) :
    Calls Try.prog 25 #[.pointer (some ⟨s.q, 0, none⟩), .int .i64 k] w fun e w' => e = .returned (.tuple #[.int .i64 x.1, .int .i64 0]) ∧ ∃ s', Ex w0 s' w' ys (d + 1) ∧ s'.q = s.q ∧ RunStep s s' w w' := by
  refine (take_any s k w h.rs h.inv (by have := h.drawn; omega)).mono ?_
  rintro e w1 ⟨_, _, h3⟩
  obtain ⟨rfl, s', hR, hT⟩ := h3 x hk (by rw [h.xs]; exact hb)
  exact ⟨rfl, s', h.step hR hT.inv (gaps_ext hT.inv.gaps hg fun y => by rw [hT.mem, h.xs]; exact hm y) hT.pages (by rw [hT.drawn]; split <;> omega), hT.q, hR⟩

theorem gaps_one (x : R2) (h : 1 ≤ x.2) : Gaps [x] := ⟨by simp, fun y hy => by simp at hy; subst hy; exact h⟩
theorem gaps_two (x y : R2) (h : 1 ≤ x.2) (h2 : 1 ≤ y.2) (h3 : x.1 + x.2 < y.1) : Gaps [x, y] := ⟨by simp [h3], fun z hz => by simp at hz; rcases hz with rfl | rfl <;> assumption⟩

theorem ex_last (y : R2) : ((y ∈ [((0 : Int), (3 : Int)), (5, 3)] ∧ y ≠ (0, 3)) ∨ ((3 : Int) < 3 ∧ y = (0 + 3, 3 - 3))) ↔ y ∈ [((5 : Int), (3 : Int))] := by
  simp only [List.mem_cons, List.not_mem_nil, or_false]
  constructor
  · rintro (⟨rfl | rfl, h⟩ | ⟨h, _⟩)
    · exact absurd rfl h
    · rfl
    · exact absurd h (by decide)
  · rintro rfl
    exact .inl ⟨.inr rfl, by decide⟩

set_option maxRecDepth 100000 in
set_option maxHeartbeats 8000000 in
theorem awake10_any (w : World) : Calls Try.prog 32 #[] w fun e w' => e = .returned (.bool true) ∧ Below w.heap.size w w' := by
  go_enter Try.func32, Try.ntmps32
  go_wp2_with fail
  refine (runsNew_any 8 [] (.slice none 0 0) w (by omega) (by omega) (.inl ⟨rfl, rfl, rfl⟩) (by simp)).mono ?_
  rintro e w1 ⟨s, rfl, hR, a1, a2, a3, a4, a5, a6, a7, a8⟩
  have E0 : Ex w s w1 [(0, 8)] 1 := ⟨hR, PInv.new (pages := 8) (by omega) (by omega) a1 a4 a5 (by rw [a2]; exact a6), a4, a1, by omega, fun b hb => a8 b (.inl hb), a7⟩
  have F1 := Lib.hid (ex_take E0 (by omega) 3 (0, 8) [(3, 5)] (by omega) (by decide) (gaps_one _ (by decide)) (fun y => by simp))
  obtain ⟨q, hq⟩ : ∃ q, s.q = q := ⟨_, rfl⟩
  rw [hq] at F1 ⊢
  have Hq := Lib.hid hq
  clear hR a1 a2 a3 a4 a5 a6 a7 a8 E0 hq
  go_wp2_with fail
  refine F1.out.mono ?_
  rintro e w2 ⟨rfl, s2, E2, q2, _⟩
  have F2 := ex_take E2 (by omega) 2 (3, 5) [(5, 3)] (by omega) (by decide) (gaps_one _ (by decide)) (fun y => by simp)
  rw [q2] at F2
  have F2 := Lib.hid F2
  have Q2 := Lib.hid q2
  clear E2 q2
  go_wp2_with fail
  refine F2.out.mono ?_
  rintro e w3 ⟨rfl, s3, E3, q3, _⟩
  have Q3 := Lib.hid q3
  have F3 : Calls Try.prog 27 #[.pointer (some ⟨s3.q, 0, none⟩), .int .i64 0, .int .i64 3] w3 fun e w' => e = .returned (.int .i64 0) ∧ ∃ s', Ex w s' w' [(0, 3), (5, 3)] 4 ∧ s'.q = s3.q := by
    refine (put_any' s3 0 3 w3 E3.rs E3.inv (by have := E3.drawn; omega) (by rw [E3.xs]; decide) (by rw [E3.inv.total, E3.xs]; decide)).mono ?_
    rintro e w4 ⟨_, _, h3⟩
    have hno : ¬ Over s3.xs 0 3 := by rw [E3.xs]; rintro ⟨x, hx, h1, h2⟩; simp at hx; subst hx; simp at h1
    obtain ⟨rfl, s', hR, hP⟩ := h3 ⟨by decide, by decide, by rw [E3.pages]; decide⟩ hno
    have hn : nearL s3.xs 0 (0 + 3) = [] := by rw [E3.xs]; decide
    refine ⟨rfl, s', E3.step hR hP.inv (gaps_ext hP.inv.gaps (gaps_two _ _ (by decide) (by decide) (by decide)) fun y => by rw [hP.mem, hn, E3.xs]; simp [mergeL]) hP.pages (by rw [hP.drawn]; exact Nat.le_refl _), hP.q⟩
  rw [Q3.out] at F3
  have F3 := Lib.hid F3
  clear E3 q3
  go_wp2_with fail
  refine F3.out.mono ?_
  rintro e w4 ⟨rfl, s4, E4, q4⟩
  have Q4 := Lib.hid q4
  have F4 := runsListN_any E4.rs
  rw [q4, E4.xs] at F4
  have F4 := Lib.hid F4
  have HE4 := Lib.hid E4
  clear E4 q4
  go_wp2_with fail
  refine F4.out.mono ?_
  rintro e w5 ⟨v, rfl, hv, hb5, hn5⟩
  have E5 := HE4.out.go hb5
  have F5 := ex_take E5 (by omega) 3 (0, 3) [(5, 3)] (by omega) (by decide) (gaps_one _ (by decide)) ex_last
  rw [Q4.out] at F5
  have F5 := Lib.hid F5
  have HV := Lib.hid (And.intro hv (And.intro hn5 hb5))
  clear hv hn5 hb5 E5
  obtain ⟨va, vn, vc, rfl⟩ : ∃ a n c, v = .slice a n c := by
    rcases HV.out.1 with ⟨rfl, _⟩ | ⟨g, c, rfl, _⟩ <;> exact ⟨_, _, _, rfl⟩
  go_wp2_with fail
  refine F5.out.mono ?_
  rintro e w6 ⟨rfl, s6, E6, q6, R6⟩
  have hv6 : RowOf w6 (.slice va vn vc) [((0 : Int), (3 : Int)), (5, 3)].length (runCells [(0, 3), (5, 3)]) := by
    refine HV.out.1.kept R6.kept (fun k hk hf => ?_)
    have h1 := HV.out.2.1 k hk
    have h2 := HE4.out.rs.lt k (.inl hf)
    omega
  have HV6 := Lib.hid (And.intro hv6 E6.below)
  clear E6 q6 R6 hv6
  go_wp2_with fail
  refine (sameRuns_any [(0, 3), (5, 3)] (.slice va vn vc) _ _ (HV6.out.1.below ((Below.refl _ _).alloc (Nat.le_refl _) _)) (.inr ⟨_, _, rfl, by simp, fun j u hu => by rw [cellOf (heap_alloc_new w6 _)]; simpa [runCells] using hu⟩) (by simp)).mono ?_
  rintro e w7 ⟨rfl, hb7⟩
  have HB := Lib.hid (HV6.out.2.trans (((Below.refl w6.heap.size w6).alloc (Nat.le_refl _) _ |>.trans (hb7.mono (by simp))).mono HV6.out.2.size))
  clear hb7
  go_wp2
  go_ret
  exact ⟨rfl, HB.out⟩

end Go.Proofs.Ytdeebagjmhpocaa
