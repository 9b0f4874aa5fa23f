/- The runs: drop and put as steps; Take. -/
import Derived.Test.YtdeebagjmhpocaaE4
import Derived.Test.YtdeebagjmhpocaaZ3
namespace Go.Proofs.Ytdeebagjmhpocaa
set_option linter.unusedSimpArgs false
set_option linter.unusedVariables false
open Go.RowKit

structure RunStep (s s' : RSt) (w w' : World) : Prop where
  is : RunsIs w' s'
  kept : Kept s.fp w w'
  new : ∀ b, s'.fp b → s.fp b ∨ w.heap.size ≤ b
  dv : s'.dv = s.dv
theorem RunStep.trans {s s1 s2 : RSt} {w w1 w2 : World} (a : RunStep s s1 w w1) (b : RunStep s1 s2 w1 w2) : RunStep s s2 w w2 :=
  ⟨b.is, a.kept.trans b.kept a.new, fun k hk => (b.new k hk).elim (a.new k) fun h => .inr (Nat.le_trans a.kept.size h), b.dv.trans a.dv⟩
theorem RunStep.refl {s : RSt} {w : World} (h : RunsIs w s) : RunStep s s w w := ⟨h, Kept.refl _ _, fun _ h => .inl h, rfl⟩
theorem RunStep.no {s s1 : RSt} {w w1 w2 : World} (a : RunStep s s1 w w1) (h : Kept No w1 w2) : RunStep s s1 w w2 :=
  ⟨a.is.kept h (fun _ _ h => h), a.kept.trans h (fun _ h => h.elim), a.new, a.dv⟩

/-- A drop of a run that is there. -/
theorem dropStep (s : RSt) (x : R2) (w : World) (h : RunsIs w s) (hi : PInv s) (hx : x ∈ s.xs) :
    Calls Try.prog 50 #[.pointer (some ⟨s.q, 0, none⟩), .agg #[.int .i64 x.1, .int .i64 x.2]] w fun e w' => e = .returned (.tuple #[]) ∧
      ∃ i lv', s.xs[i]? = some x ∧ RunStep s (s.dropped x i lv') w w' ∧ ∀ b, (s.dropped x i lv').fp b → s.fp b := by
  obtain ⟨i, hxi⟩ := List.getElem?_of_mem hx
  obtain ⟨c, y, l, r, hs⟩ := hi.seek hx
  have hsum := (sumL_ge hi.gaps.pos).2 x hx
  refine (drop_run s x i w c y l r h hxi (parts_of hi.gaps hxi) hs (by rw [hi.total]; exact hsum)).mono ?_
  rintro e w' ⟨rfl, lv', hR, hk, hl⟩
  have hsub : ∀ b, (s.dropped x i lv').fp b → s.fp b := fun b hb => by
    rcases hb with hb | hb | hb | hb
    · exact .inl hb
    · exact .inr (.inl hb)
    · exact .inr (.inr (.inl (drop_mem hb)))
    · exact hl b hb
  exact ⟨rfl, i, lv', hxi, ⟨hR, hk, fun b hb => .inl (hsub b hb), rfl⟩, hsub⟩

/-- A put of a run that has something between it and each other one. -/
theorem putStep (s : RSt) (x : R2) (w : World) (h : RunsIs w s) (hi : PInv s) (h0 : 0 ≤ x.1) (h1 : 1 ≤ x.2) (h2 : x.1 + x.2 ≤ s.pages) (ha : ∀ y ∈ s.xs, y.1 + y.2 < x.1 ∨ x.1 + x.2 < y.1)
    (hfew : s.xs.length < 5000) (hdr : s.drawn < 1000000) (htot : s.total + x.2 ≤ 1000000) :
    Calls Try.prog 47 #[.pointer (some ⟨s.q, 0, none⟩), .agg #[.int .i64 x.1, .int .i64 x.2]] w fun e w' => e = .returned (.tuple #[]) ∧
      ∃ i B lv', Parts s.xs x.1 i ∧ RunStep s (s.putted x i B lv') w w' := by
  obtain ⟨i, hp⟩ := parts_exists x.1 s.xs hi.gaps
  have hsm := hi.small
  have hnx : x ∉ s.xs := fun hx => by have := ha x hx; omega
  refine (put_run s x i w h hp h0 (by omega) (by omega) (by omega) (hi.noSeek ⟨h0, by omega⟩ hnx) hfew hdr htot).mono ?_
  rintro e w' ⟨rfl, B, lv', hB, hR, hk, hl⟩
  refine ⟨rfl, i, B, lv', hp, hR, hk, fun b hb => ?_, rfl⟩
  rcases hb with hb | hb | hb | hb
  · exact .inl (.inl hb)
  · exact .inl (.inr (.inl hb))
  · rcases putT_mem hb with hb | hb
    · exact .inl (.inr (.inr (.inl hb)))
    · exact .inr (by omega)
  · exact hl b hb

theorem PInv.best {s : RSt} (h : PInv s) {k : Int} {x : R2} (hk : 1 ≤ k) (hb : bestR k s.xs = some x) : x ∈ s.xs ∧ k ≤ x.2 ∧ 0 ≤ x.1 ∧ x.1 + x.2 ≤ s.pages := by
  unfold bestR at hb
  rw [if_neg (by omega)] at hb
  obtain ⟨h1, h2, _⟩ := bestF_some h.gaps h.fit hb
  have := h.inb x h1
  exact ⟨h1, h2, this.1, this.2⟩

def TakePost (s : RSt) (k : Int) (w : World) (e : Ending) (w' : World) : Prop :=
  (k < 1 → e = .returned (.tuple #[.int .i64 0, .int .i64 1]) ∧ Below w.heap.size w w') ∧
  (1 ≤ k → bestR k s.xs = none → e = .returned (.tuple #[.int .i64 0, .int .i64 3]) ∧ Below w.heap.size w w') ∧
  (∀ x, 1 ≤ k → bestR k s.xs = some x → e = .returned (.tuple #[.int .i64 x.1, .int .i64 0]) ∧ ∃ s', RunStep s s' w w' ∧ TookBy s s' x k)

set_option maxRecDepth 100000 in
set_option maxHeartbeats 4000000 in
theorem take_any (s : RSt) (k : Int) (w : World) (h : RunsIs w s) (hi : PInv s) (hdr : s.drawn < 900000) :
    Calls Try.prog 25 #[.pointer (some ⟨s.q, 0, none⟩), .int .i64 k] w (TakePost s k w) := by
  by_cases hk : k < 1
  · obtain ⟨q, p, dv, lv, pages, ds, drawn, t, xs, total⟩ := s
    clear h hi hdr
    dsimp only
    go_enter Try.func25, Try.ntmps25
    go_wp2
    go_ret2
    exact ⟨fun _ => ⟨rfl, Below.refl _ _⟩, fun h => by omega, fun x h => by omega⟩
  · have F : Calls Try.prog 49 #[.pointer (some ⟨s.q, 0, none⟩), .int .i64 k] w fun e w' => e = .returned (bestV (bestR k s.xs)) ∧ Below w.heap.size w w' := by
      rw [← best_same hi k]; exact best_any s k w h hi.small.2
    cases hb : bestR k s.xs with
    | none =>
      rw [hb] at F
      have F := Lib.hid F
      have HP : Hid (∀ W, Below w.heap.size w W → TakePost s k w (.returned (.tuple #[.int .i64 0, .int .i64 3])) W) := fun W hW => ⟨fun h => absurd h hk, fun _ _ => ⟨rfl, hW⟩, fun x _ h => by rw [hb] at h; cases h⟩
      clear h hi hb hdr
      obtain ⟨q, p, dv, lv, pages, ds, drawn, t, xs, total⟩ := s
      dsimp only at *
      go_enter Try.func25, Try.ntmps25
      go_wp2_with fail
      refine F.out.mono ?_
      rintro e w1 ⟨rfl, hb1⟩
      rw [bestV_lit]
      dsimp only [runV, Option.isSome]
      go_wp2_with fail
      go_ret2
      exact HP.out _ (hb1.alloc hb1.size _)
    | some x =>
      rw [hb] at F
      obtain ⟨hx, hkx, hx0, hx1⟩ := hi.best (by omega) hb
      have F := Lib.hid F
      have hsm := hi.small
      have hx2 := hi.gaps.pos x hx
      have HP : Hid (∀ W s', RunStep s s' w W → TookBy s s' x k → TakePost s k w (.returned (.tuple #[.int .i64 x.1, .int .i64 0])) W) := fun W s' h1 h2 => ⟨fun h => absurd h hk, (fun _ h => by rw [hb] at h; cases h), fun y _ h => by rw [hb] at h; cases h; exact ⟨rfl, s', h1, h2⟩⟩
      have HI := Lib.hid (And.intro h (And.intro hi (And.intro hx hb)))
      have htf := h.totalFits
      clear h hi hb hx
      obtain ⟨x1, x2⟩ := x
      obtain ⟨S, hS⟩ : ∃ S, s = S := ⟨_, rfl⟩
      obtain ⟨q, hq⟩ : ∃ q, s.q = q := ⟨_, rfl⟩
      rw [hq] at F ⊢
      have Hq := Lib.hid hq
      clear hq hS
      dsimp only at *
      go_enter Try.func25, Try.ntmps25
      go_wp2_with fail
      refine F.out.mono ?_
      rintro e w1 ⟨rfl, hb1⟩
      rw [bestV_lit]
      dsimp only [runV, Option.isSome]
      have hX : (w1.alloc (.cells #[.int .i64 x1, .int .i64 x2] 77)).heap[w1.heap.size]? = some (.cells #[.int .i64 x1, .int .i64 x2] 77 (0, 0)) := heap_alloc_new w1 _
      have hk1 : Kept No w (w1.alloc (.cells #[.int .i64 x1, .int .i64 x2] 77)) := (Kept.of_below_size hb1).alloc _
      have R0 := (RunStep.refl HI.out.1).no hk1
      have hz1 := hb1.size
      have F50 := dropStep s (x1, x2) (w1.alloc (.cells #[.int .i64 x1, .int .i64 x2] 77)) R0.is HI.out.2.1 HI.out.2.2.1
      rw [Hq.out] at F50
      have F50 := Lib.hid F50
      have HR := Lib.hid (And.intro R0 hX)
      clear hX hk1 R0 hb1
      go_wp2_with fail
      refine F50.out.mono ?_
      rintro e w2 ⟨rfl, i, lv', hxi, R2, _⟩
      obtain ⟨R0, hX⟩ := HR.out
      have hbn : ¬ s.fp w1.heap.size := fun h => by have := HI.out.1.lt _ (.inl h); omega
      have hX2 := R2.kept.at hX hbn
      have R2' := R0.trans R2
      obtain ⟨hi1, hm1, hn1⟩ := HI.out.2.1.drop hxi lv'
      have z0 : w2.cell? ⟨w1.heap.size, 0, none⟩ = some (.int .i64 x1) := cellOf hX2 0
      have z1 : w2.cell? ⟨w1.heap.size, 1, none⟩ = some (.int .i64 x2) := cellOf hX2 1
      have hbl2 := lt_of_block hX2
      by_cases hgt : k < x2
      · have ha : ∀ y ∈ (s.dropped (x1, x2) i lv').xs, y.1 + y.2 < x1 + k ∨ x1 + k + (x2 - k) < y.1 := fun y hy => by
          obtain ⟨hy, hne⟩ := (hm1 y).1 hy
          rcases cov_other HI.out.2.1.gaps HI.out.2.2.1 hy hne with h | h <;> dsimp only at h <;> omega
        have hfew : (s.dropped (x1, x2) i lv').xs.length < 5000 := by
          show (delR s.xs i).length < 5000
          rw [delR_length (List.getElem?_eq_some_iff.1 hxi).1]
          have := HI.out.1.few; have := (List.getElem?_eq_some_iff.1 hxi).1; omega
        have F47 := putStep (s.dropped (x1, x2) i lv') (x1 + k, x2 - k) w2 R2.is hi1 (by dsimp only; omega) (by dsimp only; omega) (by show x1 + k + (x2 - k) ≤ s.pages; omega) ha hfew (by show s.drawn < _; omega) (by show s.total - x2 + (x2 - k) ≤ _; omega)
        change Calls Try.prog 47 #[.pointer (some ⟨s.q, 0, none⟩), .agg #[.int .i64 (x1 + k), .int .i64 (x2 - k)]] w2 _ at F47
        rw [Hq.out] at F47
        have F47 := Lib.hid F47
        have H2 := Lib.hid (And.intro R2 (And.intro R2' (And.intro hX2 (And.intro hi1 (And.intro hm1 (And.intro hn1 (And.intro ha hxi)))))))
        clear R2 R2' hX2 hi1 hm1 hn1 ha hfew hxi R0 hX
        go_wp2_with fail
        refine F47.out.mono ?_
        rintro e w3 ⟨rfl, j, B, lv2, hpj, R3⟩
        obtain ⟨R2, R2', hX2, hi1, hm1, hn1, ha, hxi⟩ := H2.out
        have hbn2 : ¬ (s.dropped (x1, x2) i lv').fp w1.heap.size := fun h => (R2.new _ h).elim hbn (fun h => by rw [World.size_alloc] at h; omega)
        have hX3 := R3.kept.at hX2 hbn2
        have y0 : w3.cell? ⟨w1.heap.size, 0, none⟩ = some (.int .i64 x1) := cellOf hX3 0
        obtain ⟨hi2, hm2, hn2⟩ := hi1.put (x := (x1 + k, x2 - k)) hpj (by dsimp only; omega) (by dsimp only; omega) (by show x1 + k + (x2 - k) ≤ s.pages; omega) ha B lv2
        have HF := Lib.hid (HP.out w3 _ (R2'.trans R3) ⟨hi2, rfl, rfl, rfl, by show s.drawn + 1 = _; rw [if_pos hgt], fun y => by
          rw [hm2, hm1]
          constructor
          · rintro (h | h)
            · exact .inr ⟨hgt, h⟩
            · exact .inl h
          · rintro (h | ⟨_, h⟩)
            · exact .inr h
            · exact .inl h, by rw [hn2, hn1, if_pos hgt]; rfl⟩)
        clear R2 R2' hX2 hi1 hm1 hn1 ha hxi R3 hX3 hi2 hm2 hn2 hpj z0 z1
        go_wp2_with fail
        go_ret2
        exact HF.out
      · have HF := Lib.hid (HP.out w2 _ R2' ⟨hi1, rfl, rfl, rfl, by show s.drawn = _; rw [if_neg hgt]; rfl, fun y => by
          rw [hm1]
          constructor
          · exact fun h => .inl h
          · rintro (h | ⟨h, _⟩)
            · exact h
            · exact absurd h hgt, by rw [hn1, if_neg hgt]⟩)
        clear R2 R2' hX2 hi1 hm1 hn1 hxi R0 hX
        go_wp2_with fail
        go_ret2
        exact HF.out

end Go.Proofs.Ytdeebagjmhpocaa
