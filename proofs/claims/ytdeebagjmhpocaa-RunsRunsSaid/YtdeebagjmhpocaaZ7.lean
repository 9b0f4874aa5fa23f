/- The reference's runs: Take. -/
import Derived.Test.YtdeebagjmhpocaaZ6
namespace Go.Proofs.Ytdeebagjmhpocaa
set_option linter.unusedSimpArgs false
set_option linter.unusedVariables false
open Go.RowKit

structure RefStep (s s' : FSt) (w w' : World) : Prop where
  is : RefIs w' s'
  kept : Kept s.fp w w'
  new : ∀ b, s'.fp b → s.fp b ∨ w.heap.size ≤ b
theorem RefStep.trans {s s1 s2 : FSt} {w w1 w2 : World} (a : RefStep s s1 w w1) (b : RefStep s1 s2 w1 w2) : RefStep s s2 w w2 :=
  ⟨b.is, a.kept.trans b.kept a.new, fun k hk => (b.new k hk).elim (a.new k) fun h => .inr (Nat.le_trans a.kept.size h)⟩
theorem RefStep.refl {s : FSt} {w : World} (h : RefIs w s) : RefStep s s w w := ⟨h, Kept.refl _ _, fun _ h => .inl h⟩
theorem RefStep.no {s s1 : FSt} {w w1 w2 : World} (a : RefStep s s1 w w1) (h : Kept No w1 w2) : RefStep s s1 w w2 :=
  ⟨a.is.kept h (fun _ _ h => h), a.kept.trans h (fun _ h => h.elim), a.new⟩
theorem RefStep.its {s : FSt} {tv' : Value} {its' : List It} {n' : Nat} {w w' : World} (h : RefIs w' { s with tv := tv', its := its', n := n' }) (hk : Kept (· = s.q) w w') (hn : ∀ k, tv'.ownBlock = some k → w.heap.size ≤ k) : RefStep s { s with tv := tv', its := its', n := n' } w w' :=
  ⟨h, hk.mono (fun k e => .inl (.inl e)), fun b hb => by
    rcases hb with hb | hb | hb | hb
    · exact .inl (.inl hb)
    · exact .inl (.inr (.inl hb))
    · exact .inr (hn b hb)
    · exact .inl (.inr (.inr (.inr hb)))⟩
theorem RefStep.free {s s1 : FSt} {w w1 : World} (a : RefStep s s1 w w1) (i : Nat) (b : Bool) : RefStep s { s1 with free := s1.free.set i b } w (w1.setCell ⟨s1.fg, i, none⟩ (.bool b)) :=
  a.trans ⟨a.is.setFree i b, (Kept.refl _ w1).setCell (p := ⟨s1.fg, i, none⟩) (.inl (.inr (.inl rfl))) _, fun _ h => .inl h⟩

structure RInv (s : FSt) : Prop where
  srt : SrtI s.its
  small : s.free.length ≤ 4096
  len : s.its.length ≤ 4096
  n : s.n ≤ 900000
  keys : ∀ z, (∃ y ∈ s.its, y.key = z) ↔ ∃ x ∈ runsUp s.free s.free.length, keyOf x = z

theorem RInv.best {s : FSt} (h : RInv s) {k : Int} {x : R2} (hk : 1 ≤ k) (hb : bestR k (runsUp s.free s.free.length) = some x) :
    x ∈ runsUp s.free s.free.length ∧ k ≤ x.2 ∧ 0 ≤ x.1 ∧ x.1 + x.2 ≤ s.free.length := by
  have hr := (runsUp_of s.free s.free.length).1
  have hg := runsUp_good s.free s.free.length
  unfold bestR at hb
  rw [if_neg (by omega)] at hb
  obtain ⟨h1, h2, _⟩ := bestF_some hr.gaps (fun y hy => by have := hg.fits y hy; have := h.small; omega) hb
  have := hg.fits x h1
  exact ⟨h1, h2, this.1, this.2.2⟩

def RefTakePost (s : FSt) (k : Int) (w : World) (e : Ending) (w' : World) : Prop :=
  (k < 1 → e = .returned (.tuple #[.int .i64 0, .int .i64 1]) ∧ Below w.heap.size w w') ∧
  (1 ≤ k → bestR k (runsUp s.free s.free.length) = none → e = .returned (.tuple #[.int .i64 0, .int .i64 3]) ∧ Below w.heap.size w w') ∧
  (∀ x, 1 ≤ k → bestR k (runsUp s.free s.free.length) = some x → e = .returned (.tuple #[.int .i64 x.1, .int .i64 0]) ∧ ∃ s', RefStep s s' w w' ∧ TookRef s s' x k)

set_option maxRecDepth 100000 in
set_option maxHeartbeats 4000000 in
theorem refTake_any (s : FSt) (k : Int) (w : World) (h : RefIs w s) (hi : RInv s) :
    Calls Try.prog 26 #[.pointer (some ⟨s.q, 0, none⟩), .int .i64 k] w (RefTakePost s k w) := by
  by_cases hk : k < 1
  · obtain ⟨q, fg, tv, dv, free, its, ds, n⟩ := s
    clear h hi
    dsimp only
    go_enter Try.func26, Try.ntmps26
    go_wp2
    go_ret2
    exact ⟨fun _ => ⟨rfl, Below.refl _ _⟩, fun h => by omega, fun x h => by omega⟩
  · have F := refBest_any s k w h
    have hB := fun x => hi.best (k := k) (x := x) (by omega)
    cases hb : bestR k (runsUp s.free s.free.length) with
    | none =>
      rw [hb] at F
      have F := Lib.hid F
      have HP : Hid (∀ W, Below w.heap.size w W → RefTakePost s k w (.returned (.tuple #[.int .i64 0, .int .i64 3])) W) := fun W hW => ⟨fun h => absurd h hk, fun _ _ => ⟨rfl, hW⟩, fun x _ h => by rw [hb] at h; cases h⟩
      clear h hi hB hb
      obtain ⟨q, fg, tv, dv, free, its, ds, n⟩ := s
      dsimp only at *
      go_enter Try.func26, Try.ntmps26
      go_wp2_with fail
      refine F.out.mono ?_
      rintro e w1 ⟨rfl, hb1⟩
      rw [bestV_lit]
      dsimp only [runV, Option.isSome]
      go_wp2_with fail
      go_ret2
      exact HP.out _ (hb1.alloc hb1.size _)
    | some x =>
      rw [hb] at F
      obtain ⟨hx, hkx, hx0, hx1⟩ := hB x hb
      have F := Lib.hid F
      have hsm := hi.small
      have hx2 := ((runsUp_of s.free s.free.length).1.gaps).pos x hx
      have HP : Hid (∀ W s', RefStep s s' w W → TookRef s s' x k → RefTakePost s k w (.returned (.tuple #[.int .i64 x.1, .int .i64 0])) W) := fun W s' h1 h2 => ⟨fun h => absurd h hk, (fun _ h => by rw [hb] at h; cases h), fun y _ h => by rw [hb] at h; cases h; exact ⟨rfl, s', h1, h2⟩⟩
      have HI := Lib.hid (And.intro h (And.intro hi (And.intro hx hb)))
      clear h hi hB hb hx
      obtain ⟨q, fg, tv, dv, free, its, ds, n⟩ := s
      obtain ⟨x1, x2⟩ := x
      dsimp only at *
      obtain ⟨A, rfl⟩ := Int.eq_ofNat_of_zero_le hx0
      obtain ⟨K, rfl⟩ := Int.eq_ofNat_of_zero_le (show 0 ≤ k by omega)
      have hK1 : 1 ≤ K := by omega
      go_enter Try.func26, Try.ntmps26
      go_wp2_with fail
      refine F.out.mono ?_
      rintro e w1 ⟨rfl, hb1⟩
      rw [bestV_lit]
      dsimp only [runV, Option.isSome]
      go_wp2_with fail
      have hX : (w1.alloc (.cells #[.int .i64 (A : Int), .int .i64 x2] 77)).heap[w1.heap.size]? = some (.cells #[.int .i64 (A : Int), .int .i64 x2] 77 (0, 0)) := heap_alloc_new w1 _
      have hk1 : Kept No w (w1.alloc (.cells #[.int .i64 (A : Int), .int .i64 x2] 77)) := (Kept.of_below_size hb1).alloc _
      have hz1 := hb1.size
      generalize (w1.alloc (.cells #[.int .i64 (A : Int), .int .i64 x2] 77)) = W at *
      generalize hbx : w1.heap.size = bx at *
      have R0 := (RefStep.refl HI.out.1).no hk1
      have hql := R0.is.lt q (.inl rfl)
      have hbxl := lt_of_block hX
      have hbq : bx ≠ q := type_ne hX R0.is.obj (by decide)
      have x0 : W.cell? ⟨bx, 0, none⟩ = some (.int .i64 (A : Int)) := cellOf hX 0
      have y1 : W.cell? ⟨bx, 1, none⟩ = some (.int .i64 x2) := cellOf hX 1
      have HF : Hid (∀ W', Kept No W W' → Calls Try.prog 52 #[.pointer (some ⟨q, 1, none⟩), .int .i64 (8192 * x2 + (A : Int))] W' (DropKPost ⟨q, fg, tv, dv, free, its, ds, n⟩ (keyOf ((A : Int), x2)) W')) := fun W' hW => dropK_any _ _ W' ((R0.no hW).is) HI.out.2.1.srt ((HI.out.2.1.keys _).2 ⟨_, HI.out.2.2.1, rfl⟩)
      have HR := Lib.hid (And.intro R0 hX)
      clear R0 hX hk1 hb1
      have Hbx := Lib.hid hbx
      clear hbx
      have hw1 : IntKind.i64.wrap (8192 * x2) = 8192 * x2 := IntWalk.i64_in _ (by omega)
      have hw2 : IntKind.i64.wrap (8192 * x2 + (A : Int)) = 8192 * x2 + (A : Int) := IntWalk.i64_in _ (by omega)
      go_region_held3 (fun W => W.cell? ⟨bx, 0, none⟩ = some (.int .i64 (A : Int)) ∧ W.cell? ⟨bx, 1, none⟩ = some (.int .i64 x2))
        (first | go_keep | with_reducible exact ⟨s0, s1⟩)
        ((go_at_call 52; refine (HF.out _ (Kept.refl No W).drew).mono ?_; rintro e w2 ⟨vv, tv', rfl, hR2, hk2, hn2⟩; have s0 := (hk2.cell (i := 0) (k := bx) hbxl hbq).trans x0; have s1 := (hk2.cell (i := 1) (k := bx) hbxl hbq).trans y1))
      clear hw1 hw2
      go_wp2_with fail
      obtain ⟨hR0, hX⟩ := HR.out
      have R2 := (hR0.no (Kept.refl No W).drew).trans (RefStep.its (s := ⟨q, fg, tv, dv, free, its, ds, n⟩) hR2 hk2 hn2)
      have hX2 := hk2.at (block_drew hX) hbq
      dsimp only at R2
      have hrw := (runsUp_of free free.length).1
      have hgap := hrw.gaps
      have hgd := runsUp_good free free.length
      have hits2 : SrtI (delI (keyOf ((A : Int), x2)) its) ∧ (delI (keyOf ((A : Int), x2)) its).length ≤ 4096 ∧ (∀ y ∈ delI (keyOf ((A : Int), x2)) its, y.key ≠ keyOf ((A : Int) + K, x2 - K)) := by
        have hI := HI.out.2.1
        refine ⟨delI_srt hI.srt, Nat.le_trans delI_le hI.len, fun y hy e => ?_⟩
        have hyi : y ∈ its := (List.mem_filter.1 hy).1
        obtain ⟨z, hz, hzk⟩ := (hI.keys y.key).1 ⟨y, hyi, rfl⟩
        have hzf := hgd.fits z hz
        have hzx := keyOf_inj (x := z) (y := ((A : Int) + K, x2 - K)) ⟨hzf.1, by omega⟩ ⟨by dsimp only; omega, by dsimp only; omega⟩ (by rw [hzk, e])
        subst hzx
        rcases cov_other hgap HI.out.2.2.1 hz (by intro h; have := congrArg Prod.fst h; dsimp only at this; omega) with h | h <;> dsimp only at h hzf <;> omega
      obtain ⟨its2, hits⟩ : ∃ its2, delI (keyOf ((A : Int), x2)) its = its2 := ⟨_, rfl⟩
      rw [hits] at R2 hits2
      have Hits := Lib.hid hits
      have Hits2 := Lib.hid hits2
      obtain ⟨N, hN⟩ : ∃ N, N = free.length := ⟨_, rfl⟩
      rw [← hN] at hsm hx1
      have HN := Lib.hid hN
      have HR2 := Lib.hid (And.intro R2 hX2)
      clear hrw hgap hgd hits2 hits R2 hX2 hR0 hX hN hR2 hk2 hn2 x0 y1 s0 s1 hql hbxl
      go_loopg [8] K (fun m v8 wr => ∃ j : Nat, v8 = .int .i64 ((A : Int) + j) ∧ j ≤ K ∧ K - j ≤ m ∧ RefStep ⟨q, fg, tv, dv, free, its, ds, n⟩ ⟨q, fg, tv', dv, setR free A false j, its2, ds, n⟩ w wr ∧ wr.heap[bx]? = some (.cells #[.int .i64 (A : Int), .int .i64 x2] 77 (0, 0)))
      case atStart => exact ⟨0, by simp, Nat.zero_le _, Nat.le_refl _, HR2.out.1, HR2.out.2⟩
      case round =>
        obtain ⟨j, rfl, hj, hm, R3, hX3⟩ := hrel
        have x0 : wr.cell? ⟨bx, 0, none⟩ = some (.int .i64 (A : Int)) := cellOf hX3 0
        have x1 : wr.cell? ⟨bx, 1, none⟩ = some (.int .i64 x2) := cellOf hX3 1
        by_cases hlt : j < K
        · have hlt' : (A : Int) + j < A + K := by omega
          have c0 : wr.cell? ⟨q, 0, none⟩ = some (.slice (some ⟨fg, 0, none⟩) N N) := by
            have : wr.cell? ⟨q, 0, none⟩ = some (.slice (some ⟨fg, 0, none⟩) (setR free A false j).length (setR free A false j).length) := cellOf R3.is.obj 0
            rw [setR_length, ← HN.out] at this; exact this
          have hAN : A + j < N := by omega
          obtain ⟨b, hb⟩ : ∃ b, (setR free A false j)[A + j]? = some b := ⟨_, List.getElem?_eq_getElem (by rw [setR_length, ← HN.out]; exact hAN)⟩
          have cb : wr.cell? ⟨fg, A + j, none⟩ = some (.bool b) := by rw [cellOf R3.is.free, List.getElem?_toArray, List.getElem?_map, hb]; rfl
          have fb : wr.frozen? ⟨fg, A + j, none⟩ = false := freeOf R3.is.free _
          have hbf : bx ≠ fg := type_ne hX3 R3.is.free (by decide)
          have hX4 := block_set_other hX3 ⟨fg, A + j, none⟩ (.bool false) hbf
          have R4 := R3.free (A + j) false
          have H4 := Lib.hid (And.intro R4 hX4)
          have Hm := Lib.hid hm
          clear R3 hX3 R4 hX4 hm hb
          have hp0 : (0 : Int) ≤ (A : Int) + j := by omega
          have hp1 : (A : Int) + j < N := by omega
          have hp2 : ((A : Int) + j).toNat = A + j := by omega
          go_wp2
          go_roundg (K - (j + 1))
          case measure => have := Hm.out; omega
          case rel => exact ⟨j + 1, by go_num, by omega, Nat.le_refl _, H4.out.1, H4.out.2⟩
        · have hlt' : ¬ (A : Int) + j < A + K := by omega
          obtain rfl : j = K := by omega
          by_cases hgt : (j : Int) < x2
          · have hlen : (setR free A false j).length = N := by rw [setR_length, HN.out]
            have hI := HI.out.2.1
            have F48 := addK_any _ ((A : Int) + j, x2 - j) wr R3.is Hits2.out.1 Hits2.out.2.2 (by dsimp only; omega) (by dsimp only; omega) (by dsimp only; omega) (by dsimp only; omega) (by have := Hits2.out.2.1; dsimp only; omega) (by have := hI.n; dsimp only at *; omega)
            dsimp only at F48
            have F48 := Lib.hid F48
            have H3 := Lib.hid (And.intro R3 hX3)
            have hbxw := lt_of_block hX3
            have hbq' : bx ≠ q := hbq
            have Hhl := Lib.hid hlen
            clear R3 hX3 hm hI hlen
            go_wp2_with fail
            refine F48.out.mono ?_
            rintro e w4 ⟨rfl, tv4, hR4, hk4, hn4⟩
            have R4 := H3.out.1.trans (RefStep.its (s := ⟨q, fg, tv', dv, setR free A false j, its2, ds, n⟩) hR4 hk4 hn4)
            dsimp only at R4
            have hX4 := hk4.at H3.out.2 hbq
            have z0 : w4.cell? ⟨bx, 0, none⟩ = some (.int .i64 (A : Int)) := cellOf hX4 0
            have HF := HP.out _ _ R4 ⟨rfl, rfl, by dsimp only; rw [if_pos hgt], by dsimp only; rw [Int.toNat_natCast, Int.toNat_natCast], by dsimp only; rw [if_pos hgt, Hits.out]⟩
            have HF := Lib.hid HF
            clear hR4 hk4 hn4 R4 hX4 x0 x1
            go_wp2_with fail
            go_ret2
            exact HF.out
          · have HF := HP.out _ _ R3 ⟨rfl, rfl, by dsimp only; rw [if_neg hgt]; rfl, by dsimp only; rw [Int.toNat_natCast, Int.toNat_natCast], by dsimp only; rw [if_neg hgt, Hits.out]⟩
            have HF := Lib.hid HF
            clear R3 hX3 hm
            go_wp2_with fail
            go_ret2
            exact HF.out

end Go.Proofs.Ytdeebagjmhpocaa
