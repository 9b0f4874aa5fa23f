/- The reference's runs: Put. -/
import Derived.Test.YtdeebagjmhpocaaZ7
import Derived.Test.YtdeebagjmhpocaaZ11
import Derived.BigRegion
namespace Go.Proofs.Ytdeebagjmhpocaa
set_option linter.unusedSimpArgs false
set_option linter.unusedVariables false
open Go.RowKit

def FreeIn (free : List Bool) (a n : Nat) : Prop := ∃ p, a ≤ p ∧ p < a + n ∧ free.getD p false = true

def RefPutPost (s : FSt) (a n : Int) (w : World) (e : Ending) (w' : World) : Prop :=
  (¬ OkArgs s.free.length a n → e = .returned (.int .i64 1) ∧ Below w.heap.size w w') ∧
  (OkArgs s.free.length a n → FreeIn s.free a.toNat n.toNat → e = .returned (.int .i64 4) ∧ Below w.heap.size w w') ∧
  (OkArgs s.free.length a n → ¬ FreeIn s.free a.toNat n.toNat → e = .returned (.int .i64 0) ∧ ∃ s', RefStep s s' w w' ∧ PutRef s s' (runsUp s.free s.free.length) a n)

theorem refPut_bad (s : FSt) (a n : Int) (w : World) (h : RefIs w s) (hbad : ¬ OkArgs s.free.length a n) :
    Calls Try.prog 28 #[.pointer (some ⟨s.q, 0, none⟩), .int .i64 a, .int .i64 n] w (RefPutPost s a n w) := by
  obtain ⟨N, hN⟩ : ∃ N, N = s.free.length := ⟨_, rfl⟩
  have c0 : w.cell? ⟨s.q, 0, none⟩ = some (.slice (some ⟨s.fg, 0, none⟩) N N) := by rw [hN]; exact cellOf h.obj 0
  have HP : Hid (RefPutPost s a n w (.returned (.int .i64 1)) w) := ⟨fun _ => ⟨rfl, Below.refl _ _⟩, fun h => absurd h hbad, fun h => absurd h hbad⟩
  have hsm := h.fewFree
  rw [← hN] at hsm hbad
  unfold OkArgs at hbad
  clear h hN
  generalize s.q = q at *
  generalize s.fg = fg at *
  by_cases h1 : a < 0
  · go_enter Try.func28, Try.ntmps28
    go_wp2
    go_ret
    exact HP.out
  · by_cases h2 : n < 1
    · go_enter Try.func28, Try.ntmps28
      go_wp2
      go_ret
      exact HP.out
    · by_cases h3 : (N : Int) ≤ a
      · go_enter Try.func28, Try.ntmps28
        go_wp2
        go_ret
        exact HP.out
      · have h4 : (N : Int) - a < n := by omega
        clear hbad
        go_enter Try.func28, Try.ntmps28
        go_wp2
        go_ret
        exact HP.out

theorem delAllI_mem : ∀ (l : List R2) (its : List It) (y : It), y ∈ delAllI l its ↔ y ∈ its ∧ ∀ x ∈ l, y.key ≠ keyOf x
  | [], its, y => by simp [delAllI]
  | x :: l, its, y => by
    show y ∈ delAllI l (delI (keyOf x) its) ↔ _
    rw [delAllI_mem l]
    simp only [delI, List.mem_filter, decide_eq_true_eq, List.mem_cons, forall_eq_or_imp]
    constructor
    · rintro ⟨⟨h1, h2⟩, h3⟩; exact ⟨h1, h2, h3⟩
    · rintro ⟨h1, h2, h3⟩; exact ⟨⟨h1, h2⟩, h3⟩
theorem delAllI_len : ∀ (l : List R2) (its : List It), (delAllI l its).length ≤ its.length
  | [], its => Nat.le_refl _
  | x :: l, its => Nat.le_trans (delAllI_len l _) delI_le

def besideB (a n : Int) (x : R2) : Bool := decide (x.1 + x.2 = a ∨ x.1 = a + n)
theorem beside_near {xs : List R2} {a n : Int} (hg : Gaps xs) (hn : 1 ≤ n) (ho : ¬ Over xs a n) : xs.filter (besideB a n) = nearL xs a (a + n) := by
  unfold nearL
  refine List.filter_congr fun x hx => ?_
  have hp := hg.pos x hx
  unfold besideB
  have : ¬ (x.1 < a + n ∧ a < x.1 + x.2) := fun h => ho ⟨x, hx, h⟩
  by_cases h : x.1 + x.2 = a ∨ x.1 = a + n
  · simp only [h, decide_true]; simp; omega
  · simp only [h, decide_false]; simp; omega
theorem over_free {free : List Bool} {a n : Int} (h0 : 0 ≤ a) (hn : 1 ≤ n) (hN : a + n ≤ free.length) : Over (runsUp free free.length) a n ↔ FreeIn free a.toNat n.toNat := by
  have hr := (runsUp_of free free.length).1
  have hg := runsUp_good free free.length
  constructor
  · rintro ⟨x, hx, h1, h2⟩
    have hxp := hr.gaps.pos x hx
    have hxi := hg.fits x hx
    obtain ⟨e1, e2, e3⟩ := (hr.cov (max a x.1)).1 ⟨x, hx, by omega, by omega⟩
    exact ⟨(max a x.1).toNat, by omega, by omega, e3⟩
  · rintro ⟨p, h1, h2, h3⟩
    obtain ⟨x, hx, e1, e2⟩ := (hr.cov p).2 ⟨by omega, by omega, by rw [Int.toNat_natCast]; exact h3⟩
    exact ⟨x, hx, by omega, by omega⟩

theorem RefStep.box {s s1 : FSt} {w w1 : World} {bx : Nat} {cs : Array Value} (a : RefStep s s1 w w1) (hX : w1.heap[bx]? = some (.cells cs 77 (0, 0))) (hb : w.heap.size ≤ bx) (i : Nat) (v : Value) : RefStep s s1 w (w1.setCell ⟨bx, i, none⟩ v) := by
  have hk : Kept (· = bx) w1 (w1.setCell ⟨bx, i, none⟩ v) := (Kept.refl (· = bx) w1).setCell (p := ⟨bx, i, none⟩) (.inl rfl) v
  have hn : ∀ k, s1.fp k → ¬ k = bx := fun k hf e => by
    subst e
    unfold FSt.fp at hf
    rcases hf with hf | hf | hf | hf
    · exact type_ne a.is.obj hX (by decide) hf.symm
    · exact type_ne a.is.free hX (by decide) hf.symm
    · obtain ⟨cur, hc⟩ := ownsRow_type a.is.items hf; exact type_ne hc hX (by decide) rfl
    · obtain ⟨cur, hc⟩ := ownsRow_type a.is.draws hf; exact type_ne hc hX (by decide) rfl
  exact ⟨a.is.kept hk hn, a.kept.trans hk (fun k e => .inr (by have : k = bx := e; omega)), a.new⟩

set_option maxRecDepth 100000 in
set_option maxHeartbeats 8000000 in
theorem refPut_ok (s : FSt) (A n : Nat) (w : World) (h : RefIs w s) (hi : RInv s) (n1 : 1 ≤ n) (hap : A + n ≤ s.free.length) :
    Calls Try.prog 28 #[.pointer (some ⟨s.q, 0, none⟩), .int .i64 A, .int .i64 n] w (RefPutPost s A n w) := by
  have hok : OkArgs s.free.length A n := ⟨by omega, by omega, by omega⟩
  have HPT : Hid (FreeIn s.free A n → RefPutPost s A n w (.returned (.int .i64 4)) w) := fun ho => ⟨fun h => absurd hok h, fun _ _ => ⟨rfl, Below.refl _ _⟩, fun _ h => absurd ho h⟩
  have HPO : Hid (∀ W s', ¬ FreeIn s.free A n → RefStep s s' w W → PutRef s s' (runsUp s.free s.free.length) A n → RefPutPost s A n w (.returned (.int .i64 0)) W) := fun W s' ho h1 h2 => ⟨fun h => absurd hok h, fun _ h => absurd h ho, fun _ _ => ⟨rfl, s', h1, h2⟩⟩
  have HI := Lib.hid (And.intro h hi)
  obtain ⟨N, hN⟩ : ∃ N, N = s.free.length := ⟨_, rfl⟩
  have c0 : w.cell? ⟨s.q, 0, none⟩ = some (.slice (some ⟨s.fg, 0, none⟩) N N) := by rw [hN]; exact cellOf h.obj 0
  have hsm := hi.small
  have HFr : Hid (∀ i b, s.free[i]? = some b → w.cell? ⟨s.fg, i, none⟩ = some (.bool b)) := fun i b hb => by rw [cellOf h.free, List.getElem?_toArray, List.getElem?_map, hb]; rfl
  have hql := lt_of_block h.obj
  rw [← hN] at hap hsm
  have HN := Lib.hid hN
  obtain ⟨q, fg, tv, dv, free, its, ds, cnt⟩ := s
  dsimp only at *
  clear h hi hok hN
  have hA1 : (A : Int) + n ≤ N := by omega
  have hA2 : (n : Int) ≤ N - A := by omega
  go_enter Try.func28, Try.ntmps28
  go_wp2_with fail
  go_loopg [7] n (fun m v7 wr => ∃ j : Nat, v7 = .int .i64 ((A : Int) + j) ∧ j ≤ n ∧ n - j ≤ m ∧ (∀ p, A ≤ p → p < A + j → free.getD p false = false) ∧ w = wr)
  case atStart => exact ⟨0, by simp, Nat.zero_le _, Nat.le_refl _, fun p h1 h2 => by omega, rfl⟩
  case round =>
    obtain ⟨j, rfl, hj, hm, hno, rfl⟩ := hrel
    by_cases hlt : j < n
    · have hp1 : (A : Int) + j < A + n := by omega
      have hp2 : (A : Int) + j < N := by omega
      obtain ⟨b, hb⟩ : ∃ b, free[A + j]? = some b := ⟨_, List.getElem?_eq_getElem (by have := HN.out; omega)⟩
      have cb := HFr.out _ _ hb
      have hbd : free.getD (A + j) false = b := by rw [List.getD_eq_getElem?_getD, hb]; rfl
      cases b
      · have Hno : Hid (∀ p, A ≤ p → p < A + (j + 1) → free.getD p false = false) := fun p h1 h2 => by
          by_cases hpj : p = A + j
          · rw [hpj]; exact hbd
          · exact hno p h1 (by omega)
        have Hm := Lib.hid hm
        clear hm hno hb hbd
        go_wp2_with fail
        go_roundg (n - (j + 1))
        case measure => have := Hm.out; omega
        case rel => exact ⟨j + 1, by go_num, by omega, Nat.le_refl _, Hno.out, rfl⟩
      · have HF := Lib.hid (HPT.out ⟨A + j, by omega, by omega, hbd⟩)
        clear hm hno hb hbd
        go_wp2_with fail
        go_ret
        exact HF.out
    · obtain rfl : j = n := by omega
      have hnf : ¬ FreeIn free A j := by
        rintro ⟨p, h1, h2, h3⟩
        rw [hno p h1 h2] at h3; cases h3
      have HNF := Lib.hid hnf
      clear hno hm hnf
      go_wp2_with fail
      have hX : (w.alloc (.cells #[.int .i64 (A : Int), .int .i64 (j : Int)] 77)).heap[w.heap.size]? = some (.cells #[.int .i64 (A : Int), .int .i64 (j : Int)] 77 (0, 0)) := heap_alloc_new w _
      have hk0 : Kept No w (w.alloc (.cells #[.int .i64 (A : Int), .int .i64 (j : Int)] 77)) := (Kept.refl No w).alloc _
      generalize (w.alloc (.cells #[.int .i64 (A : Int), .int .i64 (j : Int)] 77)) = W at *
      have R0 := (RefStep.refl HI.out.1).no hk0
      refine (refListN_any _ W R0.is).mono ?_
      rintro e w1 ⟨v, rfl, hrow, hb1, hnew⟩
      dsimp only at hrow
      have R1 := R0.no (Kept.of_below_size hb1)
      have hX1 := (hb1.block _ (lt_of_block hX)).trans hX
      have hr := (runsUp_of free free.length).1
      have hgd := runsUp_good free free.length
      obtain ⟨l, hl⟩ : ∃ l, runsUp free free.length = l := ⟨_, rfl⟩
      have Hl := Lib.hid hl
      have hov : ¬ Over l A j := fun h => HNF.out (by have := (over_free (a := (A : Int)) (n := (j : Int)) (by omega) (by omega) (by rw [← HN.out]; omega)).1 (by rw [hl]; exact h); simpa using this)
      have hkeys := HI.out.2.keys
      have hgap := hr.gaps
      rw [hl] at hrow hgd hgap
      simp only [hl] at hkeys
      clear hl hr
      obtain ⟨M, hM⟩ : ∃ M, M = l.length := ⟨_, rfl⟩
      rw [← hM] at hrow
      obtain ⟨va, vc, rfl⟩ : ∃ a c, v = .slice a M c := by
        rcases hrow with ⟨rfl, h0⟩ | ⟨g, c, rfl, _⟩
        · exact ⟨none, 0, by rw [h0]⟩
        · exact ⟨_, _, rfl⟩
      have hbq : w.heap.size ≠ q := by omega
      have hbxl := lt_of_block hX1
      have hcell : Hid (∀ i x, l[i]? = some x → ∃ g, va = some ⟨g, 0, none⟩ ∧ g < w1.heap.size ∧ g ≠ w.heap.size ∧ g ≠ q ∧ w1.cell? ⟨g, i * 2, none⟩ = some (.int .i64 x.1) ∧ w1.cell? ⟨g, i * 2 + 1, none⟩ = some (.int .i64 x.2)) := fun i x hx => by
        rcases hrow with ⟨h1, h0⟩ | ⟨g, c, h1, h2, h3⟩
        · have := (List.getElem?_eq_some_iff.1 hx).1; omega
        · cases h1
          obtain ⟨k1, k2⟩ := runCells_get l i x hx
          have h4 := hnew g rfl
          have h5 := lt_of_block hX
          have h6 := hk0.size
          exact ⟨g, rfl, h2, by omega, by omega, h3 _ _ k1, h3 _ _ k2⟩
      have HM := Lib.hid hM
      have hfl4 : free.length ≤ 4096 := by have := HN.out; omega
      have hMl : M ≤ 4096 := by have := hgd.few; have := HN.out; omega
      have H1 := Lib.hid (And.intro R1 (And.intro hX1 (And.intro hgd (And.intro hgap (And.intro hkeys hov)))))
      clear hX hk0 R0 hrow hb1 hnew R1 hX1 hgd hgap hkeys hov hM c0 HFr
      go_wp2_with fail
      generalize hbx : w.heap.size = bx at *
      have Hbx := Lib.hid hbx
      clear hbx
      go_loopg [10] M (fun m v10 wr => ∃ (k : Nat) (tvk : Value), v10 = .int .i64 k ∧ k ≤ M ∧ M - k ≤ m ∧ RefStep ⟨q, fg, tv, dv, free, its, ds, cnt⟩ ⟨q, fg, tvk, dv, free, delAllI ((l.take k).filter (besideB A j)) its, ds, cnt⟩ w wr ∧
        wr.heap[bx]? = some (.cells #[.int .i64 (mergeL ((A : Int), (j : Int)) ((l.take k).filter (besideB A j))).1, .int .i64 (mergeL ((A : Int), (j : Int)) ((l.take k).filter (besideB A j))).2] 77 (0, 0)) ∧ Kept (fun b => b = bx ∨ b = q) w1 wr)
      case atStart => exact ⟨0, tv, rfl, Nat.zero_le _, Nat.le_refl _, H1.out.1, H1.out.2.1, Kept.refl _ _⟩
      case round =>
        obtain ⟨k, tvk, rfl, hkM, hm, hR, hX, hk⟩ := hrel
        by_cases hlt : k < M
        · obtain ⟨x, hx⟩ : ∃ x, l[k]? = some x := ⟨_, List.getElem?_eq_getElem (by have := HM.out; omega)⟩
          obtain ⟨g, rfl, hgl, hgb, hgq, k1, k2⟩ := hcell.out k x hx
          have d0 := (hk.cell (i := k * 2) hgl (fun h => h.elim hgb hgq)).trans k1
          have d1 := (hk.cell (i := k * 2 + 1) hgl (fun h => h.elim hgb hgq)).trans k2
          have hxl := List.mem_of_getElem? hx
          have hxf := H1.out.2.2.1.fits x hxl
          have htk : l.take (k + 1) = l.take k ++ [x] := by rw [List.take_add_one, hx]; rfl
          have hfit := mergeL_fit ((l.take k).filter (besideB A j)) ((A : Int), (j : Int)) 40000000 (by dsimp only; omega) (by dsimp only; omega) (by have h1 := List.length_filter_le (besideB A j) (l.take k); rw [List.length_take] at h1; dsimp only; omega) (fun y hy => by
            have := H1.out.2.2.1.fits y (List.mem_of_mem_take (List.mem_filter.1 hy).1); omega)
          have x0 : wr.cell? ⟨bx, 0, none⟩ = some (.int .i64 (mergeL ((A : Int), (j : Int)) ((l.take k).filter (besideB A j))).1) := cellOf hX 0
          have y0 : wr.cell? ⟨bx, 1, none⟩ = some (.int .i64 (mergeL ((A : Int), (j : Int)) ((l.take k).filter (besideB A j))).2) := cellOf hX 1
          have e0 : wr.frozen? ⟨bx, 0, none⟩ = false := freeOf hX 0
          have e1 : wr.frozen? ⟨bx, 1, none⟩ = false := freeOf hX 1
          have hgw : g < wr.heap.size := Nat.lt_of_lt_of_le hgl hk.size
          have hbw := lt_of_block hX
          have hqw := lt_of_block hR.is.obj
          have hkI : (k : Int) < M := by omega
          by_cases hc : besideB A j x = true
          · have hfl : (l.take (k + 1)).filter (besideB A j) = (l.take k).filter (besideB A j) ++ [x] := by rw [htk, List.filter_append]; simp [hc]
            have hor : x.1 + x.2 = A ∨ x.1 = (A : Int) + j := by unfold besideB at hc; simpa using hc
            have hnext : Hid (mergeL ((A : Int), (j : Int)) ((l.take (k + 1)).filter (besideB A j)) = (min (mergeL ((A : Int), (j : Int)) ((l.take k).filter (besideB A j))).1 x.1, (mergeL ((A : Int), (j : Int)) ((l.take k).filter (besideB A j))).2 + x.2)) := by unfold Hid; rw [hfl, mergeL_append]
            have hits : Hid (delAllI ((l.take (k + 1)).filter (besideB A j)) its = delI (keyOf x) (delAllI ((l.take k).filter (besideB A j)) its)) := by unfold Hid; rw [hfl, delAllI_snoc]
            have hF : Hid (∀ W', Kept No wr W' → Calls Try.prog 52 #[.pointer (some ⟨q, 1, none⟩), .int .i64 (8192 * x.2 + x.1)] W' (DropKPost ⟨q, fg, tvk, dv, free, delAllI ((l.take k).filter (besideB A j)) its, ds, cnt⟩ (keyOf x) W')) := fun W' hW' =>
              dropK_any _ _ W' (hR.no hW').is (delAllI_srt _ _ HI.out.2.srt) (by
                obtain ⟨y, hy, hyk⟩ := (H1.out.2.2.2.2.1 (keyOf x)).2 ⟨x, hxl, rfl⟩
                refine ⟨y, (delAllI_mem _ _ _).2 ⟨hy, fun z hz e => ?_⟩, hyk⟩
                have hz' := (List.mem_filter.1 hz).1
                have hzl := List.mem_of_mem_take hz'
                have hzf := H1.out.2.2.1.fits z hzl
                have hzx : z = x := keyOf_inj ⟨hzf.1, by omega⟩ ⟨hxf.1, by omega⟩ (by rw [← e, hyk])
                subst hzx
                have hnd := gaps_nodup H1.out.2.2.2.1
                rw [← List.take_append_drop k l] at hnd
                exact (List.nodup_append.1 hnd).2.2 z hz' z (List.mem_of_getElem? (i := 0) (by rw [List.getElem?_drop]; exact hx)) rfl)
            have HN2 := Lib.hid (And.intro hR (And.intro hX hk))
            generalize mergeL ((A : Int), (j : Int)) ((l.take k).filter (besideB A j)) = mm at *
            obtain ⟨m1, m2⟩ := mm
            obtain ⟨x1, x2⟩ := x
            dsimp only at *
            have Hm := Lib.hid hm
            have Hor := Lib.hid hor
            clear hx htk hR hX hk hfl hm hc hxl k1 k2 hor
            have hw1 : IntKind.i64.wrap (x1 + x2) = x1 + x2 := IntWalk.i64_in _ (by omega)
            have hw2 : IntKind.i64.wrap ((A : Int) + j) = (A : Int) + j := IntWalk.i64_in _ (by omega)
            have hw3 : IntKind.i64.wrap (8192 * x2) = 8192 * x2 := IntWalk.i64_in _ (by omega)
            have hw4 : IntKind.i64.wrap (8192 * x2 + x1) = 8192 * x2 + x1 := IntWalk.i64_in _ (by omega)
            have hbq' : bx ≠ q := hbq
            by_cases t1' : x1 + x2 = A
            · have t1 : (x1 + x2 == (A : Int)) = true := by simpa using t1'
              clear t1'
              go_wp2_with fail
              go_quiet (fail)
              go_wp2_with fail
              go_region_held3 (fun W' => W'.cell? ⟨g, k * 2, none⟩ = some (.int .i64 x1) ∧ W'.cell? ⟨g, k * 2 + 1, none⟩ = some (.int .i64 x2))
                (first | go_keep | with_reducible exact ⟨s0, s1⟩)
                ((go_at_call 52; refine (hF.out _ (by first | exact (Kept.refl No wr).drewN _ | exact ((Kept.refl No wr).drewN _).drew)).mono ?_; rintro e w4 ⟨vv, tv4, rfl, hR4, hk4, hn4⟩; have s0 := (hk4.cell (k := g) (i := k * 2) hgw hgq).trans d0; have s1 := (hk4.cell (k := g) (i := k * 2 + 1) hgw hgq).trans d1))
              clear hw1 hw2 hw3 hw4
              obtain ⟨hR, hX, hk⟩ := HN2.out
              have R4 := (hR.no (by first | exact (Kept.refl No wr).drewN _ | exact ((Kept.refl No wr).drewN _).drew)).trans (RefStep.its (s := ⟨q, fg, tvk, dv, free, delAllI ((l.take k).filter (besideB A j)) its, ds, cnt⟩) hR4 hk4 hn4)
              have hX4 := hk4.at hX hbq
              have hkk : Kept (fun b => b = bx ∨ b = q) w1 w4 := (Kept.trans (G := No) hk (by first | exact (Kept.refl No wr).drewN _ | exact ((Kept.refl No wr).drewN _).drew) (fun _ h => h.elim)).trans hk4 (fun b e => .inl (.inr e))
              dsimp only at R4
              rw [← hits.out] at R4
              have z0 : w4.cell? ⟨bx, 0, none⟩ = some (.int .i64 m1) := cellOf hX4 0
              have z1 : w4.cell? ⟨bx, 1, none⟩ = some (.int .i64 m2) := cellOf hX4 1
              have z2 : w4.frozen? ⟨bx, 0, none⟩ = false := freeOf hX4 0
              have z3 : w4.frozen? ⟨bx, 1, none⟩ = false := freeOf hX4 1
              have s0 := (hk4.cell (k := g) (i := k * 2) hgw hgq).trans d0
              have s1 := (hk4.cell (k := g) (i := k * 2 + 1) hgw hgq).trans d1
              have H4 := Lib.hid (And.intro R4 (And.intro hX4 hkk))
              clear hR hX hk R4 hX4 hkk hR4 hk4 hn4 d0 d1 x0 y0 e0 e1
              go_wp2_with fail
              go_region
              all_goals
                obtain ⟨R4, hX4, hkk⟩ := H4.out
                have R5 := (R4.box hX4 (Nat.le_of_eq Hbx.out) 1 (.int .i64 (m2 + x2))).no (Kept.refl No _).drew
                have hX5 : (w4.setCell ⟨bx, 1, none⟩ (.int .i64 (m2 + x2))).drew.heap[bx]? = some (.cells #[.int .i64 m1, .int .i64 (m2 + x2)] 77 (0, 0)) := block_set hX4 1 _
                have hk5 : Kept (fun b => b = bx ∨ b = q) w1 (w4.setCell ⟨bx, 1, none⟩ (.int .i64 (m2 + x2))).drew := (hkk.setCell (p := ⟨bx, 1, none⟩) (.inl (.inl rfl)) _).drew
                have u0 : (w4.setCell ⟨bx, 1, none⟩ (.int .i64 (m2 + x2))).drew.cell? ⟨g, k * 2, none⟩ = some (.int .i64 x1) := (World.cell?_of_block (w := w4) (Below.heap_setCell w4 ⟨bx, 1, none⟩ _ g (by simpa using hgb))).trans s0
                clear R4 hX4 hkk z0 z1 z2 z3 s0 s1
                generalize (w4.setCell ⟨bx, 1, none⟩ (.int .i64 (m2 + x2))).drew = w5 at *
                have z0 : w5.cell? ⟨bx, 0, none⟩ = some (.int .i64 m1) := cellOf hX5 0
                have z2 : w5.frozen? ⟨bx, 0, none⟩ = false := freeOf hX5 0
                have H5 := Lib.hid (And.intro R5 (And.intro hX5 hk5))
                clear R5 hX5 hk5 H4
                go_wp2_with fail
                go_region
                all_goals
                  have H6 : Hid (∀ z : Int, RefStep ⟨q, fg, tv, dv, free, its, ds, cnt⟩ ⟨q, fg, tv4, dv, free, delAllI ((l.take (k + 1)).filter (besideB A j)) its, ds, cnt⟩ w (w5.setCell ⟨bx, 0, none⟩ (.int .i64 z)).drew ∧ (w5.setCell ⟨bx, 0, none⟩ (.int .i64 z)).drew.heap[bx]? = some (.cells #[.int .i64 z, .int .i64 (m2 + x2)] 77 (0, 0)) ∧ Kept (fun b => b = bx ∨ b = q) w1 (w5.setCell ⟨bx, 0, none⟩ (.int .i64 z)).drew) := fun z =>
                    ⟨(H5.out.1.box H5.out.2.1 (Nat.le_of_eq Hbx.out) 0 _).no (Kept.refl No _).drew, block_set H5.out.2.1 0 _, (H5.out.2.2.setCell (p := ⟨bx, 0, none⟩) (.inl (.inl rfl)) _).drew⟩
                  clear H5
                  go_wp2_with fail
                  all_goals
                    go_roundg (M - (k + 1))
                    case measure => have := Hm.out; omega
                    case rel => exact ⟨k + 1, tv4, by go_num, by omega, Nat.le_refl _, (H6.out _).1, by (rw [hnext.out]; dsimp only; first | (rw [show min m1 x1 = m1 by omega]; exact (H6.out _).2.1) | (rw [show min m1 x1 = x1 by omega]; exact (H6.out _).2.1)), (H6.out _).2.2⟩
            · have t1 : (x1 + x2 == (A : Int)) = false := by simpa using t1'
              have t2 : (x1 == (A : Int) + j) = true := by have := Hor.out.resolve_left t1'; simpa using this
              clear t1'
              go_wp2_with fail
              go_quiet (fail)
              go_wp2_with fail
              go_region_held3 (fun W' => W'.cell? ⟨g, k * 2, none⟩ = some (.int .i64 x1) ∧ W'.cell? ⟨g, k * 2 + 1, none⟩ = some (.int .i64 x2))
                (first | go_keep | with_reducible exact ⟨s0, s1⟩)
                ((go_at_call 52; refine (hF.out _ (by first | exact (Kept.refl No wr).drewN _ | exact ((Kept.refl No wr).drewN _).drew)).mono ?_; rintro e w4 ⟨vv, tv4, rfl, hR4, hk4, hn4⟩; have s0 := (hk4.cell (k := g) (i := k * 2) hgw hgq).trans d0; have s1 := (hk4.cell (k := g) (i := k * 2 + 1) hgw hgq).trans d1))
              clear hw1 hw2 hw3 hw4
              obtain ⟨hR, hX, hk⟩ := HN2.out
              have R4 := (hR.no (by first | exact (Kept.refl No wr).drewN _ | exact ((Kept.refl No wr).drewN _).drew)).trans (RefStep.its (s := ⟨q, fg, tvk, dv, free, delAllI ((l.take k).filter (besideB A j)) its, ds, cnt⟩) hR4 hk4 hn4)
              have hX4 := hk4.at hX hbq
              have hkk : Kept (fun b => b = bx ∨ b = q) w1 w4 := (Kept.trans (G := No) hk (by first | exact (Kept.refl No wr).drewN _ | exact ((Kept.refl No wr).drewN _).drew) (fun _ h => h.elim)).trans hk4 (fun b e => .inl (.inr e))
              dsimp only at R4
              rw [← hits.out] at R4
              have z0 : w4.cell? ⟨bx, 0, none⟩ = some (.int .i64 m1) := cellOf hX4 0
              have z1 : w4.cell? ⟨bx, 1, none⟩ = some (.int .i64 m2) := cellOf hX4 1
              have z2 : w4.frozen? ⟨bx, 0, none⟩ = false := freeOf hX4 0
              have z3 : w4.frozen? ⟨bx, 1, none⟩ = false := freeOf hX4 1
              have s0 := (hk4.cell (k := g) (i := k * 2) hgw hgq).trans d0
              have s1 := (hk4.cell (k := g) (i := k * 2 + 1) hgw hgq).trans d1
              have H4 := Lib.hid (And.intro R4 (And.intro hX4 hkk))
              clear hR hX hk R4 hX4 hkk hR4 hk4 hn4 d0 d1 x0 y0 e0 e1
              go_wp2_with fail
              go_region
              all_goals
                obtain ⟨R4, hX4, hkk⟩ := H4.out
                have R5 := (R4.box hX4 (Nat.le_of_eq Hbx.out) 1 (.int .i64 (m2 + x2))).no (Kept.refl No _).drew
                have hX5 : (w4.setCell ⟨bx, 1, none⟩ (.int .i64 (m2 + x2))).drew.heap[bx]? = some (.cells #[.int .i64 m1, .int .i64 (m2 + x2)] 77 (0, 0)) := block_set hX4 1 _
                have hk5 : Kept (fun b => b = bx ∨ b = q) w1 (w4.setCell ⟨bx, 1, none⟩ (.int .i64 (m2 + x2))).drew := (hkk.setCell (p := ⟨bx, 1, none⟩) (.inl (.inl rfl)) _).drew
                have u0 : (w4.setCell ⟨bx, 1, none⟩ (.int .i64 (m2 + x2))).drew.cell? ⟨g, k * 2, none⟩ = some (.int .i64 x1) := (World.cell?_of_block (w := w4) (Below.heap_setCell w4 ⟨bx, 1, none⟩ _ g (by simpa using hgb))).trans s0
                clear R4 hX4 hkk z0 z1 z2 z3 s0 s1
                generalize (w4.setCell ⟨bx, 1, none⟩ (.int .i64 (m2 + x2))).drew = w5 at *
                have z0 : w5.cell? ⟨bx, 0, none⟩ = some (.int .i64 m1) := cellOf hX5 0
                have z2 : w5.frozen? ⟨bx, 0, none⟩ = false := freeOf hX5 0
                have H5 := Lib.hid (And.intro R5 (And.intro hX5 hk5))
                clear R5 hX5 hk5 H4
                go_wp2_with fail
                go_region
                all_goals
                  have H6 : Hid (∀ z : Int, RefStep ⟨q, fg, tv, dv, free, its, ds, cnt⟩ ⟨q, fg, tv4, dv, free, delAllI ((l.take (k + 1)).filter (besideB A j)) its, ds, cnt⟩ w (w5.setCell ⟨bx, 0, none⟩ (.int .i64 z)).drew ∧ (w5.setCell ⟨bx, 0, none⟩ (.int .i64 z)).drew.heap[bx]? = some (.cells #[.int .i64 z, .int .i64 (m2 + x2)] 77 (0, 0)) ∧ Kept (fun b => b = bx ∨ b = q) w1 (w5.setCell ⟨bx, 0, none⟩ (.int .i64 z)).drew) := fun z =>
                    ⟨(H5.out.1.box H5.out.2.1 (Nat.le_of_eq Hbx.out) 0 _).no (Kept.refl No _).drew, block_set H5.out.2.1 0 _, (H5.out.2.2.setCell (p := ⟨bx, 0, none⟩) (.inl (.inl rfl)) _).drew⟩
                  clear H5
                  go_wp2_with fail
                  all_goals
                    go_roundg (M - (k + 1))
                    case measure => have := Hm.out; omega
                    case rel => exact ⟨k + 1, tv4, by go_num, by omega, Nat.le_refl _, (H6.out _).1, by (rw [hnext.out]; dsimp only; first | (rw [show min m1 x1 = m1 by omega]; exact (H6.out _).2.1) | (rw [show min m1 x1 = x1 by omega]; exact (H6.out _).2.1)), (H6.out _).2.2⟩
          · have hc' : besideB A j x = false := by simpa using hc
            have hfl : (l.take (k + 1)).filter (besideB A j) = (l.take k).filter (besideB A j) := by rw [htk, List.filter_append]; simp [hc']
            have hne : ¬ (x.1 + x.2 = A) ∧ ¬ (x.1 = (A : Int) + j) := by unfold besideB at hc'; simpa using hc'
            obtain ⟨x1, x2⟩ := x
            dsimp only at *
            have t1 : (x1 + x2 == (A : Int)) = false := by simpa using hne.1
            have t2 : (x1 == (A : Int) + j) = false := by simpa using hne.2
            have HN2 := Lib.hid (And.intro hR (And.intro hX hk))
            have Hfl := Lib.hid hfl
            have Hm := Lib.hid hm
            clear hx htk hR hX hk hfl hm hc hc' hne hxl hfit k1 k2 x0 y0
            have hw1 : IntKind.i64.wrap (x1 + x2) = x1 + x2 := IntWalk.i64_in _ (by omega)
            have hw2 : IntKind.i64.wrap ((A : Int) + j) = (A : Int) + j := IntWalk.i64_in _ (by omega)
            go_wp2_with fail
            go_quiet (fail)
            clear hw1 hw2
            go_wp2_with fail
            go_roundg (M - (k + 1))
            case measure => have := Hm.out; omega
            case rel => exact ⟨k + 1, tvk, by go_num, by omega, Nat.le_refl _, by rw [Hfl.out]; exact HN2.out.1.no ((Kept.refl No _).drewN _), by rw [Hfl.out]; exact HN2.out.2.1, HN2.out.2.2.trans ((Kept.refl No _).drewN _) (fun _ h => h.elim)⟩
        · obtain rfl : k = M := by omega
          have hgap := H1.out.2.2.2.1
          have hgd := H1.out.2.2.1
          have hkeys := H1.out.2.2.2.2.1
          have hov := H1.out.2.2.2.2.2
          rw [List.take_of_length_le (by have := HM.out; omega)] at hR hX
          rw [beside_near hgap (by omega) hov] at hR hX
          have hWO := whole_ok (pages := (N : Int)) hgap (a := (A : Int)) (n := (j : Int)) (by omega) (by omega) (by omega) (fun x hx => by have := hgd.fits x hx; have := HN.out; omega) hov
          have hits : SrtI (delAllI (nearL l A (A + j)) its) ∧ (delAllI (nearL l A (A + j)) its).length ≤ 4096 ∧ (∀ y ∈ delAllI (nearL l A (A + j)) its, y.key ≠ keyOf (mergeL ((A : Int), (j : Int)) (nearL l A (A + j)))) := by
            refine ⟨delAllI_srt _ _ HI.out.2.srt, Nat.le_trans (delAllI_len _ _) HI.out.2.len, fun y hy e => ?_⟩
            obtain ⟨hyi, hyn⟩ := (delAllI_mem _ _ _).1 hy
            obtain ⟨z, hz, hzk⟩ := (hkeys y.key).1 ⟨y, hyi, rfl⟩
            have hzf := hgd.fits z hz
            have hzw := keyOf_inj (x := z) ⟨hzf.1, by omega⟩ (y := mergeL ((A : Int), (j : Int)) (nearL l A (A + j))) ⟨hWO.lo, by have := hWO.hi; have := hWO.pos; omega⟩ (by rw [hzk, e])
            have hzn : z ∉ nearL l A (A + j) := fun h => hyn z h hzk.symm
            have := hWO.apart z hz hzn
            rw [← hzw] at this
            omega
          have hPR : Hid (∀ tv' : Value, PutRef ⟨q, fg, tv, dv, free, its, ds, cnt⟩ ⟨q, fg, tv', dv, setR free A true j, insIt (itOf (mergeL ((A : Int), (j : Int)) (nearL l A (A + j))) (drawOf ds cnt)) (delAllI (nearL l A (A + j)) its), ds, cnt + 1⟩ (runsUp free free.length) A j) := fun tv' =>
            ⟨rfl, rfl, rfl, by dsimp only; rw [Int.toNat_natCast, Int.toNat_natCast], by rw [Hl.out]⟩
          have hw0 := hWO.lo
          have hw1 := hWO.pos
          have hw2 := hWO.hi
          generalize mergeL ((A : Int), (j : Int)) (nearL l A (A + j)) = whole at *
          generalize delAllI (nearL l A (A + j)) its = itsn at *
          obtain ⟨m1, m2⟩ := whole
          dsimp only at *
          have Hits := Lib.hid hits
          have HR := Lib.hid (And.intro hR hX)
          have hkM : ¬ (k : Int) < k := by omega
          clear hgap hgd hkeys hov hR hX hWO hits hk hm
          go_wp2_with fail
          go_loopg [11] j (fun m v11 wr => ∃ i : Nat, v11 = .int .i64 ((A : Int) + i) ∧ i ≤ j ∧ j - i ≤ m ∧ RefStep ⟨q, fg, tv, dv, free, its, ds, cnt⟩ ⟨q, fg, tvk, dv, setR free A true i, itsn, ds, cnt⟩ w wr ∧ wr.heap[bx]? = some (.cells #[.int .i64 m1, .int .i64 m2] 77 (0, 0)))
          case atStart => exact ⟨0, by simp, Nat.zero_le _, Nat.le_refl _, HR.out.1, HR.out.2⟩
          case round =>
            obtain ⟨i, rfl, hi, hm, R3, hX3⟩ := hrel
            by_cases hlt : i < j
            · have hlt' : (A : Int) + i < A + j := by omega
              have c0 : wr.cell? ⟨q, 0, none⟩ = some (.slice (some ⟨fg, 0, none⟩) N N) := by
                have : wr.cell? ⟨q, 0, none⟩ = some (.slice (some ⟨fg, 0, none⟩) (setR free A true i).length (setR free A true i).length) := cellOf R3.is.obj 0
                rw [setR_length, ← HN.out] at this; exact this
              have hAN : A + i < N := by omega
              obtain ⟨b, hb⟩ : ∃ b, (setR free A true i)[A + i]? = some b := ⟨_, List.getElem?_eq_getElem (by rw [setR_length, ← HN.out]; exact hAN)⟩
              have cb : wr.cell? ⟨fg, A + i, none⟩ = some (.bool b) := by rw [cellOf R3.is.free, List.getElem?_toArray, List.getElem?_map, hb]; rfl
              have fb : wr.frozen? ⟨fg, A + i, none⟩ = false := freeOf R3.is.free _
              have hbf : bx ≠ fg := type_ne hX3 R3.is.free (by decide)
              have hX4 := block_set_other hX3 ⟨fg, A + i, none⟩ (.bool true) hbf
              have R4 := R3.free (A + i) true
              have H4 := Lib.hid (And.intro R4 hX4)
              have Hm := Lib.hid hm
              clear R3 hX3 R4 hX4 hm hb
              have hp0 : (0 : Int) ≤ (A : Int) + i := by omega
              have hp1 : (A : Int) + i < N := by omega
              have hp2 : ((A : Int) + i).toNat = A + i := by omega
              go_wp2
              go_roundg (j - (i + 1))
              case measure => have := Hm.out; omega
              case rel => exact ⟨i + 1, by go_num, by omega, Nat.le_refl _, H4.out.1, H4.out.2⟩
            · have hlt' : ¬ (A : Int) + i < A + j := by omega
              obtain rfl : i = j := by omega
              have F48 := addK_any _ (m1, m2) wr R3.is Hits.out.1 Hits.out.2.2 hw0 (by dsimp only; omega) (by dsimp only; omega) (by dsimp only; omega) (by have := Hits.out.2.1; dsimp only; omega) (by have := HI.out.2.n; dsimp only at *; omega)
              dsimp only at F48
              have F48 := Lib.hid F48
              have H3 := Lib.hid R3
              have x0 : wr.cell? ⟨bx, 0, none⟩ = some (.int .i64 m1) := cellOf hX3 0
              have x1 : wr.cell? ⟨bx, 1, none⟩ = some (.int .i64 m2) := cellOf hX3 1
              clear R3 hX3 hm
              go_wp2_with fail
              refine F48.out.mono ?_
              rintro e w4 ⟨rfl, tv4, hR4, hk4, hn4⟩
              have R4 := H3.out.trans (RefStep.its (s := ⟨q, fg, tvk, dv, setR free A true i, itsn, ds, cnt⟩) hR4 hk4 hn4)
              dsimp only at R4
              have HF := HPO.out w4 _ HNF.out R4 (hPR.out tv4)
              have HF := Lib.hid HF
              clear hR4 hk4 hn4 R4
              go_wp2_with fail
              go_ret
              exact HF.out

theorem refPut_any (s : FSt) (a n : Int) (w : World) (h : RefIs w s) (hi : RInv s) :
    Calls Try.prog 28 #[.pointer (some ⟨s.q, 0, none⟩), .int .i64 a, .int .i64 n] w (RefPutPost s a n w) := by
  by_cases hok : OkArgs s.free.length a n
  · obtain ⟨h1, h2, h3⟩ := hok
    obtain ⟨A, rfl⟩ := Int.eq_ofNat_of_zero_le h1
    obtain ⟨N, rfl⟩ := Int.eq_ofNat_of_zero_le (show 0 ≤ n by omega)
    exact refPut_ok s A N w h hi (by omega) (by omega)
  · exact refPut_bad s a n w h hok

end Go.Proofs.Ytdeebagjmhpocaa
