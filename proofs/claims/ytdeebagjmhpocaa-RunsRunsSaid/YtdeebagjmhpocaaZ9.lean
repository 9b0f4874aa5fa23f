/- The runs beside some pages: the iterator near, collected. -/
import Derived.Test.YtdeebagjmhpocaaE4
import Derived.Test.YtdeebagjmhpocaaS2
namespace Go.Proofs.Ytdeebagjmhpocaa
set_option linter.unusedSimpArgs false
set_option linter.unusedVariables false
open Go.RowKit Go.Shelf
attribute [local go_sem] Oper.semAt_some

theorem takeWhile_at {α : Type} (p : α → Bool) : ∀ (l : List α) (j : Nat) (x : α), j ≤ (l.takeWhile p).length → l[j]? = some x → (p x = true → (l.takeWhile p)[j]? = some x) ∧ (p x = false → (l.takeWhile p).length = j)
  | [], j, x, _, h => by simp at h
  | y :: l, 0, x, _, h => by
    simp at h; subst h
    constructor
    · intro hp; simp [List.takeWhile_cons, hp]
    · intro hp; simp [List.takeWhile_cons, hp]
  | y :: l, j + 1, x, hj, h => by
    cases hy : p y with
    | false => simp [List.takeWhile_cons, hy] at hj
    | true =>
      simp only [List.takeWhile_cons, hy, if_true, List.length_cons, List.getElem?_cons_succ] at hj ⊢
      obtain ⟨h1, h2⟩ := takeWhile_at p l j x (by omega) (by simpa using h)
      exact ⟨h1, fun hp => by rw [h2 hp]⟩

def nearW (xs : List R2) (i : Nat) (e : Int) : List R2 := (xs.drop i).takeWhile (fun x => decide (x.1 ≤ e))

theorem takeWhile_filter_sorted (e : Int) : ∀ (l : List R2), Gaps l → l.takeWhile (fun x => decide (x.1 ≤ e)) = l.filter (fun x => decide (x.1 ≤ e))
  | [], _ => rfl
  | x :: l, h => by
    have ih := takeWhile_filter_sorted e l (gaps_tail h)
    have hp := h.pos x (by simp)
    have hx := (List.pairwise_cons.1 h.gap).1
    by_cases he : x.1 ≤ e
    · simp only [List.takeWhile_cons, List.filter_cons, he, decide_true, if_true, ih]
    · simp only [List.takeWhile_cons, List.filter_cons, he, decide_false, Bool.false_eq_true, if_false]
      exact (List.filter_eq_nil_iff.2 fun y hy => by have := hx y hy; simp; omega).symm

theorem nearW_eq {xs : List R2} {i : Nat} {a e : Int} (hg : Gaps xs) (hp : Parts xs a i) : nearW xs i e = nearL xs a e := by
  have hgd : Gaps (xs.drop i) := ⟨hg.gap.sublist (List.drop_sublist _ _), fun x hx => hg.pos x (List.mem_of_mem_drop hx)⟩
  obtain ⟨t1, t2⟩ := parts_take hp
  unfold nearW nearL
  rw [takeWhile_filter_sorted e _ hgd]
  have e1 : (xs.take i).filter (fun x => decide (a ≤ x.1 + x.2 ∧ x.1 ≤ e)) = [] := List.filter_eq_nil_iff.2 fun x hx => by have := (t1 x hx).2; simp; omega
  conv => rhs; rw [← List.take_append_drop i xs, List.filter_append, e1, List.nil_append]
  refine List.filter_congr fun x hx => ?_
  have := (t2 x hx).2
  simp [this]

def encR (x : R2) : Array Value := #[.agg #[.int .i64 x.1, .int .i64 x.2]]

def tail2 : Value → Nat → Value
  | .slice none _ _, _ => .slice none 0 0
  | .slice (some a) n c, i => if c = i then .slice (some a) (n - i) (c - i) else .slice (some (a.add (i * 2))) (n - i) (c - i)
  | v, _ => v

set_option maxRecDepth 100000 in
set_option maxHeartbeats 4000000 in
theorem near1_in (n : Nat) (s : RSt) (i : Nat) (a e : Int) (b1 b2 b3 : Nat) (w0 : World) (hs : RunsIs w0 s) (hp : Parts s.xs a i)
    (h1 : w0.cell? ⟨b1, 0, none⟩ = some (.pointer (some ⟨s.q, 0, none⟩))) (h2 : w0.cell? ⟨b2, 0, none⟩ = some (.int .i64 a)) (h3 : w0.cell? ⟨b3, 0, none⟩ = some (.int .i64 e))
    (l1 : b1 < w0.heap.size) (l2 : b2 < w0.heap.size) (l3 : b3 < w0.heap.size) (l : Nat) (J Jx : List R2 → World → Prop) (W : World) (hB : Below w0.heap.size w0 W) (hJ : AbidesFrom W.heap.size J)
    (hY : ∀ pre x W1, J pre W1 → pre.length < (nearW s.xs i e).length → YieldAt Fence.wide (n - 1) Try.prog l (encR x) W1 fun ee W' =>
      (ee = .returned (.bool true) ∧ J (pre ++ [x]) W' ∧ Below w0.heap.size W1 W') ∨ (ee = .returned (.bool false) ∧ Jx (pre ++ [x]) W')) (h0 : J [] W) :
    CallsIn Fence.wide n Try.prog 76 #[.func (.yield l) #[] #[], .pointer (some ⟨b1, 0, none⟩), .pointer (some ⟨b2, 0, none⟩), .pointer (some ⟨b3, 0, none⟩)] W fun ee W' => (∃ v, ee = .returned v) ∧
      ((∃ xs : List R2, xs = nearW s.xs i e ∧ J xs W') ∨ (∃ q : List R2, True ∧ Jx q W')) := by
  have c1 := (hB.cell (p := ⟨b1, 0, none⟩) l1).trans h1
  have c2 := (hB.cell (p := ⟨b2, 0, none⟩) l2).trans h2
  have c3 := (hB.cell (p := ⟨b3, 0, none⟩) l3).trans h3
  have q4 : W.cell? ⟨s.q, 4, none⟩ = some s.lv := (hB.cell (p := ⟨s.q, 4, none⟩) (lt_of_block hs.obj)).trans (cellOf hs.obj 4)
  have hsW := hs.below hB
  have hJd : ∀ pre W1 W2, J pre W1 → W1.heap.size ≤ W2.heap.size → Below W1.heap.size W1 W2 → J pre W2 := fun pre W1 W2 hj _ hb => hJ pre W1 W2 none hj ⟨hb.os, hb.tape, hb.output, hb.size, fun k hk _ => hb.block k hk⟩ (fun r e => by cases e)
  have HF := Lib.hid (fun (W' : World) (hW' : Below W.heap.size W W') => place_any s a i W' (hsW.below hW') hp)
  have hpl := hp.le
  have hfew := hs.few
  have HB := Lib.hid (And.intro hB (And.intro hJ (And.intro hJd (And.intro h0 (And.intro hp hs)))))
  have HY := Lib.hid hY
  have lw1 : b1 < W.heap.size := Nat.lt_of_lt_of_le l1 hB.size
  have lw2 : b2 < W.heap.size := Nat.lt_of_lt_of_le l2 hB.size
  have lw3 : b3 < W.heap.size := Nat.lt_of_lt_of_le l3 hB.size
  have lwq : s.q < W.heap.size := Nat.lt_of_lt_of_le (lt_of_block hs.obj) hB.size
  rcases hs.list.2 with ⟨hlv, hl0⟩ | ⟨g, cap, cur, hlv, _, hg, hnc, hcm, _, _⟩
  · rw [hlv] at q4
    have hi0 : i = 0 := by omega
    have hL : nearW s.xs i e = [] := by
      unfold nearW
      rw [List.eq_nil_of_length_eq_zero hl0]; simp
    have HL := Lib.hid hL
    subst hi0
    clear hs hsW hp hB hJ hJd h0 hY hlv hl0 h1 h2 h3 hL hpl hfew
    generalize s.q = q at *
    refine callsIn_of_wp Try.func76 rfl trivial ?_ rfl
    simp only [Try.ntmps76, List.size_toArray, List.length_cons, List.length_nil, Nat.reduceAdd, Nat.reduceSub, Array.replicate_succ, Array.replicate_zero, List.push_toArray, List.append_toArray, List.nil_append, List.cons_append]
    refine wpIn_wide.2 ?_
    go_wp2_with fail
    go_region_held3 (fun W' => W'.cell? ⟨b1, 0, none⟩ = some (.pointer (some ⟨q, 0, none⟩)) ∧ W'.cell? ⟨b2, 0, none⟩ = some (.int .i64 a) ∧ W'.cell? ⟨q, 4, none⟩ = some (.slice none 0 0))
      (first | go_keep | with_reducible exact ⟨s1, s2, s3⟩)
      ((go_at_call 68; refine (HF.out _ (Below.refl _ W).drew).mono ?_; rintro ee w2 ⟨rfl, hb2⟩; have s1 := (hb2.cell (p := ⟨b1, 0, none⟩) lw1).trans c1; have s2 := (hb2.cell (p := ⟨b2, 0, none⟩) lw2).trans c2; have s3 := (hb2.cell (p := ⟨q, 4, none⟩) lwq).trans q4))
    go_wp2_with fail
    obtain ⟨hB, hJ, hJd, h0, hp, hs⟩ := HB.out
    have hb2' : Below W.heap.size W w2 := ⟨hb2.os, hb2.tape, hb2.output, hb2.size, hb2.block⟩
    have h02 : J [] w2 := hJd _ _ _ h0 hb2'.size hb2'
    have H02 := Lib.hid h02
    clear hB hJ hJd h0 hp hs hb2' h02 hb2 s1 s2 s3 c1 c2 c3 q4 HY HF HB
    refine (wpIn_wide (n := n)).1 ?_
    gi_loopw [16] (fun v16 wr => v16 = .int .i64 0 ∧ w2 = wr) (fun v16 _ => 0)
    case atStart => exact ⟨rfl, rfl⟩
    case round =>
      obtain ⟨rfl, rfl⟩ := hrel
      gi_wp2_with fail
      go_end0
      exact ⟨⟨_, rfl⟩, .inl ⟨[], HL.out.symm, H02.out⟩⟩
  · rw [hlv] at q4
    have hgw : g < W.heap.size := Nat.lt_of_lt_of_le (lt_of_block hg) hB.size
    obtain ⟨o, hA, hcell⟩ : ∃ o : Nat, ((if cap = i then some (⟨g, 0, none⟩ : Addr) else some ⟨g, i * 2, none⟩) = some ⟨g, o, none⟩) ∧
        (∀ j x, (s.xs.drop i)[j]? = some x → w0.cell? ⟨g, o + j * 2, none⟩ = some (.int .i64 x.1) ∧ w0.cell? ⟨g, o + j * 2 + 1, none⟩ = some (.int .i64 x.2)) := by
      have hrow := hs.list
      rw [hlv] at hrow
      by_cases h : cap = i
      · refine ⟨0, by simp [h], fun j x hx => ?_⟩
        rw [List.drop_eq_nil_of_le (by omega)] at hx
        simp at hx
      · refine ⟨i * 2, by simp [h], fun j x hx => ?_⟩
        rw [List.getElem?_drop] at hx
        obtain ⟨k1, k2⟩ := ownsRow_cell hrow hx
        rw [show i * 2 + j * 2 = (i + j) * 2 by omega]
        exact ⟨k1, k2⟩
    have hg0 := lt_of_block hg
    obtain ⟨N, hN⟩ : ∃ N, N = s.xs.length := ⟨_, rfl⟩
    rw [← hN] at hnc hpl hfew q4
    have HN := Lib.hid hN
    have HC := Lib.hid hcell
    have hi0 : (0 : Int) ≤ i := by omega
    have hiN : (i : Int) ≤ N := by omega
    have hic : (i : Int) ≤ cap := by omega
    have hNc : (N : Int) ≤ cap := by omega
    have hicN : i ≤ cap := by omega
    clear hs hsW hp hB hJ hJd h0 hY hlv hg hcm hN hcell h1 h2
    have h3' := Lib.hid h3
    clear h3
    generalize s.q = q at *
    refine callsIn_of_wp Try.func76 rfl trivial ?_ rfl
    simp only [Try.ntmps76, List.size_toArray, List.length_cons, List.length_nil, Nat.reduceAdd, Nat.reduceSub, Array.replicate_succ, Array.replicate_zero, List.push_toArray, List.append_toArray, List.nil_append, List.cons_append]
    refine wpIn_wide.2 ?_
    go_wp2_with fail
    go_region_held3 (fun W' => W'.cell? ⟨b1, 0, none⟩ = some (.pointer (some ⟨q, 0, none⟩)) ∧ W'.cell? ⟨b2, 0, none⟩ = some (.int .i64 a) ∧ W'.cell? ⟨q, 4, none⟩ = some (.slice (some ⟨g, 0, none⟩) N cap))
      (first | go_keep | with_reducible exact ⟨s1, s2, s3⟩)
      ((go_at_call 68; refine (HF.out _ (Below.refl _ W).drew).mono ?_; rintro ee w2 ⟨rfl, hb2⟩; have s1 := (hb2.cell (p := ⟨b1, 0, none⟩) lw1).trans c1; have s2 := (hb2.cell (p := ⟨b2, 0, none⟩) lw2).trans c2; have s3 := (hb2.cell (p := ⟨q, 4, none⟩) lwq).trans q4))
    go_wp2_with fail
    obtain ⟨hB, hJ, hJd, h0, hp, hs⟩ := HB.out
    have hb2' : Below W.heap.size W w2 := ⟨hb2.os, hb2.tape, hb2.output, hb2.size, hb2.block⟩
    have hB2 : Below w0.heap.size w0 w2 := hB.trans (hb2'.mono hB.size)
    have h02 : J [] w2 := hJd _ _ _ h0 hb2'.size hb2'
    obtain ⟨L, hL⟩ : ∃ L, nearW s.xs i e = L := ⟨_, rfl⟩
    have HLe : Hid (nearW s.xs i e = L) := hL
    have HYL : Hid (∀ pre x W1, J pre W1 → pre.length < L.length → YieldAt Fence.wide (n - 1) Try.prog l (encR x) W1 fun ee W' =>
      (ee = .returned (.bool true) ∧ J (pre ++ [x]) W' ∧ Below w0.heap.size W1 W') ∨ (ee = .returned (.bool false) ∧ Jx (pre ++ [x]) W')) := by rw [← hL]; exact HY.out
    obtain ⟨M, hM⟩ : ∃ M, N - i = M := ⟨_, rfl⟩
    have hML : (s.xs.drop i).length = M := by rw [List.length_drop, ← HN.out, hM]
    have HML := Lib.hid hML
    have HJd := Lib.hid hJd
    have H02 := Lib.hid (And.intro hB2 h02)
    have hM5 : M ≤ 5000 := by omega
    rw [hM]
    have HA := Lib.hid hA
    clear hB hJ hJd h0 hp hs hb2' hB2 h02 hL hM hML hb2 s1 s2 s3 c1 c2 c3 q4 HY HF HB hA
    refine (wpIn_wide (n := n)).1 ?_
    gi_loopw [16] (fun v16 wr => ∃ j : Nat, v16 = .int .i64 j ∧ j ≤ M ∧ j ≤ L.length ∧ J (L.take j) wr ∧ Below w0.heap.size w0 wr) (fun v16 _ => M - (intOf v16).toNat)
    case atStart => exact ⟨0, rfl, Nat.zero_le _, Nat.zero_le _, H02.out.2, H02.out.1⟩
    case round =>
      obtain ⟨j, rfl, hjM, hjL, hj, hBr⟩ := hrel
      by_cases hlt : j < M
      · obtain ⟨x, hx⟩ : ∃ x, (s.xs.drop i)[j]? = some x := ⟨_, List.getElem?_eq_getElem (by rw [HML.out]; exact hlt)⟩
        obtain ⟨k1, k2⟩ := HC.out j x hx
        have d0 := (hBr.cell (p := ⟨g, o + j * 2, none⟩) hg0).trans k1
        have d1 := (hBr.cell (p := ⟨g, o + j * 2 + 1, none⟩) hg0).trans k2
        have d3 := (hBr.cell (p := ⟨b3, 0, none⟩) l3).trans h3'.out
        have htw := takeWhile_at (fun x : R2 => decide (x.1 ≤ e)) (s.xs.drop i) j x (by show j ≤ (nearW s.xs i e).length; rw [HLe.out]; exact hjL) hx
        have hjA : J (L.take j) (wr.alloc (.cells #[.int .i64 x.1, .int .i64 x.2] 77)) := HJd.out _ _ _ hj (by simp) ((Below.refl _ _).alloc (Nat.le_refl _) _)
        have hBA : Below w0.heap.size w0 (wr.alloc (.cells #[.int .i64 x.1, .int .i64 x.2] 77)) := hBr.alloc hBr.size _
        have hltI : (j : Int) < M := by omega
        have hbl3 : b3 < wr.heap.size := Nat.lt_of_lt_of_le l3 hBr.size
        have hb3n : b3 ≠ wr.heap.size := by omega
        obtain ⟨x1, x2⟩ := x
        dsimp only at *
        by_cases hxe : x1 ≤ e
        · have hLj : L[j]? = some (x1, x2) := by rw [← HLe.out]; exact htw.1 (by simpa using hxe)
          have hjL' : j < L.length := (List.getElem?_eq_some_iff.1 hLj).1
          have hYj := HYL.out (L.take j) (x1, x2) _ hjA (by rw [List.length_take]; omega)
          rw [show L.take j ++ [(x1, x2)] = L.take (j + 1) from by rw [List.take_add_one, hLj]; rfl] at hYj
          have hxe' : ¬ e < x1 := by omega
          obtain ⟨fn, tmps, assign, body, hy, hR⟩ := hYj
          dsimp only [encR] at hy
          have HBA := Lib.hid hBA
          clear htw hx hj hBr hjA hBA k1 k2 hLj
          gi_wp2_with fail
          refine ⟨fun h => (by cases h), ?_⟩
          refine hR.mono ?_
          clear hR
          rintro ee W1 (⟨rfl, hJ1, hb1⟩ | ⟨rfl, hx1⟩)
          · have HN1 := Lib.hid (And.intro hJ1 (HBA.out.trans hb1))
            clear hJ1 hb1
            gi_wp2_with fail
            go_roundw
            case rel => exact ⟨j + 1, by go_num, by omega, by omega, HN1.out.1, HN1.out.2⟩
            case measure => simp [intOf]; omega
          · have HX := Lib.hid hx1
            clear hx1
            gi_wp2_with fail
            refine bodyPost_ret (v := .tuple #[]) (by simp [results, Try.results76, go_sem]) rfl ?_
            exact ⟨⟨_, rfl⟩, .inr ⟨_, trivial, HX.out⟩⟩
        · have hLj : L.length = j := by rw [← HLe.out]; exact htw.2 (by simpa using hxe)
          have hfin : Hid (J L (wr.alloc (.cells #[.int .i64 x1, .int .i64 x2] 77))) := by
            have := hjA
            rwa [List.take_of_length_le (by omega)] at this
          have hxe' : e < x1 := by omega
          clear htw hx hj hBr hjA hBA k1 k2 hLj
          gi_wp2_with fail
          refine ⟨fun _ h => (by cases h), ?_⟩
          gi_wp2_with fail
          refine bodyPost_ret (v := .tuple #[]) (by simp [results, Try.results76, go_sem]) rfl ?_
          exact ⟨⟨_, rfl⟩, .inl ⟨L, HLe.out.symm, hfin.out⟩⟩
      · obtain rfl : j = M := by omega
        have hLl : L.length ≤ j := by rw [← HLe.out, ← HML.out]; exact (List.takeWhile_sublist _).length_le
        have hfin : Hid (J L wr) := by
          have := hj
          rwa [List.take_of_length_le hLl] at this
        clear hj hBr
        gi_wp2_with fail
        go_end0
        exact ⟨⟨_, rfl⟩, .inl ⟨L, HLe.out.symm, hfin.out⟩⟩

end Go.Proofs.Ytdeebagjmhpocaa
