/- The tree's functions: each returns what the plain function of the same name computes. -/
import Derived.Test.YtffafkmmfaaobaaGreatWr0
import Derived.Deep.LoopGhost
namespace Go.Proofs.YtffafkmmfaaobaaGreat
set_option linter.unusedSimpArgs false
set_option linter.unusedVariables false
open Go.RowKit

theorem nodup_node {b : Nat} {x : Nd} {l r : T} (h : (T.node b x l r).blocks.Nodup) : b ∉ l.blocks ∧ b ∉ r.blocks ∧ l.blocks.Nodup ∧ r.blocks.Nodup ∧ ∀ k ∈ l.blocks, k ∉ r.blocks := by
  simp only [T.blocks, List.nodup_cons, List.mem_append, not_or] at h
  obtain ⟨⟨h1, h2⟩, h3⟩ := h
  rw [List.nodup_append] at h3
  exact ⟨h1, h2, h3.1, h3.2.1, fun k hk hr => h3.2.2 k hk k hr rfl⟩

theorem split_mem1 {k : Int} {t : T} {b : Nat} (h : b ∈ (t.split k).1.blocks) : b ∈ t.blocks :=
  (T.split_blocks k t).subset (List.mem_append.2 (.inl h))
theorem split_mem2 {k : Int} {t : T} {b : Nat} (h : b ∈ (t.split k).2.blocks) : b ∈ t.blocks :=
  (T.split_blocks k t).subset (List.mem_append.2 (.inr h))

theorem split_lt {k : Int} {b : Nat} {x : Nd} {l r : T} (h : x.key < k) : T.split k (.node b x l r) = (.node b x l (r.split k).1, (r.split k).2) := by
  rw [T.split, if_pos h]
theorem split_ge {k : Int} {b : Nat} {x : Nd} {l r : T} (h : ¬ x.key < k) : T.split k (.node b x l r) = ((l.split k).1, .node b x (l.split k).2 r) := by
  rw [T.split, if_neg h]

def SplitPost (k : Int) (t : T) (w : World) (e : Ending) (w' : World) : Prop :=
  e = .returned (.tuple #[(t.split k).1.ptr, (t.split k).2.ptr]) ∧ (t.split k).1.In w' ∧ (t.split k).2.In w' ∧ Kept (· ∈ t.blocks) w w' ∧ w'.heap.size = w.heap.size

set_option maxHeartbeats 800000 in
theorem split_any (k : Int) (t : T) : ∀ w : World, t.In w → t.blocks.Nodup → Calls Tryz.prog 254 #[t.ptr, .int .i64 k] w (SplitPost k t w) := by
  induction t with
  | nil =>
    intro w _ _
    show Calls Tryz.prog 254 #[.pointer none, .int .i64 k] w _
    go_enter Tryz.func254, Tryz.ntmps254
    go_wp2
    go_ret2
    exact ⟨rfl, trivial, trivial, Kept.refl _ _, rfl⟩
  | node b x l r ihl ihr =>
    intro w hin hnd
    obtain ⟨hb, hl, hr⟩ := hin
    obtain ⟨nl, nr, ndl, ndr, nlr⟩ := nodup_node hnd
    have c0 : w.cell? ⟨b, 0, none⟩ = some (.int .i64 x.key) := cellOf hb 0
    have c4 : w.cell? ⟨b, 4, none⟩ = some l.ptr := cellOf hb 4
    have c5 : w.cell? ⟨b, 5, none⟩ = some r.ptr := cellOf hb 5
    show Calls Tryz.prog 254 #[.pointer (some ⟨b, 0, none⟩), .int .i64 k] w _
    by_cases hlt : x.key < k
    · have Hs := Lib.hid (split_lt (b := b) (l := l) (r := r) hlt)
      have Hb := Lib.hid hb
      clear hb
      go_enter Tryz.func254, Tryz.ntmps254
      go_wp2_with fail
      refine (ihr _ hr ndr).mono ?_
      rintro e w1 ⟨rfl, h1, h2, hk, hz⟩
      have hb1 := hk.at Hb.out nr
      have f5 : w1.frozen? ⟨b, 5, none⟩ = false := freeOf hb1 5
      have d5 : w1.cell? ⟨b, 5, none⟩ = some r.ptr := cellOf hb1 5
      have S2 : ((w1.setCell ⟨b, 5, none⟩ (r.split k).1.ptr).heap[b]? = some (.cells (x.cells l.ptr (r.split k).1.ptr) 268 (0, 0))) := block_set hb1 5 _
      have hl1 := hl.kept hk nlr
      have S3 := Lib.hid (And.intro S2 (And.intro (hl1.set (p := ⟨b, 5, none⟩) (r.split k).1.ptr nl) (And.intro (h1.set (p := ⟨b, 5, none⟩) (r.split k).1.ptr (fun h => nr (split_mem1 h))) (h2.set (p := ⟨b, 5, none⟩) (r.split k).1.ptr (fun h => nr (split_mem2 h))))))
      clear S2 h1 h2 hl1
      have Hk := Lib.hid ((hk.mono (G := (· ∈ (T.node b x l r).blocks)) (fun i hi => .inl (by simp [T.blocks, hi]))).setCell (p := ⟨b, 5, none⟩) (.inl (by simp [T.blocks])) (r.split k).1.ptr)
      have Hz := Lib.hid hz
      clear hz hk hb1
      obtain ⟨u0, hu0⟩ := T.ptr_pointer r
      rw [hu0] at d5
      clear c0 c4 c5 hu0
      generalize hu1 : (r.split k).1.ptr = u1 at S3 Hk ⊢
      obtain ⟨u, hu⟩ := T.ptr_pointer (r.split k).1
      obtain rfl : u1 = .pointer u := hu1.symm.trans hu
      have Hu1 := Lib.hid hu1
      clear hu1 hu
      go_wp2
      go_ret2
      obtain ⟨s1, s2, s3, s4⟩ := S3.out
      unfold SplitPost
      rw [Hs.out]
      refine ⟨rfl, ⟨?_, s2, s3⟩, s4, Hk.out, by simpa using Hz.out⟩
      rw [Hu1.out]; exact s1
    · have Hs := Lib.hid (split_ge (b := b) (l := l) (r := r) hlt)
      have Hb := Lib.hid hb
      clear hb
      go_enter Tryz.func254, Tryz.ntmps254
      go_wp2_with fail
      refine (ihl _ hl ndl).mono ?_
      rintro e w1 ⟨rfl, h1, h2, hk, hz⟩
      have hb1 := hk.at Hb.out nl
      have f5 : w1.frozen? ⟨b, 4, none⟩ = false := freeOf hb1 4
      have d5 : w1.cell? ⟨b, 4, none⟩ = some l.ptr := cellOf hb1 4
      have S2 : ((w1.setCell ⟨b, 4, none⟩ (l.split k).2.ptr).heap[b]? = some (.cells (x.cells (l.split k).2.ptr r.ptr) 268 (0, 0))) := block_set hb1 4 _
      have hl1 := hr.kept hk (fun i hi hj => nlr i hj hi)
      have S3 := Lib.hid (And.intro S2 (And.intro (hl1.set (p := ⟨b, 4, none⟩) (l.split k).2.ptr nr) (And.intro (h1.set (p := ⟨b, 4, none⟩) (l.split k).2.ptr (fun h => nl (split_mem1 h))) (h2.set (p := ⟨b, 4, none⟩) (l.split k).2.ptr (fun h => nl (split_mem2 h))))))
      clear S2 h1 h2 hl1
      have Hk := Lib.hid ((hk.mono (G := (· ∈ (T.node b x l r).blocks)) (fun i hi => .inl (by simp [T.blocks, hi]))).setCell (p := ⟨b, 4, none⟩) (.inl (by simp [T.blocks])) (l.split k).2.ptr)
      have Hz := Lib.hid hz
      clear hz hk hb1
      obtain ⟨u0, hu0⟩ := T.ptr_pointer l
      rw [hu0] at d5
      clear c0 c4 c5 hu0
      generalize hu1 : (l.split k).2.ptr = u1 at S3 Hk ⊢
      obtain ⟨u, hu⟩ := T.ptr_pointer (l.split k).2
      obtain rfl : u1 = .pointer u := hu1.symm.trans hu
      have Hu1 := Lib.hid hu1
      clear hu1 hu
      go_wp2
      go_ret2
      obtain ⟨s1, s2, s3, s4⟩ := S3.out
      unfold SplitPost
      rw [Hs.out]
      refine ⟨rfl, s3, ⟨?_, s4, s2⟩, Hk.out, by simpa using Hz.out⟩
      rw [Hu1.out]; exact s1

end Go.Proofs.YtffafkmmfaaobaaGreat

namespace Go.Proofs.YtffafkmmfaaobaaGreat
set_option linter.unusedSimpArgs false
set_option linter.unusedVariables false
open Go.RowKit

def above (x y : Nd) : Bool := decide (y.draw < x.draw ∨ x.draw = y.draw ∧ x.key < y.key)

def AbovePost (x y : Nd) (w : World) (e : Ending) (w' : World) : Prop := e = .returned (.bool (above x y)) ∧ ∃ n, w' = w.drewN n

set_option maxHeartbeats 800000 in
theorem above_any (a b : Nat) (x y : Nd) (la ra lb rb : Value) (w : World) (ha : w.heap[a]? = some (.cells (x.cells la ra) 268 (0, 0))) (hb : w.heap[b]? = some (.cells (y.cells lb rb) 268 (0, 0))) :
    Calls Tryz.prog 274 #[.pointer (some ⟨a, 0, none⟩), .pointer (some ⟨b, 0, none⟩)] w (AbovePost x y w) := by
  have a0 : w.cell? ⟨a, 0, none⟩ = some (.int .i64 x.key) := cellOf ha 0
  have a1 : w.cell? ⟨a, 1, none⟩ = some (.int .u32 x.draw) := cellOf ha 1
  have b0 : w.cell? ⟨b, 0, none⟩ = some (.int .i64 y.key) := cellOf hb 0
  have b1 : w.cell? ⟨b, 1, none⟩ = some (.int .u32 y.draw) := cellOf hb 1
  clear ha hb
  obtain ⟨xk, xd, xp, xn⟩ := x
  obtain ⟨yk, yd, yp, yn⟩ := y
  dsimp only at a0 a1 b0 b1
  by_cases h1 : yd < xd
  · have g1 : decide (yd < xd) = true := by simpa using h1
    have hv : Hid (above ⟨xk, xd, xp, xn⟩ ⟨yk, yd, yp, yn⟩ = true) := by simp [above, Hid]; omega
    go_enter Tryz.func274, Tryz.ntmps274
    go_wp2
    go_quiet (fail)
    go_wp2
    go_ret
    exact ⟨by rw [hv.out]; rfl, _, rfl⟩
  · have g1 : decide (yd < xd) = false := by simpa using h1
    by_cases h2 : xd = yd
    · subst h2
      by_cases h3 : xk < yk
      · have g3 : decide (xk < yk) = true := by simpa using h3
        have hv : Hid (above ⟨xk, xd, xp, xn⟩ ⟨yk, xd, yp, yn⟩ = true) := by simp [above, Hid]; omega
        go_enter Tryz.func274, Tryz.ntmps274
        go_wp2
        go_quiet (fail)
        go_wp2
        go_ret
        exact ⟨by rw [hv.out]; rfl, _, rfl⟩
      · have g3 : decide (xk < yk) = false := by simpa using h3
        have hv : Hid (above ⟨xk, xd, xp, xn⟩ ⟨yk, xd, yp, yn⟩ = false) := by simp [above, Hid]; omega
        go_enter Tryz.func274, Tryz.ntmps274
        go_wp2
        go_quiet (fail)
        go_wp2
        go_ret
        exact ⟨by rw [hv.out]; rfl, _, rfl⟩
    · have g2 : (xd == yd) = false := by simpa using h2
      have hv : Hid (above ⟨xk, xd, xp, xn⟩ ⟨yk, yd, yp, yn⟩ = false) := by simp [above, Hid]; omega
      clear h2
      go_enter Tryz.func274, Tryz.ntmps274
      go_wp2
      go_quiet (fail)
      go_wp2
      go_ret
      exact ⟨by rw [hv.out]; rfl, _, rfl⟩

end Go.Proofs.YtffafkmmfaaobaaGreat

namespace Go.Proofs.YtffafkmmfaaobaaGreat
set_option linter.unusedSimpArgs false
set_option linter.unusedVariables false
open Go.RowKit

def joinT : T → T → T
  | .nil, b => b
  | .node i x l r, .nil => .node i x l r
  | .node i x l r, .node j y l' r' => if above x y then .node i x l (joinT r (.node j y l' r')) else .node j y (joinT (.node i x l r) l') r'

theorem join_nil (b : T) : joinT .nil b = b := by rw [joinT]
theorem join_nil_right (a : T) : joinT a .nil = a := by cases a <;> rw [joinT]
theorem join_above {i j : Nat} {x y : Nd} {l r l' r' : T} (h : above x y = true) : joinT (.node i x l r) (.node j y l' r') = .node i x l (joinT r (.node j y l' r')) := by
  rw [joinT, if_pos h]
theorem join_below {i j : Nat} {x y : Nd} {l r l' r' : T} (h : above x y = false) : joinT (.node i x l r) (.node j y l' r') = .node j y (joinT (.node i x l r) l') r' := by
  rw [joinT, if_neg (by simp [h])]

theorem join_blocks : ∀ a b : T, (joinT a b).blocks.Perm (a.blocks ++ b.blocks)
  | .nil, b => by rw [join_nil]; exact .refl _
  | .node i x l r, .nil => by rw [join_nil_right]; simp [T.blocks]
  | .node i x l r, .node j y l' r' => by
    cases h : above x y with
    | true =>
      rw [join_above h]
      simp only [T.blocks, List.cons_append, List.append_assoc]
      exact .cons _ (.append_left _ (join_blocks r (.node j y l' r')))
    | false =>
      rw [join_below h]
      have := join_blocks (.node i x l r) l'
      simp only [T.blocks] at *
      refine .trans ?_ (List.perm_middle).symm
      refine .cons _ ?_
      rw [← List.append_assoc]
      exact .append_right _ this
  termination_by a b => SizeOf.sizeOf a + SizeOf.sizeOf b

theorem join_mem {a b : T} {k : Nat} (h : k ∈ (joinT a b).blocks) : k ∈ a.blocks ∨ k ∈ b.blocks :=
  List.mem_append.1 ((join_blocks a b).subset h)

def JoinPost (a b : T) (w : World) (e : Ending) (w' : World) : Prop :=
  e = .returned (joinT a b).ptr ∧ (joinT a b).In w' ∧ Kept (fun k => k ∈ a.blocks ∨ k ∈ b.blocks) w w' ∧ w'.heap.size = w.heap.size

theorem drewN_block {w : World} {n k : Nat} : (w.drewN n).heap[k]? = w.heap[k]? := by rw [show (w.drewN n).heap = w.heap from rfl]
theorem Kept.drewN {F : Nat → Prop} {a w : World} (h : Kept F a w) (n : Nat) : Kept F a (w.drewN n) := ⟨h.os, h.tape, h.output, h.size, h.block⟩
theorem T.In.drewN {w : World} {t : T} (h : t.In w) (n : Nat) : t.In (w.drewN n) := h.congr fun _ _ => drewN_block

set_option maxHeartbeats 1600000 in
theorem join_any : ∀ (a b : T) (w : World), a.In w → b.In w → a.blocks.Nodup → b.blocks.Nodup → (∀ k ∈ a.blocks, k ∉ b.blocks) →
    Calls Tryz.prog 255 #[a.ptr, b.ptr] w (JoinPost a b w)
  | .nil, b, w, _, hb, _, _, _ => by
    obtain ⟨u, hu⟩ := T.ptr_pointer b
    show Calls Tryz.prog 255 #[.pointer none, b.ptr] w _
    rw [hu]
    have Hu := Lib.hid hu
    clear hu
    go_enter Tryz.func255, Tryz.ntmps255
    go_wp2
    go_ret
    exact ⟨by rw [join_nil, Hu.out]; rfl, by rw [join_nil]; exact hb, Kept.refl _ _, rfl⟩
  | .node i x l r, .nil, w, ha, _, _, _, _ => by
    show Calls Tryz.prog 255 #[.pointer (some ⟨i, 0, none⟩), .pointer none] w _
    have Ha := Lib.hid ha
    clear ha
    go_enter Tryz.func255, Tryz.ntmps255
    go_wp2
    go_ret
    exact ⟨by rw [join_nil_right]; rfl, by rw [join_nil_right]; exact Ha.out, Kept.refl _ _, rfl⟩
  | .node i x l r, .node j y l' r', w, ha, hb, na, nb, nab => by
    have hA := ha
    have hB := hb
    obtain ⟨ha0, hal, har⟩ := ha
    obtain ⟨hb0, hbl, hbr⟩ := hb
    obtain ⟨il, ir, ndl, ndr, nlr⟩ := nodup_node na
    obtain ⟨jl, jr, ndl', ndr', nlr'⟩ := nodup_node nb
    have a5 : w.cell? ⟨i, 5, none⟩ = some r.ptr := cellOf ha0 5
    have b4 : w.cell? ⟨j, 4, none⟩ = some l'.ptr := cellOf hb0 4
    show Calls Tryz.prog 255 #[.pointer (some ⟨i, 0, none⟩), .pointer (some ⟨j, 0, none⟩)] w _
    cases hab : above x y with
    | true =>
      have Hj := Lib.hid (join_above (i := i) (j := j) (l := l) (r := r) (l' := l') (r' := r') hab)
      have Hab := Lib.hid hab
      clear hab
      have call := Lib.hid (fun n : Nat => join_any r (.node j y l' r') (w.drewN n) (har.drewN n) (hB.drewN n) ndr nb (fun k hk => nab k (by simp [T.blocks, hk])))
      go_enter Tryz.func255, Tryz.ntmps255
      go_wp2_with fail
      refine (above_any i j x y _ _ _ _ _ ha0 hb0).mono ?_
      rintro e w1 ⟨rfl, n, rfl⟩
      rw [Hab.out]
      have e5 : (w.drewN n).cell? ⟨i, 5, none⟩ = some r.ptr := cellOf ha0 5
      have Ha0 := Lib.hid ha0
      clear ha0 hb0
      go_wp2_with fail
      refine (call.out n).mono ?_
      rintro e w1 ⟨rfl, h1, hk, hz⟩
      have ha1 : w1.heap[i]? = some (.cells (x.cells l.ptr r.ptr) 268 (0, 0)) := hk.at Ha0.out (fun h => h.elim ir (nab i (by simp [T.blocks])))
      have hl1 : l.In w1 := (hal.drewN n).kept hk (fun k hkl h => h.elim (nlr k hkl) (nab k (by simp [T.blocks, hkl])))
      have f5 : w1.frozen? ⟨i, 5, none⟩ = false := freeOf ha1 5
      have d5 : w1.cell? ⟨i, 5, none⟩ = some r.ptr := cellOf ha1 5
      have hni : i ∉ (joinT r (.node j y l' r')).blocks := fun h => (join_mem h).elim ir (nab i (by simp [T.blocks]))
      have S3 := Lib.hid (And.intro (block_set ha1 5 (joinT r (.node j y l' r')).ptr) (And.intro (hl1.set (p := ⟨i, 5, none⟩) (joinT r (.node j y l' r')).ptr il) (h1.set (p := ⟨i, 5, none⟩) (joinT r (.node j y l' r')).ptr hni)))
      have Hk := Lib.hid ((((Kept.refl (fun k => k ∈ (T.node i x l r).blocks ∨ k ∈ (T.node j y l' r').blocks) w).drewN n).trans hk (fun k h => .inl (h.imp (fun h => by simp [T.blocks, h]) id))).setCell (p := ⟨i, 5, none⟩) (.inl (.inl (by simp [T.blocks]))) (joinT r (.node j y l' r')).ptr)
      have Hz := Lib.hid hz
      clear hz hk ha1 h1 hl1 hni a5 b4 e5
      obtain ⟨u0, hu0⟩ := T.ptr_pointer r
      rw [hu0] at d5
      clear hu0
      generalize hu1 : (joinT r (.node j y l' r')).ptr = u1 at S3 Hk ⊢
      obtain ⟨u, hu⟩ := T.ptr_pointer (joinT r (.node j y l' r'))
      obtain rfl : u1 = .pointer u := hu1.symm.trans hu
      have Hu1 := Lib.hid hu1
      clear hu1 hu
      go_wp2
      go_ret
      obtain ⟨s1, s2, s3⟩ := S3.out
      unfold JoinPost
      rw [Hj.out]
      refine ⟨rfl, ⟨?_, s2, s3⟩, Hk.out, by simpa using Hz.out⟩
      rw [Hu1.out]; exact s1
    | false =>
      have Hj := Lib.hid (join_below (i := i) (j := j) (l := l) (r := r) (l' := l') (r' := r') hab)
      have Hab := Lib.hid hab
      clear hab
      have call := Lib.hid (fun n : Nat => join_any (.node i x l r) l' (w.drewN n) (hA.drewN n) (hbl.drewN n) na ndl' (fun k hk h => nab k hk (by simp [T.blocks, h])))
      go_enter Tryz.func255, Tryz.ntmps255
      go_wp2_with fail
      refine (above_any i j x y _ _ _ _ _ ha0 hb0).mono ?_
      rintro e w1 ⟨rfl, n, rfl⟩
      rw [Hab.out]
      have e4 : (w.drewN n).cell? ⟨j, 4, none⟩ = some l'.ptr := cellOf hb0 4
      have Hb0 := Lib.hid hb0
      clear ha0 hb0
      go_wp2_with fail
      refine (call.out n).mono ?_
      rintro e w1 ⟨rfl, h1, hk, hz⟩
      have hnj : ∀ k ∈ (T.node j y l' r').blocks, k ∉ (T.node i x l r).blocks := fun k h h' => nab k h' h
      have ha1 : w1.heap[j]? = some (.cells (y.cells l'.ptr r'.ptr) 268 (0, 0)) := hk.at Hb0.out (fun h => h.elim (hnj j (by simp [T.blocks])) jl)
      have hl1 : r'.In w1 := (hbr.drewN n).kept hk (fun k hkl h => h.elim (hnj k (by simp [T.blocks, hkl])) (fun h => nlr' k h hkl))
      have f4 : w1.frozen? ⟨j, 4, none⟩ = false := freeOf ha1 4
      have d4 : w1.cell? ⟨j, 4, none⟩ = some l'.ptr := cellOf ha1 4
      have hni : j ∉ (joinT (.node i x l r) l').blocks := fun h => (join_mem h).elim (hnj j (by simp [T.blocks])) jl
      have S3 := Lib.hid (And.intro (block_set ha1 4 (joinT (.node i x l r) l').ptr) (And.intro (hl1.set (p := ⟨j, 4, none⟩) (joinT (.node i x l r) l').ptr jr) (h1.set (p := ⟨j, 4, none⟩) (joinT (.node i x l r) l').ptr hni)))
      have Hk := Lib.hid ((((Kept.refl (fun k => k ∈ (T.node i x l r).blocks ∨ k ∈ (T.node j y l' r').blocks) w).drewN n).trans hk (fun k h => .inl (h.imp id (fun h => by simp [T.blocks, h])))).setCell (p := ⟨j, 4, none⟩) (.inl (.inr (by simp [T.blocks]))) (joinT (.node i x l r) l').ptr)
      have Hz := Lib.hid hz
      clear hz hk ha1 h1 hl1 hni hnj a5 b4 e4
      obtain ⟨u0, hu0⟩ := T.ptr_pointer l'
      rw [hu0] at d4
      clear hu0
      generalize hu1 : (joinT (.node i x l r) l').ptr = u1 at S3 Hk ⊢
      obtain ⟨u, hu⟩ := T.ptr_pointer (joinT (.node i x l r) l')
      obtain rfl : u1 = .pointer u := hu1.symm.trans hu
      have Hu1 := Lib.hid hu1
      clear hu1 hu
      go_wp2
      go_ret
      obtain ⟨s1, s2, s3⟩ := S3.out
      unfold JoinPost
      rw [Hj.out]
      refine ⟨rfl, ⟨?_, s3, s2⟩, Hk.out, by simpa using Hz.out⟩
      rw [Hu1.out]; exact s1
  termination_by a b => SizeOf.sizeOf a + SizeOf.sizeOf b

end Go.Proofs.YtffafkmmfaaobaaGreat

namespace Go.Proofs.YtffafkmmfaaobaaGreat
set_option linter.unusedSimpArgs false
set_option linter.unusedVariables false
open Go.RowKit

/-- The subtree at a key, as it is sought. -/
def T.seek (k : Int) : T → T
  | .nil => .nil
  | .node b x l r => if x.key = k then .node b x l r else if k < x.key then l.seek k else r.seek k
def T.high : T → Nat
  | .nil => 0
  | .node _ _ l r => l.high + r.high + 1

def treapCells (t : T) (many : Int) : Array Value := #[t.ptr, .int .i64 many]

theorem T.ptr_nil : T.nil.ptr = .pointer none := rfl
theorem T.ptr_node (b : Nat) (x : Nd) (l r : T) : (T.node b x l r).ptr = .pointer (some ⟨b, 0, none⟩) := rfl
def FindPost (k : Int) (t : T) (w : World) (e : Ending) (w' : World) : Prop := e = .returned (t.seek k).ptr ∧ w = w'

set_option maxHeartbeats 800000 in
theorem find_any (k : Int) (p : Nat) (t : T) (m : Int) (w : World) (hp : w.heap[p]? = some (.cells (treapCells t m) 243 (0, 0))) (ht : t.In w) :
    Calls Tryz.prog 253 #[.pointer (some ⟨p, 0, none⟩), .int .i64 k] w (FindPost k t w) := by
  have c0 : w.cell? ⟨p, 0, none⟩ = some t.ptr := cellOf hp 0
  have Hp := Lib.hid hp
  clear hp
  go_enter Tryz.func253, Tryz.ntmps253
  go_wp2
  generalize hg : t.ptr = tp
  clear c0
  go_loopg [5] t.high (fun n v wr => w = wr ∧ ∃ s : T, v = s.ptr ∧ s.high ≤ n ∧ s.In w ∧ s.seek k = t.seek k)
  case atStart => exact ⟨rfl, t, hg.symm, Nat.le_refl _, ht, rfl⟩
  case round =>
    obtain ⟨rfl, s, rfl, hn, hs, hk⟩ := hrel
    clear hg
    cases s with
    | nil =>
      have Hk := Lib.hid hk
      clear hk
      rw [T.ptr_nil]
      go_wp2
      go_ret
      exact ⟨by rw [← Hk.out]; rfl, rfl⟩
    | node b x l r =>
      have b0 : w.cell? ⟨b, 0, none⟩ = some (.int .i64 x.key) := cellOf hs.1 0
      have b4 : w.cell? ⟨b, 4, none⟩ = some l.ptr := cellOf hs.1 4
      have b5 : w.cell? ⟨b, 5, none⟩ = some r.ptr := cellOf hs.1 5
      have Hs := Lib.hid hs
      have Hk := Lib.hid hk
      have Hn := Lib.hid hn
      clear hk hs hn
      rw [T.ptr_node]
      by_cases he : x.key = k
      · have g : (x.key != k) = false := by simpa using he
        have He := Lib.hid he
        clear he
        go_wp2
        go_ret
        exact ⟨by rw [← Hk.out, T.seek, if_pos He.out]; rfl, rfl⟩
      · have g : (x.key != k) = true := by simpa using he
        have He := Lib.hid he
        clear he
        by_cases hl : k < x.key
        · go_wp2
          go_roundg l.high
          case measure => have := Hn.out; simp only [T.high] at this; omega
          case rel => exact ⟨rfl, l, rfl, Nat.le_refl _, Hs.out.2.1, by rw [← Hk.out, T.seek, if_neg He.out, if_pos hl]⟩
        · go_wp2
          go_roundg r.high
          case measure => have := Hn.out; simp only [T.high] at this; omega
          case rel => exact ⟨rfl, r, rfl, Nat.le_refl _, Hs.out.2.2, by rw [← Hk.out, T.seek, if_neg He.out, if_neg (by omega)]⟩

end Go.Proofs.YtffafkmmfaaobaaGreat

namespace Go.Proofs.YtffafkmmfaaobaaGreat
set_option linter.unusedSimpArgs false
set_option linter.unusedVariables false
open Go.RowKit

/-- A treap lies at p. -/
def TreapAt (w : World) (p : Nat) (t : T) : Prop := ∃ m : Int, w.heap[p]? = some (.cells (treapCells t m) 243 (0, 0)) ∧ t.In w ∧ (p :: t.blocks).Nodup

def putT (B : Nat) (x : Nd) (t : T) : T := joinT (joinT (t.split x.key).1 (.node B x .nil .nil)) (t.split x.key).2

def PutPost (p : Nat) (x : Nd) (t : T) (w : World) (e : Ending) (w' : World) : Prop :=
  e = .returned (.bool true) ∧ ∃ B, w.heap.size ≤ B ∧ TreapAt w' p (putT B x t) ∧ Kept (fun k => k = p ∨ k ∈ t.blocks) w w'

theorem split_nodup {k : Int} {t : T} (h : t.blocks.Nodup) : (t.split k).1.blocks.Nodup ∧ (t.split k).2.blocks.Nodup ∧ ∀ b ∈ (t.split k).1.blocks, b ∉ (t.split k).2.blocks := by
  have := (T.split_blocks k t).nodup_iff.2 h
  rw [List.nodup_append] at this
  exact ⟨this.1, this.2.1, fun b h1 h2 => this.2.2 b h1 b h2 rfl⟩
theorem join_nodup {a b : T} (ha : a.blocks.Nodup) (hb : b.blocks.Nodup) (hab : ∀ k ∈ a.blocks, k ∉ b.blocks) : (joinT a b).blocks.Nodup :=
  (join_blocks a b).nodup_iff.2 (List.nodup_append.2 ⟨ha, hb, fun k h1 j h2 e => hab k h1 (e ▸ h2)⟩)

set_option maxRecDepth 100000 in
set_option maxHeartbeats 1600000 in
theorem put_any (p : Nat) (x : Nd) (t : T) (w : World) (h : TreapAt w p t) (hs : t.seek x.key = .nil) :
    Calls Tryz.prog 217 #[.pointer (some ⟨p, 0, none⟩), .int .i64 x.key, .int .u32 x.draw, .agg #[.int .i64 x.pg, .int .i64 x.ln]] w (PutPost p x t w) := by
  obtain ⟨m, hp, ht, hnd⟩ := h
  have hpn : p ∉ t.blocks := (List.nodup_cons.1 hnd).1
  have htn : t.blocks.Nodup := (List.nodup_cons.1 hnd).2
  have hplt := lt_of_block hp
  obtain ⟨xk, xd, xp, xn⟩ := x
  dsimp only at hs ⊢
  obtain ⟨n1, n2, n12⟩ := split_nodup (k := xk) htn
  have c0 : w.cell? ⟨p, 0, none⟩ = some t.ptr := cellOf hp 0
  have c1 : w.cell? ⟨p, 1, none⟩ = some (.int .i64 m) := cellOf hp 1
  have hd1 : ∀ k ∈ t.blocks, k < w.heap.size := ht.lt
  have F1 := Lib.hid (fun o : Obj => find_any xk p t m (w.alloc o) (block_alloc hp o) (ht.alloc o))
  have F2 := Lib.hid (fun o : Obj => split_any xk t (w.alloc o) (ht.alloc o) htn)
  have Hs := Lib.hid hs
  have Hp := Lib.hid hp
  have Ht := Lib.hid ht
  clear hs hp ht hnd
  go_enter Tryz.func217, Tryz.ntmps217
  go_wp2_with fail
  refine (F1.out _).mono ?_
  rintro e w1 ⟨rfl, rfl⟩
  rw [Hs.out, T.ptr_nil]
  go_wp2_with fail
  refine (F2.out _).mono ?_
  rintro e w1 ⟨rfl, i1, i2, hk, hz⟩
  generalize hW : (w.alloc (Obj.cells #[Value.int IntKind.i64 xp, Value.int IntKind.i64 xn] 189)) = W at hk hz
  have hb0 : W.heap[w.heap.size]? = some (.cells #[.int .i64 xp, .int .i64 xn] 189 (0, 0)) := by rw [← hW]; exact heap_alloc_new w _
  have hWs : W.heap.size = w.heap.size + 1 := by rw [← hW]; simp
  have hWk : Kept (fun k => k = p ∨ k ∈ t.blocks) w W := by rw [← hW]; exact (Kept.refl _ _).alloc _
  have hp0 : W.heap[p]? = some (.cells (treapCells t m) 243 (0, 0)) := by rw [← hW]; exact block_alloc Hp.out _
  have hp1 : w1.heap[p]? = some (.cells (treapCells t m) 243 (0, 0)) := hk.at hp0 hpn
  have hb1 : w1.heap[w.heap.size]? = some (.cells #[.int .i64 xp, .int .i64 xn] 189 (0, 0)) := hk.at hb0 (fun h => by have := hd1 _ h; omega)
  have d0 : w1.cell? ⟨w.heap.size, 0, none⟩ = some (.int .i64 xp) := cellOf hb1 0
  have d1 : w1.cell? ⟨w.heap.size, 1, none⟩ = some (.int .i64 xn) := cellOf hb1 1
  have hz1 : w1.heap.size = w.heap.size + 1 := by omega
  have K1 := Lib.hid (hWk.trans hk (fun k h => .inl (.inr h)))
  have S1 := Lib.hid (show (∀ b ∈ (t.split xk).1.blocks, b < w.heap.size ∧ b ≠ p) ∧ (∀ b ∈ (t.split xk).2.blocks, b < w.heap.size ∧ b ≠ p) from
    ⟨fun b h => ⟨hd1 b (split_mem1 h), fun e => hpn (e ▸ split_mem1 h)⟩, fun b h => ⟨hd1 b (split_mem2 h), fun e => hpn (e ▸ split_mem2 h)⟩⟩)
  have F3 := Lib.hid (show Calls Tryz.prog 255 #[(t.split xk).1.ptr, .pointer (some ⟨w1.heap.size, 0, none⟩)] (w1.alloc (.cells #[.int .i64 xk, .int .u32 xd, .int .i64 xp, .int .i64 xn, .pointer none, .pointer none] 268)) (JoinPost (t.split xk).1 (.node w1.heap.size ⟨xk, xd, xp, xn⟩ .nil .nil) _) from
    join_any (t.split xk).1 (.node w1.heap.size ⟨xk, xd, xp, xn⟩ .nil .nil) _ (i1.alloc _) ⟨heap_alloc_new w1 _, trivial, trivial⟩ n1 (by simp [T.blocks]) (fun k h1 h2 => by simp only [T.blocks, List.append_nil, List.mem_cons, List.not_mem_nil, or_false] at h2; have := (S1.out.1 k h1).1; omega))
  have I2 := Lib.hid (i2.alloc (.cells #[.int .i64 xk, .int .u32 xd, .int .i64 xp, .int .i64 xn, .pointer none, .pointer none] 268))
  have hp2 := Lib.hid (block_alloc hp1 (.cells #[.int .i64 xk, .int .u32 xd, .int .i64 xp, .int .i64 xn, .pointer none, .pointer none] 268))
  have Hz1 := Lib.hid hz1
  clear hk hz hW hWs hWk hb0 hp0 hp1 hb1 i1 i2 c0 c1 hz1
  go_wp2_with fail
  refine (F3.out).mono ?_
  rintro e w2 ⟨rfl, j1, hk2, hz2⟩
  have hz2' : w2.heap.size = w1.heap.size + 1 := by simpa using hz2
  have hb2 : ∀ k ∈ (T.node w1.heap.size ⟨xk, xd, xp, xn⟩ .nil .nil).blocks, k = w1.heap.size := fun k h => by simpa [T.blocks] using h
  have i3 := I2.out.kept hk2 (fun k hk h => h.elim (fun h => n12 k h hk) (fun h => by have := hb2 k h; have := (S1.out.2 k hk).1; have := Hz1.out; omega))
  have hp3 : w2.heap[p]? = some (.cells (treapCells t m) 243 (0, 0)) := hk2.at hp2.out (fun h => h.elim (fun h => (S1.out.1 p h).2 rfl) (fun h => by have := hb2 p h; have := Hz1.out; omega))
  have nJ : (joinT (t.split xk).1 (.node w1.heap.size ⟨xk, xd, xp, xn⟩ .nil .nil)).blocks.Nodup := join_nodup n1 (by simp [T.blocks]) (fun k h1 h2 => by have := hb2 k h2; have := (S1.out.1 k h1).1; have := Hz1.out; omega)
  have dJ : ∀ k ∈ (joinT (t.split xk).1 (.node w1.heap.size ⟨xk, xd, xp, xn⟩ .nil .nil)).blocks, k ∉ (t.split xk).2.blocks := fun k h h2 => (join_mem h).elim (fun h => n12 k h h2) (fun h => by have := hb2 k h; have := (S1.out.2 k h2).1; have := Hz1.out; omega)
  have pJ : ∀ k ∈ (joinT (t.split xk).1 (.node w1.heap.size ⟨xk, xd, xp, xn⟩ .nil .nil)).blocks, k = w1.heap.size ∨ k ∈ t.blocks := fun k h => (join_mem h).elim (fun h => .inr (split_mem1 h)) (fun h => .inl (hb2 k h))
  have F4 := Lib.hid (join_any _ _ w2 j1 i3 nJ n2 dJ)
  have hkA : Kept (fun k => k = p ∨ k ∈ t.blocks) w w2 := (K1.out.alloc _).trans hk2 (fun k h => h.elim (fun h => .inl (.inr (split_mem1 h))) (fun h => .inr (by have := hb2 k h; have := Hz1.out; omega)))
  have K2 := Lib.hid hkA
  have Hp3 := Lib.hid hp3
  have HJ := Lib.hid (And.intro nJ (And.intro dJ pJ))
  clear hz2 hz2' hb2 i3 hp3 nJ dJ pJ hkA hk2 j1 d0 d1
  go_wp2_with fail
  refine (F4.out).mono ?_
  rintro e w3 ⟨rfl, j2, hk3, hz3⟩
  obtain ⟨nJ, dJ, pJ⟩ := HJ.out
  have pn : ∀ k, (k ∈ (joinT (t.split xk).1 (.node w1.heap.size ⟨xk, xd, xp, xn⟩ .nil .nil)).blocks ∨ k ∈ (t.split xk).2.blocks) → k = w1.heap.size ∨ k ∈ t.blocks := fun k h => h.elim (pJ k) (fun h => .inr (split_mem2 h))
  have hpJ : p ∉ (joinT (joinT (t.split xk).1 (.node w1.heap.size ⟨xk, xd, xp, xn⟩ .nil .nil)) (t.split xk).2).blocks := fun h => (pn p (join_mem h)).elim (fun h => by have := Hz1.out; omega) hpn
  have hp4 : w3.heap[p]? = some (.cells (treapCells t m) 243 (0, 0)) := hk3.at Hp3.out (fun h => (pn p h).elim (fun h => by have := Hz1.out; omega) hpn)
  have K3 := Lib.hid (K2.out.trans hk3 (fun k h => (pn k h).elim (fun h => .inr (by have := Hz1.out; omega)) (fun h => .inl (.inr h))))
  have c0 : w3.cell? ⟨p, 0, none⟩ = some t.ptr := cellOf hp4 0
  have c1 : w3.cell? ⟨p, 1, none⟩ = some (.int .i64 m) := cellOf hp4 1
  have f0 : w3.frozen? ⟨p, 0, none⟩ = false := freeOf hp4 0
  have f1 : w3.frozen? ⟨p, 1, none⟩ = false := freeOf hp4 1
  have N3 := Lib.hid (join_nodup nJ n2 dJ)
  have J3 := Lib.hid j2
  have Hp4 := Lib.hid hp4
  have HpJ := Lib.hid hpJ
  clear pn hk3 hz3 hp4 j2 nJ dJ pJ hpJ
  generalize hu1 : (joinT (joinT (t.split xk).1 (.node w1.heap.size ⟨xk, xd, xp, xn⟩ .nil .nil)) (t.split xk).2).ptr = u1
  obtain ⟨u, hu⟩ := T.ptr_pointer (joinT (joinT (t.split xk).1 (.node w1.heap.size ⟨xk, xd, xp, xn⟩ .nil .nil)) (t.split xk).2)
  obtain rfl : u1 = .pointer u := hu1.symm.trans hu
  obtain ⟨u0, hu0⟩ := T.ptr_pointer t
  rw [hu0] at c0
  have Hu1 := Lib.hid hu1
  clear hu1 hu hu0
  go_wp2
  go_ret
  refine ⟨rfl, w1.heap.size, by have := Hz1.out; omega, ⟨wrap64 (m + 1), ?_, (J3.out.set _ HpJ.out).set _ HpJ.out, List.nodup_cons.2 ⟨HpJ.out, N3.out⟩⟩, (K3.out.setCell (.inl (.inl rfl)) _).setCell (.inl (.inl rfl)) _⟩
  · rw [block_set (block_set Hp4.out 0 _) 1 _]
    unfold putT
    simp only [treapCells, Hu1.out]
    rfl

theorem putT_mem {B : Nat} {x : Nd} {t : T} {k : Nat} (h : k ∈ (putT B x t).blocks) : k ∈ t.blocks ∨ k = B := by
  unfold putT at h
  rcases join_mem h with h | h
  · rcases join_mem h with h | h
    · exact .inl (split_mem1 h)
    · exact .inr (by simpa [T.blocks] using h)
  · exact .inl (split_mem2 h)

end Go.Proofs.YtffafkmmfaaobaaGreat
