/- The tree's functions, on: join. -/
import Derived.Test.YtdeebagjmhpocaaT2
namespace Go.Proofs.Ytdeebagjmhpocaa
set_option linter.unusedSimpArgs false
set_option linter.unusedVariables false
open Go.RowKit

def joinT : T → T → T
  | .nil, b => b
  | .node i x l r, .nil => .node i x l r
  | .node i x l r, .node j y l' r' => if above x y then .node i x l (joinT r (.node j y l' r')) else .node j y (joinT (.node i x l r) l') r'

theorem join_nil (b : T) : joinT .nil b = b := by rw [joinT]
theorem join_nil_right (a : T) : joinT a .nil = a := by cases a <;> rw [joinT]
theorem join_above {i j : Nat} {x y : Nd} {l r l' r' : T} (h : above x y = true) : joinT (.node i x l r) (.node j y l' r') = .node i x l (joinT r (.node j y l' r')) := by
  rw [joinT, if_pos h]
theorem join_below {i j : Nat} {x y : Nd} {l r l' r' : T} (h : above x y = false) : joinT (.node i x l r) (.node j y l' r') = .node j y (joinT (.node i x l r) l') r' := by
  rw [joinT, if_neg (by simp [h])]

theorem join_blocks : ∀ a b : T, (joinT a b).blocks.Perm (a.blocks ++ b.blocks)
  | .nil, b => by rw [join_nil]; exact .refl _
  | .node i x l r, .nil => by rw [join_nil_right]; simp [T.blocks]
  | .node i x l r, .node j y l' r' => by
    cases h : above x y with
    | true =>
      rw [join_above h]
      simp only [T.blocks, List.cons_append, List.append_assoc]
      exact .cons _ (.append_left _ (join_blocks r (.node j y l' r')))
    | false =>
      rw [join_below h]
      have := join_blocks (.node i x l r) l'
      simp only [T.blocks] at *
      refine .trans ?_ (List.perm_middle).symm
      refine .cons _ ?_
      rw [← List.append_assoc]
      exact .append_right _ this
  termination_by a b => SizeOf.sizeOf a + SizeOf.sizeOf b

theorem join_mem {a b : T} {k : Nat} (h : k ∈ (joinT a b).blocks) : k ∈ a.blocks ∨ k ∈ b.blocks :=
  List.mem_append.1 ((join_blocks a b).subset h)

def JoinPost (a b : T) (w : World) (e : Ending) (w' : World) : Prop :=
  e = .returned (joinT a b).ptr ∧ (joinT a b).In w' ∧ Kept (fun k => k ∈ a.blocks ∨ k ∈ b.blocks) w w' ∧ w'.heap.size = w.heap.size

theorem drewN_block {w : World} {n k : Nat} : (w.drewN n).heap[k]? = w.heap[k]? := by rw [show (w.drewN n).heap = w.heap from rfl]
theorem Kept.drewN {F : Nat → Prop} {a w : World} (h : Kept F a w) (n : Nat) : Kept F a (w.drewN n) := ⟨h.os, h.tape, h.output, h.size, h.block⟩
theorem T.In.drewN {w : World} {t : T} (h : t.In w) (n : Nat) : t.In (w.drewN n) := h.congr fun _ _ => drewN_block

set_option maxHeartbeats 1600000 in
theorem join_any : ∀ (a b : T) (w : World), a.In w → b.In w → a.blocks.Nodup → b.blocks.Nodup → (∀ k ∈ a.blocks, k ∉ b.blocks) →
    Calls Try.prog 82 #[a.ptr, b.ptr] w (JoinPost a b w)
  | .nil, b, w, _, hb, _, _, _ => by
    obtain ⟨u, hu⟩ := T.ptr_pointer b
    show Calls Try.prog 82 #[.pointer none, b.ptr] w _
    rw [hu]
    have Hu := Lib.hid hu
    clear hu
    go_enter Try.func82, Try.ntmps82
    go_wp2
    go_ret
    exact ⟨by rw [join_nil, Hu.out]; rfl, by rw [join_nil]; exact hb, Kept.refl _ _, rfl⟩
  | .node i x l r, .nil, w, ha, _, _, _, _ => by
    show Calls Try.prog 82 #[.pointer (some ⟨i, 0, none⟩), .pointer none] w _
    have Ha := Lib.hid ha
    clear ha
    go_enter Try.func82, Try.ntmps82
    go_wp2
    go_ret
    exact ⟨by rw [join_nil_right]; rfl, by rw [join_nil_right]; exact Ha.out, Kept.refl _ _, rfl⟩
  | .node i x l r, .node j y l' r', w, ha, hb, na, nb, nab => by
    have hA := ha
    have hB := hb
    obtain ⟨ha0, hal, har⟩ := ha
    obtain ⟨hb0, hbl, hbr⟩ := hb
    obtain ⟨il, ir, ndl, ndr, nlr⟩ := nodup_node na
    obtain ⟨jl, jr, ndl', ndr', nlr'⟩ := nodup_node nb
    have a5 : w.cell? ⟨i, 5, none⟩ = some r.ptr := cellOf ha0 5
    have b4 : w.cell? ⟨j, 4, none⟩ = some l'.ptr := cellOf hb0 4
    show Calls Try.prog 82 #[.pointer (some ⟨i, 0, none⟩), .pointer (some ⟨j, 0, none⟩)] w _
    cases hab : above x y with
    | true =>
      have Hj := Lib.hid (join_above (i := i) (j := j) (l := l) (r := r) (l' := l') (r' := r') hab)
      have Hab := Lib.hid hab
      clear hab
      have call := Lib.hid (fun n : Nat => join_any r (.node j y l' r') (w.drewN n) (har.drewN n) (hB.drewN n) ndr nb (fun k hk => nab k (by simp [T.blocks, hk])))
      go_enter Try.func82, Try.ntmps82
      go_wp2_with fail
      refine (above_any i j x y _ _ _ _ _ ha0 hb0).mono ?_
      rintro e w1 ⟨rfl, n, rfl⟩
      rw [Hab.out]
      have e5 : (w.drewN n).cell? ⟨i, 5, none⟩ = some r.ptr := cellOf ha0 5
      have Ha0 := Lib.hid ha0
      clear ha0 hb0
      go_wp2_with fail
      refine (call.out n).mono ?_
      rintro e w1 ⟨rfl, h1, hk, hz⟩
      have ha1 : w1.heap[i]? = some (.cells (x.cells l.ptr r.ptr) 113 (0, 0)) := hk.at Ha0.out (fun h => h.elim ir (nab i (by simp [T.blocks])))
      have hl1 : l.In w1 := (hal.drewN n).kept hk (fun k hkl h => h.elim (nlr k hkl) (nab k (by simp [T.blocks, hkl])))
      have f5 : w1.frozen? ⟨i, 5, none⟩ = false := freeOf ha1 5
      have d5 : w1.cell? ⟨i, 5, none⟩ = some r.ptr := cellOf ha1 5
      have hni : i ∉ (joinT r (.node j y l' r')).blocks := fun h => (join_mem h).elim ir (nab i (by simp [T.blocks]))
      have S3 := Lib.hid (And.intro (block_set ha1 5 (joinT r (.node j y l' r')).ptr) (And.intro (hl1.set (p := ⟨i, 5, none⟩) (joinT r (.node j y l' r')).ptr il) (h1.set (p := ⟨i, 5, none⟩) (joinT r (.node j y l' r')).ptr hni)))
      have Hk := Lib.hid ((((Kept.refl (fun k => k ∈ (T.node i x l r).blocks ∨ k ∈ (T.node j y l' r').blocks) w).drewN n).trans hk (fun k h => .inl (h.imp (fun h => by simp [T.blocks, h]) id))).setCell (p := ⟨i, 5, none⟩) (.inl (.inl (by simp [T.blocks]))) (joinT r (.node j y l' r')).ptr)
      have Hz := Lib.hid hz
      clear hz hk ha1 h1 hl1 hni a5 b4 e5
      obtain ⟨u0, hu0⟩ := T.ptr_pointer r
      rw [hu0] at d5
      clear hu0
      generalize hu1 : (joinT r (.node j y l' r')).ptr = u1 at S3 Hk ⊢
      obtain ⟨u, hu⟩ := T.ptr_pointer (joinT r (.node j y l' r'))
      obtain rfl : u1 = .pointer u := hu1.symm.trans hu
      have Hu1 := Lib.hid hu1
      clear hu1 hu
      go_wp2
      go_ret
      obtain ⟨s1, s2, s3⟩ := S3.out
      unfold JoinPost
      rw [Hj.out]
      refine ⟨rfl, ⟨?_, s2, s3⟩, Hk.out, by simpa using Hz.out⟩
      rw [Hu1.out]; exact s1
    | false =>
      have Hj := Lib.hid (join_below (i := i) (j := j) (l := l) (r := r) (l' := l') (r' := r') hab)
      have Hab := Lib.hid hab
      clear hab
      have call := Lib.hid (fun n : Nat => join_any (.node i x l r) l' (w.drewN n) (hA.drewN n) (hbl.drewN n) na ndl' (fun k hk h => nab k hk (by simp [T.blocks, h])))
      go_enter Try.func82, Try.ntmps82
      go_wp2_with fail
      refine (above_any i j x y _ _ _ _ _ ha0 hb0).mono ?_
      rintro e w1 ⟨rfl, n, rfl⟩
      rw [Hab.out]
      have e4 : (w.drewN n).cell? ⟨j, 4, none⟩ = some l'.ptr := cellOf hb0 4
      have Hb0 := Lib.hid hb0
      clear ha0 hb0
      go_wp2_with fail
      refine (call.out n).mono ?_
      rintro e w1 ⟨rfl, h1, hk, hz⟩
      have hnj : ∀ k ∈ (T.node j y l' r').blocks, k ∉ (T.node i x l r).blocks := fun k h h' => nab k h' h
      have ha1 : w1.heap[j]? = some (.cells (y.cells l'.ptr r'.ptr) 113 (0, 0)) := hk.at Hb0.out (fun h => h.elim (hnj j (by simp [T.blocks])) jl)
      have hl1 : r'.In w1 := (hbr.drewN n).kept hk (fun k hkl h => h.elim (hnj k (by simp [T.blocks, hkl])) (fun h => nlr' k h hkl))
      have f4 : w1.frozen? ⟨j, 4, none⟩ = false := freeOf ha1 4
      have d4 : w1.cell? ⟨j, 4, none⟩ = some l'.ptr := cellOf ha1 4
      have hni : j ∉ (joinT (.node i x l r) l').blocks := fun h => (join_mem h).elim (hnj j (by simp [T.blocks])) jl
      have S3 := Lib.hid (And.intro (block_set ha1 4 (joinT (.node i x l r) l').ptr) (And.intro (hl1.set (p := ⟨j, 4, none⟩) (joinT (.node i x l r) l').ptr jr) (h1.set (p := ⟨j, 4, none⟩) (joinT (.node i x l r) l').ptr hni)))
      have Hk := Lib.hid ((((Kept.refl (fun k => k ∈ (T.node i x l r).blocks ∨ k ∈ (T.node j y l' r').blocks) w).drewN n).trans hk (fun k h => .inl (h.imp id (fun h => by simp [T.blocks, h])))).setCell (p := ⟨j, 4, none⟩) (.inl (.inr (by simp [T.blocks]))) (joinT (.node i x l r) l').ptr)
      have Hz := Lib.hid hz
      clear hz hk ha1 h1 hl1 hni hnj a5 b4 e4
      obtain ⟨u0, hu0⟩ := T.ptr_pointer l'
      rw [hu0] at d4
      clear hu0
      generalize hu1 : (joinT (.node i x l r) l').ptr = u1 at S3 Hk ⊢
      obtain ⟨u, hu⟩ := T.ptr_pointer (joinT (.node i x l r) l')
      obtain rfl : u1 = .pointer u := hu1.symm.trans hu
      have Hu1 := Lib.hid hu1
      clear hu1 hu
      go_wp2
      go_ret
      obtain ⟨s1, s2, s3⟩ := S3.out
      unfold JoinPost
      rw [Hj.out]
      refine ⟨rfl, ⟨?_, s3, s2⟩, Hk.out, by simpa using Hz.out⟩
      rw [Hu1.out]; exact s1
  termination_by a b => SizeOf.sizeOf a + SizeOf.sizeOf b

end Go.Proofs.Ytdeebagjmhpocaa
