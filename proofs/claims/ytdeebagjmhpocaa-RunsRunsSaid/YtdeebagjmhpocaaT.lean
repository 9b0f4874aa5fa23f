/- The tree's functions: each returns what the plain function of the same name computes. -/
import Derived.Test.YtdeebagjmhpocaaM
namespace Go.Proofs.Ytdeebagjmhpocaa
set_option linter.unusedSimpArgs false
set_option linter.unusedVariables false
open Go.RowKit

theorem nodup_node {b : Nat} {x : Nd} {l r : T} (h : (T.node b x l r).blocks.Nodup) : b ∉ l.blocks ∧ b ∉ r.blocks ∧ l.blocks.Nodup ∧ r.blocks.Nodup ∧ ∀ k ∈ l.blocks, k ∉ r.blocks := by
  simp only [T.blocks, List.nodup_cons, List.mem_append, not_or] at h
  obtain ⟨⟨h1, h2⟩, h3⟩ := h
  rw [List.nodup_append] at h3
  exact ⟨h1, h2, h3.1, h3.2.1, fun k hk hr => h3.2.2 k hk k hr rfl⟩

theorem split_mem1 {k : Int} {t : T} {b : Nat} (h : b ∈ (t.split k).1.blocks) : b ∈ t.blocks :=
  (T.split_blocks k t).subset (List.mem_append.2 (.inl h))
theorem split_mem2 {k : Int} {t : T} {b : Nat} (h : b ∈ (t.split k).2.blocks) : b ∈ t.blocks :=
  (T.split_blocks k t).subset (List.mem_append.2 (.inr h))

theorem split_lt {k : Int} {b : Nat} {x : Nd} {l r : T} (h : x.key < k) : T.split k (.node b x l r) = (.node b x l (r.split k).1, (r.split k).2) := by
  rw [T.split, if_pos h]
theorem split_ge {k : Int} {b : Nat} {x : Nd} {l r : T} (h : ¬ x.key < k) : T.split k (.node b x l r) = ((l.split k).1, .node b x (l.split k).2 r) := by
  rw [T.split, if_neg h]

def SplitPost (k : Int) (t : T) (w : World) (e : Ending) (w' : World) : Prop :=
  e = .returned (.tuple #[(t.split k).1.ptr, (t.split k).2.ptr]) ∧ (t.split k).1.In w' ∧ (t.split k).2.In w' ∧ Kept (· ∈ t.blocks) w w' ∧ w'.heap.size = w.heap.size

set_option maxHeartbeats 800000 in
theorem split_any (k : Int) (t : T) : ∀ w : World, t.In w → t.blocks.Nodup → Calls Try.prog 81 #[t.ptr, .int .i64 k] w (SplitPost k t w) := by
  induction t with
  | nil =>
    intro w _ _
    show Calls Try.prog 81 #[.pointer none, .int .i64 k] w _
    go_enter Try.func81, Try.ntmps81
    go_wp2
    go_ret2
    exact ⟨rfl, trivial, trivial, Kept.refl _ _, rfl⟩
  | node b x l r ihl ihr =>
    intro w hin hnd
    obtain ⟨hb, hl, hr⟩ := hin
    obtain ⟨nl, nr, ndl, ndr, nlr⟩ := nodup_node hnd
    have c0 : w.cell? ⟨b, 0, none⟩ = some (.int .i64 x.key) := cellOf hb 0
    have c4 : w.cell? ⟨b, 4, none⟩ = some l.ptr := cellOf hb 4
    have c5 : w.cell? ⟨b, 5, none⟩ = some r.ptr := cellOf hb 5
    show Calls Try.prog 81 #[.pointer (some ⟨b, 0, none⟩), .int .i64 k] w _
    by_cases hlt : x.key < k
    · have Hs := Lib.hid (split_lt (b := b) (l := l) (r := r) hlt)
      have Hb := Lib.hid hb
      clear hb
      go_enter Try.func81, Try.ntmps81
      go_wp2_with fail
      refine (ihr _ hr ndr).mono ?_
      rintro e w1 ⟨rfl, h1, h2, hk, hz⟩
      have hb1 := hk.at Hb.out nr
      have f5 : w1.frozen? ⟨b, 5, none⟩ = false := freeOf hb1 5
      have d5 : w1.cell? ⟨b, 5, none⟩ = some r.ptr := cellOf hb1 5
      have S2 : ((w1.setCell ⟨b, 5, none⟩ (r.split k).1.ptr).heap[b]? = some (.cells (x.cells l.ptr (r.split k).1.ptr) 113 (0, 0))) := block_set hb1 5 _
      have hl1 := hl.kept hk nlr
      have S3 := Lib.hid (And.intro S2 (And.intro (hl1.set (p := ⟨b, 5, none⟩) (r.split k).1.ptr nl) (And.intro (h1.set (p := ⟨b, 5, none⟩) (r.split k).1.ptr (fun h => nr (split_mem1 h))) (h2.set (p := ⟨b, 5, none⟩) (r.split k).1.ptr (fun h => nr (split_mem2 h))))))
      clear S2 h1 h2 hl1
      have Hk := Lib.hid ((hk.mono (G := (· ∈ (T.node b x l r).blocks)) (fun i hi => .inl (by simp [T.blocks, hi]))).setCell (p := ⟨b, 5, none⟩) (.inl (by simp [T.blocks])) (r.split k).1.ptr)
      have Hz := Lib.hid hz
      clear hz hk hb1
      obtain ⟨u0, hu0⟩ := T.ptr_pointer r
      rw [hu0] at d5
      clear c0 c4 c5 hu0
      generalize hu1 : (r.split k).1.ptr = u1 at S3 Hk ⊢
      obtain ⟨u, hu⟩ := T.ptr_pointer (r.split k).1
      obtain rfl : u1 = .pointer u := hu1.symm.trans hu
      have Hu1 := Lib.hid hu1
      clear hu1 hu
      go_wp2
      go_ret2
      obtain ⟨s1, s2, s3, s4⟩ := S3.out
      unfold SplitPost
      rw [Hs.out]
      refine ⟨rfl, ⟨?_, s2, s3⟩, s4, Hk.out, by simpa using Hz.out⟩
      rw [Hu1.out]; exact s1
    · have Hs := Lib.hid (split_ge (b := b) (l := l) (r := r) hlt)
      have Hb := Lib.hid hb
      clear hb
      go_enter Try.func81, Try.ntmps81
      go_wp2_with fail
      refine (ihl _ hl ndl).mono ?_
      rintro e w1 ⟨rfl, h1, h2, hk, hz⟩
      have hb1 := hk.at Hb.out nl
      have f5 : w1.frozen? ⟨b, 4, none⟩ = false := freeOf hb1 4
      have d5 : w1.cell? ⟨b, 4, none⟩ = some l.ptr := cellOf hb1 4
      have S2 : ((w1.setCell ⟨b, 4, none⟩ (l.split k).2.ptr).heap[b]? = some (.cells (x.cells (l.split k).2.ptr r.ptr) 113 (0, 0))) := block_set hb1 4 _
      have hl1 := hr.kept hk (fun i hi hj => nlr i hj hi)
      have S3 := Lib.hid (And.intro S2 (And.intro (hl1.set (p := ⟨b, 4, none⟩) (l.split k).2.ptr nr) (And.intro (h1.set (p := ⟨b, 4, none⟩) (l.split k).2.ptr (fun h => nl (split_mem1 h))) (h2.set (p := ⟨b, 4, none⟩) (l.split k).2.ptr (fun h => nl (split_mem2 h))))))
      clear S2 h1 h2 hl1
      have Hk := Lib.hid ((hk.mono (G := (· ∈ (T.node b x l r).blocks)) (fun i hi => .inl (by simp [T.blocks, hi]))).setCell (p := ⟨b, 4, none⟩) (.inl (by simp [T.blocks])) (l.split k).2.ptr)
      have Hz := Lib.hid hz
      clear hz hk hb1
      obtain ⟨u0, hu0⟩ := T.ptr_pointer l
      rw [hu0] at d5
      clear c0 c4 c5 hu0
      generalize hu1 : (l.split k).2.ptr = u1 at S3 Hk ⊢
      obtain ⟨u, hu⟩ := T.ptr_pointer (l.split k).2
      obtain rfl : u1 = .pointer u := hu1.symm.trans hu
      have Hu1 := Lib.hid hu1
      clear hu1 hu
      go_wp2
      go_ret2
      obtain ⟨s1, s2, s3, s4⟩ := S3.out
      unfold SplitPost
      rw [Hs.out]
      refine ⟨rfl, s3, ⟨?_, s4, s2⟩, Hk.out, by simpa using Hz.out⟩
      rw [Hu1.out]; exact s1

end Go.Proofs.Ytdeebagjmhpocaa
