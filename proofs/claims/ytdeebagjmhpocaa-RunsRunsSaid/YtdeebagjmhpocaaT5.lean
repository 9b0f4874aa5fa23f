/- The tree's methods: Put. -/
import Derived.Test.YtdeebagjmhpocaaT4
namespace Go.Proofs.Ytdeebagjmhpocaa
set_option linter.unusedSimpArgs false
set_option linter.unusedVariables false
open Go.RowKit

/-- A treap lies at p. -/
def TreapAt (w : World) (p : Nat) (t : T) : Prop := ∃ m : Int, w.heap[p]? = some (.cells (treapCells t m) 110 (0, 0)) ∧ t.In w ∧ (p :: t.blocks).Nodup

def putT (B : Nat) (x : Nd) (t : T) : T := joinT (joinT (t.split x.key).1 (.node B x .nil .nil)) (t.split x.key).2

def PutPost (p : Nat) (x : Nd) (t : T) (w : World) (e : Ending) (w' : World) : Prop :=
  e = .returned (.bool true) ∧ ∃ B, w.heap.size ≤ B ∧ TreapAt w' p (putT B x t) ∧ Kept (fun k => k = p ∨ k ∈ t.blocks) w w'

theorem split_nodup {k : Int} {t : T} (h : t.blocks.Nodup) : (t.split k).1.blocks.Nodup ∧ (t.split k).2.blocks.Nodup ∧ ∀ b ∈ (t.split k).1.blocks, b ∉ (t.split k).2.blocks := by
  have := (T.split_blocks k t).nodup_iff.2 h
  rw [List.nodup_append] at this
  exact ⟨this.1, this.2.1, fun b h1 h2 => this.2.2 b h1 b h2 rfl⟩
theorem join_nodup {a b : T} (ha : a.blocks.Nodup) (hb : b.blocks.Nodup) (hab : ∀ k ∈ a.blocks, k ∉ b.blocks) : (joinT a b).blocks.Nodup :=
  (join_blocks a b).nodup_iff.2 (List.nodup_append.2 ⟨ha, hb, fun k h1 j h2 e => hab k h1 (e ▸ h2)⟩)

set_option maxRecDepth 100000 in
set_option maxHeartbeats 1600000 in
theorem put_any (p : Nat) (x : Nd) (t : T) (w : World) (h : TreapAt w p t) (hs : t.seek x.key = .nil) :
    Calls Try.prog 65 #[.pointer (some ⟨p, 0, none⟩), .int .i64 x.key, .int .u32 x.draw, .agg #[.int .i64 x.pg, .int .i64 x.ln]] w (PutPost p x t w) := by
  obtain ⟨m, hp, ht, hnd⟩ := h
  have hpn : p ∉ t.blocks := (List.nodup_cons.1 hnd).1
  have htn : t.blocks.Nodup := (List.nodup_cons.1 hnd).2
  have hplt := lt_of_block hp
  obtain ⟨xk, xd, xp, xn⟩ := x
  dsimp only at hs ⊢
  obtain ⟨n1, n2, n12⟩ := split_nodup (k := xk) htn
  have c0 : w.cell? ⟨p, 0, none⟩ = some t.ptr := cellOf hp 0
  have c1 : w.cell? ⟨p, 1, none⟩ = some (.int .i64 m) := cellOf hp 1
  have hd1 : ∀ k ∈ t.blocks, k < w.heap.size := ht.lt
  have F1 := Lib.hid (fun o : Obj => find_any xk p t m (w.alloc o) (block_alloc hp o) (ht.alloc o))
  have F2 := Lib.hid (fun o : Obj => split_any xk t (w.alloc o) (ht.alloc o) htn)
  have Hs := Lib.hid hs
  have Hp := Lib.hid hp
  have Ht := Lib.hid ht
  clear hs hp ht hnd
  go_enter Try.func65, Try.ntmps65
  go_wp2_with fail
  refine (F1.out _).mono ?_
  rintro e w1 ⟨rfl, rfl⟩
  rw [Hs.out, T.ptr_nil]
  go_wp2_with fail
  refine (F2.out _).mono ?_
  rintro e w1 ⟨rfl, i1, i2, hk, hz⟩
  generalize hW : (w.alloc (Obj.cells #[Value.int IntKind.i64 xp, Value.int IntKind.i64 xn] 77)) = W at hk hz
  have hb0 : W.heap[w.heap.size]? = some (.cells #[.int .i64 xp, .int .i64 xn] 77 (0, 0)) := by rw [← hW]; exact heap_alloc_new w _
  have hWs : W.heap.size = w.heap.size + 1 := by rw [← hW]; simp
  have hWk : Kept (fun k => k = p ∨ k ∈ t.blocks) w W := by rw [← hW]; exact (Kept.refl _ _).alloc _
  have hp0 : W.heap[p]? = some (.cells (treapCells t m) 110 (0, 0)) := by rw [← hW]; exact block_alloc Hp.out _
  have hp1 : w1.heap[p]? = some (.cells (treapCells t m) 110 (0, 0)) := hk.at hp0 hpn
  have hb1 : w1.heap[w.heap.size]? = some (.cells #[.int .i64 xp, .int .i64 xn] 77 (0, 0)) := hk.at hb0 (fun h => by have := hd1 _ h; omega)
  have d0 : w1.cell? ⟨w.heap.size, 0, none⟩ = some (.int .i64 xp) := cellOf hb1 0
  have d1 : w1.cell? ⟨w.heap.size, 1, none⟩ = some (.int .i64 xn) := cellOf hb1 1
  have hz1 : w1.heap.size = w.heap.size + 1 := by omega
  have K1 := Lib.hid (hWk.trans hk (fun k h => .inl (.inr h)))
  have S1 := Lib.hid (show (∀ b ∈ (t.split xk).1.blocks, b < w.heap.size ∧ b ≠ p) ∧ (∀ b ∈ (t.split xk).2.blocks, b < w.heap.size ∧ b ≠ p) from
    ⟨fun b h => ⟨hd1 b (split_mem1 h), fun e => hpn (e ▸ split_mem1 h)⟩, fun b h => ⟨hd1 b (split_mem2 h), fun e => hpn (e ▸ split_mem2 h)⟩⟩)
  have F3 := Lib.hid (show Calls Try.prog 82 #[(t.split xk).1.ptr, .pointer (some ⟨w1.heap.size, 0, none⟩)] (w1.alloc (.cells #[.int .i64 xk, .int .u32 xd, .int .i64 xp, .int .i64 xn, .pointer none, .pointer none] 113)) (JoinPost (t.split xk).1 (.node w1.heap.size ⟨xk, xd, xp, xn⟩ .nil .nil) _) from
    join_any (t.split xk).1 (.node w1.heap.size ⟨xk, xd, xp, xn⟩ .nil .nil) _ (i1.alloc _) ⟨heap_alloc_new w1 _, trivial, trivial⟩ n1 (by simp [T.blocks]) (fun k h1 h2 => by simp only [T.blocks, List.append_nil, List.mem_cons, List.not_mem_nil, or_false] at h2; have := (S1.out.1 k h1).1; omega))
  have I2 := Lib.hid (i2.alloc (.cells #[.int .i64 xk, .int .u32 xd, .int .i64 xp, .int .i64 xn, .pointer none, .pointer none] 113))
  have hp2 := Lib.hid (block_alloc hp1 (.cells #[.int .i64 xk, .int .u32 xd, .int .i64 xp, .int .i64 xn, .pointer none, .pointer none] 113))
  have Hz1 := Lib.hid hz1
  clear hk hz hW hWs hWk hb0 hp0 hp1 hb1 i1 i2 c0 c1 hz1
  go_wp2_with fail
  refine (F3.out).mono ?_
  rintro e w2 ⟨rfl, j1, hk2, hz2⟩
  have hz2' : w2.heap.size = w1.heap.size + 1 := by simpa using hz2
  have hb2 : ∀ k ∈ (T.node w1.heap.size ⟨xk, xd, xp, xn⟩ .nil .nil).blocks, k = w1.heap.size := fun k h => by simpa [T.blocks] using h
  have i3 := I2.out.kept hk2 (fun k hk h => h.elim (fun h => n12 k h hk) (fun h => by have := hb2 k h; have := (S1.out.2 k hk).1; have := Hz1.out; omega))
  have hp3 : w2.heap[p]? = some (.cells (treapCells t m) 110 (0, 0)) := hk2.at hp2.out (fun h => h.elim (fun h => (S1.out.1 p h).2 rfl) (fun h => by have := hb2 p h; have := Hz1.out; omega))
  have nJ : (joinT (t.split xk).1 (.node w1.heap.size ⟨xk, xd, xp, xn⟩ .nil .nil)).blocks.Nodup := join_nodup n1 (by simp [T.blocks]) (fun k h1 h2 => by have := hb2 k h2; have := (S1.out.1 k h1).1; have := Hz1.out; omega)
  have dJ : ∀ k ∈ (joinT (t.split xk).1 (.node w1.heap.size ⟨xk, xd, xp, xn⟩ .nil .nil)).blocks, k ∉ (t.split xk).2.blocks := fun k h h2 => (join_mem h).elim (fun h => n12 k h h2) (fun h => by have := hb2 k h; have := (S1.out.2 k h2).1; have := Hz1.out; omega)
  have pJ : ∀ k ∈ (joinT (t.split xk).1 (.node w1.heap.size ⟨xk, xd, xp, xn⟩ .nil .nil)).blocks, k = w1.heap.size ∨ k ∈ t.blocks := fun k h => (join_mem h).elim (fun h => .inr (split_mem1 h)) (fun h => .inl (hb2 k h))
  have F4 := Lib.hid (join_any _ _ w2 j1 i3 nJ n2 dJ)
  have hkA : Kept (fun k => k = p ∨ k ∈ t.blocks) w w2 := (K1.out.alloc _).trans hk2 (fun k h => h.elim (fun h => .inl (.inr (split_mem1 h))) (fun h => .inr (by have := hb2 k h; have := Hz1.out; omega)))
  have K2 := Lib.hid hkA
  have Hp3 := Lib.hid hp3
  have HJ := Lib.hid (And.intro nJ (And.intro dJ pJ))
  clear hz2 hz2' hb2 i3 hp3 nJ dJ pJ hkA hk2 j1 d0 d1
  go_wp2_with fail
  refine (F4.out).mono ?_
  rintro e w3 ⟨rfl, j2, hk3, hz3⟩
  obtain ⟨nJ, dJ, pJ⟩ := HJ.out
  have pn : ∀ k, (k ∈ (joinT (t.split xk).1 (.node w1.heap.size ⟨xk, xd, xp, xn⟩ .nil .nil)).blocks ∨ k ∈ (t.split xk).2.blocks) → k = w1.heap.size ∨ k ∈ t.blocks := fun k h => h.elim (pJ k) (fun h => .inr (split_mem2 h))
  have hpJ : p ∉ (joinT (joinT (t.split xk).1 (.node w1.heap.size ⟨xk, xd, xp, xn⟩ .nil .nil)) (t.split xk).2).blocks := fun h => (pn p (join_mem h)).elim (fun h => by have := Hz1.out; omega) hpn
  have hp4 : w3.heap[p]? = some (.cells (treapCells t m) 110 (0, 0)) := hk3.at Hp3.out (fun h => (pn p h).elim (fun h => by have := Hz1.out; omega) hpn)
  have K3 := Lib.hid (K2.out.trans hk3 (fun k h => (pn k h).elim (fun h => .inr (by have := Hz1.out; omega)) (fun h => .inl (.inr h))))
  have c0 : w3.cell? ⟨p, 0, none⟩ = some t.ptr := cellOf hp4 0
  have c1 : w3.cell? ⟨p, 1, none⟩ = some (.int .i64 m) := cellOf hp4 1
  have f0 : w3.frozen? ⟨p, 0, none⟩ = false := freeOf hp4 0
  have f1 : w3.frozen? ⟨p, 1, none⟩ = false := freeOf hp4 1
  have N3 := Lib.hid (join_nodup nJ n2 dJ)
  have J3 := Lib.hid j2
  have Hp4 := Lib.hid hp4
  have HpJ := Lib.hid hpJ
  clear pn hk3 hz3 hp4 j2 nJ dJ pJ hpJ
  generalize hu1 : (joinT (joinT (t.split xk).1 (.node w1.heap.size ⟨xk, xd, xp, xn⟩ .nil .nil)) (t.split xk).2).ptr = u1
  obtain ⟨u, hu⟩ := T.ptr_pointer (joinT (joinT (t.split xk).1 (.node w1.heap.size ⟨xk, xd, xp, xn⟩ .nil .nil)) (t.split xk).2)
  obtain rfl : u1 = .pointer u := hu1.symm.trans hu
  obtain ⟨u0, hu0⟩ := T.ptr_pointer t
  rw [hu0] at c0
  have Hu1 := Lib.hid hu1
  clear hu1 hu hu0
  go_wp2
  go_ret
  refine ⟨rfl, w1.heap.size, by have := Hz1.out; omega, ⟨wrap64 (m + 1), ?_, (J3.out.set _ HpJ.out).set _ HpJ.out, List.nodup_cons.2 ⟨HpJ.out, N3.out⟩⟩, (K3.out.setCell (.inl (.inl rfl)) _).setCell (.inl (.inl rfl)) _⟩
  · rw [block_set (block_set Hp4.out 0 _) 1 _]
    unfold putT
    simp only [treapCells, Hu1.out]
    rfl

theorem putT_mem {B : Nat} {x : Nd} {t : T} {k : Nat} (h : k ∈ (putT B x t).blocks) : k ∈ t.blocks ∨ k = B := by
  unfold putT at h
  rcases join_mem h with h | h
  · rcases join_mem h with h | h
    · exact .inl (split_mem1 h)
    · exact .inr (by simpa [T.blocks] using h)
  · exact .inl (split_mem2 h)

end Go.Proofs.Ytdeebagjmhpocaa
