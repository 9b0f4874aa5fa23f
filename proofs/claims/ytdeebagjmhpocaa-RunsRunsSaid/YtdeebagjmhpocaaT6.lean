/- The tree's methods: Drop. -/
import Derived.Test.YtdeebagjmhpocaaT5
namespace Go.Proofs.Ytdeebagjmhpocaa
set_option linter.unusedSimpArgs false
set_option linter.unusedVariables false
open Go.RowKit

def dropT (k : Int) : T → T
  | .nil => .nil
  | .node b x l r => if x.key = k then joinT l r else if k < x.key then .node b x (dropT k l) r else .node b x l (dropT k r)
/-- The cell that leads to a key's node: that of the whole tree, or of a node on the way. -/
def hole (k : Int) : T → Nat × Nat → Nat × Nat
  | .nil, q => q
  | .node b x l r, q => if x.key = k then q else if k < x.key then hole k l (b, 4) else hole k r (b, 5)

theorem seek_mem {k : Int} : ∀ {t : T} {b : Nat}, b ∈ (t.seek k).blocks → b ∈ t.blocks
  | .nil, _, h => h
  | .node c x l r, b, h => by
    unfold T.seek at h
    split at h
    · exact h
    · split at h
      · have := seek_mem h; simp [T.blocks, this]
      · have := seek_mem h; simp [T.blocks, this]
theorem drop_mem {k : Int} : ∀ {t : T} {b : Nat}, b ∈ (dropT k t).blocks → b ∈ t.blocks
  | .nil, _, h => h
  | .node c x l r, b, h => by
    unfold dropT at h
    split at h
    · rcases join_mem h with h | h <;> simp [T.blocks, h]
    · split at h
      · simp only [T.blocks, List.mem_cons, List.mem_append] at h ⊢
        rcases h with h | h | h
        · exact .inl h
        · exact .inr (.inl (drop_mem h))
        · exact .inr (.inr h)
      · simp only [T.blocks, List.mem_cons, List.mem_append] at h ⊢
        rcases h with h | h | h
        · exact .inl h
        · exact .inr (.inl h)
        · exact .inr (.inr (drop_mem h))
theorem drop_nodup {k : Int} : ∀ {t : T}, t.blocks.Nodup → (dropT k t).blocks.Nodup
  | .nil, h => h
  | .node c x l r, h => by
    obtain ⟨h1, h2, h3, h4, h5⟩ := nodup_node h
    unfold dropT
    split
    · exact join_nodup h3 h4 h5
    · split
      · simp only [T.blocks, List.nodup_cons, List.mem_append, not_or, List.nodup_append]
        exact ⟨⟨fun h => h1 (drop_mem h), h2⟩, drop_nodup h3, h4, fun a ha b hb e => h5 a (drop_mem ha) (e ▸ hb)⟩
      · simp only [T.blocks, List.nodup_cons, List.mem_append, not_or, List.nodup_append]
        exact ⟨⟨h1, fun h => h2 (drop_mem h)⟩, h3, drop_nodup h4, fun a ha b hb e => h5 a ha (drop_mem (e ▸ hb))⟩

theorem hole_root {k : Int} {b : Nat} {x : Nd} {l r : T} (q : Nat × Nat) (h : x.key = k) : hole k (.node b x l r) q = q := by rw [hole, if_pos h]
theorem hole_less {k : Int} {b : Nat} {x : Nd} {l r : T} (q : Nat × Nat) (h : x.key ≠ k) (h2 : k < x.key) : hole k (.node b x l r) q = hole k l (b, 4) := by rw [hole, if_neg h, if_pos h2]
theorem hole_more {k : Int} {b : Nat} {x : Nd} {l r : T} (q : Nat × Nat) (h : x.key ≠ k) (h2 : ¬ k < x.key) : hole k (.node b x l r) q = hole k r (b, 5) := by rw [hole, if_neg h, if_neg h2]

theorem hole_mem (k : Int) : ∀ (t : T) (q : Nat × Nat), hole k t q = q ∨ (hole k t q).1 ∈ t.blocks
  | .nil, q => .inl rfl
  | .node b x l r, q => by
    unfold hole
    split
    · exact .inl rfl
    · split
      · rcases hole_mem k l (b, 4) with h | h
        · rw [h]; exact .inr (by simp [T.blocks])
        · exact .inr (by simp [T.blocks, h])
      · rcases hole_mem k r (b, 5) with h | h
        · rw [h]; exact .inr (by simp [T.blocks])
        · exact .inr (by simp [T.blocks, h])

/-- The target's own block is not the one that holds the cell that leads to it. -/
theorem hole_ne (k : Int) : ∀ (t : T) (q : Nat × Nat), t.blocks.Nodup → q.1 ∉ t.blocks → (hole k t q).1 ∉ (t.seek k).blocks
  | .nil, q, _, _ => by simp [T.seek, T.blocks]
  | .node b x l r, q, h, hq => by
    obtain ⟨h1, h2, h3, h4, h5⟩ := nodup_node h
    unfold hole T.seek
    split
    · exact hq
    · split
      · exact hole_ne k l (b, 4) h3 h1
      · exact hole_ne k r (b, 5) h4 h2

/-- Behind the drop the tree without the key lies there. -/
theorem drop_in {k : Int} {w w' : World} {J : T} : ∀ (t : T) (q0 : Nat × Nat), t.In w → t.blocks.Nodup → q0.1 ∉ t.blocks → (∀ c y l r, t.seek k = .node c y l r → J = joinT l r) → (t.seek k ≠ .nil) → J.In w' →
    (∀ b ∈ t.blocks, b ∉ (t.seek k).blocks → b ≠ (hole k t q0).1 → w'.heap[b]? = w.heap[b]?) →
    (∀ cs ty fr, w.heap[(hole k t q0).1]? = some (.cells cs ty fr) → w'.heap[(hole k t q0).1]? = some (.cells (cs.setIfInBounds (hole k t q0).2 J.ptr) ty fr)) →
    (dropT k t).In w' ∧ (hole k t q0 = q0 → dropT k t = J) ∧ (hole k t q0 ≠ q0 → (dropT k t).ptr = t.ptr)
  | .nil, _, _, _, _, _, h, _, _, _ => by simp [T.seek] at h
  | .node b x l r, q0, hin, hnd, hq, hJ, hne, hJin, hold, hset => by
    obtain ⟨h1, h2, h3, h4, h5⟩ := nodup_node hnd
    have hqb : q0.1 ≠ b := fun e => hq (by simp [T.blocks, e])
    by_cases he : x.key = k
    · have e1 : dropT k (.node b x l r) = joinT l r := by rw [dropT, if_pos he]
      have e2 := hJ b x l r (by rw [T.seek, if_pos he])
      rw [hole_root _ he, e1, ← e2]
      exact ⟨hJin, fun _ => rfl, fun h => absurd rfl h⟩
    · by_cases hl : k < x.key
      · have e1 : dropT k (.node b x l r) = .node b x (dropT k l) r := by rw [dropT, if_neg he, if_pos hl]
        have es : (T.node b x l r).seek k = l.seek k := by rw [T.seek, if_neg he, if_pos hl]
        rw [hole_less _ he hl] at hold hset ⊢
        rw [es] at hJ hne hold
        obtain ⟨i1, i2, i3⟩ := drop_in l (b, 4) hin.2.1 h3 h1 hJ hne hJin (fun c hc => hold c (by simp [T.blocks, hc])) hset
        have hrin : r.In w' := hin.2.2.congr fun c hc => hold c (by simp [T.blocks, hc]) (fun h => h5 c (seek_mem h) hc)
          (fun e => (hole_mem k l (b, 4)).elim (fun h => by rw [h] at e; have e : c = b := e; exact h2 (e ▸ hc)) (fun h => h5 _ h (e ▸ hc)))
        rw [e1]
        refine ⟨⟨?_, i1, hrin⟩, fun h => ?_, fun _ => rfl⟩
        · by_cases hb4 : hole k l (b, 4) = (b, 4)
          · have := hset (x.cells l.ptr r.ptr) 113 (0, 0) (by rw [hb4]; exact hin.1)
            rw [hb4] at this
            rw [i2 hb4, this]
            rfl
          · have hm := (hole_mem k l (b, 4)).resolve_left hb4
            rw [i3 hb4, hold b (by simp [T.blocks]) (fun h => h1 (seek_mem h)) (fun e => h1 (e ▸ hm))]
            exact hin.1
        · exfalso
          rcases hole_mem k l (b, 4) with h' | h'
          · rw [h'] at h; exact hqb (by rw [← h])
          · rw [h] at h'; exact hq (by simp [T.blocks, h'])
      · have e1 : dropT k (.node b x l r) = .node b x l (dropT k r) := by rw [dropT, if_neg he, if_neg hl]
        have es : (T.node b x l r).seek k = r.seek k := by rw [T.seek, if_neg he, if_neg hl]
        rw [hole_more _ he hl] at hold hset ⊢
        rw [es] at hJ hne hold
        obtain ⟨i1, i2, i3⟩ := drop_in r (b, 5) hin.2.2 h4 h2 hJ hne hJin (fun c hc => hold c (by simp [T.blocks, hc])) hset
        have hlin : l.In w' := hin.2.1.congr fun c hc => hold c (by simp [T.blocks, hc]) (fun h => h5 c hc (seek_mem h))
          (fun e => (hole_mem k r (b, 5)).elim (fun h => by rw [h] at e; have e : c = b := e; exact h1 (e ▸ hc)) (fun h => h5 c hc (e ▸ h)))
        rw [e1]
        refine ⟨⟨?_, hlin, i1⟩, fun h => ?_, fun _ => rfl⟩
        · by_cases hb4 : hole k r (b, 5) = (b, 5)
          · have := hset (x.cells l.ptr r.ptr) 113 (0, 0) (by rw [hb4]; exact hin.1)
            rw [hb4] at this
            rw [i2 hb4, this]
            rfl
          · have hm := (hole_mem k r (b, 5)).resolve_left hb4
            rw [i3 hb4, hold b (by simp [T.blocks]) (fun h => h2 (seek_mem h)) (fun e => h2 (e ▸ hm))]
            exact hin.1
        · exfalso
          rcases hole_mem k r (b, 5) with h' | h'
          · rw [h'] at h; exact hqb (by rw [← h])
          · rw [h] at h'; exact hq (by simp [T.blocks, h'])

end Go.Proofs.Ytdeebagjmhpocaa
