/- The tree's methods: Drop. -/
import Derived.Test.YtffafkmmfaaobaaGreatWr13
import Derived.LaidEqlPtr
import Derived.Test.YtffafkmmfaaobaaGreatWr0
import Derived.StillTail
import Derived.Deep.RegionHeld
import Derived.Test.YtffafkmmfaaobaaGreatWr12
namespace Go.Proofs.YtffafkmmfaaobaaGreat
set_option linter.unusedSimpArgs false
set_option linter.unusedVariables false
open Go.RowKit

def dropT (k : Int) : T → T
  | .nil => .nil
  | .node b x l r => if x.key = k then joinT l r else if k < x.key then .node b x (dropT k l) r else .node b x l (dropT k r)
/-- The cell that leads to a key's node: that of the whole tree, or of a node on the way. -/
def hole (k : Int) : T → Nat × Nat → Nat × Nat
  | .nil, q => q
  | .node b x l r, q => if x.key = k then q else if k < x.key then hole k l (b, 4) else hole k r (b, 5)

theorem seek_mem {k : Int} : ∀ {t : T} {b : Nat}, b ∈ (t.seek k).blocks → b ∈ t.blocks
  | .nil, _, h => h
  | .node c x l r, b, h => by
    unfold T.seek at h
    split at h
    · exact h
    · split at h
      · have := seek_mem h; simp [T.blocks, this]
      · have := seek_mem h; simp [T.blocks, this]
theorem drop_mem {k : Int} : ∀ {t : T} {b : Nat}, b ∈ (dropT k t).blocks → b ∈ t.blocks
  | .nil, _, h => h
  | .node c x l r, b, h => by
    unfold dropT at h
    split at h
    · rcases join_mem h with h | h <;> simp [T.blocks, h]
    · split at h
      · simp only [T.blocks, List.mem_cons, List.mem_append] at h ⊢
        rcases h with h | h | h
        · exact .inl h
        · exact .inr (.inl (drop_mem h))
        · exact .inr (.inr h)
      · simp only [T.blocks, List.mem_cons, List.mem_append] at h ⊢
        rcases h with h | h | h
        · exact .inl h
        · exact .inr (.inl h)
        · exact .inr (.inr (drop_mem h))
theorem drop_nodup {k : Int} : ∀ {t : T}, t.blocks.Nodup → (dropT k t).blocks.Nodup
  | .nil, h => h
  | .node c x l r, h => by
    obtain ⟨h1, h2, h3, h4, h5⟩ := nodup_node h
    unfold dropT
    split
    · exact join_nodup h3 h4 h5
    · split
      · simp only [T.blocks, List.nodup_cons, List.mem_append, not_or, List.nodup_append]
        exact ⟨⟨fun h => h1 (drop_mem h), h2⟩, drop_nodup h3, h4, fun a ha b hb e => h5 a (drop_mem ha) (e ▸ hb)⟩
      · simp only [T.blocks, List.nodup_cons, List.mem_append, not_or, List.nodup_append]
        exact ⟨⟨h1, fun h => h2 (drop_mem h)⟩, h3, drop_nodup h4, fun a ha b hb e => h5 a ha (drop_mem (e ▸ hb))⟩

theorem hole_root {k : Int} {b : Nat} {x : Nd} {l r : T} (q : Nat × Nat) (h : x.key = k) : hole k (.node b x l r) q = q := by rw [hole, if_pos h]
theorem hole_less {k : Int} {b : Nat} {x : Nd} {l r : T} (q : Nat × Nat) (h : x.key ≠ k) (h2 : k < x.key) : hole k (.node b x l r) q = hole k l (b, 4) := by rw [hole, if_neg h, if_pos h2]
theorem hole_more {k : Int} {b : Nat} {x : Nd} {l r : T} (q : Nat × Nat) (h : x.key ≠ k) (h2 : ¬ k < x.key) : hole k (.node b x l r) q = hole k r (b, 5) := by rw [hole, if_neg h, if_neg h2]

theorem hole_mem (k : Int) : ∀ (t : T) (q : Nat × Nat), hole k t q = q ∨ (hole k t q).1 ∈ t.blocks
  | .nil, q => .inl rfl
  | .node b x l r, q => by
    unfold hole
    split
    · exact .inl rfl
    · split
      · rcases hole_mem k l (b, 4) with h | h
        · rw [h]; exact .inr (by simp [T.blocks])
        · exact .inr (by simp [T.blocks, h])
      · rcases hole_mem k r (b, 5) with h | h
        · rw [h]; exact .inr (by simp [T.blocks])
        · exact .inr (by simp [T.blocks, h])

/-- The target's own block is not the one that holds the cell that leads to it. -/
theorem hole_ne (k : Int) : ∀ (t : T) (q : Nat × Nat), t.blocks.Nodup → q.1 ∉ t.blocks → (hole k t q).1 ∉ (t.seek k).blocks
  | .nil, q, _, _ => by simp [T.seek, T.blocks]
  | .node b x l r, q, h, hq => by
    obtain ⟨h1, h2, h3, h4, h5⟩ := nodup_node h
    unfold hole T.seek
    split
    · exact hq
    · split
      · exact hole_ne k l (b, 4) h3 h1
      · exact hole_ne k r (b, 5) h4 h2

/-- Behind the drop the tree without the key lies there. -/
theorem drop_in {k : Int} {w w' : World} {J : T} : ∀ (t : T) (q0 : Nat × Nat), t.In w → t.blocks.Nodup → q0.1 ∉ t.blocks → (∀ c y l r, t.seek k = .node c y l r → J = joinT l r) → (t.seek k ≠ .nil) → J.In w' →
    (∀ b ∈ t.blocks, b ∉ (t.seek k).blocks → b ≠ (hole k t q0).1 → w'.heap[b]? = w.heap[b]?) →
    (∀ cs ty fr, w.heap[(hole k t q0).1]? = some (.cells cs ty fr) → w'.heap[(hole k t q0).1]? = some (.cells (cs.setIfInBounds (hole k t q0).2 J.ptr) ty fr)) →
    (dropT k t).In w' ∧ (hole k t q0 = q0 → dropT k t = J) ∧ (hole k t q0 ≠ q0 → (dropT k t).ptr = t.ptr)
  | .nil, _, _, _, _, _, h, _, _, _ => by simp [T.seek] at h
  | .node b x l r, q0, hin, hnd, hq, hJ, hne, hJin, hold, hset => by
    obtain ⟨h1, h2, h3, h4, h5⟩ := nodup_node hnd
    have hqb : q0.1 ≠ b := fun e => hq (by simp [T.blocks, e])
    by_cases he : x.key = k
    · have e1 : dropT k (.node b x l r) = joinT l r := by rw [dropT, if_pos he]
      have e2 := hJ b x l r (by rw [T.seek, if_pos he])
      rw [hole_root _ he, e1, ← e2]
      exact ⟨hJin, fun _ => rfl, fun h => absurd rfl h⟩
    · by_cases hl : k < x.key
      · have e1 : dropT k (.node b x l r) = .node b x (dropT k l) r := by rw [dropT, if_neg he, if_pos hl]
        have es : (T.node b x l r).seek k = l.seek k := by rw [T.seek, if_neg he, if_pos hl]
        rw [hole_less _ he hl] at hold hset ⊢
        rw [es] at hJ hne hold
        obtain ⟨i1, i2, i3⟩ := drop_in l (b, 4) hin.2.1 h3 h1 hJ hne hJin (fun c hc => hold c (by simp [T.blocks, hc])) hset
        have hrin : r.In w' := hin.2.2.congr fun c hc => hold c (by simp [T.blocks, hc]) (fun h => h5 c (seek_mem h) hc)
          (fun e => (hole_mem k l (b, 4)).elim (fun h => by rw [h] at e; have e : c = b := e; exact h2 (e ▸ hc)) (fun h => h5 _ h (e ▸ hc)))
        rw [e1]
        refine ⟨⟨?_, i1, hrin⟩, fun h => ?_, fun _ => rfl⟩
        · by_cases hb4 : hole k l (b, 4) = (b, 4)
          · have := hset (x.cells l.ptr r.ptr) 268 (0, 0) (by rw [hb4]; exact hin.1)
            rw [hb4] at this
            rw [i2 hb4, this]
            rfl
          · have hm := (hole_mem k l (b, 4)).resolve_left hb4
            rw [i3 hb4, hold b (by simp [T.blocks]) (fun h => h1 (seek_mem h)) (fun e => h1 (e ▸ hm))]
            exact hin.1
        · exfalso
          rcases hole_mem k l (b, 4) with h' | h'
          · rw [h'] at h; exact hqb (by rw [← h])
          · rw [h] at h'; exact hq (by simp [T.blocks, h'])
      · have e1 : dropT k (.node b x l r) = .node b x l (dropT k r) := by rw [dropT, if_neg he, if_neg hl]
        have es : (T.node b x l r).seek k = r.seek k := by rw [T.seek, if_neg he, if_neg hl]
        rw [hole_more _ he hl] at hold hset ⊢
        rw [es] at hJ hne hold
        obtain ⟨i1, i2, i3⟩ := drop_in r (b, 5) hin.2.2 h4 h2 hJ hne hJin (fun c hc => hold c (by simp [T.blocks, hc])) hset
        have hlin : l.In w' := hin.2.1.congr fun c hc => hold c (by simp [T.blocks, hc]) (fun h => h5 c hc (seek_mem h))
          (fun e => (hole_mem k r (b, 5)).elim (fun h => by rw [h] at e; have e : c = b := e; exact h1 (e ▸ hc)) (fun h => h5 c hc (e ▸ h)))
        rw [e1]
        refine ⟨⟨?_, hlin, i1⟩, fun h => ?_, fun _ => rfl⟩
        · by_cases hb4 : hole k r (b, 5) = (b, 5)
          · have := hset (x.cells l.ptr r.ptr) 268 (0, 0) (by rw [hb4]; exact hin.1)
            rw [hb4] at this
            rw [i2 hb4, this]
            rfl
          · have hm := (hole_mem k r (b, 5)).resolve_left hb4
            rw [i3 hb4, hold b (by simp [T.blocks]) (fun h => h2 (seek_mem h)) (fun e => h2 (e ▸ hm))]
            exact hin.1
        · exfalso
          rcases hole_mem k r (b, 5) with h' | h'
          · rw [h'] at h; exact hqb (by rw [← h])
          · rw [h] at h'; exact hq (by simp [T.blocks, h'])

end Go.Proofs.YtffafkmmfaaobaaGreat

namespace Go.Proofs.YtffafkmmfaaobaaGreat
set_option linter.unusedSimpArgs false
set_option linter.unusedVariables false
open Go.RowKit

def DropPost (p : Nat) (k : Int) (t : T) (y : Nd) (w : World) (e : Ending) (w' : World) : Prop :=
  e = .returned (.tuple #[.agg #[.int .i64 y.pg, .int .i64 y.ln], .bool true]) ∧ TreapAt w' p (dropT k t) ∧ Kept (fun i => i = p ∨ i ∈ t.blocks) w w'

theorem seek_in {k : Int} {w : World} : ∀ {t : T}, t.In w → (t.seek k).In w
  | .nil, h => h
  | .node b x l r, h => by
    unfold T.seek
    split
    · exact h
    · split
      · exact seek_in h.2.1
      · exact seek_in h.2.2
theorem seek_nodup {k : Int} : ∀ {t : T}, t.blocks.Nodup → (t.seek k).blocks.Nodup
  | .nil, h => h
  | .node b x l r, h => by
    obtain ⟨h1, h2, h3, h4, h5⟩ := nodup_node h
    unfold T.seek
    split
    · exact h
    · split
      · exact seek_nodup h3
      · exact seek_nodup h4
theorem seek_key {k : Int} {c : Nat} {y : Nd} {l r : T} : ∀ {t : T}, t.seek k = .node c y l r → y.key = k
  | .nil, h => by simp [T.seek] at h
  | .node b x l' r', h => by
    unfold T.seek at h
    split at h
    · rename_i he; cases h; exact he
    · split at h
      · exact seek_key h
      · exact seek_key h

theorem Tryz.info268' : (Tryz.prog.info? 268).map (fun i => i.size) = some 6 := by kernel_rfl
theorem info_size {P : Program} {e : TypeId} {n : Nat} (h : (P.info? e).map (fun i => i.size) = some n) : ∃ i, P.info? e = some i ∧ i.size = n := by
  cases hi : P.info? e with
  | none => simp [hi] at h
  | some i => exact ⟨i, rfl, by simpa [hi] using h⟩
theorem neq_same (a : Addr) (w : World) : (binOp .neq 241 (.pointer (some a)) (.pointer (some a))).run Tryz.prog w = .ok (.bool false) w := by
  obtain ⟨j, hj, _⟩ := info_size Tryz.info268'
  have h : ∀ d : Nat, (Op.equalIn (d + 1) 241 (.pointer (some a)) (.pointer (some a))).run Tryz.prog w = .ok true w := fun d => by
    simp [Op.equalIn, run_underlying Tryz.underlying241, sizeOf, typeInfo, hj, run_sameAddr_same]
  simp only [binOp]
  simp [Op.equal, Op.maxDepth, h 9999]
theorem neq_other {w : World} {a b : Nat} {ca cb : Array Value} {ta tb : TypeId} (hne : a ≠ b) (ha : w.heap[a]? = some (.cells ca ta (0, 0))) (hb : w.heap[b]? = some (.cells cb tb (0, 0))) :
    (binOp .neq 241 (.pointer (some ⟨a, 0, none⟩)) (.pointer (some ⟨b, 0, none⟩))).run Tryz.prog w = .ok (.bool true) w := by
  obtain ⟨j, hj, hs⟩ := info_size Tryz.info268'
  have h : ∀ d : Nat, (Op.equalIn (d + 1) 241 (.pointer (some ⟨a, 0, none⟩)) (.pointer (some ⟨b, 0, none⟩))).run Tryz.prog w = .ok false w := fun d => by
    simp [Op.equalIn, run_underlying Tryz.underlying241, sizeOf, typeInfo, hj, hs, run_sameAddr_other w (a := ⟨a, 0, none⟩) (b := ⟨b, 0, none⟩) (by simp [hne]) ha hb]
  simp only [binOp]
  simp [Op.equal, Op.maxDepth, h 9999]

end Go.Proofs.YtffafkmmfaaobaaGreat

namespace Go.Proofs.YtffafkmmfaaobaaGreat
set_option linter.unusedSimpArgs false
set_option linter.unusedVariables false
open Go.RowKit

def ceilT (k : Int) : T → T → T
  | best, .nil => best
  | best, .node b x l r => if x.key < k then ceilT k best r else ceilT k (.node b x l r) l

def ceilVal : T → Value
  | .nil => .tuple #[.int .i64 0, .agg #[.int .i64 0, .int .i64 0], .bool false]
  | .node _ y _ _ => .tuple #[.int .i64 y.key, .agg #[.int .i64 y.pg, .int .i64 y.ln], .bool true]

def CeilPost (k : Int) (t : T) (w : World) (e : Ending) (w' : World) : Prop := e = .returned (ceilVal (ceilT k .nil t)) ∧ Below w.heap.size w w'

end Go.Proofs.YtffafkmmfaaobaaGreat

namespace Go.Proofs.YtffafkmmfaaobaaGreat
set_option linter.unusedSimpArgs false
set_option linter.unusedVariables false
open Go.RowKit

section
variable {P : Program} {ops : Array Oper} {Q : Exit → Act → World → Prop} {md : Region.Mode}

/-- Whatever order is picked: behind each operation but the k-th one S is shown anew. -/
def DrawnTo (P : Program) (md : Region.Mode) (ops : Array Oper) (Q : Exit → Act → World → Prop) (k : Nat) (S : World → Prop) : Nat → Array Bool → Act → World → Prop
  | 0, seen, a, w => Region.ready md ops seen = [] ∧ Q .normal a w
  | m + 1, seen, a, w => (Region.ready md ops seen = [] → Q .normal a w) ∧
      ∀ i ∈ Region.ready md ops seen, wpOp P ops Q i (fun a' w' => (i ≠ k → S w') ∧ DrawnTo P md ops Q k S m (seen.setIfInBounds i true) a' w') a w

theorem DrawnTo.any {k : Nat} {S : World → Prop} : ∀ (m : Nat) (seen : Array Bool) (a : Act) (w : World), DrawnTo P md ops Q k S m seen a w → wpAny P md ops Q m seen a w
  | 0, _, _, _, h => h
  | m + 1, _, _, _, h => ⟨h.1, fun i hi => wpOp_mono (fun a' w' h' => DrawnTo.any m _ a' w' h'.2) (h.2 i hi)⟩

theorem not_ready_of_waits {i k : Nat} {seen : Array Bool} (hw : Region.waitsFor md ops k i = true) (hi : i ∈ Region.ready md ops seen) : k ∉ Region.ready md ops seen := by
  intro hk
  obtain ⟨ok, hok, e, he, hb, heq⟩ := Region.waitsFor_spec hw
  obtain ⟨_, o, ho, hall⟩ := mem_ready.1 hk
  rw [hok] at ho; cases ho
  have h1 := hall e he hb
  have h0 := (mem_ready.1 hi).1
  rw [heq] at h1
  rcases Nat.lt_or_ge i seen.size with h' | h'
  · simp [h'] at h0 h1; rw [h0] at h1; cases h1
  · simp [Array.getElem?_eq_none h'] at h1

theorem DrawnTo.first {k i : Nat} {S : World → Prop} {oi : Oper} {v : Value} (hi : ops[i]? = some oi) (hsel : ∀ (j : Nat) (o : Oper) cs b, ops[j]? = some o → o.op ≠ .select cs b)
    (hQ : ∀ c a w, Q (.panic c) (a.put oi.dst v) w → Q (.panic c) a w) (hw : Region.waitsFor md ops k i = true) :
    ∀ (m : Nat) (seen : Array Bool) (a : Act) (w : World),
      (∀ j oj, ops[j]? = some oj → j ≠ i → seen.getD j true = false → (∀ e ∈ oj.after, Region.binds md e = true → e.on ≠ i) → oi.apart ops oj = true) →
      i ∈ Region.ready md ops seen → YieldsIf P ops S oi v a → S w →
      DrawnTo P md ops Q k S m (seen.setIfInBounds i true) (a.put oi.dst v) w → DrawnTo P md ops Q k S (m + 1) seen a w := by
  intro m
  induction m with
  | zero =>
    intro seen a w _ hr hy hS H
    refine ⟨fun h => (by rw [h] at hr; cases hr), fun j hj => ?_⟩
    by_cases hji : j = i
    · subst hji; exact hy.wpOp hi hS ⟨fun _ => hS, H⟩
    · have := ready_mono hj hji
      rw [H.1] at this
      cases this
  | succ m ih =>
    intro seen a w hfree hr hy hS H
    refine ⟨fun h => (by rw [h] at hr; cases hr), fun j hj => ?_⟩
    by_cases hji : j = i
    · subst hji; exact hy.wpOp hi hS ⟨fun _ => hS, H⟩
    · have hjk : j ≠ k := fun e => not_ready_of_waits hw hr (e ▸ hj)
      have h1 := H.2 j (ready_mono hj hji)
      obtain ⟨hjun, oj, hoj, hall⟩ := mem_ready.1 hj
      have hnot : ∀ e ∈ oj.after, Region.binds md e = true → e.on ≠ i := fun e he hb heq => by
        have h2 := hall e he hb
        have h0 := (mem_ready.1 hr).1
        rw [heq] at h2
        rcases Nat.lt_or_ge i seen.size with h' | h'
        · simp [h'] at h0 h2; rw [h0] at h2; cases h2
        · simp [Array.getElem?_eq_none h'] at h2
      have h2 := wpOp_putIf hoj (hfree j oj hoj hji hjun hnot) (fun cs b => hsel i oi cs b hi) (fun cs b => hsel j oj cs b hoj) hQ hy h1
      refine wpOp_mono (fun a' w' h3 => ⟨fun _ => h3.2.1 hjk, ih (seen.setIfInBounds j true) a' w' ?_ (ready_mono hr (Ne.symm hji)) h3.1 (h3.2.1 hjk) ?_⟩) h2
      · intro q oq hq hqi hun hno
        refine hfree q oq hq hqi ?_ hno
        by_cases hjq : j = q
        · subst hjq; exact hjun
        · rw [getD_set_ne true hjq] at hun; exact hun
      · rw [Array.setIfInBounds_comm _ _ hji]
        exact h3.2.2

theorem DrawnTo.take {k i : Nat} {oi : Oper} {v : Value} {m : Nat} {seen : Array Bool} {a : Act} {w : World} {S : World → Prop} (hi : ops[i]? = some oi)
    (hs : Region.noSelect ops = true) (hf : Region.free md ops seen i = true) (hr : (Region.ready md ops seen).contains i = true) (hw : Region.waitsFor md ops k i = true)
    (hQ : ∀ c a w, Q (.panic c) (a.put oi.dst v) w → Q (.panic c) a w) (hS : S w) (hy : YieldsIf P ops S oi v a)
    (h : DrawnTo P md ops Q k S m (seen.setIfInBounds i true) (a.put oi.dst v) w) : DrawnTo P md ops Q k S (m + 1) seen a w :=
  DrawnTo.first hi (Region.noSelect_spec hs) hQ hw m seen a w (Region.free_spec hi hf) (by simpa using hr) hy hS h

theorem DrawnTo.done {k : Nat} {seen : Array Bool} {a : Act} {w : World} {S : World → Prop} (hr : Region.ready md ops seen = []) (h : Q .normal a w) : ∀ m, DrawnTo P md ops Q k S m seen a w
  | 0 => ⟨hr, h⟩
  | _ + 1 => ⟨fun _ => h, by rw [hr]; simp⟩

/-- The one that may come up comes up. -/
theorem DrawnTo.one {k i : Nat} {o : Oper} {m : Nat} {seen : Array Bool} {a : Act} {w : World} {S : World → Prop} (hr : Region.ready md ops seen = [i]) (ho : ops[i]? = some o) (hwt : Region.wanted o (yielded ops a.tmps) = true)
    (h : ∀ K : Act → World → Prop, Shut (∀ a' w', (i ≠ k → S w') → ((i ≠ k → S w') → DrawnTo P md ops Q k S m (seen.setIfInBounds i true) a' w') → K a' w') → o.wp P a w K Q) : DrawnTo P md ops Q k S (m + 1) seen a w := by
  refine ⟨fun h0 => (by rw [hr] at h0; cases h0), fun j hj => ?_⟩
  rw [hr] at hj
  obtain rfl : j = i := by simpa using hj
  exact wpOp_step ho (fun K' hK => by rw [if_pos hwt]; exact h K' (fun a' w' hS hD => hK a' w' ⟨hS, hD hS⟩))
/-- Either of two. -/
theorem DrawnTo.two {k i j : Nat} {oi oj : Oper} {m : Nat} {seen : Array Bool} {a : Act} {w : World} {S : World → Prop} (hr : Region.ready md ops seen = [i, j]) (hoi : ops[i]? = some oi) (hoj : ops[j]? = some oj)
    (hwi : Region.wanted oi (yielded ops a.tmps) = true) (hwj : Region.wanted oj (yielded ops a.tmps) = true)
    (h1 : ∀ K : Act → World → Prop, Shut (∀ a' w', (i ≠ k → S w') → ((i ≠ k → S w') → DrawnTo P md ops Q k S m (seen.setIfInBounds i true) a' w') → K a' w') → oi.wp P a w K Q)
    (h2 : ∀ K : Act → World → Prop, Shut (∀ a' w', (j ≠ k → S w') → ((j ≠ k → S w') → DrawnTo P md ops Q k S m (seen.setIfInBounds j true) a' w') → K a' w') → oj.wp P a w K Q) : DrawnTo P md ops Q k S (m + 1) seen a w := by
  refine ⟨fun h0 => (by rw [hr] at h0; cases h0), fun q hq => ?_⟩
  rw [hr] at hq
  simp only [List.mem_cons, List.not_mem_nil, or_false] at hq
  rcases hq with rfl | rfl
  · exact wpOp_step hoi (fun K' hK => by rw [if_pos hwi]; exact h1 K' (fun a' w' hS hD => hK a' w' ⟨hS, hD hS⟩))
  · exact wpOp_step hoj (fun K' hK => by rw [if_pos hwj]; exact h2 K' (fun a' w' hS hD => hK a' w' ⟨hS, hD hS⟩))

/-- The beginning. -/
theorem wp_drawnTo {id : Nat} {a : Act} {w : World} (k : Nat) (S : World → Prop) (hm : P.follows .mixedOrders = true)
    (h : DrawnTo P .any ops Q k S ops.size (Array.replicate ops.size false) a w.drew) : (Code.region id ops true).wp P Q a w :=
  wp_region_any hm (DrawnTo.any _ _ _ _ h)
end

end Go.Proofs.YtffafkmmfaaobaaGreat

namespace Go.Proofs.YtffafkmmfaaobaaGreat
set_option linter.unusedSimpArgs false
set_option linter.unusedVariables false
open Go.RowKit

/-- Free runs, as they lie in memory: where, and what they hold. -/
structure RSt where
  q : Nat
  p : Nat
  dv : Value
  lv : Value
  pages : Int
  ds : List Int
  drawn : Nat
  t : T
  xs : List R2
  total : Int

structure RunsIs (w : World) (s : RSt) : Prop where
  obj : w.heap[s.q]? = some (.cells #[.int .i64 s.pages, s.dv, .int .i64 s.drawn, .pointer (some ⟨s.p, 0, none⟩), s.lv, .int .i64 s.total] 193 (0, 0))
  draws : w.ownsRow 0 71 1 s.dv s.ds.length (s.ds.map (.int .u32 ·))
  tree : TreapAt w s.p s.t
  list : w.ownsRow 0 189 2 s.lv s.xs.length (runCells s.xs)
  fits : ∀ (p : Nat) (x : R2), s.xs[p]? = some x → 0 ≤ x.1 ∧ x.1 ≤ 10000 ∧ 0 ≤ x.2 ∧ x.2 ≤ 10000
  few : s.xs.length ≤ 5000
  manyDraws : s.ds.length ≤ 100000
  drawnFits : s.drawn ≤ 1000000
  totalFits : 0 ≤ s.total ∧ s.total ≤ 1000000

/-- The blocks that a call on them may turn. -/
def RSt.fp (s : RSt) (k : Nat) : Prop := k = s.q ∨ k = s.p ∨ k ∈ s.t.blocks ∨ s.lv.ownBlock = some k

theorem ownsRow_type {w : World} {base : Nat} {e : TypeId} {size : Nat} {v : Value} {n : Nat} {xs : List Value} (h : w.ownsRow base e size v n xs) {k : Nat} (hk : v.ownBlock = some k) :
    ∃ cur, w.heap[k]? = some (.cells cur e (0, 0)) := by
  rcases h.2 with ⟨rfl, _⟩ | ⟨g, cap, cur, rfl, _, hg, _⟩
  · simp [Value.ownBlock] at hk
  · simp [Value.ownBlock] at hk; subst hk; exact ⟨cur, hg⟩
theorem T.In.type {w : World} : ∀ {t : T}, t.In w → ∀ k ∈ t.blocks, ∃ cs, w.heap[k]? = some (.cells cs 268 (0, 0))
  | .nil, _, k, hk => by simp [T.blocks] at hk
  | .node b x l r, h, k, hk => by
    simp only [T.blocks, List.mem_cons, List.mem_append] at hk
    rcases hk with rfl | hk | hk
    · exact ⟨_, h.1⟩
    · exact h.2.1.type k hk
    · exact h.2.2.type k hk
theorem type_ne {w : World} {a b : Nat} {ca cb : Array Value} {ta tb : TypeId} (ha : w.heap[a]? = some (.cells ca ta (0, 0))) (hb : w.heap[b]? = some (.cells cb tb (0, 0))) (h : ta ≠ tb) : a ≠ b := by
  rintro rfl
  rw [ha] at hb; simp at hb; exact h hb.2

/-- What a call keeps of them where it turns none of their blocks. -/
theorem ownsRow_kept {w w' : World} {F : Nat → Prop} {base : Nat} {e : TypeId} {size : Nat} {v : Value} {n : Nat} {xs : List Value} (h : w.ownsRow base e size v n xs) (hk : Kept F w w') (hn : ∀ k, v.ownBlock = some k → ¬ F k) : w'.ownsRow base e size v n xs := by
  refine ⟨h.1, ?_⟩
  rcases h.2 with hn' | ⟨g, cap, cur, rfl, hb, hg, rest⟩
  · exact .inl hn'
  · exact .inr ⟨g, cap, cur, rfl, hb, hk.at hg (hn g rfl), rest⟩
theorem TreapAt.kept {w w' : World} {F : Nat → Prop} {p : Nat} {t : T} (h : TreapAt w p t) (hk : Kept F w w') (hp : ¬ F p) (ht : ∀ k ∈ t.blocks, ¬ F k) : TreapAt w' p t := by
  obtain ⟨m, h1, h2, h3⟩ := h
  exact ⟨m, hk.at h1 hp, h2.kept hk ht, h3⟩
theorem RunsIs.kept {w w' : World} {F : Nat → Prop} {s : RSt} (h : RunsIs w s) (hk : Kept F w w') (hn : ∀ k, s.fp k ∨ s.dv.ownBlock = some k → ¬ F k) : RunsIs w' s :=
  { h with
    obj := hk.at h.obj (hn _ (.inl (.inl rfl)))
    draws := ownsRow_kept h.draws hk (fun k e => hn k (.inr e))
    tree := h.tree.kept hk (hn _ (.inl (.inr (.inl rfl)))) (fun k m => hn k (.inl (.inr (.inr (.inl m)))))
    list := ownsRow_kept h.list hk (fun k e => hn k (.inl (.inr (.inr (.inr e))))) }
theorem RunsIs.lt {w : World} {s : RSt} (h : RunsIs w s) : ∀ k, s.fp k ∨ s.dv.ownBlock = some k → k < w.heap.size := by
  intro k hk
  obtain ⟨m, h1, h2, h3⟩ := h.tree
  rcases hk with (rfl | rfl | hk | hk) | hk
  · exact lt_of_block h.obj
  · exact lt_of_block h1
  · exact h2.lt k hk
  · exact (h.list.lt k hk).2
  · exact (h.draws.lt k hk).2
theorem RunsIs.below {w w' : World} {s : RSt} (h : RunsIs w s) (hb : Below w.heap.size w w') : RunsIs w' s :=
  h.kept (Kept.of_below_size hb) (fun _ _ h => h.elim)

def keyOf (x : R2) : Int := 8192 * x.2 + x.1

set_option maxHeartbeats 1000000 in
theorem key_any (x : R2) (w : World) (h0 : 0 ≤ x.1) (h1 : x.1 ≤ 10000) (h2 : 0 ≤ x.2) (h3 : x.2 ≤ 10000) :
    Calls Tryz.prog 218 #[.agg #[.int .i64 x.1, .int .i64 x.2]] w fun e w' => e = .returned (.int .i64 (keyOf x)) ∧ Below w.heap.size w w' := by
  obtain ⟨p, n⟩ := x
  dsimp only at *
  go_enter Tryz.func218, Tryz.ntmps218
  go_wp2
  go_ret
  exact ⟨rfl, (Below.refl _ _).alloc (Nat.le_refl _) _⟩

set_option maxRecDepth 100000 in
set_option maxHeartbeats 1000000 in
theorem place_any (s : RSt) (k : Int) (i : Nat) (w : World) (h : RunsIs w s) (hp : Parts s.xs k i) :
    Calls Tryz.prog 220 #[.pointer (some ⟨s.q, 0, none⟩), .int .i64 k] w fun e w' => e = .returned (.int .i64 i) ∧ Below w.heap.size w w' := by
  have c4 : w.cell? ⟨s.q, 4, none⟩ = some s.lv := cellOf h.obj 4
  have F := Lib.hid (bsf_any s.xs s.lv k i w 0 s.xs.length rfl h.list (by have := h.few; omega) hp h.fits)
  clear h hp
  go_enter Tryz.func220, Tryz.ntmps220
  go_wp2_with fail
  refine F.out.mono ?_
  rintro e w' ⟨b, rfl, hb⟩
  clear c4
  go_wp2
  go_ret
  exact ⟨rfl, hb⟩

end Go.Proofs.YtffafkmmfaaobaaGreat
