/- Small laws on memory: what a call keeps; a block that is known whole; a store into it. -/
import Derived.Test.YtdeebagjmhpocaaChecked
import Derived.WalkKit
import Derived.Below
import Derived.Lib.Hide
import Derived.Deep.QuietTactic
import Derived.BigQuiet
import Derived.Deep.RegionHeld3
import Derived.Lib.SmallJoins
namespace Go.Proofs.Ytdeebagjmhpocaa
set_option linter.unusedSimpArgs false
set_option linter.unusedVariables false
open Go.RowKit

/-- Of the blocks that were there just those of F may have turned. -/
structure Kept (F : Nat → Prop) (w w' : World) : Prop where
  os : w'.os = w.os
  tape : w'.tape = w.tape
  output : w'.output = w.output
  size : w.heap.size ≤ w'.heap.size
  block : ∀ k, k < w.heap.size → ¬ F k → w'.heap[k]? = w.heap[k]?

def No : Nat → Prop := fun _ => False

section
variable {F G : Nat → Prop} {a b c w w' : World}
theorem Kept.refl (F : Nat → Prop) (w : World) : Kept F w w := ⟨rfl, rfl, rfl, Nat.le_refl _, fun _ _ _ => rfl⟩
theorem Kept.mono (h : Kept F a b) (hG : ∀ k, F k → G k ∨ a.heap.size ≤ k) : Kept G a b :=
  ⟨h.os, h.tape, h.output, h.size, fun k hk hn => h.block k hk fun hf => (hG k hf).elim hn (by omega)⟩
theorem Kept.trans (h : Kept F a b) (k : Kept G b c) (hG : ∀ k, G k → F k ∨ a.heap.size ≤ k) : Kept F a c :=
  ⟨k.os.trans h.os, k.tape.trans h.tape, k.output.trans h.output, Nat.le_trans h.size k.size, fun i hi hn =>
    (k.block i (Nat.lt_of_lt_of_le hi h.size) fun hg => (hG i hg).elim hn (by omega)).trans (h.block i hi hn)⟩
theorem Kept.drew (h : Kept F a w) : Kept F a w.drew := ⟨h.os, h.tape, h.output, h.size, h.block⟩
theorem Kept.alloc (h : Kept F a w) (o : Obj) : Kept F a (w.alloc o) :=
  ⟨h.os, h.tape, h.output, by have := h.size; simp; omega, fun k hk hn => (Below.heap_alloc w o k (by have := h.size; omega)).trans (h.block k hk hn)⟩
theorem Kept.setCell (h : Kept F a w) {p : Addr} (hp : F p.block ∨ a.heap.size ≤ p.block) (u : Value) : Kept F a (w.setCell p u) :=
  ⟨h.os, h.tape, h.output, by have := h.size; simp; omega, fun k hk hn =>
    (Below.heap_setCell w p u k (fun e => by subst e; exact hp.elim hn (by omega))).trans (h.block k hk hn)⟩
theorem Kept.below (h : Kept F a b) {B : Nat} (hB : B ≤ a.heap.size) (hF : ∀ k, F k → B ≤ k) : Below B a b :=
  ⟨h.os, h.tape, h.output, h.size, fun k hk => h.block k (by omega) fun hf => by have := hF k hf; omega⟩
theorem Kept.of_below {B : Nat} (h : Below B a b) : Kept (fun k => B ≤ k) a b :=
  ⟨h.os, h.tape, h.output, h.size, fun k _ hn => h.block k (by omega)⟩
theorem Kept.no_below (h : Kept No a b) : Below a.heap.size a b := h.below (Nat.le_refl _) fun _ h => h.elim
theorem Kept.of_below_size (h : Below a.heap.size a b) : Kept No a b :=
  (Kept.of_below h).mono fun _ hk => .inr hk
theorem Kept.grown {row : Option Nat} (h : Kept F a w) (hg : w.grownBy w' row) (hr : ∀ k, row = some k → F k ∨ a.heap.size ≤ k) : Kept F a w' :=
  ⟨hg.os.trans h.os, hg.tape.trans h.tape, hg.output.trans h.output, Nat.le_trans h.size hg.size, fun k hk hn =>
    (hg.block k (Nat.lt_of_lt_of_le hk h.size) (fun e => (hr k e.symm).elim hn (by omega))).trans (h.block k hk hn)⟩
theorem Kept.at (h : Kept F a b) {k : Nat} {o : Obj} (hk : a.heap[k]? = some o) (hn : ¬ F k) : b.heap[k]? = some o :=
  (h.block k (Array.getElem?_eq_some_iff.1 hk).1 hn).trans hk
theorem Kept.cell (h : Kept F a b) {k i : Nat} (hk : k < a.heap.size) (hn : ¬ F k) : b.cell? ⟨k, i, none⟩ = a.cell? ⟨k, i, none⟩ :=
  World.cell?_of_block (w := a) (h.block k hk hn)
theorem lt_of_block {w : World} {k : Nat} {o : Obj} (hk : w.heap[k]? = some o) : k < w.heap.size := (Array.getElem?_eq_some_iff.1 hk).1
/-- A cell of a block that is known. -/
theorem cellOf {w : World} {g : Nat} {cs : Array Value} {t : TypeId} {fr : Nat × Nat} (h : w.heap[g]? = some (.cells cs t fr)) (i : Nat) : w.cell? ⟨g, i, none⟩ = cs[i]? := by
  simp [World.cell?, h]
theorem freeOf {w : World} {g : Nat} {cs : Array Value} {t : TypeId} (h : w.heap[g]? = some (.cells cs t (0, 0))) (i : Nat) : w.frozen? ⟨g, i, none⟩ = false := by
  simp [World.frozen?, h]
theorem block_alloc {w : World} {k : Nat} {o : Obj} (h : w.heap[k]? = some o) (o' : Obj) : (w.alloc o').heap[k]? = some o :=
  (Below.heap_alloc w o' k (lt_of_block h)).trans h
theorem block_drew {w : World} {k : Nat} {o : Obj} (h : w.heap[k]? = some o) : w.drew.heap[k]? = some o := h
theorem block_set_other {w : World} {k : Nat} {o : Obj} (h : w.heap[k]? = some o) (p : Addr) (u : Value) (hne : k ≠ p.block) : (w.setCell p u).heap[k]? = some o :=
  (Below.heap_setCell w p u k hne).trans h
theorem block_set {w : World} {g : Nat} {cs : Array Value} {t : TypeId} {fr : Nat × Nat} (h : w.heap[g]? = some (.cells cs t fr)) (i : Nat) (v : Value) :
    (w.setCell ⟨g, i, none⟩ v).heap[g]? = some (.cells (cs.setIfInBounds i v) t fr) := Go.Joins.block_setCell h v
end

/-! ### Trees -/
/-- What a node holds: its key, its draw, its run. -/
structure Nd where
  key : Int
  draw : Int
  pg : Int
  ln : Int
inductive T where
  | nil
  | node (b : Nat) (x : Nd) (l r : T)
def T.ptr : T → Value
  | .nil => .pointer none
  | .node b _ _ _ => .pointer (some ⟨b, 0, none⟩)
def T.blocks : T → List Nat
  | .nil => []
  | .node b _ l r => b :: (l.blocks ++ r.blocks)
def Nd.cells (x : Nd) (l r : Value) : Array Value := #[.int .i64 x.key, .int .u32 x.draw, .int .i64 x.pg, .int .i64 x.ln, l, r]
def T.In (w : World) : T → Prop
  | .nil => True
  | .node b x l r => w.heap[b]? = some (.cells (x.cells l.ptr r.ptr) 113 (0, 0)) ∧ l.In w ∧ r.In w

theorem T.In.lt {w : World} : ∀ {t : T}, t.In w → ∀ k ∈ t.blocks, k < w.heap.size
  | .nil, _, k, hk => by simp [T.blocks] at hk
  | .node b x l r, h, k, hk => by
    simp only [T.blocks, List.mem_cons, List.mem_append] at hk
    rcases hk with rfl | hk | hk
    · exact lt_of_block h.1
    · exact h.2.1.lt k hk
    · exact h.2.2.lt k hk
theorem T.In.congr {w w' : World} : ∀ {t : T}, t.In w → (∀ k ∈ t.blocks, w'.heap[k]? = w.heap[k]?) → t.In w'
  | .nil, _, _ => trivial
  | .node b x l r, h, hk => ⟨(hk b (by simp [T.blocks])).trans h.1, h.2.1.congr fun k hm => hk k (by simp [T.blocks, hm]), h.2.2.congr fun k hm => hk k (by simp [T.blocks, hm])⟩
theorem T.In.kept {w w' : World} {F : Nat → Prop} {t : T} (h : t.In w) (hk : Kept F w w') (hn : ∀ k ∈ t.blocks, ¬ F k) : t.In w' :=
  h.congr fun k hm => hk.block k (h.lt k hm) (hn k hm)
theorem T.In.set {w : World} {t : T} (h : t.In w) {p : Addr} (u : Value) (hn : p.block ∉ t.blocks) : t.In (w.setCell p u) :=
  h.congr fun k hm => Below.heap_setCell w p u k (fun e => hn (e ▸ hm))
theorem T.In.alloc {w : World} {t : T} (h : t.In w) (o : Obj) : t.In (w.alloc o) :=
  h.congr fun k hm => Below.heap_alloc w o k (h.lt k hm)
theorem T.ptr_pointer (t : T) : ∃ u, t.ptr = .pointer u := by cases t <;> exact ⟨_, rfl⟩

def T.split (k : Int) : T → T × T
  | .nil => (.nil, .nil)
  | .node b x l r => if x.key < k then (.node b x l (r.split k).1, (r.split k).2) else ((l.split k).1, .node b x (l.split k).2 r)

theorem T.split_blocks (k : Int) : ∀ t : T, ((t.split k).1.blocks ++ (t.split k).2.blocks).Perm t.blocks
  | .nil => .refl _
  | .node b x l r => by
    unfold T.split
    split
    · simp only [T.blocks, List.cons_append, List.append_assoc]
      exact .cons _ (.append_left _ (T.split_blocks k r))
    · simp only [T.blocks]
      refine (List.perm_middle).trans (.cons _ ?_)
      rw [← List.append_assoc]
      exact .append_right _ (T.split_blocks k l)

end Go.Proofs.Ytdeebagjmhpocaa
