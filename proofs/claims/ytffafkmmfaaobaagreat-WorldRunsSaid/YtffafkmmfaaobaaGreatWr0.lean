/- Small laws on memory: what a call keeps; a block that is known whole; a store into it. -/
import Derived.Test.YtffafkmmfaaobaaGreatChecked
import Derived.WalkKit
import Derived.Below
import Derived.Lib.Hide
import Derived.Deep.QuietTactic
import Derived.BigQuiet
import Derived.Deep.RegionHeld3
import Derived.Lib.SmallJoins
import Derived.Deep.AppendLies
import Derived.OwnWalk
import Derived.WalkSpells
namespace Go.Proofs.YtffafkmmfaaobaaGreat
set_option linter.unusedSimpArgs false
set_option linter.unusedVariables false
open Go.RowKit

/-- Of the blocks that were there just those of F may have turned. -/
structure Kept (F : Nat → Prop) (w w' : World) : Prop where
  os : w'.os = w.os
  tape : w'.tape = w.tape
  output : w'.output = w.output
  size : w.heap.size ≤ w'.heap.size
  block : ∀ k, k < w.heap.size → ¬ F k → w'.heap[k]? = w.heap[k]?

def No : Nat → Prop := fun _ => False

section
variable {F G : Nat → Prop} {a b c w w' : World}
theorem Kept.refl (F : Nat → Prop) (w : World) : Kept F w w := ⟨rfl, rfl, rfl, Nat.le_refl _, fun _ _ _ => rfl⟩
theorem Kept.mono (h : Kept F a b) (hG : ∀ k, F k → G k ∨ a.heap.size ≤ k) : Kept G a b :=
  ⟨h.os, h.tape, h.output, h.size, fun k hk hn => h.block k hk fun hf => (hG k hf).elim hn (by omega)⟩
theorem Kept.trans (h : Kept F a b) (k : Kept G b c) (hG : ∀ k, G k → F k ∨ a.heap.size ≤ k) : Kept F a c :=
  ⟨k.os.trans h.os, k.tape.trans h.tape, k.output.trans h.output, Nat.le_trans h.size k.size, fun i hi hn =>
    (k.block i (Nat.lt_of_lt_of_le hi h.size) fun hg => (hG i hg).elim hn (by omega)).trans (h.block i hi hn)⟩
theorem Kept.drew (h : Kept F a w) : Kept F a w.drew := ⟨h.os, h.tape, h.output, h.size, h.block⟩
theorem Kept.alloc (h : Kept F a w) (o : Obj) : Kept F a (w.alloc o) :=
  ⟨h.os, h.tape, h.output, by have := h.size; simp; omega, fun k hk hn => (Below.heap_alloc w o k (by have := h.size; omega)).trans (h.block k hk hn)⟩
theorem Kept.setCell (h : Kept F a w) {p : Addr} (hp : F p.block ∨ a.heap.size ≤ p.block) (u : Value) : Kept F a (w.setCell p u) :=
  ⟨h.os, h.tape, h.output, by have := h.size; simp; omega, fun k hk hn =>
    (Below.heap_setCell w p u k (fun e => by subst e; exact hp.elim hn (by omega))).trans (h.block k hk hn)⟩
theorem Kept.below (h : Kept F a b) {B : Nat} (hB : B ≤ a.heap.size) (hF : ∀ k, F k → B ≤ k) : Below B a b :=
  ⟨h.os, h.tape, h.output, h.size, fun k hk => h.block k (by omega) fun hf => by have := hF k hf; omega⟩
theorem Kept.of_below {B : Nat} (h : Below B a b) : Kept (fun k => B ≤ k) a b :=
  ⟨h.os, h.tape, h.output, h.size, fun k _ hn => h.block k (by omega)⟩
theorem Kept.no_below (h : Kept No a b) : Below a.heap.size a b := h.below (Nat.le_refl _) fun _ h => h.elim
theorem Kept.of_below_size (h : Below a.heap.size a b) : Kept No a b :=
  (Kept.of_below h).mono fun _ hk => .inr hk
theorem Kept.grown {row : Option Nat} (h : Kept F a w) (hg : w.grownBy w' row) (hr : ∀ k, row = some k → F k ∨ a.heap.size ≤ k) : Kept F a w' :=
  ⟨hg.os.trans h.os, hg.tape.trans h.tape, hg.output.trans h.output, Nat.le_trans h.size hg.size, fun k hk hn =>
    (hg.block k (Nat.lt_of_lt_of_le hk h.size) (fun e => (hr k e.symm).elim hn (by omega))).trans (h.block k hk hn)⟩
theorem Kept.at (h : Kept F a b) {k : Nat} {o : Obj} (hk : a.heap[k]? = some o) (hn : ¬ F k) : b.heap[k]? = some o :=
  (h.block k (Array.getElem?_eq_some_iff.1 hk).1 hn).trans hk
theorem Kept.cell (h : Kept F a b) {k i : Nat} (hk : k < a.heap.size) (hn : ¬ F k) : b.cell? ⟨k, i, none⟩ = a.cell? ⟨k, i, none⟩ :=
  World.cell?_of_block (w := a) (h.block k hk hn)
theorem lt_of_block {w : World} {k : Nat} {o : Obj} (hk : w.heap[k]? = some o) : k < w.heap.size := (Array.getElem?_eq_some_iff.1 hk).1
/-- A cell of a block that is known. -/
theorem cellOf {w : World} {g : Nat} {cs : Array Value} {t : TypeId} {fr : Nat × Nat} (h : w.heap[g]? = some (.cells cs t fr)) (i : Nat) : w.cell? ⟨g, i, none⟩ = cs[i]? := by
  simp [World.cell?, h]
theorem freeOf {w : World} {g : Nat} {cs : Array Value} {t : TypeId} (h : w.heap[g]? = some (.cells cs t (0, 0))) (i : Nat) : w.frozen? ⟨g, i, none⟩ = false := by
  simp [World.frozen?, h]
theorem block_alloc {w : World} {k : Nat} {o : Obj} (h : w.heap[k]? = some o) (o' : Obj) : (w.alloc o').heap[k]? = some o :=
  (Below.heap_alloc w o' k (lt_of_block h)).trans h
theorem block_drew {w : World} {k : Nat} {o : Obj} (h : w.heap[k]? = some o) : w.drew.heap[k]? = some o := h
theorem block_set_other {w : World} {k : Nat} {o : Obj} (h : w.heap[k]? = some o) (p : Addr) (u : Value) (hne : k ≠ p.block) : (w.setCell p u).heap[k]? = some o :=
  (Below.heap_setCell w p u k hne).trans h
theorem block_set {w : World} {g : Nat} {cs : Array Value} {t : TypeId} {fr : Nat × Nat} (h : w.heap[g]? = some (.cells cs t fr)) (i : Nat) (v : Value) :
    (w.setCell ⟨g, i, none⟩ v).heap[g]? = some (.cells (cs.setIfInBounds i v) t fr) := Go.Joins.block_setCell h v
end

/-! ### Trees -/
/-- What a node holds: its key, its draw, its run. -/
structure Nd where
  key : Int
  draw : Int
  pg : Int
  ln : Int
inductive T where
  | nil
  | node (b : Nat) (x : Nd) (l r : T)
def T.ptr : T → Value
  | .nil => .pointer none
  | .node b _ _ _ => .pointer (some ⟨b, 0, none⟩)
def T.blocks : T → List Nat
  | .nil => []
  | .node b _ l r => b :: (l.blocks ++ r.blocks)
def Nd.cells (x : Nd) (l r : Value) : Array Value := #[.int .i64 x.key, .int .u32 x.draw, .int .i64 x.pg, .int .i64 x.ln, l, r]
def T.In (w : World) : T → Prop
  | .nil => True
  | .node b x l r => w.heap[b]? = some (.cells (x.cells l.ptr r.ptr) 268 (0, 0)) ∧ l.In w ∧ r.In w

theorem T.In.lt {w : World} : ∀ {t : T}, t.In w → ∀ k ∈ t.blocks, k < w.heap.size
  | .nil, _, k, hk => by simp [T.blocks] at hk
  | .node b x l r, h, k, hk => by
    simp only [T.blocks, List.mem_cons, List.mem_append] at hk
    rcases hk with rfl | hk | hk
    · exact lt_of_block h.1
    · exact h.2.1.lt k hk
    · exact h.2.2.lt k hk
theorem T.In.congr {w w' : World} : ∀ {t : T}, t.In w → (∀ k ∈ t.blocks, w'.heap[k]? = w.heap[k]?) → t.In w'
  | .nil, _, _ => trivial
  | .node b x l r, h, hk => ⟨(hk b (by simp [T.blocks])).trans h.1, h.2.1.congr fun k hm => hk k (by simp [T.blocks, hm]), h.2.2.congr fun k hm => hk k (by simp [T.blocks, hm])⟩
theorem T.In.kept {w w' : World} {F : Nat → Prop} {t : T} (h : t.In w) (hk : Kept F w w') (hn : ∀ k ∈ t.blocks, ¬ F k) : t.In w' :=
  h.congr fun k hm => hk.block k (h.lt k hm) (hn k hm)
theorem T.In.set {w : World} {t : T} (h : t.In w) {p : Addr} (u : Value) (hn : p.block ∉ t.blocks) : t.In (w.setCell p u) :=
  h.congr fun k hm => Below.heap_setCell w p u k (fun e => hn (e ▸ hm))
theorem T.In.alloc {w : World} {t : T} (h : t.In w) (o : Obj) : t.In (w.alloc o) :=
  h.congr fun k hm => Below.heap_alloc w o k (h.lt k hm)
theorem T.ptr_pointer (t : T) : ∃ u, t.ptr = .pointer u := by cases t <;> exact ⟨_, rfl⟩

def T.split (k : Int) : T → T × T
  | .nil => (.nil, .nil)
  | .node b x l r => if x.key < k then (.node b x l (r.split k).1, (r.split k).2) else ((l.split k).1, .node b x (l.split k).2 r)

theorem T.split_blocks (k : Int) : ∀ t : T, ((t.split k).1.blocks ++ (t.split k).2.blocks).Perm t.blocks
  | .nil => .refl _
  | .node b x l r => by
    unfold T.split
    split
    · simp only [T.blocks, List.cons_append, List.append_assoc]
      exact .cons _ (.append_left _ (T.split_blocks k r))
    · simp only [T.blocks]
      refine (List.perm_middle).trans (.cons _ ?_)
      rw [← List.append_assoc]
      exact .append_right _ (T.split_blocks k l)

end Go.Proofs.YtffafkmmfaaobaaGreat

namespace Go.Proofs.YtffafkmmfaaobaaGreat
set_option linter.unusedSimpArgs false
set_option linter.unusedVariables false
open Go.RowKit

theorem Tryz.info71 : (Tryz.prog.info? 71).map (fun i => (i.zero, i.size, i.bytes)) = some (some (.int .u32 0), 1, 4) := by kernel_rfl
theorem Tryz.info33 : (Tryz.prog.info? 33).map (fun i => (i.zero, i.size, i.bytes)) = some (some (.int .u64 0), 1, 8) := by kernel_rfl
theorem Tryz.info189 : (Tryz.prog.info? 189).map (fun i => (i.zero, i.size, i.bytes)) = some (some (.agg #[.int .i64 0, .int .i64 0]), 2, 16) := by kernel_rfl

/-- What a slice reads as: its cells lie one behind the other. -/
def SrcOf (w : World) (size : Nat) (v : Value) (m : Nat) (news : List Value) : Prop :=
  (v = .slice none 0 0 ∧ m = 0 ∧ news = []) ∨ ∃ a c, v = .slice (some a) m c ∧ news.length = m * size ∧ (∀ j u, news[j]? = some u → w.cell? (a.add j) = some u) ∧ (news ≠ [] → a.block < w.heap.size)

theorem add_block (a : Addr) (j : Nat) : (a.add j).block = a.block := by unfold Addr.add; split <;> rfl
theorem src_alloc {w : World} {a : Addr} {news : List Value} (hnews : ∀ j u, news[j]? = some u → w.cell? (a.add j) = some u) (hlt : news ≠ [] → a.block < w.heap.size) (o : Obj) :
    ∀ j u, news[j]? = some u → (w.alloc o).cell? (a.add j) = some u := fun j u hu =>
  (World.cell?_of_block (w := w) (Below.heap_alloc w o (a.add j).block (by rw [add_block]; exact hlt (by rintro rfl; simp at hu)))).trans (hnews j u hu)

def ClonePost (E size : Nat) (v : Value) (m : Nat) (news : List Value) (w : World) (e : Ending) (w' : World) : Prop :=
  ∃ v', e = .returned v' ∧ w'.ownsRow w.heap.size E size v' m news ∧ (v' = .slice none 0 0 ↔ v = .slice none 0 0) ∧ Below w.heap.size w w'

set_option maxHeartbeats 1000000 in
theorem clone32_any (v : Value) (m : Nat) (news : List Value) (w : World) (hs : SrcOf w 1 v m news) (h1 : ∀ u ∈ news, u.oneCell' = true) (hm : m ≤ 1000000) :
    Calls Tryz.prog 152 #[v] w (ClonePost 71 1 v m news w) := by
  obtain ⟨i0, hi, hz0, hz1, hz2⟩ := info_parts Tryz.info71
  rcases hs with ⟨rfl, rfl, rfl⟩ | ⟨a, c, rfl, hl, hnews, hlt⟩
  · have hnil := Lib.run_eql_slice_nil (P := Tryz.prog)
    go_enter Tryz.func152, Tryz.ntmps152
    go_wp2
    go_ret
    exact ⟨_, rfl, World.ownsRow_nil _ _ _ _, Iff.rfl, Below.refl _ _⟩
  · have hnil := Lib.run_eql_slice_nil (P := Tryz.prog)
    have HH := Lib.hid (And.intro hl (And.intro hnews (And.intro h1 hlt)))
    clear hl hnews h1 hlt
    go_enter Tryz.func152, Tryz.ntmps152
    go_wp2_with (at_builtin; refine wpList_append_own _ rfl _ _ 23 rfl w.heap.size 71 i0 _ 1 4 Tryz.underlying23 hi hz0 hz1 hz2 rfl (by decide) (.slice (some ⟨w.heap.size, 0, none⟩) 0 0) 0 [] rfl (World.ownsRow_made w #[] 0 (Nat.le_refl _) (by decide) (by simp)) a m c news rfl HH.out.1 (src_alloc HH.out.2.1 HH.out.2.2.2 _) HH.out.2.2.1 (by unfold maxLen; omega) (by omega) (by simp) ?_; intro v' w1 hown hgrow hnl)
    go_ret
    refine ⟨v', rfl, by simpa using hown, ?_, ((Below.refl w.heap.size w).alloc (Nat.le_refl _) _).grown hgrow (by simp) (fun k hk => by simp [Value.ownBlock] at hk; omega)⟩
    rw [hnl]; simp

set_option maxHeartbeats 1000000 in
theorem clone64_any (v : Value) (m : Nat) (news : List Value) (w : World) (hs : SrcOf w 1 v m news) (h1 : ∀ u ∈ news, u.oneCell' = true) (hm : m ≤ 1000000) :
    Calls Tryz.prog 136 #[v] w (ClonePost 33 1 v m news w) := by
  obtain ⟨i0, hi, hz0, hz1, hz2⟩ := info_parts Tryz.info33
  rcases hs with ⟨rfl, rfl, rfl⟩ | ⟨a, c, rfl, hl, hnews, hlt⟩
  · have hnil := Lib.run_eql_slice_nil (P := Tryz.prog)
    go_enter Tryz.func136, Tryz.ntmps136
    go_wp2
    go_ret
    exact ⟨_, rfl, World.ownsRow_nil _ _ _ _, Iff.rfl, Below.refl _ _⟩
  · have hnil := Lib.run_eql_slice_nil (P := Tryz.prog)
    have HH := Lib.hid (And.intro hl (And.intro hnews (And.intro h1 hlt)))
    clear hl hnews h1 hlt
    go_enter Tryz.func136, Tryz.ntmps136
    go_wp2_with (at_builtin; refine wpList_append_own _ rfl _ _ 56 rfl w.heap.size 33 i0 _ 1 8 Tryz.underlying56 hi hz0 hz1 hz2 rfl (by decide) (.slice (some ⟨w.heap.size, 0, none⟩) 0 0) 0 [] rfl (World.ownsRow_made w #[] 0 (Nat.le_refl _) (by decide) (by simp)) a m c news rfl HH.out.1 (src_alloc HH.out.2.1 HH.out.2.2.2 _) HH.out.2.2.1 (by unfold maxLen; omega) (by omega) (by simp) ?_; intro v' w1 hown hgrow hnl)
    go_ret
    refine ⟨v', rfl, by simpa using hown, ?_, ((Below.refl w.heap.size w).alloc (Nat.le_refl _) _).grown hgrow (by simp) (fun k hk => by simp [Value.ownBlock] at hk; omega)⟩
    rw [hnl]; simp

set_option maxHeartbeats 1000000 in
theorem cloneRun_any (v : Value) (m : Nat) (news : List Value) (w : World) (hs : SrcOf w 2 v m news) (h1 : ∀ u ∈ news, u.oneCell' = true) (hm : m ≤ 1000000) :
    Calls Tryz.prog 137 #[v] w (ClonePost 189 2 v m news w) := by
  obtain ⟨i0, hi, hz0, hz1, hz2⟩ := info_parts Tryz.info189
  rcases hs with ⟨rfl, rfl, rfl⟩ | ⟨a, c, rfl, hl, hnews, hlt⟩
  · have hnil := Lib.run_eql_slice_nil (P := Tryz.prog)
    go_enter Tryz.func137, Tryz.ntmps137
    go_wp2
    go_ret
    exact ⟨_, rfl, World.ownsRow_nil _ _ _ _, Iff.rfl, Below.refl _ _⟩
  · have hnil := Lib.run_eql_slice_nil (P := Tryz.prog)
    have HH := Lib.hid (And.intro hl (And.intro hnews (And.intro h1 hlt)))
    clear hl hnews h1 hlt
    go_enter Tryz.func137, Tryz.ntmps137
    go_wp2_with (at_builtin; refine wpList_append_own _ rfl _ _ 119 rfl w.heap.size 189 i0 _ 2 16 Tryz.underlying119 hi hz0 hz1 hz2 rfl (by decide) (.slice (some ⟨w.heap.size, 0, none⟩) 0 0) 0 [] rfl (World.ownsRow_made w #[] 0 (Nat.le_refl _) (by decide) (by simp)) a m c news rfl HH.out.1 (src_alloc HH.out.2.1 HH.out.2.2.2 _) HH.out.2.2.1 (by unfold maxLen; omega) (by omega) (by simp) ?_; intro v' w1 hown hgrow hnl)
    go_ret
    refine ⟨v', rfl, by simpa using hown, ?_, ((Below.refl w.heap.size w).alloc (Nat.le_refl _) _).grown hgrow (by simp) (fun k hk => by simp [Value.ownBlock] at hk; omega)⟩
    rw [hnl]; simp

end Go.Proofs.YtffafkmmfaaobaaGreat

namespace Go.Proofs.YtffafkmmfaaobaaGreat
set_option linter.unusedSimpArgs false
set_option linter.unusedVariables false
open Go.RowKit

/-- A store lies at s, its words in block g. -/
structure StoreIs (ty : TypeId) (w : World) (s g : Nat) (ws : List Int) (k a o n m : Int) : Prop where
  obj : w.heap[s]? = some (.cells #[.slice (some ⟨g, 0, none⟩) ws.length ws.length, .int .i64 k, .int .i64 a, .int .u64 o, .int .u64 n, .int .i64 m] ty (0, 0))
  row : w.heap[g]? = some (.cells (ws.map (Value.int .u64 ·)).toArray 33 (0, 0))

theorem StoreIs.below {ty : TypeId} {w w' : World} {s g : Nat} {ws : List Int} {k a o n m : Int} (h : StoreIs ty w s g ws k a o n m) (hb : Below w.heap.size w w') : StoreIs ty w' s g ws k a o n m :=
  ⟨(hb.block s (lt_of_block h.obj)).trans h.obj, (hb.block g (lt_of_block h.row)).trans h.row⟩

theorem madeCells_one (n : Nat) : (madeCells (Value.int .u64 0).cells (n * 1)).toList = (List.replicate n (0 : Int)).map (Value.int .u64 ·) := by
  apply List.ext_getElem?
  intro j
  simp [madeCells, Value.cells, List.getElem?_replicate, List.getElem?_range]
  by_cases h : j < n
  · simp [h, Nat.mod_one]
  · simp [h]

theorem ownsRow_full {w : World} {base : Nat} {e : TypeId} {size g n : Nat} {xs : List Value} (h : w.ownsRow base e size (.slice (some ⟨g, 0, none⟩) n n) n xs) : w.heap[g]? = some (.cells xs.toArray e (0, 0)) := by
  rcases h.2 with ⟨h0, _⟩ | ⟨g', cap, cur, hv, _, hg, _, _, hs, ht⟩
  · cases h0
  · cases hv
    rw [hg, ← ht, List.take_of_length_le (by simp [hs])]

theorem type_ne' {w : World} {a b : Nat} {ca cb : Array Value} {ta tb : TypeId} (ha : w.heap[a]? = some (.cells ca ta (0, 0))) (hb : w.heap[b]? = some (.cells cb tb (0, 0))) (h : ta ≠ tb) : a ≠ b := by
  rintro rfl
  rw [ha] at hb; simp at hb; exact h hb.2

def StoreNewPost (ty : TypeId) (n : Nat) (w : World) (e : Ending) (w' : World) : Prop :=
  ∃ s g, e = .returned (.pointer (some ⟨s, 0, none⟩)) ∧ StoreIs ty w' s g (List.replicate n 0) 0 0 0 0 0 ∧ Below w.heap.size w w' ∧ w.heap.size ≤ s ∧ w.heap.size ≤ g

set_option maxRecDepth 100000 in
set_option maxHeartbeats 1000000 in
theorem storeNew_any (n : Nat) (w : World) (h1 : 1 ≤ n) (h2 : n ≤ 65536) : Calls Tryz.prog 149 #[.int .i64 n] w (StoreNewPost 187 n w) := by
  obtain ⟨i0, hi, hz0, hz1, hz2⟩ := info_parts Tryz.info33
  have b1 : (1 : Int) ≤ n := by omega
  have b2 : (n : Int) ≤ 65536 := by omega
  go_enter Tryz.func149, Tryz.ntmps149
  go_wp2_with (at_make; refine wpList_make_full _ rfl _ _ 56 rfl w.heap.size 33 i0 _ 1 Tryz.underlying56 hi hz0 hz1 .i64 .i64 _ _ n rfl rfl rfl rfl (by rw [hz2]; omega) (by unfold maxLen; omega) (Nat.le_refl _) ?_; intro w1 hown hgrow)
  go_ret
  have hr := ownsRow_full hown
  rw [madeCells_one] at hr
  refine ⟨w1.heap.size, w.heap.size, rfl, ⟨?_, block_alloc hr _⟩, ((Kept.refl No w).grown hgrow (fun k hk => by cases hk) |>.alloc _).no_below, hgrow.size, Nat.le_refl _⟩
  rw [List.length_replicate]
  exact heap_alloc_new w1 _

/-- The words, one of which has been put. -/
def BegunPost (n : Nat) (w : World) (e : Ending) (w' : World) : Prop :=
  ∃ s g, e = .returned (.pointer (some ⟨s, 0, none⟩)) ∧ StoreIs 187 w' s g ((List.replicate n (0 : Int)).set 0 1) 0 0 0 0 0 ∧ Below w.heap.size w w' ∧ w.heap.size ≤ s ∧ w.heap.size ≤ g

set_option maxRecDepth 100000 in
set_option maxHeartbeats 1000000 in
theorem check_ok {ty : TypeId} {w : World} {s g : Nat} {ws : List Int} {k a o n m : Int} (h : StoreIs 187 w s g ws k a o n m) (at' : Int) (h0 : 0 ≤ at') (h1 : at' < ws.length) :
    Calls Tryz.prog 101 #[.pointer (some ⟨s, 0, none⟩), .int .i64 at'] w fun e w' => e = .returned (.int .i64 0) ∧ w = w' := by
  have c0 : w.cell? ⟨s, 0, none⟩ = some (.slice (some ⟨g, 0, none⟩) ws.length ws.length) := cellOf h.obj 0
  clear h
  go_enter Tryz.func101, Tryz.ntmps101
  go_wp2
  go_ret
  exact ⟨rfl, rfl⟩

theorem row_set {w : World} {g : Nat} {ws : List Int} (h : w.heap[g]? = some (.cells (ws.map (Value.int .u64 ·)).toArray 33 (0, 0))) (i : Nat) (v : Int) :
    (w.setCell ⟨g, i, none⟩ (.int .u64 v)).heap[g]? = some (.cells ((ws.set i v).map (Value.int .u64 ·)).toArray 33 (0, 0)) := by
  rw [block_set h i _, List.map_set]
  simp

set_option maxRecDepth 100000 in
set_option maxHeartbeats 1000000 in
theorem begun_any (n : Nat) (w : World) (h1 : 1 ≤ n) (h2 : n ≤ 65536) : Calls Tryz.prog 94 #[.int .i64 n, .int .i64 0, .int .u64 1] w (BegunPost n w) := by
  have b1 : (1 : Int) ≤ n := by omega
  have b2 : (n : Int) ≤ 65536 := by omega
  go_enter Tryz.func94, Tryz.ntmps94
  go_wp2_with fail
  refine (storeNew_any n w h1 h2).mono ?_
  rintro e w1 ⟨s, g, rfl, hS, hb, hs, hg⟩
  go_wp2_with fail
  refine (check_ok (ty := 81) hS 0 (by omega) (by simp; omega)).mono ?_
  rintro e w2 ⟨rfl, rfl⟩
  have c0 : w1.cell? ⟨s, 0, none⟩ = some (.slice (some ⟨g, 0, none⟩) n n) := by have := cellOf hS.obj 0; simpa using this
  have g0 : w1.cell? ⟨g, 0, none⟩ = some (.int .u64 0) := by
    rw [cellOf hS.row 0, List.getElem?_toArray, List.map_replicate, List.getElem?_replicate, if_pos (by omega)]
  have f0 : w1.frozen? ⟨g, 0, none⟩ = false := freeOf hS.row 0
  have hne : s ≠ g := type_ne' hS.obj hS.row (by decide)
  have HF : Hid (BegunPost n w (.returned (.pointer (some ⟨s, 0, none⟩))) (w1.setCell ⟨g, 0, none⟩ (.int .u64 1))) :=
    ⟨s, g, rfl, ⟨by rw [List.length_set]; exact block_set_other hS.obj _ _ hne, row_set hS.row 0 1⟩, hb.setCell (p := ⟨g, 0, none⟩) hg _, hs, hg⟩
  clear hS hb
  go_wp2
  go_ret
  exact HF.out

end Go.Proofs.YtffafkmmfaaobaaGreat

namespace Go.Proofs.YtffafkmmfaaobaaGreat
set_option linter.unusedSimpArgs false
set_option linter.unusedVariables false
open Go.RowKit

/-- The store and its words are all that may turn. -/
def SG (s g : Nat) : Nat → Prop := fun k => k = s ∨ k = g

theorem cells_get {ws : List Int} {i : Nat} (h : i < ws.length) : ((ws.map (Value.int .u64 ·)).toArray)[i]? = some (.int .u64 (ws.getD i 0)) := by
  simp [List.getElem?_eq_getElem h, List.getD_eq_getElem?_getD]

def AccPost (ty : TypeId) (w : World) (s g : Nat) (ws : List Int) (k : Int) (i : Nat) (v m : Int) (w' : World) : Prop :=
  StoreIs ty w' s g (ws.set i v) k i (ws.getD i 0) v (m + 1) ∧ Kept (SG s g) w w'

set_option maxRecDepth 100000 in
set_option maxHeartbeats 4000000 in
theorem access_any {w : World} {s g : Nat} {ws : List Int} {k a o n m : Int} (h : StoreIs 187 w s g ws k a o n m) (kd v : Int) (i : Nat) (h1 : i < ws.length) (hm : 0 ≤ m ∧ m < 1000000) :
    Calls Tryz.prog 102 #[.pointer (some ⟨s, 0, none⟩), .int .i64 kd, .int .i64 (i : Int), .int .u64 v] w fun e w' => e = .returned (.int .u64 (ws.getD i 0)) ∧ AccPost 187 w s g ws kd i v m w' := by
  have hne : s ≠ g := type_ne' h.obj h.row (by decide)
  have c0 : w.cell? ⟨s, 0, none⟩ = some (.slice (some ⟨g, 0, none⟩) ws.length ws.length) := cellOf h.obj 0
  have c1 : w.cell? ⟨s, 1, none⟩ = some (.int .i64 k) := cellOf h.obj 1
  have c2 : w.cell? ⟨s, 2, none⟩ = some (.int .i64 a) := cellOf h.obj 2
  have c3 : w.cell? ⟨s, 3, none⟩ = some (.int .u64 o) := cellOf h.obj 3
  have c4 : w.cell? ⟨s, 4, none⟩ = some (.int .u64 n) := cellOf h.obj 4
  have c5 : w.cell? ⟨s, 5, none⟩ = some (.int .i64 m) := cellOf h.obj 5
  have cg : w.cell? ⟨g, i, none⟩ = some (.int .u64 (ws.getD i 0)) := (cellOf h.row i).trans (cells_get h1)
  have f0 : w.frozen? ⟨g, i, none⟩ = false := freeOf h.row i
  have f1 : w.frozen? ⟨s, 1, none⟩ = false := freeOf h.obj 1
  have f2 : w.frozen? ⟨s, 2, none⟩ = false := freeOf h.obj 2
  have f3 : w.frozen? ⟨s, 3, none⟩ = false := freeOf h.obj 3
  have f4 : w.frozen? ⟨s, 4, none⟩ = false := freeOf h.obj 4
  have f5 : w.frozen? ⟨s, 5, none⟩ = false := freeOf h.obj 5
  have hne' : g ≠ s := hne.symm
  have hi : (0 : Int) ≤ i ∧ (i : Int) < ws.length := by omega
  have hE : ∀ w', w' = ((((((w.setCell ⟨g, i, none⟩ (.int .u64 v)).setCell ⟨s, 1, none⟩ (.int .i64 kd)).setCell ⟨s, 2, none⟩ (.int .i64 i)).setCell ⟨s, 3, none⟩ (.int .u64 (ws.getD i 0))).setCell ⟨s, 4, none⟩ (.int .u64 v)).setCell ⟨s, 5, none⟩ (.int .i64 (m + 1))) → AccPost 187 w s g ws kd i v m w' := by
    rintro w' rfl
    refine ⟨⟨?_, ?_⟩, ?_⟩
    · rw [block_set (block_set (block_set (block_set (block_set (block_set_other h.obj _ _ (by simpa using hne)) 1 _) 2 _) 3 _) 4 _) 5 _]
      simp
    · exact block_set_other (block_set_other (block_set_other (block_set_other (block_set_other (row_set h.row i v) _ _ (by simpa using hne')) _ _ (by simpa using hne')) _ _ (by simpa using hne')) _ _ (by simpa using hne')) _ _ (by simpa using hne')
    · exact ((((((Kept.refl _ w).setCell (.inl (.inr rfl)) _).setCell (.inl (.inl rfl)) _).setCell (.inl (.inl rfl)) _).setCell (.inl (.inl rfl)) _).setCell (.inl (.inl rfl)) _).setCell (.inl (.inl rfl)) _
  have HE := Lib.hid hE
  clear hE h
  have hmm : IntKind.i64.wrap (m + 1) = m + 1 := IntWalk.i64_in _ (by omega)
  generalize ws.getD i 0 = u at cg HE ⊢
  go_enter Tryz.func102, Tryz.ntmps102
  go_wp2
  go_ret
  exact ⟨rfl, HE.out _ rfl⟩

def accK : Int → Prop := fun m => 0 ≤ m ∧ m < 1000000

set_option maxRecDepth 100000 in
set_option maxHeartbeats 1000000 in
theorem put_acc {w : World} {s g : Nat} {ws : List Int} {k a o n m : Int} (h : StoreIs 187 w s g ws k a o n m) (v : Int) (i : Nat) (h1 : i < ws.length) (hm : 0 ≤ m ∧ m < 1000000) :
    Calls Tryz.prog 51 #[.pointer (some ⟨s, 0, none⟩), .int .i64 (i : Int), .int .u64 v] w fun e w' => e = .returned (.int .i64 0) ∧ AccPost 187 w s g ws 2 i v m w' := by
  have H := Lib.hid h
  clear h
  go_enter Tryz.func51, Tryz.ntmps51
  go_wp2_with (first
    | (go_at_call 101; refine (check_ok (ty := 187) H.out (i : Int) (by omega) (by omega)).mono ?_; rintro e w1 ⟨rfl, rfl⟩)
    | (go_at_call 102; refine (access_any H.out 2 v i h1 hm).mono ?_; rintro e w2 ⟨rfl, hA⟩; replace hA := Lib.hid hA))
  go_ret
  exact ⟨rfl, hA.out⟩

set_option maxRecDepth 100000 in
set_option maxHeartbeats 1000000 in
theorem load_acc {w : World} {s g : Nat} {ws : List Int} {k a o n m : Int} (h : StoreIs 187 w s g ws k a o n m) (i : Nat) (h1 : i < ws.length) (hm : 0 ≤ m ∧ m < 1000000) :
    Calls Tryz.prog 167 #[.pointer (some ⟨s, 0, none⟩), .int .i64 (i : Int)] w fun e w' => e = .returned (.tuple #[.int .u64 (ws.getD i 0), .int .i64 0]) ∧ AccPost 187 w s g ws 1 i (ws.getD i 0) m w' := by
  have c0 : w.cell? ⟨s, 0, none⟩ = some (.slice (some ⟨g, 0, none⟩) ws.length ws.length) := cellOf h.obj 0
  have cg : w.cell? ⟨g, i, none⟩ = some (.int .u64 (ws.getD i 0)) := (cellOf h.row i).trans (cells_get h1)
  have hi : (0 : Int) ≤ i ∧ (i : Int) < ws.length := by omega
  have H := Lib.hid h
  have HA := fun u => Lib.hid (access_any h 1 u i h1 hm)
  clear h
  generalize ws.getD i 0 = u at cg HA ⊢
  go_enter Tryz.func167, Tryz.ntmps167
  go_wp2_with (first
    | (go_at_call 101; refine (check_ok (ty := 187) H.out (i : Int) (by omega) (by omega)).mono ?_; rintro e w1 ⟨rfl, rfl⟩)
    | (go_at_call 102; refine (HA u).out.mono ?_; rintro e w2 ⟨rfl, hA⟩; replace hA := Lib.hid hA))
  go_ret2
  exact ⟨rfl, hA.out⟩

set_option maxRecDepth 100000 in
set_option maxHeartbeats 1000000 in
theorem add_acc {w : World} {s g : Nat} {ws : List Int} {k a o n m : Int} (h : StoreIs 187 w s g ws k a o n m) (d : Int) (i : Nat) (h1 : i < ws.length) (hm : 0 ≤ m ∧ m < 1000000) :
    Calls Tryz.prog 162 #[.pointer (some ⟨s, 0, none⟩), .int .i64 (i : Int), .int .u64 d] w fun e w' => e = .returned (.tuple #[.int .u64 (ws.getD i 0), .int .i64 0]) ∧ AccPost 187 w s g ws 5 i (IntKind.u64.wrap (ws.getD i 0 + d)) m w' := by
  have c0 : w.cell? ⟨s, 0, none⟩ = some (.slice (some ⟨g, 0, none⟩) ws.length ws.length) := cellOf h.obj 0
  have cg : w.cell? ⟨g, i, none⟩ = some (.int .u64 (ws.getD i 0)) := (cellOf h.row i).trans (cells_get h1)
  have hi : (0 : Int) ≤ i ∧ (i : Int) < ws.length := by omega
  have H := Lib.hid h
  have HA := fun u => Lib.hid (access_any h 5 u i h1 hm)
  clear h
  generalize ws.getD i 0 = u at cg HA ⊢
  obtain ⟨z, hz⟩ : ∃ z, IntKind.u64.wrap (u + d) = z := ⟨_, rfl⟩
  rw [hz]
  go_enter Tryz.func162, Tryz.ntmps162
  go_wp2_with (first
    | (go_at_call 101; refine (check_ok (ty := 187) H.out (i : Int) (by omega) (by omega)).mono ?_; rintro e w1 ⟨rfl, rfl⟩)
    | (go_at_call 102; refine (HA z).out.mono ?_; rintro e w2 ⟨rfl, hA⟩; replace hA := Lib.hid hA))
  go_ret2
  exact ⟨rfl, hA.out⟩

set_option maxRecDepth 100000 in
set_option maxHeartbeats 1000000 in
theorem cas_won {w : World} {s g : Nat} {ws : List Int} {k a o n m : Int} (h : StoreIs 187 w s g ws k a o n m) (u v : Int) (i : Nat) (h1 : i < ws.length) (hm : 0 ≤ m ∧ m < 1000000) (hu : ws.getD i 0 = u) :
    Calls Tryz.prog 165 #[.pointer (some ⟨s, 0, none⟩), .int .i64 (i : Int), .int .u64 u, .int .u64 v] w fun e w' => e = .returned (.tuple #[.int .u64 u, .int .i64 0]) ∧ AccPost 187 w s g ws 3 i v m w' := by
  have c0 : w.cell? ⟨s, 0, none⟩ = some (.slice (some ⟨g, 0, none⟩) ws.length ws.length) := cellOf h.obj 0
  have cg : w.cell? ⟨g, i, none⟩ = some (.int .u64 u) := (cellOf h.row i).trans ((cells_get h1).trans (by rw [hu]))
  have hi : (0 : Int) ≤ i ∧ (i : Int) < ws.length := by omega
  have H := Lib.hid h
  have HA := Lib.hid (access_any h 3 v i h1 hm)
  rw [hu] at HA
  clear h hu
  go_enter Tryz.func165, Tryz.ntmps165
  go_wp2_with (first
    | (go_at_call 101; refine (check_ok (ty := 187) H.out (i : Int) (by omega) (by omega)).mono ?_; rintro e w1 ⟨rfl, rfl⟩)
    | (go_at_call 102; refine HA.out.mono ?_; rintro e w2 ⟨rfl, hA⟩; replace hA := Lib.hid hA))
  go_ret2
  exact ⟨rfl, hA.out⟩

set_option maxRecDepth 100000 in
set_option maxHeartbeats 1000000 in
theorem cas_lost {w : World} {s g : Nat} {ws : List Int} {k a o n m : Int} (h : StoreIs 187 w s g ws k a o n m) (u v : Int) (i : Nat) (h1 : i < ws.length) (hm : 0 ≤ m ∧ m < 1000000) (hu : ws.getD i 0 ≠ u) :
    Calls Tryz.prog 165 #[.pointer (some ⟨s, 0, none⟩), .int .i64 (i : Int), .int .u64 u, .int .u64 v] w fun e w' => e = .returned (.tuple #[.int .u64 (ws.getD i 0), .int .i64 5]) ∧ AccPost 187 w s g ws 4 i (ws.getD i 0) m w' := by
  have c0 : w.cell? ⟨s, 0, none⟩ = some (.slice (some ⟨g, 0, none⟩) ws.length ws.length) := cellOf h.obj 0
  have cg : w.cell? ⟨g, i, none⟩ = some (.int .u64 (ws.getD i 0)) := (cellOf h.row i).trans (cells_get h1)
  have hi : (0 : Int) ≤ i ∧ (i : Int) < ws.length := by omega
  have H := Lib.hid h
  have HA := fun z => Lib.hid (access_any h 4 z i h1 hm)
  clear h
  generalize ws.getD i 0 = z at cg HA hu ⊢
  have hz : (z != u) = true := by simpa using hu
  clear hu
  go_enter Tryz.func165, Tryz.ntmps165
  go_wp2_with (first
    | (go_at_call 101; refine (check_ok (ty := 187) H.out (i : Int) (by omega) (by omega)).mono ?_; rintro e w1 ⟨rfl, rfl⟩)
    | (go_at_call 102; refine (HA z).out.mono ?_; rintro e w2 ⟨rfl, hA⟩; replace hA := Lib.hid hA))
  go_ret2
  exact ⟨rfl, hA.out⟩

set_option maxRecDepth 100000 in
set_option maxHeartbeats 1000000 in
theorem last_acc {w : World} {s g : Nat} {ws : List Int} {k a o n m : Int} (h : StoreIs 187 w s g ws k a o n m) :
    Calls Tryz.prog 163 #[.pointer (some ⟨s, 0, none⟩)] w fun e w' => e = .returned (.agg #[.int .i64 k, .int .i64 a, .int .u64 o, .int .u64 n]) ∧ Below w.heap.size w w' := by
  have c1 : w.cell? ⟨s, 1, none⟩ = some (.int .i64 k) := cellOf h.obj 1
  have c2 : w.cell? ⟨s, 2, none⟩ = some (.int .i64 a) := cellOf h.obj 2
  have c3 : w.cell? ⟨s, 3, none⟩ = some (.int .u64 o) := cellOf h.obj 3
  have c4 : w.cell? ⟨s, 4, none⟩ = some (.int .u64 n) := cellOf h.obj 4
  have hs : s < w.heap.size := lt_of_block h.obj
  clear h
  go_enter Tryz.func163, Tryz.ntmps163
  go_wp2
  refine bodyPost_ret (v := .agg #[.int .i64 k, .int .i64 a, .int .u64 o, .int .u64 n]) (by simp [results, Tryz.results163, go_sem]) rfl ⟨rfl, ?_⟩
  repeat (first | exact Below.refl _ _ | refine Below.setCell ?_ (Nat.le_refl _) _ | refine Below.alloc ?_ (Nat.le_refl _) _)

set_option maxRecDepth 100000 in
set_option maxHeartbeats 1000000 in
theorem peek_acc {w : World} {s g : Nat} {ws : List Int} {k a o n m : Int} (h : StoreIs 187 w s g ws k a o n m) (i : Nat) (h1 : i < ws.length) :
    Calls Tryz.prog 80 #[.pointer (some ⟨s, 0, none⟩), .int .i64 (i : Int)] w fun e w' => e = .returned (.int .u64 (ws.getD i 0)) ∧ w = w' := by
  have c0 : w.cell? ⟨s, 0, none⟩ = some (.slice (some ⟨g, 0, none⟩) ws.length ws.length) := cellOf h.obj 0
  have cg : w.cell? ⟨g, i, none⟩ = some (.int .u64 (ws.getD i 0)) := (cellOf h.row i).trans (cells_get h1)
  have hi : (0 : Int) ≤ i ∧ (i : Int) < ws.length := by omega
  have H := Lib.hid h
  clear h
  generalize ws.getD i 0 = u at cg ⊢
  go_enter Tryz.func80, Tryz.ntmps80
  go_wp2_with (first
    | (go_at_call 101; refine (check_ok (ty := 187) H.out (i : Int) (by omega) (by omega)).mono ?_; rintro e w1 ⟨rfl, rfl⟩))
  go_ret
  exact ⟨rfl, rfl⟩
end Go.Proofs.YtffafkmmfaaobaaGreat
