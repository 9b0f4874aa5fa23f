/- What a machine does next: a closure; how it is laid, and called. -/
import Derived.Test.YtffafkmmfaaobaaGreatWr1
import Derived.Laws.EntriesVeiled
namespace Go.Proofs.YtffafkmmfaaobaaGreat
set_option linter.unusedSimpArgs false
set_option linter.unusedVariables false
open Go.RowKit

/-- A variable of one cell. -/
def OneAt (w : World) (b : Nat) (v : Value) (ty : TypeId) : Prop := w.heap[b]? = some (.cells #[v] ty (0, 0))

theorem OneAt.kept {F : Nat → Prop} {w w' : World} {b : Nat} {v : Value} {ty : TypeId} (h : OneAt w b v ty) (hk : Kept F w w') (hn : ¬ F b) : OneAt w' b v ty := hk.at h hn
theorem OneAt.below {w w' : World} {b : Nat} {v : Value} {ty : TypeId} (h : OneAt w b v ty) (hb : Below w.heap.size w w') : OneAt w' b v ty := (hb.block b (lt_of_block h)).trans h
theorem OneAt.cell {w : World} {b : Nat} {v : Value} {ty : TypeId} (h : OneAt w b v ty) : w.cell? ⟨b, 0, none⟩ = some v := cellOf h 0

/-- What is done next: an access; and what is called behind it. -/
inductive Nx where
  | load (i : Nat)
  | put (i : Nat) (v : Int)
  | cas (i : Nat) (old next : Int)
  | add (i : Nat) (d : Int)

def Nx.at : Nx → Nat
  | .load i | .put i _ | .cas i _ _ | .add i _ => i
/-- The word behind it. -/
def Nx.next (u : Int) : Nx → Int
  | .load _ => u
  | .put _ v => v
  | .cas _ old next => if u = old then next else u
  | .add _ d => IntKind.u64.wrap (u + d)
def Nx.kind (u : Int) : Nx → Int
  | .load _ => 1
  | .put _ _ => 2
  | .cas _ old _ => if u = old then 3 else 4
  | .add _ _ => 5
/-- What the closure is told. -/
def Nx.told (u : Int) : Nx → Array Value
  | .load _ => #[.int .u64 u]
  | .put _ _ => #[]
  | .cas _ old _ => #[.bool (decide (u = old))]
  | .add _ _ => #[.int .u64 u]

/-- The function value that does it. -/
def NextIs (w : World) (nv : Value) (K : FuncId) (fs cap : Array Value) : Nx → Prop
  | .load i => ∃ b1 b2, nv = .func (.func 166) #[] #[.pointer (some ⟨b1, 0, none⟩), .pointer (some ⟨b2, 0, none⟩)] ∧
      OneAt w b1 (.int .i64 i) 3 ∧ OneAt w b2 (.func (.func K) fs cap) 164
  | .put i v => ∃ b1 b2 b3, nv = .func (.func 169) #[] #[.pointer (some ⟨b1, 0, none⟩), .pointer (some ⟨b2, 0, none⟩), .pointer (some ⟨b3, 0, none⟩)] ∧
      OneAt w b1 (.int .i64 i) 3 ∧ OneAt w b2 (.int .u64 v) 33 ∧ OneAt w b3 (.func (.func K) fs cap) 1
  | .cas i old next => ∃ b1 b2 b3 b4, nv = .func (.func 164) #[] #[.pointer (some ⟨b1, 0, none⟩), .pointer (some ⟨b2, 0, none⟩), .pointer (some ⟨b3, 0, none⟩), .pointer (some ⟨b4, 0, none⟩)] ∧
      OneAt w b1 (.int .i64 i) 3 ∧ OneAt w b2 (.int .u64 old) 33 ∧ OneAt w b3 (.int .u64 next) 33 ∧ OneAt w b4 (.func (.func K) fs cap) 168
  | .add i d => ∃ b1 b2 b3, nv = .func (.func 161) #[] #[.pointer (some ⟨b1, 0, none⟩), .pointer (some ⟨b2, 0, none⟩), .pointer (some ⟨b3, 0, none⟩)] ∧
      OneAt w b1 (.int .i64 i) 3 ∧ OneAt w b2 (.int .u64 d) 33 ∧ OneAt w b3 (.func (.func K) fs cap) 164

/-- Behind a turn of blocks that are none of these. -/
theorem NextIs.kept {F : Nat → Prop} {w w' : World} {nv : Value} {K : FuncId} {fs cap : Array Value} {x : Nx} (h : NextIs w nv K fs cap x) (hk : Kept F w w')
    (hF : ∀ b v ty, OneAt w b v ty → ty = 3 ∨ ty = 33 ∨ ty = 164 ∨ ty = 168 ∨ ty = 1 → ¬ F b) : NextIs w' nv K fs cap x := by
  cases x with
  | load i => obtain ⟨b1, b2, h0, h1, h2⟩ := h; exact ⟨b1, b2, h0, h1.kept hk (hF _ _ _ h1 (by simp)), h2.kept hk (hF _ _ _ h2 (by simp))⟩
  | put i v => obtain ⟨b1, b2, b3, h0, h1, h2, h3⟩ := h; exact ⟨b1, b2, b3, h0, h1.kept hk (hF _ _ _ h1 (by simp)), h2.kept hk (hF _ _ _ h2 (by simp)), h3.kept hk (hF _ _ _ h3 (by simp))⟩
  | cas i o n => obtain ⟨b1, b2, b3, b4, h0, h1, h2, h3, h4⟩ := h; exact ⟨b1, b2, b3, b4, h0, h1.kept hk (hF _ _ _ h1 (by simp)), h2.kept hk (hF _ _ _ h2 (by simp)), h3.kept hk (hF _ _ _ h3 (by simp)), h4.kept hk (hF _ _ _ h4 (by simp))⟩
  | add i d => obtain ⟨b1, b2, b3, h0, h1, h2, h3⟩ := h; exact ⟨b1, b2, b3, h0, h1.kept hk (hF _ _ _ h1 (by simp)), h2.kept hk (hF _ _ _ h2 (by simp)), h3.kept hk (hF _ _ _ h3 (by simp))⟩
theorem NextIs.below {w w' : World} {nv : Value} {K : FuncId} {fs cap : Array Value} {x : Nx} (h : NextIs w nv K fs cap x) (hb : Below w.heap.size w w') : NextIs w' nv K fs cap x :=
  h.kept (Kept.of_below_size hb) (fun _ _ _ _ _ h => h)

/-- A machine: its layout, what is next, and what else it holds. -/
def MachIs (w : World) (m : Nat) (p t : Int) (nv : Value) (rest : List Value) (ty : TypeId) : Prop :=
  w.heap[m]? = some (.cells (#[.int .i64 p, .int .i64 t, nv] ++ rest.toArray) ty (0, 0))

theorem mach_set {w : World} {m : Nat} {p t : Int} {nv : Value} {rest : List Value} {ty : TypeId} (h : MachIs w m p t nv rest ty) (v : Value) : MachIs (w.setCell ⟨m, 2, none⟩ v) m p t v rest ty := by
  unfold MachIs
  rw [block_set h 2 v]
  simp

/-- Behind the laying of what is next: the machine alone has turned. -/
def LaidPost (w : World) (m : Nat) (p t : Int) (rest : List Value) (ty : TypeId) (K : FuncId) (fs cap : Array Value) (x : Nx) (e : Ending) (w' : World) : Prop :=
  e = .returned (.tuple #[]) ∧ ∃ nv, MachIs w' m p t nv rest ty ∧ NextIs w' nv K fs cap x ∧ Kept (fun k => k = m) w w'

section
variable {w : World} {m : Nat} {p t : Int} {nv : Value} {rest : List Value} {ty : TypeId}
set_option maxRecDepth 100000 in
set_option maxHeartbeats 1000000 in
theorem laid_load (h : MachIs w m p t nv rest ty) (i : Nat) (K : FuncId) (fs cap : Array Value) :
    Calls Tryz.prog 112 #[.pointer (some ⟨m, 0, none⟩), .int .i64 (i : Int), .func (.func K) fs cap] w (LaidPost w m p t rest ty K fs cap (.load i)) := by
  have c2 : w.cell? ⟨m, 2, none⟩ = some nv := (cellOf h 2).trans (by simp)
  have f2 : w.frozen? ⟨m, 2, none⟩ = false := freeOf h 2
  have hm : m < w.heap.size := lt_of_block h
  have hm1 : m < w.heap.size + 1 := by omega
  have hm2 : m < w.heap.size + 1 + 1 := by omega
  have hm3 : m < w.heap.size + 1 + 1 + 1 := by omega
  have hW : ∀ w', w' = (((w.setCell ⟨m, 2, none⟩ (.func (.func 166) #[] #[.pointer (some ⟨w.heap.size, 0, none⟩), .pointer (some ⟨(w.heap.size + 1), 0, none⟩)])).alloc (.cells #[.int .i64 (i : Int)] 3)).alloc (.cells #[.func (.func K) fs cap] 164)) → LaidPost w m p t rest ty K fs cap (.load i) (.returned (.tuple #[])) w' := by
    rintro w' rfl
    have n0 : ((w.setCell ⟨m, 2, none⟩ (.func (.func 166) #[] #[.pointer (some ⟨w.heap.size, 0, none⟩), .pointer (some ⟨(w.heap.size + 1), 0, none⟩)])).alloc (.cells #[.int .i64 (i : Int)] 3)).heap[w.heap.size]? = some (.cells #[.int .i64 (i : Int)] 3 (0, 0)) := by have := heap_alloc_new (w.setCell ⟨m, 2, none⟩ (.func (.func 166) #[] #[.pointer (some ⟨w.heap.size, 0, none⟩), .pointer (some ⟨(w.heap.size + 1), 0, none⟩)])) (.cells #[.int .i64 (i : Int)] 3); simpa using this
    have n1 : (((w.setCell ⟨m, 2, none⟩ (.func (.func 166) #[] #[.pointer (some ⟨w.heap.size, 0, none⟩), .pointer (some ⟨(w.heap.size + 1), 0, none⟩)])).alloc (.cells #[.int .i64 (i : Int)] 3)).alloc (.cells #[.func (.func K) fs cap] 164)).heap[w.heap.size + 1]? = some (.cells #[.func (.func K) fs cap] 164 (0, 0)) := by have := heap_alloc_new ((w.setCell ⟨m, 2, none⟩ (.func (.func 166) #[] #[.pointer (some ⟨w.heap.size, 0, none⟩), .pointer (some ⟨(w.heap.size + 1), 0, none⟩)])).alloc (.cells #[.int .i64 (i : Int)] 3)) (.cells #[.func (.func K) fs cap] 164); simpa using this
    exact ⟨rfl, _, block_alloc (block_alloc (mach_set h (.func (.func 166) #[] #[.pointer (some ⟨w.heap.size, 0, none⟩), .pointer (some ⟨(w.heap.size + 1), 0, none⟩)])) _) _, ⟨_, _, rfl, block_alloc (n0) _, n1⟩, (((Kept.refl (fun k => k = m) w).setCell (p := ⟨m, 2, none⟩) (.inl rfl) _).alloc _).alloc _⟩
  have HW := Lib.hid hW
  clear hW h
  go_enter Tryz.func112, Tryz.ntmps112
  go_wp2
  go_end0
  exact HW.out _ rfl

set_option maxRecDepth 100000 in
set_option maxHeartbeats 1000000 in
theorem laid_put (h : MachIs w m p t nv rest ty) (i : Nat) (v : Int) (K : FuncId) (fs cap : Array Value) :
    Calls Tryz.prog 114 #[.pointer (some ⟨m, 0, none⟩), .int .i64 (i : Int), .int .u64 v, .func (.func K) fs cap] w (LaidPost w m p t rest ty K fs cap (.put i v)) := by
  have c2 : w.cell? ⟨m, 2, none⟩ = some nv := (cellOf h 2).trans (by simp)
  have f2 : w.frozen? ⟨m, 2, none⟩ = false := freeOf h 2
  have hm : m < w.heap.size := lt_of_block h
  have hm1 : m < w.heap.size + 1 := by omega
  have hm2 : m < w.heap.size + 1 + 1 := by omega
  have hm3 : m < w.heap.size + 1 + 1 + 1 := by omega
  have hW : ∀ w', w' = ((((w.setCell ⟨m, 2, none⟩ (.func (.func 169) #[] #[.pointer (some ⟨w.heap.size, 0, none⟩), .pointer (some ⟨(w.heap.size + 1), 0, none⟩), .pointer (some ⟨(w.heap.size + 1 + 1), 0, none⟩)])).alloc (.cells #[.int .i64 (i : Int)] 3)).alloc (.cells #[.int .u64 v] 33)).alloc (.cells #[.func (.func K) fs cap] 1)) → LaidPost w m p t rest ty K fs cap (.put i v) (.returned (.tuple #[])) w' := by
    rintro w' rfl
    have n0 : ((w.setCell ⟨m, 2, none⟩ (.func (.func 169) #[] #[.pointer (some ⟨w.heap.size, 0, none⟩), .pointer (some ⟨(w.heap.size + 1), 0, none⟩), .pointer (some ⟨(w.heap.size + 1 + 1), 0, none⟩)])).alloc (.cells #[.int .i64 (i : Int)] 3)).heap[w.heap.size]? = some (.cells #[.int .i64 (i : Int)] 3 (0, 0)) := by have := heap_alloc_new (w.setCell ⟨m, 2, none⟩ (.func (.func 169) #[] #[.pointer (some ⟨w.heap.size, 0, none⟩), .pointer (some ⟨(w.heap.size + 1), 0, none⟩), .pointer (some ⟨(w.heap.size + 1 + 1), 0, none⟩)])) (.cells #[.int .i64 (i : Int)] 3); simpa using this
    have n1 : (((w.setCell ⟨m, 2, none⟩ (.func (.func 169) #[] #[.pointer (some ⟨w.heap.size, 0, none⟩), .pointer (some ⟨(w.heap.size + 1), 0, none⟩), .pointer (some ⟨(w.heap.size + 1 + 1), 0, none⟩)])).alloc (.cells #[.int .i64 (i : Int)] 3)).alloc (.cells #[.int .u64 v] 33)).heap[w.heap.size + 1]? = some (.cells #[.int .u64 v] 33 (0, 0)) := by have := heap_alloc_new ((w.setCell ⟨m, 2, none⟩ (.func (.func 169) #[] #[.pointer (some ⟨w.heap.size, 0, none⟩), .pointer (some ⟨(w.heap.size + 1), 0, none⟩), .pointer (some ⟨(w.heap.size + 1 + 1), 0, none⟩)])).alloc (.cells #[.int .i64 (i : Int)] 3)) (.cells #[.int .u64 v] 33); simpa using this
    have n2 : ((((w.setCell ⟨m, 2, none⟩ (.func (.func 169) #[] #[.pointer (some ⟨w.heap.size, 0, none⟩), .pointer (some ⟨(w.heap.size + 1), 0, none⟩), .pointer (some ⟨(w.heap.size + 1 + 1), 0, none⟩)])).alloc (.cells #[.int .i64 (i : Int)] 3)).alloc (.cells #[.int .u64 v] 33)).alloc (.cells #[.func (.func K) fs cap] 1)).heap[w.heap.size + 1 + 1]? = some (.cells #[.func (.func K) fs cap] 1 (0, 0)) := by have := heap_alloc_new (((w.setCell ⟨m, 2, none⟩ (.func (.func 169) #[] #[.pointer (some ⟨w.heap.size, 0, none⟩), .pointer (some ⟨(w.heap.size + 1), 0, none⟩), .pointer (some ⟨(w.heap.size + 1 + 1), 0, none⟩)])).alloc (.cells #[.int .i64 (i : Int)] 3)).alloc (.cells #[.int .u64 v] 33)) (.cells #[.func (.func K) fs cap] 1); simpa using this
    exact ⟨rfl, _, block_alloc (block_alloc (block_alloc (mach_set h (.func (.func 169) #[] #[.pointer (some ⟨w.heap.size, 0, none⟩), .pointer (some ⟨(w.heap.size + 1), 0, none⟩), .pointer (some ⟨(w.heap.size + 1 + 1), 0, none⟩)])) _) _) _, ⟨_, _, _, rfl, block_alloc (block_alloc (n0) _) _, block_alloc (n1) _, n2⟩, ((((Kept.refl (fun k => k = m) w).setCell (p := ⟨m, 2, none⟩) (.inl rfl) _).alloc _).alloc _).alloc _⟩
  have HW := Lib.hid hW
  clear hW h
  go_enter Tryz.func114, Tryz.ntmps114
  go_wp2
  go_end0
  exact HW.out _ rfl

set_option maxRecDepth 100000 in
set_option maxHeartbeats 1000000 in
theorem laid_cas (h : MachIs w m p t nv rest ty) (i : Nat) (o n : Int) (K : FuncId) (fs cap : Array Value) :
    Calls Tryz.prog 110 #[.pointer (some ⟨m, 0, none⟩), .int .i64 (i : Int), .int .u64 o, .int .u64 n, .func (.func K) fs cap] w (LaidPost w m p t rest ty K fs cap (.cas i o n)) := by
  have c2 : w.cell? ⟨m, 2, none⟩ = some nv := (cellOf h 2).trans (by simp)
  have f2 : w.frozen? ⟨m, 2, none⟩ = false := freeOf h 2
  have hm : m < w.heap.size := lt_of_block h
  have hm1 : m < w.heap.size + 1 := by omega
  have hm2 : m < w.heap.size + 1 + 1 := by omega
  have hm3 : m < w.heap.size + 1 + 1 + 1 := by omega
  have hW : ∀ w', w' = (((((w.setCell ⟨m, 2, none⟩ (.func (.func 164) #[] #[.pointer (some ⟨w.heap.size, 0, none⟩), .pointer (some ⟨(w.heap.size + 1), 0, none⟩), .pointer (some ⟨(w.heap.size + 1 + 1), 0, none⟩), .pointer (some ⟨(w.heap.size + 1 + 1 + 1), 0, none⟩)])).alloc (.cells #[.int .i64 (i : Int)] 3)).alloc (.cells #[.int .u64 o] 33)).alloc (.cells #[.int .u64 n] 33)).alloc (.cells #[.func (.func K) fs cap] 168)) → LaidPost w m p t rest ty K fs cap (.cas i o n) (.returned (.tuple #[])) w' := by
    rintro w' rfl
    have n0 : ((w.setCell ⟨m, 2, none⟩ (.func (.func 164) #[] #[.pointer (some ⟨w.heap.size, 0, none⟩), .pointer (some ⟨(w.heap.size + 1), 0, none⟩), .pointer (some ⟨(w.heap.size + 1 + 1), 0, none⟩), .pointer (some ⟨(w.heap.size + 1 + 1 + 1), 0, none⟩)])).alloc (.cells #[.int .i64 (i : Int)] 3)).heap[w.heap.size]? = some (.cells #[.int .i64 (i : Int)] 3 (0, 0)) := by have := heap_alloc_new (w.setCell ⟨m, 2, none⟩ (.func (.func 164) #[] #[.pointer (some ⟨w.heap.size, 0, none⟩), .pointer (some ⟨(w.heap.size + 1), 0, none⟩), .pointer (some ⟨(w.heap.size + 1 + 1), 0, none⟩), .pointer (some ⟨(w.heap.size + 1 + 1 + 1), 0, none⟩)])) (.cells #[.int .i64 (i : Int)] 3); simpa using this
    have n1 : (((w.setCell ⟨m, 2, none⟩ (.func (.func 164) #[] #[.pointer (some ⟨w.heap.size, 0, none⟩), .pointer (some ⟨(w.heap.size + 1), 0, none⟩), .pointer (some ⟨(w.heap.size + 1 + 1), 0, none⟩), .pointer (some ⟨(w.heap.size + 1 + 1 + 1), 0, none⟩)])).alloc (.cells #[.int .i64 (i : Int)] 3)).alloc (.cells #[.int .u64 o] 33)).heap[w.heap.size + 1]? = some (.cells #[.int .u64 o] 33 (0, 0)) := by have := heap_alloc_new ((w.setCell ⟨m, 2, none⟩ (.func (.func 164) #[] #[.pointer (some ⟨w.heap.size, 0, none⟩), .pointer (some ⟨(w.heap.size + 1), 0, none⟩), .pointer (some ⟨(w.heap.size + 1 + 1), 0, none⟩), .pointer (some ⟨(w.heap.size + 1 + 1 + 1), 0, none⟩)])).alloc (.cells #[.int .i64 (i : Int)] 3)) (.cells #[.int .u64 o] 33); simpa using this
    have n2 : ((((w.setCell ⟨m, 2, none⟩ (.func (.func 164) #[] #[.pointer (some ⟨w.heap.size, 0, none⟩), .pointer (some ⟨(w.heap.size + 1), 0, none⟩), .pointer (some ⟨(w.heap.size + 1 + 1), 0, none⟩), .pointer (some ⟨(w.heap.size + 1 + 1 + 1), 0, none⟩)])).alloc (.cells #[.int .i64 (i : Int)] 3)).alloc (.cells #[.int .u64 o] 33)).alloc (.cells #[.int .u64 n] 33)).heap[w.heap.size + 1 + 1]? = some (.cells #[.int .u64 n] 33 (0, 0)) := by have := heap_alloc_new (((w.setCell ⟨m, 2, none⟩ (.func (.func 164) #[] #[.pointer (some ⟨w.heap.size, 0, none⟩), .pointer (some ⟨(w.heap.size + 1), 0, none⟩), .pointer (some ⟨(w.heap.size + 1 + 1), 0, none⟩), .pointer (some ⟨(w.heap.size + 1 + 1 + 1), 0, none⟩)])).alloc (.cells #[.int .i64 (i : Int)] 3)).alloc (.cells #[.int .u64 o] 33)) (.cells #[.int .u64 n] 33); simpa using this
    have n3 : (((((w.setCell ⟨m, 2, none⟩ (.func (.func 164) #[] #[.pointer (some ⟨w.heap.size, 0, none⟩), .pointer (some ⟨(w.heap.size + 1), 0, none⟩), .pointer (some ⟨(w.heap.size + 1 + 1), 0, none⟩), .pointer (some ⟨(w.heap.size + 1 + 1 + 1), 0, none⟩)])).alloc (.cells #[.int .i64 (i : Int)] 3)).alloc (.cells #[.int .u64 o] 33)).alloc (.cells #[.int .u64 n] 33)).alloc (.cells #[.func (.func K) fs cap] 168)).heap[w.heap.size + 1 + 1 + 1]? = some (.cells #[.func (.func K) fs cap] 168 (0, 0)) := by have := heap_alloc_new ((((w.setCell ⟨m, 2, none⟩ (.func (.func 164) #[] #[.pointer (some ⟨w.heap.size, 0, none⟩), .pointer (some ⟨(w.heap.size + 1), 0, none⟩), .pointer (some ⟨(w.heap.size + 1 + 1), 0, none⟩), .pointer (some ⟨(w.heap.size + 1 + 1 + 1), 0, none⟩)])).alloc (.cells #[.int .i64 (i : Int)] 3)).alloc (.cells #[.int .u64 o] 33)).alloc (.cells #[.int .u64 n] 33)) (.cells #[.func (.func K) fs cap] 168); simpa using this
    exact ⟨rfl, _, block_alloc (block_alloc (block_alloc (block_alloc (mach_set h (.func (.func 164) #[] #[.pointer (some ⟨w.heap.size, 0, none⟩), .pointer (some ⟨(w.heap.size + 1), 0, none⟩), .pointer (some ⟨(w.heap.size + 1 + 1), 0, none⟩), .pointer (some ⟨(w.heap.size + 1 + 1 + 1), 0, none⟩)])) _) _) _) _, ⟨_, _, _, _, rfl, block_alloc (block_alloc (block_alloc (n0) _) _) _, block_alloc (block_alloc (n1) _) _, block_alloc (n2) _, n3⟩, (((((Kept.refl (fun k => k = m) w).setCell (p := ⟨m, 2, none⟩) (.inl rfl) _).alloc _).alloc _).alloc _).alloc _⟩
  have HW := Lib.hid hW
  clear hW h
  go_enter Tryz.func110, Tryz.ntmps110
  go_wp2
  go_end0
  exact HW.out _ rfl

set_option maxRecDepth 100000 in
set_option maxHeartbeats 1000000 in
theorem laid_add (h : MachIs w m p t nv rest ty) (i : Nat) (d : Int) (K : FuncId) (fs cap : Array Value) :
    Calls Tryz.prog 106 #[.pointer (some ⟨m, 0, none⟩), .int .i64 (i : Int), .int .u64 d, .func (.func K) fs cap] w (LaidPost w m p t rest ty K fs cap (.add i d)) := by
  have c2 : w.cell? ⟨m, 2, none⟩ = some nv := (cellOf h 2).trans (by simp)
  have f2 : w.frozen? ⟨m, 2, none⟩ = false := freeOf h 2
  have hm : m < w.heap.size := lt_of_block h
  have hm1 : m < w.heap.size + 1 := by omega
  have hm2 : m < w.heap.size + 1 + 1 := by omega
  have hm3 : m < w.heap.size + 1 + 1 + 1 := by omega
  have hW : ∀ w', w' = ((((w.setCell ⟨m, 2, none⟩ (.func (.func 161) #[] #[.pointer (some ⟨w.heap.size, 0, none⟩), .pointer (some ⟨(w.heap.size + 1), 0, none⟩), .pointer (some ⟨(w.heap.size + 1 + 1), 0, none⟩)])).alloc (.cells #[.int .i64 (i : Int)] 3)).alloc (.cells #[.int .u64 d] 33)).alloc (.cells #[.func (.func K) fs cap] 164)) → LaidPost w m p t rest ty K fs cap (.add i d) (.returned (.tuple #[])) w' := by
    rintro w' rfl
    have n0 : ((w.setCell ⟨m, 2, none⟩ (.func (.func 161) #[] #[.pointer (some ⟨w.heap.size, 0, none⟩), .pointer (some ⟨(w.heap.size + 1), 0, none⟩), .pointer (some ⟨(w.heap.size + 1 + 1), 0, none⟩)])).alloc (.cells #[.int .i64 (i : Int)] 3)).heap[w.heap.size]? = some (.cells #[.int .i64 (i : Int)] 3 (0, 0)) := by have := heap_alloc_new (w.setCell ⟨m, 2, none⟩ (.func (.func 161) #[] #[.pointer (some ⟨w.heap.size, 0, none⟩), .pointer (some ⟨(w.heap.size + 1), 0, none⟩), .pointer (some ⟨(w.heap.size + 1 + 1), 0, none⟩)])) (.cells #[.int .i64 (i : Int)] 3); simpa using this
    have n1 : (((w.setCell ⟨m, 2, none⟩ (.func (.func 161) #[] #[.pointer (some ⟨w.heap.size, 0, none⟩), .pointer (some ⟨(w.heap.size + 1), 0, none⟩), .pointer (some ⟨(w.heap.size + 1 + 1), 0, none⟩)])).alloc (.cells #[.int .i64 (i : Int)] 3)).alloc (.cells #[.int .u64 d] 33)).heap[w.heap.size + 1]? = some (.cells #[.int .u64 d] 33 (0, 0)) := by have := heap_alloc_new ((w.setCell ⟨m, 2, none⟩ (.func (.func 161) #[] #[.pointer (some ⟨w.heap.size, 0, none⟩), .pointer (some ⟨(w.heap.size + 1), 0, none⟩), .pointer (some ⟨(w.heap.size + 1 + 1), 0, none⟩)])).alloc (.cells #[.int .i64 (i : Int)] 3)) (.cells #[.int .u64 d] 33); simpa using this
    have n2 : ((((w.setCell ⟨m, 2, none⟩ (.func (.func 161) #[] #[.pointer (some ⟨w.heap.size, 0, none⟩), .pointer (some ⟨(w.heap.size + 1), 0, none⟩), .pointer (some ⟨(w.heap.size + 1 + 1), 0, none⟩)])).alloc (.cells #[.int .i64 (i : Int)] 3)).alloc (.cells #[.int .u64 d] 33)).alloc (.cells #[.func (.func K) fs cap] 164)).heap[w.heap.size + 1 + 1]? = some (.cells #[.func (.func K) fs cap] 164 (0, 0)) := by have := heap_alloc_new (((w.setCell ⟨m, 2, none⟩ (.func (.func 161) #[] #[.pointer (some ⟨w.heap.size, 0, none⟩), .pointer (some ⟨(w.heap.size + 1), 0, none⟩), .pointer (some ⟨(w.heap.size + 1 + 1), 0, none⟩)])).alloc (.cells #[.int .i64 (i : Int)] 3)).alloc (.cells #[.int .u64 d] 33)) (.cells #[.func (.func K) fs cap] 164); simpa using this
    exact ⟨rfl, _, block_alloc (block_alloc (block_alloc (mach_set h (.func (.func 161) #[] #[.pointer (some ⟨w.heap.size, 0, none⟩), .pointer (some ⟨(w.heap.size + 1), 0, none⟩), .pointer (some ⟨(w.heap.size + 1 + 1), 0, none⟩)])) _) _) _, ⟨_, _, _, rfl, block_alloc (block_alloc (n0) _) _, block_alloc (n1) _, n2⟩, ((((Kept.refl (fun k => k = m) w).setCell (p := ⟨m, 2, none⟩) (.inl rfl) _).alloc _).alloc _).alloc _⟩
  have HW := Lib.hid hW
  clear hW h
  go_enter Tryz.func106, Tryz.ntmps106
  go_wp2
  go_end0
  exact HW.out _ rfl

end
end Go.Proofs.YtffafkmmfaaobaaGreat
