/- The reference's tree: Put. -/
import Derived.Test.YtffafkmmfaaobaaGreatWr16
import Derived.Maps.AppendAt
namespace Go.Proofs.YtffafkmmfaaobaaGreat
set_option linter.unusedSimpArgs false
set_option linter.unusedVariables false
open Go.RowKit

theorem Tryz.info274 : (Tryz.prog.info? 274).map (fun i => (i.zero, i.size, i.bytes)) = some (some (.agg #[.int .i64 0, .int .u32 0, .int .i64 0]), 3, 24) := by kernel_rfl

/-- append of what a slice reads as, nil among them. -/
theorem run_append_src {P : Program} (w : World) (base : Nat) (t ty e : TypeId) (i : TypeInfo) (z : Value) (size bytes : Nat) (ht : P.underlying t = some (.slice e)) (hi : P.info? e = some i) (hz : i.zero = some z)
    (hsize : i.size = size) (hby : i.bytes = bytes) (hzs : z.cells.size = size) (hsz : 0 < size)
    (v : Value) (n : Nat) (xs : List Value) (hown : w.ownsRow base e size v n xs) (u : Value) (m : Nat) (news : List Value) (hs : SrcOf w size u m news) (h1 : ∀ u ∈ news, u.oneCell' = true)
    (h63 : n + m ≤ maxLen) (hbytes : (n + m) * bytes ≤ 140737488355328) (hbase : base ≤ w.heap.size) :
    ∃ v' w', (Builtin.append_ #[t, t] ty #[v, u]).run P w = .ok v' w' ∧ w'.ownsRow base e size v' (n + m) (xs ++ news) ∧ w.grownBy w' v.ownBlock ∧ (v'.ownBlock = v.ownBlock ∨ v'.ownBlock = some w.heap.size) := by
  rcases hs with ⟨rfl, rfl, rfl⟩ | ⟨a, c, rfl, hl, hnews, _⟩
  · refine ⟨v, w, ?_, by simpa using hown, ⟨rfl, rfl, rfl, Nat.le_refl _, fun _ _ _ => rfl⟩, .inl rfl⟩
    rcases hown.2 with ⟨rfl, rfl⟩ | ⟨g, cap, cur, rfl, _, _, hnc, _⟩
    · simp [Builtin.append_, run_underlying ht, sizeOf, typeInfo, hi, Builtin.lenOf, Builtin.firstCells, loadCells, loadCellsFrom]
    · simp [Builtin.append_, run_underlying ht, sizeOf, typeInfo, hi, Builtin.lenOf, Builtin.firstCells, loadCells, loadCellsFrom, hnc, storeCells]
  · obtain ⟨v', w', h2, h3, h4, _, h6⟩ := run_append_own_at (P := P) w base t ty e i z size bytes ht hi hz hsize hby hzs hsz v n xs hown a m c news hl hnews h1 h63 hbytes hbase
    exact ⟨v', w', h2, h3, h4, h6⟩

def headV : Value → Nat → Value
  | .slice none _ _, _ => .slice none 0 0
  | .slice (some a) _ c, i => .slice (some a) i c
  | v, _ => v
def tailV : Value → Nat → Value
  | .slice none _ _, _ => .slice none 0 0
  | .slice (some a) n c, i => if c = i then .slice (some a) (n - i) (c - i) else .slice (some (a.add (i * 3))) (n - i) (c - i)
  | v, _ => v

theorem headV_src {w W : World} {base : Nat} {v : Value} {xs : List It} {i : Nat} (h : w.ownsRow base 274 3 v xs.length (itCells xs)) (hi : i ≤ xs.length) (hk : Kept No w W) : SrcOf W 3 (headV v i) i (itCells (xs.take i)) := by
  rcases h.2 with ⟨rfl, h0⟩ | ⟨g, cap, cur, rfl, _, hg, _⟩
  · have : i = 0 := by omega
    subst this
    exact .inl ⟨rfl, rfl, rfl⟩
  · refine .inr ⟨⟨g, 0, none⟩, cap, rfl, ?_, fun j u hu => ?_, fun _ => Nat.lt_of_lt_of_le (lt_of_block hg) hk.size⟩
    · rw [itCells_length, List.length_take, Nat.min_eq_left hi]
    · rw [← itCells_take, List.getElem?_take] at hu
      split at hu
      · rw [addAt, hk.cell (lt_of_block hg) (fun h => h), ← addAt]; exact h.cells (g := g) rfl _ _ hu
      · cases hu
theorem tailV_src {w W : World} {base : Nat} {v : Value} {xs : List It} {i : Nat} (h : w.ownsRow base 274 3 v xs.length (itCells xs)) (hi : i ≤ xs.length) (hk : Kept No w W) : SrcOf W 3 (tailV v i) (xs.length - i) (itCells (xs.drop i)) := by
  rcases h.2 with ⟨rfl, h0⟩ | ⟨g, cap, cur, rfl, _, hg, hnc, _⟩
  · have : xs = [] := List.eq_nil_of_length_eq_zero h0
    subst this
    exact .inl ⟨rfl, by simp, by simp [itCells]⟩
  · by_cases hc : cap = i
    · refine .inr ⟨⟨g, 0, none⟩, cap - i, by simp only [tailV, if_pos hc], by rw [itCells_length, List.length_drop], fun j u hu => ?_, fun _ => Nat.lt_of_lt_of_le (lt_of_block hg) hk.size⟩
      rw [List.drop_eq_nil_of_le (by omega)] at hu
      simp [itCells] at hu
    · refine .inr ⟨⟨g, i * 3, none⟩, cap - i, by simp only [tailV, if_neg hc, addAt], by rw [itCells_length, List.length_drop], fun j u hu => ?_, fun _ => Nat.lt_of_lt_of_le (lt_of_block hg) hk.size⟩
      rw [← itCells_drop, List.getElem?_drop] at hu
      rw [addAt', hk.cell (lt_of_block hg) (fun h => h), ← addAt]; exact h.cells (g := g) rfl _ _ hu

def insI (xs : List It) (i : Nat) (x : It) : List It := xs.take i ++ x :: xs.drop i

def PutTPost (q : Nat) (xs : List It) (i : Nat) (x : It) (w : World) (e : Ending) (w' : World) : Prop :=
  e = .returned (.bool true) ∧ ∃ W g cap, w' = W.setCell ⟨q, 1, none⟩ (.slice (some ⟨g, 0, none⟩) (xs.length + 1) cap) ∧ Kept No w W ∧ W.ownsRow w.heap.size 274 3 (.slice (some ⟨g, 0, none⟩) (xs.length + 1) cap) (xs.length + 1) (itCells (insI xs i x))

/-- What is known where the item is about to be put behind the front part. -/
structure MidT (w W : World) (v1 : Value) (xs : List It) (i bx : Nat) (x : It) : Prop where
  kept : Kept No w W
  own : W.ownsRow w.heap.size 274 3 v1 i (itCells (xs.take i))
  box : W.heap[bx]? = some (.cells #[.int .i64 x.key, .int .u32 x.draw, .int .i64 x.v] 274 (0, 0))
  new : w.heap.size ≤ bx

theorem itTwo (W : World) (bx : Nat) (x : It) (h : W.heap[bx]? = some (.cells #[.int .i64 x.key, .int .u32 x.draw, .int .i64 x.v] 274 (0, 0))) : SrcOf W 3 (.slice (some ⟨bx, 0, none⟩) 1 1) 1 (itCells [x]) :=
  .inr ⟨_, _, rfl, rfl, World.news_of_block (cs := #[.int .i64 x.key, .int .u32 x.draw, .int .i64 x.v]) h, fun _ => lt_of_block h⟩

theorem own_new {w W W' : World} {v v' : Value} {base size e n xs} (ho : W.ownsRow base e size v n xs) (hb : w.heap.size ≤ base) (hk : Kept No w W) (hg : W.grownBy W' v.ownBlock) : Kept No w W' :=
  hk.grown hg (fun k hk' => .inr (Nat.le_trans hb (ho.lt k hk').1))

theorem midT_8 {w W : World} {base : Nat} {v v0 : Value} {xs : List It} {i : Nat} (ty : TypeId) (h : w.ownsRow base 274 3 v xs.length (itCells xs)) (hi : i ≤ xs.length) (hl : xs.length ≤ 100000) (hk : Kept No w W) (h0 : W.ownsRow w.heap.size 274 3 v0 0 []) :
    ∃ v1 W', (Builtin.append_ #[194, 194] ty #[v0, headV v i]).run Tryz.prog W = .ok v1 W' ∧ Kept No w W' ∧ W'.ownsRow w.heap.size 274 3 v1 i (itCells (xs.take i)) ∧ W.grownBy W' v0.ownBlock ∧ (v1.ownBlock = v0.ownBlock ∨ v1.ownBlock = some W.heap.size) := by
  obtain ⟨i0, hi0, hz0, hz1, hz2⟩ := info_parts Tryz.info274
  obtain ⟨v1, W', h2, h3, h4, h6⟩ := run_append_src (P := Tryz.prog) W w.heap.size 194 ty 274 i0 _ 3 24 Tryz.underlying194 hi0 hz0 hz1 hz2 rfl (by decide) v0 0 [] h0 (headV v i) i _ (headV_src h hi hk) (itCells_one _) (by unfold maxLen; omega) (by omega) hk.size
  exact ⟨v1, W', h2, own_new (v' := v1) h0 (Nat.le_refl _) hk h4, by simpa using h3, h4, h6⟩

theorem midT_14 {w W : World} {v1 : Value} {xs : List It} {i bx : Nat} {x : It} (ty : TypeId) (hi : i ≤ xs.length) (hl : xs.length ≤ 100000) (h : MidT w W v1 xs i bx x) :
    ∃ v2 W', (Builtin.append_ #[194, 194] ty #[v1, .slice (some ⟨bx, 0, none⟩) 1 1]).run Tryz.prog W = .ok v2 W' ∧ Kept No w W' ∧ W'.ownsRow w.heap.size 274 3 v2 (i + 1) (itCells (xs.take i) ++ itCells [x]) := by
  obtain ⟨i0, hi0, hz0, hz1, hz2⟩ := info_parts Tryz.info274
  obtain ⟨v2, W', h2, h3, h4, h6⟩ := run_append_src (P := Tryz.prog) W w.heap.size 194 ty 274 i0 _ 3 24 Tryz.underlying194 hi0 hz0 hz1 hz2 rfl (by decide) v1 i _ h.own _ 1 _ (itTwo W bx x h.box) (itCells_one _) (by unfold maxLen; omega) (by omega) h.kept.size
  exact ⟨v2, W', h2, own_new (v' := v2) h.own (Nat.le_refl _) h.kept h4, h3⟩

theorem midT_21 {w W : World} {base : Nat} {v v2 : Value} {xs : List It} {i : Nat} {x : It} (ty : TypeId) (h : w.ownsRow base 274 3 v xs.length (itCells xs)) (hi : i ≤ xs.length) (hl : xs.length ≤ 100000) (hk : Kept No w W) (h0 : W.ownsRow w.heap.size 274 3 v2 (i + 1) (itCells (xs.take i) ++ itCells [x])) :
    ∃ g cap W', (Builtin.append_ #[194, 194] ty #[v2, tailV v i]).run Tryz.prog W = .ok (.slice (some ⟨g, 0, none⟩) (xs.length + 1) cap) W' ∧ Kept No w W' ∧ W'.ownsRow w.heap.size 274 3 (.slice (some ⟨g, 0, none⟩) (xs.length + 1) cap) (xs.length + 1) (itCells (insI xs i x)) := by
  obtain ⟨i0, hi0, hz0, hz1, hz2⟩ := info_parts Tryz.info274
  obtain ⟨v3, W', h2, h3, h4, h6⟩ := run_append_src (P := Tryz.prog) W w.heap.size 194 ty 274 i0 _ 3 24 Tryz.underlying194 hi0 hz0 hz1 hz2 rfl (by decide) v2 (i + 1) _ h0 (tailV v i) (xs.length - i) _ (tailV_src h hi hk) (itCells_one _) (by unfold maxLen; omega) (by omega) hk.size
  rw [show i + 1 + (xs.length - i) = xs.length + 1 by omega] at h3
  obtain ⟨g, cap, rfl, _⟩ := h3.form (by omega)
  refine ⟨g, cap, W', h2, own_new (v' := v2) h0 (Nat.le_refl _) hk h4, ?_⟩
  rw [insI, itCells_append, show itCells (x :: xs.drop i) = itCells [x] ++ itCells (xs.drop i) from by rw [← itCells_append]; rfl, ← List.append_assoc]
  exact h3

set_option maxRecDepth 100000 in
set_option maxHeartbeats 4000000 in
theorem tput_any (xs : List It) (v : Value) (q : Nat) (x : It) (i : Nat) (w : World) (base : Nat) (cs : Array Value) (ty : TypeId) (hobj : w.heap[q]? = some (.cells cs ty (0, 0))) (hcs : cs[1]? = some v) (hrow : w.ownsRow base 274 3 v xs.length (itCells xs)) (hl : xs.length ≤ 100000) (hp : PartsI xs x.key i)
    (hno : ∀ y, xs[i]? = some y → y.key ≠ x.key) :
    Calls Tryz.prog 221 #[.pointer (some ⟨q, 1, none⟩), .int .i64 x.key, .int .u32 x.draw, .int .i64 x.v] w (PutTPost q xs i x w) := by
  have hc : w.cell? ⟨q, 1, none⟩ = some v := (cellOf hobj 1).trans hcs
  have hf : w.frozen? ⟨q, 1, none⟩ = false := freeOf hobj 1
  have hq := lt_of_block hobj
  have FH := Lib.hid (thas_any xs v q x.key i w base false hc hrow hl hp (by
    cases h : xs[i]? with
    | none => rfl
    | some y => have := hno y h; simp [this]))
  have FP := Lib.hid (tplace_any xs v q x.key i w base hc hrow hl hp)
  have HROW := Lib.hid hrow
  have hi := hp.le
  have HV : Hid ((v = .slice none 0 0 ∧ i = 0) ∨ ∃ g cap, v = .slice (some ⟨g, 0, none⟩) xs.length cap ∧ i ≤ cap ∧ xs.length ≤ cap) := by
    rcases hrow.2 with ⟨rfl, h0⟩ | ⟨g, cap, cur, rfl, _, _, h, _⟩
    · exact .inl ⟨rfl, by omega⟩
    · exact .inr ⟨g, cap, rfl, by omega, h⟩
  obtain ⟨xk, xd, xv⟩ := x
  dsimp only at *
  clear hobj hcs hrow hp hno
  go_enter Tryz.func221, Tryz.ntmps221
  go_wp2_with fail
  refine FH.out.mono ?_
  rintro e w1 ⟨rfl, rfl⟩
  go_wp2_with fail
  refine FP.out.mono ?_
  rintro e w1 ⟨rfl, rfl⟩
  go_wp2_with fail
  refine wp_drawnTo 24 (fun W => Kept No w W) (by kernel_rfl) ?_
  have hS : (fun W : World => Kept No w W) w.drew := (Kept.refl No w).drew
  refine DrawnTo.take (i := 0) (v := .pointer (some ⟨q, 1, none⟩)) rfl (by kernel_rfl) (by kernel_rfl) (by kernel_rfl) (by kernel_rfl) (fun _ _ _ h => h) hS (Or.inl ⟨by rfl, fun W' hS => ?_⟩) ?_
  · go_simp
  refine DrawnTo.take (i := 2) (v := .pointer (some ⟨q, 1, none⟩)) rfl (by kernel_rfl) (by kernel_rfl) (by kernel_rfl) (by kernel_rfl) (fun _ _ _ h => h) hS (Or.inl ⟨by rfl, fun W' hS => ?_⟩) ?_
  · go_simp
  refine DrawnTo.take (i := 3) (v := .pointer (some ⟨q, 1, none⟩)) rfl (by kernel_rfl) (by kernel_rfl) (by kernel_rfl) (by kernel_rfl) (fun _ _ _ h => h) hS (Or.inl ⟨by rfl, fun W' hS => ?_⟩) ?_
  · go_simp
  refine DrawnTo.take (i := 4) (v := .pointer (some ⟨q, 1, none⟩)) rfl (by kernel_rfl) (by kernel_rfl) (by kernel_rfl) (by kernel_rfl) (fun _ _ _ h => h) hS (Or.inl ⟨by rfl, fun W' hS => ?_⟩) ?_
  · go_simp
  refine DrawnTo.take (i := 5) (v := v) rfl (by kernel_rfl) (by kernel_rfl) (by kernel_rfl) (by kernel_rfl) (fun _ _ _ h => h) hS (Or.inl ⟨by rfl, fun W' hS => ?_⟩) ?_
  · have hcW := (Kept.cell hS hq (fun h => h)).trans hc; go_simp
  refine DrawnTo.take (i := 6) (v := .int .i64 i) rfl (by kernel_rfl) (by kernel_rfl) (by kernel_rfl) (by kernel_rfl) (fun _ _ _ h => h) hS (Or.inl ⟨by rfl, fun W' hS => ?_⟩) ?_
  · go_simp
  refine DrawnTo.take (i := 7) (v := headV v i) rfl (by kernel_rfl) (by kernel_rfl) (by kernel_rfl) (by kernel_rfl) (fun _ _ _ h => h) hS (Or.inl ⟨by rfl, fun W' hS => ?_⟩) ?_
  · rcases HV.out with ⟨rfl, rfl⟩ | ⟨g, cap, rfl, hicap, hncap⟩
    · go_simp; simp [headV, tailV]
    · go_simp; simp [headV]
  refine DrawnTo.take (i := 9) (v := .int .i64 xk) rfl (by kernel_rfl) (by kernel_rfl) (by kernel_rfl) (by kernel_rfl) (fun _ _ _ h => h) hS (Or.inl ⟨by rfl, fun W' hS => ?_⟩) ?_
  · go_simp
  refine DrawnTo.take (i := 10) (v := .int .u32 xd) rfl (by kernel_rfl) (by kernel_rfl) (by kernel_rfl) (by kernel_rfl) (fun _ _ _ h => h) hS (Or.inl ⟨by rfl, fun W' hS => ?_⟩) ?_
  · go_simp
  refine DrawnTo.take (i := 11) (v := .int .i64 xv) rfl (by kernel_rfl) (by kernel_rfl) (by kernel_rfl) (by kernel_rfl) (fun _ _ _ h => h) hS (Or.inl ⟨by rfl, fun W' hS => ?_⟩) ?_
  · go_simp
  refine DrawnTo.take (i := 12) (v := .agg #[.int .i64 xk, .int .u32 xd, .int .i64 xv]) rfl (by kernel_rfl) (by kernel_rfl) (by kernel_rfl) (by kernel_rfl) (fun _ _ _ h => h) hS (Or.inl ⟨by rfl, fun W' hS => ?_⟩) ?_
  · go_simp
  refine DrawnTo.take (i := 15) (v := .pointer (some ⟨q, 1, none⟩)) rfl (by kernel_rfl) (by kernel_rfl) (by kernel_rfl) (by kernel_rfl) (fun _ _ _ h => h) hS (Or.inl ⟨by rfl, fun W' hS => ?_⟩) ?_
  · go_simp
  refine DrawnTo.take (i := 16) (v := .pointer (some ⟨q, 1, none⟩)) rfl (by kernel_rfl) (by kernel_rfl) (by kernel_rfl) (by kernel_rfl) (fun _ _ _ h => h) hS (Or.inl ⟨by rfl, fun W' hS => ?_⟩) ?_
  · go_simp
  refine DrawnTo.take (i := 17) (v := .pointer (some ⟨q, 1, none⟩)) rfl (by kernel_rfl) (by kernel_rfl) (by kernel_rfl) (by kernel_rfl) (fun _ _ _ h => h) hS (Or.inl ⟨by rfl, fun W' hS => ?_⟩) ?_
  · go_simp
  refine DrawnTo.take (i := 18) (v := v) rfl (by kernel_rfl) (by kernel_rfl) (by kernel_rfl) (by kernel_rfl) (fun _ _ _ h => h) hS (Or.inl ⟨by rfl, fun W' hS => ?_⟩) ?_
  · have hcW := (Kept.cell hS hq (fun h => h)).trans hc; go_simp
  refine DrawnTo.take (i := 19) (v := .int .i64 i) rfl (by kernel_rfl) (by kernel_rfl) (by kernel_rfl) (by kernel_rfl) (fun _ _ _ h => h) hS (Or.inl ⟨by rfl, fun W' hS => ?_⟩) ?_
  · go_simp
  refine DrawnTo.take (i := 20) (v := tailV v i) rfl (by kernel_rfl) (by kernel_rfl) (by kernel_rfl) (by kernel_rfl) (fun _ _ _ h => h) hS (Or.inl ⟨by rfl, fun W' hS => ?_⟩) ?_
  · rcases HV.out with ⟨rfl, rfl⟩ | ⟨g, cap, rfl, hicap, hncap⟩
    · go_simp; simp [headV, tailV]
    · go_simp; by_cases hci : cap = i <;> simp [tailV, addAt, hci]
  refine DrawnTo.two (i := 1) (j := 13) (by kernel_rfl) rfl rfl (by rfl) (by rfl) (fun K hK => ?_) (fun K hK => ?_)
  · unfold Oper.wp
    go_simp
    have hkE : Kept No w (w.alloc (.cells #[] 274)).drew := Kept.alloc hS (.cells #[] 274)
    have hE : (w.alloc (.cells #[] 274)).drew.ownsRow w.heap.size 274 3 (.slice (some ⟨w.heap.size, 0, none⟩) 0 0) 0 [] := World.ownsRow_made w.drew #[] 0 (Kept.size hS) (by decide) (by simp)
    refine hK.out _ _ (fun _ => hkE) (fun hS => ?_)
    have hS := hS (by decide)

    refine DrawnTo.two (i := 8) (j := 13) (by kernel_rfl) rfl rfl (by rfl) (by rfl) (fun K hK => ?_) (fun K hK => ?_)
    · obtain ⟨v1, W1, hr1, hk1, ho1, hg1, hat1⟩ := midT_8 (v0 := .slice (some ⟨_, 0, none⟩) 0 0) 194 HROW.out hi hl hS hE
      refine wp_append_run' (.tmp 17) (.tmp 23) 194 194 rfl rfl rfl hr1 ?_
      refine hK.out _ _ (fun _ => hk1) (fun hS => ?_)
      have hS := hS (by decide)
      refine DrawnTo.one (i := 13) (by kernel_rfl) rfl (by rfl) (fun K hK => ?_)
      unfold Oper.wp
      go_simp
      have hkB : Kept No w (W1.alloc (.cells #[.int .i64 xk, .int .u32 xd, .int .i64 xv] 274)) := Kept.alloc hS (.cells #[.int .i64 xk, .int .u32 xd, .int .i64 xv] 274)
      have hB : (W1.alloc (.cells #[.int .i64 xk, .int .u32 xd, .int .i64 xv] 274)).heap[W1.heap.size]? = some (.cells #[.int .i64 xk, .int .u32 xd, .int .i64 xv] 274 (0, 0)) := heap_alloc_new W1 _
      refine hK.out _ _ (fun _ => hkB) (fun hS => ?_)
      have hS := hS (by decide)
      have hM : MidT w (W1.alloc (.cells #[.int .i64 xk, .int .u32 xd, .int .i64 xv] 274)) v1 xs i W1.heap.size ⟨xk, xd, xv⟩ := ⟨hkB, ownsRow_kept ho1 ((Kept.refl No W1).alloc _) (fun _ _ h => h), hB, hk1.size⟩
      obtain ⟨v2, W2, hr2, hk2, ho2⟩ := midT_14 194 hi hl hM
      refine DrawnTo.one (i := 14) (by kernel_rfl) rfl (by rfl) (fun K hK => ?_)
      refine wp_append_run' (.tmp 24) (.tmp 29) 194 194 rfl rfl rfl hr2 ?_
      refine hK.out _ _ (fun _ => hk2) (fun hS => ?_)
      have hS := hS (by decide)
      obtain ⟨g3, cap3, W3, hr3, hk3, ho3⟩ := midT_21 194 HROW.out hi hl hk2 ho2
      have Ho3 := Lib.hid ho3
      clear ho3
      have c3 := (hk3.cell hq (fun h => h)).trans hc
      have f3 : W3.frozen? ⟨q, 1, none⟩ = false := (World.frozen?_of_block (w := w) (hk3.block q hq (fun h => h))).trans hf
      refine DrawnTo.one (i := 21) (by kernel_rfl) rfl (by rfl) (fun K hK => ?_)
      refine wp_append_run' (.tmp 30) (.tmp 36) 194 194 rfl rfl rfl hr3 ?_
      refine hK.out _ _ (fun _ => hk3) (fun hS => ?_)
      have hS := hS (by decide)
      refine DrawnTo.one (i := 22) (by kernel_rfl) rfl (by rfl) (fun K hK => ?_)
      unfold Oper.wp
      go_simp
      refine hK.out _ _ (fun _ => hk3) (fun hS => ?_)
      have hS := hS (by decide)
      refine DrawnTo.one (i := 23) (by kernel_rfl) rfl (by rfl) (fun K hK => ?_)
      unfold Oper.wp
      go_simp
      refine hK.out _ _ (fun _ => hk3) (fun hS => ?_)
      have hS := hS (by decide)
      refine DrawnTo.one (i := 24) (by kernel_rfl) rfl (by rfl) (fun K hK => ?_)
      unfold Oper.wp
      go_simp
      refine hK.out _ _ (fun h => absurd rfl h) (fun _ => ?_)
      refine DrawnTo.done (by kernel_rfl) ?_ _
      have HF : Hid (PutTPost q xs i ⟨xk, xd, xv⟩ w (.returned (.bool true)) (W3.setCell ⟨q, 1, none⟩ (.slice (some ⟨g3, 0, none⟩) (xs.length + 1) cap3))) := ⟨rfl, W3, g3, cap3, rfl, hk3, Ho3.out⟩
      go_wp2_with fail
      go_ret
      exact HF.out

    · have hlW : w.heap.size < (w.alloc (.cells #[] 274)).drew.heap.size := by simp
      generalize (w.alloc (.cells #[] 274)).drew = We at hS hE hkE hlW ⊢
      unfold Oper.wp
      go_simp
      have hkB : Kept No w (We.alloc (.cells #[.int .i64 xk, .int .u32 xd, .int .i64 xv] 274)) := Kept.alloc hS (.cells #[.int .i64 xk, .int .u32 xd, .int .i64 xv] 274)
      have hB : (We.alloc (.cells #[.int .i64 xk, .int .u32 xd, .int .i64 xv] 274)).heap[We.heap.size]? = some (.cells #[.int .i64 xk, .int .u32 xd, .int .i64 xv] 274 (0, 0)) := heap_alloc_new We _
      refine hK.out _ _ (fun _ => hkB) (fun hS => ?_)
      have hS := hS (by decide)
      have hE := ownsRow_kept hE ((Kept.refl No We).alloc (.cells #[.int .i64 xk, .int .u32 xd, .int .i64 xv] 274)) (fun _ _ h => h)
      refine DrawnTo.one (i := 8) (by kernel_rfl) rfl (by rfl) (fun K hK => ?_)
      obtain ⟨v1, W1, hr1, hk1, ho1, hg1, hat1⟩ := midT_8 (v0 := .slice (some ⟨_, 0, none⟩) 0 0) 194 HROW.out hi hl hS hE
      refine wp_append_run' (.tmp 17) (.tmp 23) 194 194 rfl rfl rfl hr1 ?_
      refine hK.out _ _ (fun _ => hk1) (fun hS => ?_)
      have hS := hS (by decide)
      have hM : MidT w W1 v1 xs i We.heap.size ⟨xk, xd, xv⟩ := ⟨hk1, ho1, (hg1.block _ (lt_of_block hB) (by simp [Value.ownBlock]; omega)).trans hB, hkE.size⟩
      obtain ⟨v2, W2, hr2, hk2, ho2⟩ := midT_14 194 hi hl hM
      refine DrawnTo.one (i := 14) (by kernel_rfl) rfl (by rfl) (fun K hK => ?_)
      refine wp_append_run' (.tmp 24) (.tmp 29) 194 194 rfl rfl rfl hr2 ?_
      refine hK.out _ _ (fun _ => hk2) (fun hS => ?_)
      have hS := hS (by decide)
      obtain ⟨g3, cap3, W3, hr3, hk3, ho3⟩ := midT_21 194 HROW.out hi hl hk2 ho2
      have Ho3 := Lib.hid ho3
      clear ho3
      have c3 := (hk3.cell hq (fun h => h)).trans hc
      have f3 : W3.frozen? ⟨q, 1, none⟩ = false := (World.frozen?_of_block (w := w) (hk3.block q hq (fun h => h))).trans hf
      refine DrawnTo.one (i := 21) (by kernel_rfl) rfl (by rfl) (fun K hK => ?_)
      refine wp_append_run' (.tmp 30) (.tmp 36) 194 194 rfl rfl rfl hr3 ?_
      refine hK.out _ _ (fun _ => hk3) (fun hS => ?_)
      have hS := hS (by decide)
      refine DrawnTo.one (i := 22) (by kernel_rfl) rfl (by rfl) (fun K hK => ?_)
      unfold Oper.wp
      go_simp
      refine hK.out _ _ (fun _ => hk3) (fun hS => ?_)
      have hS := hS (by decide)
      refine DrawnTo.one (i := 23) (by kernel_rfl) rfl (by rfl) (fun K hK => ?_)
      unfold Oper.wp
      go_simp
      refine hK.out _ _ (fun _ => hk3) (fun hS => ?_)
      have hS := hS (by decide)
      refine DrawnTo.one (i := 24) (by kernel_rfl) rfl (by rfl) (fun K hK => ?_)
      unfold Oper.wp
      go_simp
      refine hK.out _ _ (fun h => absurd rfl h) (fun _ => ?_)
      refine DrawnTo.done (by kernel_rfl) ?_ _
      have HF : Hid (PutTPost q xs i ⟨xk, xd, xv⟩ w (.returned (.bool true)) (W3.setCell ⟨q, 1, none⟩ (.slice (some ⟨g3, 0, none⟩) (xs.length + 1) cap3))) := ⟨rfl, W3, g3, cap3, rfl, hk3, Ho3.out⟩
      go_wp2_with fail
      go_ret
      exact HF.out

  · unfold Oper.wp
    go_simp
    have hkB : Kept No w (w.alloc (.cells #[.int .i64 xk, .int .u32 xd, .int .i64 xv] 274)).drew := Kept.alloc hS (.cells #[.int .i64 xk, .int .u32 xd, .int .i64 xv] 274)
    have hB : (w.alloc (.cells #[.int .i64 xk, .int .u32 xd, .int .i64 xv] 274)).drew.heap[w.heap.size]? = some (.cells #[.int .i64 xk, .int .u32 xd, .int .i64 xv] 274 (0, 0)) := heap_alloc_new w.drew _
    refine hK.out _ _ (fun _ => hkB) (fun hS => ?_)
    have hS := hS (by decide)
    generalize (w.alloc (.cells #[.int .i64 xk, .int .u32 xd, .int .i64 xv] 274)).drew = We at hS hB hkB ⊢
    have hlW : w.heap.size < We.heap.size := lt_of_block hB
    refine DrawnTo.one (i := 1) (by kernel_rfl) rfl (by rfl) (fun K hK => ?_)
    unfold Oper.wp
    go_simp
    have hkE : Kept No w (We.alloc (.cells #[] 274)) := Kept.alloc hS (.cells #[] 274)
    have hE : (We.alloc (.cells #[] 274)).ownsRow w.heap.size 274 3 (.slice (some ⟨We.heap.size, 0, none⟩) 0 0) 0 [] := World.ownsRow_made We #[] 0 (Kept.size hS) (by decide) (by simp)
    refine hK.out _ _ (fun _ => hkE) (fun hS => ?_)
    have hS := hS (by decide)
    refine DrawnTo.one (i := 8) (by kernel_rfl) rfl (by rfl) (fun K hK => ?_)
    obtain ⟨v1, W1, hr1, hk1, ho1, hg1, hat1⟩ := midT_8 (v0 := .slice (some ⟨_, 0, none⟩) 0 0) 194 HROW.out hi hl hS hE
    refine wp_append_run' (.tmp 17) (.tmp 23) 194 194 rfl rfl rfl hr1 ?_
    refine hK.out _ _ (fun _ => hk1) (fun hS => ?_)
    have hS := hS (by decide)
    have hB2 := block_alloc hB (.cells #[] 274)
    have hM : MidT w W1 v1 xs i w.heap.size ⟨xk, xd, xv⟩ := ⟨hk1, ho1, (hg1.block _ (lt_of_block hB2) (by simp [Value.ownBlock]; omega)).trans hB2, Nat.le_refl _⟩
    obtain ⟨v2, W2, hr2, hk2, ho2⟩ := midT_14 194 hi hl hM
    refine DrawnTo.one (i := 14) (by kernel_rfl) rfl (by rfl) (fun K hK => ?_)
    refine wp_append_run' (.tmp 24) (.tmp 29) 194 194 rfl rfl rfl hr2 ?_
    refine hK.out _ _ (fun _ => hk2) (fun hS => ?_)
    have hS := hS (by decide)
    obtain ⟨g3, cap3, W3, hr3, hk3, ho3⟩ := midT_21 194 HROW.out hi hl hk2 ho2
    have Ho3 := Lib.hid ho3
    clear ho3
    have c3 := (hk3.cell hq (fun h => h)).trans hc
    have f3 : W3.frozen? ⟨q, 1, none⟩ = false := (World.frozen?_of_block (w := w) (hk3.block q hq (fun h => h))).trans hf
    refine DrawnTo.one (i := 21) (by kernel_rfl) rfl (by rfl) (fun K hK => ?_)
    refine wp_append_run' (.tmp 30) (.tmp 36) 194 194 rfl rfl rfl hr3 ?_
    refine hK.out _ _ (fun _ => hk3) (fun hS => ?_)
    have hS := hS (by decide)
    refine DrawnTo.one (i := 22) (by kernel_rfl) rfl (by rfl) (fun K hK => ?_)
    unfold Oper.wp
    go_simp
    refine hK.out _ _ (fun _ => hk3) (fun hS => ?_)
    have hS := hS (by decide)
    refine DrawnTo.one (i := 23) (by kernel_rfl) rfl (by rfl) (fun K hK => ?_)
    unfold Oper.wp
    go_simp
    refine hK.out _ _ (fun _ => hk3) (fun hS => ?_)
    have hS := hS (by decide)
    refine DrawnTo.one (i := 24) (by kernel_rfl) rfl (by rfl) (fun K hK => ?_)
    unfold Oper.wp
    go_simp
    refine hK.out _ _ (fun h => absurd rfl h) (fun _ => ?_)
    refine DrawnTo.done (by kernel_rfl) ?_ _
    have HF : Hid (PutTPost q xs i ⟨xk, xd, xv⟩ w (.returned (.bool true)) (W3.setCell ⟨q, 1, none⟩ (.slice (some ⟨g3, 0, none⟩) (xs.length + 1) cap3))) := ⟨rfl, W3, g3, cap3, rfl, hk3, Ho3.out⟩
    go_wp2_with fail
    go_ret
    exact HF.out


end Go.Proofs.YtffafkmmfaaobaaGreat