/- The arena's, the store's and the runs' small calls. -/
import Derived.Test.YtdeebagjmhpocaaQ
import Derived.Test.YtdeebagjmhpocaaS2
namespace Go.Proofs.Ytdeebagjmhpocaa
set_option linter.unusedSimpArgs false
set_option linter.unusedVariables false
open Go.RowKit

section
variable {w : World} {a : Nat} {p t : Int} {s g : Nat} {ws : List Int} {rs : RSt}
theorem ArenaIs.below {w' : World} (h : ArenaIs w a p t s g ws rs) (hb : Below w.heap.size w w') : ArenaIs w' a p t s g ws rs :=
  ⟨(hb.block a (lt_of_block h.obj)).trans h.obj, h.store.below hb, h.runs.below hb⟩
theorem MemIs.below {w' : World} {rs : FSt} (h : MemIs w a p t s g ws rs) (hb : Below w.heap.size w w') : MemIs w' a p t s g ws rs :=
  ⟨(hb.block a (lt_of_block h.obj)).trans h.obj, h.store.below hb, h.runs.below hb⟩

set_option maxRecDepth 100000 in
set_option maxHeartbeats 1000000 in
theorem layout_any (h : ArenaIs w a p t s g ws rs) : Calls Try.prog 9 #[.pointer (some ⟨a, 0, none⟩)] w fun e w' => e = .returned (.agg #[.int .i64 p, .int .i64 t]) ∧ Below w.heap.size w w' := by
  have c0 := cellOf h.obj 0
  have c1 := cellOf h.obj 1
  have hl := lt_of_block h.obj
  clear h
  go_enter Try.func9, Try.ntmps9
  go_wp2
  refine bodyPost_ret (v := .agg #[.int .i64 p, .int .i64 t]) (by simp [results, Try.results9, go_sem, c0, c1]) rfl ⟨rfl, ?_⟩
  exact (Below.refl _ _).alloc (Nat.le_refl _) _

set_option maxRecDepth 100000 in
set_option maxHeartbeats 1000000 in
theorem store_any (h : ArenaIs w a p t s g ws rs) : Calls Try.prog 12 #[.pointer (some ⟨a, 0, none⟩)] w fun e w' => e = .returned (.pointer (some ⟨s, 0, none⟩)) ∧ w = w' := by
  have c2 := cellOf h.obj 2
  clear h
  go_enter Try.func12, Try.ntmps12
  go_wp2
  go_ret
  exact ⟨rfl, rfl⟩

set_option maxRecDepth 100000 in
set_option maxHeartbeats 1000000 in
theorem aruns_any (h : ArenaIs w a p t s g ws rs) : Calls Try.prog 16 #[.pointer (some ⟨a, 0, none⟩)] w fun e w' => e = .returned (.pointer (some ⟨rs.q, 0, none⟩)) ∧ w = w' := by
  have c3 := cellOf h.obj 3
  clear h
  generalize rs.q = q at c3
  go_enter Try.func16, Try.ntmps16
  go_wp2
  go_ret
  exact ⟨rfl, rfl⟩

set_option maxRecDepth 100000 in
set_option maxHeartbeats 1000000 in
theorem peek0_any {k a' o n m x : Int} (h : StoreIs 81 w s g ws k a' o n m) (hx : ws[0]? = some x) :
    Calls Try.prog 40 #[.pointer (some ⟨s, 0, none⟩), .int .i64 0] w fun e w' => e = .returned (.int .u64 x) ∧ w = w' := by
  have hlen : 0 < ws.length := by
    rcases Nat.eq_zero_or_pos ws.length with h0 | h0
    · rw [List.getElem?_eq_none (by omega)] at hx; cases hx
    · exact h0
  have F := Lib.hid (check_ok (ty := 81) h 0 (by omega) (by omega))
  have c0 := cellOf h.obj 0
  have g0 : w.cell? ⟨g, 0, none⟩ = some (.int .u64 x) := by rw [cellOf h.row 0, List.getElem?_toArray, List.getElem?_map, hx]; rfl
  generalize ws.length = len at c0 hlen
  have hl2 : (0 : Int) < len := by omega
  clear h hx
  go_enter Try.func40, Try.ntmps40
  go_wp2_with fail
  refine F.out.mono ?_
  rintro e w1 ⟨rfl, rfl⟩
  go_wp2
  go_ret
  exact ⟨rfl, rfl⟩

set_option maxRecDepth 100000 in
set_option maxHeartbeats 1000000 in
theorem len_any {k a' o n m : Int} (h : StoreIs 81 w s g ws k a' o n m) :
    Calls Try.prog 39 #[.pointer (some ⟨s, 0, none⟩)] w fun e w' => e = .returned (.int .i64 ws.length) ∧ w = w' := by
  have c0 := cellOf h.obj 0
  generalize ws.length = len at c0 ⊢
  clear h
  go_enter Try.func39, Try.ntmps39
  go_wp2
  go_ret
  exact ⟨rfl, rfl⟩

set_option maxRecDepth 100000 in
set_option maxHeartbeats 1000000 in
theorem count_any {k a' o n m : Int} (h : StoreIs 81 w s g ws k a' o n m) :
    Calls Try.prog 14 #[.pointer (some ⟨s, 0, none⟩)] w fun e w' => e = .returned (.int .i64 m) ∧ w = w' := by
  have c2 := cellOf h.obj 5
  clear h
  go_enter Try.func14, Try.ntmps14
  go_wp2
  go_ret
  exact ⟨rfl, rfl⟩

set_option maxRecDepth 100000 in
set_option maxHeartbeats 1000000 in
theorem gen_any (h : ArenaIs w a p t s g ws rs) (hx : ws[0]? = some 1) : Calls Try.prog 10 #[.pointer (some ⟨a, 0, none⟩)] w fun e w' => e = .returned (.int .i64 1) ∧ w = w' := by
  have c2 := cellOf h.obj 2
  have F := Lib.hid (peek0_any h.store hx)
  clear h hx
  go_enter Try.func10, Try.ntmps10
  go_wp2_with fail
  refine F.out.mono ?_
  rintro e w1 ⟨rfl, rfl⟩
  go_wp2
  go_ret
  exact ⟨rfl, rfl⟩

theorem StoreIs.row_own {ty : TypeId} {k a' o n m : Int} (h : StoreIs ty w s g ws k a' o n m) (hm : ws.length ≤ maxLen) : w.ownsRow 0 43 1 (.slice (some ⟨g, 0, none⟩) ws.length ws.length) ws.length (ws.map (Value.int .u64 ·)) :=
  ⟨by simp, .inr ⟨g, ws.length, _, rfl, Nat.zero_le _, h.row, Nat.le_refl _, hm, by simp, List.take_of_length_le (by simp)⟩⟩

theorem SrcOf.of_own {base : Nat} {e : TypeId} {size : Nat} {v : Value} {n : Nat} {xs : List Value} (h : w.ownsRow base e size v n xs) : SrcOf w size v n xs := by
  rcases h.2 with ⟨h1, h2⟩ | ⟨g, cap, cur, rfl, h1, h2, _⟩
  · subst h2; exact .inl ⟨h1, rfl, List.eq_nil_of_length_eq_zero (by simpa using h.1)⟩
  · exact .inr ⟨_, _, rfl, h.1, h.cells (g := g) rfl, fun _ => lt_of_block h2⟩

def RowPost (base : Nat) (n : Nat) (xs : List Value) (w : World) (e : Ending) (w' : World) : Prop := ∃ v, e = .returned v ∧ RowOf w' v n xs ∧ Below w.heap.size w w'

set_option maxRecDepth 100000 in
set_option maxHeartbeats 1000000 in
theorem wordsOut_any {k a' o n m : Int} (h : StoreIs 81 w s g ws k a' o n m) (hm : ws.length ≤ 100000) :
    Calls Try.prog 13 #[.pointer (some ⟨s, 0, none⟩)] w (RowPost 0 ws.length (ws.map (Value.int .u64 ·)) w) := by
  have c0 := cellOf h.obj 0
  have F := Lib.hid (clone64_any _ _ _ w (SrcOf.of_own (h.row_own (by unfold maxLen; omega))) (by simp [Value.oneCell']) (by omega))
  clear h
  go_enter Try.func13, Try.ntmps13
  go_wp2_with fail
  refine F.out.mono ?_
  rintro e w1 ⟨v, rfl, ho, _, hb⟩
  have HF : Hid (RowPost 0 ws.length (ws.map (Value.int .u64 ·)) w (.returned v) w1) := ⟨v, rfl, RowOf.of_own ho, hb⟩
  clear ho hb
  go_wp2
  go_ret
  exact HF.out

set_option maxRecDepth 100000 in
set_option maxHeartbeats 1000000 in
theorem runsList_any (h : RunsIs w rs) : Calls Try.prog 17 #[.pointer (some ⟨rs.q, 0, none⟩)] w (RowPost 0 rs.xs.length (runCells rs.xs) w) := by
  have c4 := cellOf h.obj 4
  have hfew := h.few
  have F := Lib.hid (cloneRun_any _ _ _ w (SrcOf.of_own h.list) (runCells_one _) (by omega))
  clear h
  obtain ⟨q, p, dv, lv, pages, ds, drawn, t, xs, total⟩ := rs
  dsimp only at *
  go_enter Try.func17, Try.ntmps17
  go_wp2_with fail
  refine F.out.mono ?_
  rintro e w1 ⟨v, rfl, ho, _, hb⟩
  have HF : Hid (RowPost 0 xs.length (runCells xs) w (.returned v) w1) := ⟨v, rfl, RowOf.of_own ho, hb⟩
  clear ho hb
  go_wp2
  go_ret
  exact HF.out

/-- A shape as pairs. -/
def pairs (l : List (Nat × Int × Int)) : List R2 := l.map (·.2)
theorem pairs_cells : ∀ l, nodeCells l = runCells (pairs l)
  | [] => rfl
  | x :: r => by simp [nodeCells, pairs, runCells, pairs_cells r]

set_option maxRecDepth 100000 in
set_option maxHeartbeats 1000000 in
theorem runsShape_any (h : RunsIs w rs) (hN : rs.t.high ≤ 1000000) : Calls Try.prog 20 #[.pointer (some ⟨rs.q, 0, none⟩)] w (RowPost 0 rs.t.high (runCells (pairs (preT 0 rs.t))) w) := by
  have c3 := cellOf h.obj 3
  have F := Lib.hid (treapShape_any _ _ w h.tree hN)
  clear h
  obtain ⟨q, p, dv, lv, pages, ds, drawn, t, xs, total⟩ := rs
  dsimp only at *
  go_enter Try.func20, Try.ntmps20
  go_wp2_with fail
  refine F.out.mono ?_
  rintro e w1 ⟨v, n, rfl, ho, hn, _, hb⟩
  have HF : Hid (RowPost 0 t.high (runCells (pairs (preT 0 t))) w (.returned v) w1) := ⟨v, rfl, by rw [← hn, ← pairs_cells]; exact RowOf.of_own ho, hb⟩
  clear ho hb hn
  go_wp2
  go_ret
  exact HF.out
end

end Go.Proofs.Ytdeebagjmhpocaa
