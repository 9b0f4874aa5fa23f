/- SameWords, SameRuns, SameNodes: of two alike. -/
import Derived.Test.YtdeebagjmhpocaaO
namespace Go.Proofs.Ytdeebagjmhpocaa
set_option linter.unusedSimpArgs false
set_option linter.unusedVariables false
open Go.RowKit

/-- A slice that is nil, or lies at a block's head, and reads as given. -/
def RowOf (w : World) (v : Value) (n : Nat) (news : List Value) : Prop :=
  (v = .slice none 0 0 ∧ n = 0) ∨ ∃ g c, v = .slice (some ⟨g, 0, none⟩) n c ∧ g < w.heap.size ∧ ∀ j u, news[j]? = some u → w.cell? ⟨g, j, none⟩ = some u

theorem RowOf.of_own {w : World} {base : Nat} {e : TypeId} {size : Nat} {v : Value} {n : Nat} {xs : List Value} (h : w.ownsRow base e size v n xs) : RowOf w v n xs := by
  rcases h.2 with hn | ⟨g, cap, cur, rfl, h1, h2, _⟩
  · exact .inl hn
  · exact .inr ⟨g, cap, rfl, lt_of_block h2, fun j u hu => by have := h.cells (g := g) rfl j u hu; rwa [addAt] at this⟩
theorem RowOf.kept {w w' : World} {F : Nat → Prop} {v : Value} {n : Nat} {xs : List Value} (h : RowOf w v n xs) (hk : Kept F w w') (hn : ∀ k, v.ownBlock = some k → ¬ F k) : RowOf w' v n xs := by
  rcases h with h | ⟨g, c, rfl, h1, h2⟩
  · exact .inl h
  · exact .inr ⟨g, c, rfl, Nat.lt_of_lt_of_le h1 hk.size, fun j u hu => (hk.cell h1 (hn g rfl)).trans (h2 j u hu)⟩
theorem RowOf.below {w w' : World} {v : Value} {n : Nat} {xs : List Value} (h : RowOf w v n xs) (hb : Below w.heap.size w w') : RowOf w' v n xs :=
  h.kept (Kept.of_below_size hb) (fun _ _ h => h.elim)

set_option maxRecDepth 100000 in
set_option maxHeartbeats 2000000 in
theorem sameWords_any (xs : List Int) (va vb : Value) (w : World) (ha : RowOf w va xs.length (xs.map (Value.int .u64 ·))) (hb : RowOf w vb xs.length (xs.map (Value.int .u64 ·))) (hl : xs.length ≤ 1000000) :
    Calls Try.prog 11 #[va, vb] w fun e w' => e = .returned (.bool true) ∧ Below w.heap.size w w' := by
  obtain ⟨n, hn⟩ : ∃ n, n = xs.length := ⟨_, rfl⟩
  rw [← hn] at ha hb hl
  by_cases hz : n = 0
  · subst hz
    obtain ⟨aa, ac, rfl⟩ : ∃ a c, va = .slice a 0 c := by
      rcases ha with ⟨rfl, _⟩ | ⟨g, c, rfl, _⟩ <;> exact ⟨_, _, rfl⟩
    obtain ⟨ba, bc, rfl⟩ : ∃ a c, vb = .slice a 0 c := by
      rcases hb with ⟨rfl, _⟩ | ⟨g, c, rfl, _⟩ <;> exact ⟨_, _, rfl⟩
    clear ha hb hn hl
    go_enter Try.func11, Try.ntmps11
    go_wp2
    go_loopg [5] 0 (fun m v wr => w = wr ∧ v = .int .i64 0)
    case atStart => exact ⟨rfl, rfl⟩
    case round =>
      obtain ⟨rfl, rfl⟩ := hrel
      go_wp2
      go_ret
      exact ⟨rfl, Below.refl _ _⟩
  · obtain ⟨ga, ca, rfl, la, ra⟩ := ha.resolve_left (fun h => hz h.2)
    obtain ⟨gb, cb, rfl, lb, rb⟩ := hb.resolve_left (fun h => hz h.2)
    have HA := Lib.hid ra
    have HB := Lib.hid rb
    have HN := Lib.hid hn
    clear ra rb hn ha hb hz
    go_enter Try.func11, Try.ntmps11
    go_wp2
    go_loopg [5] n (fun m v wr => ∃ i : Nat, v = .int .i64 i ∧ i ≤ n ∧ n - i ≤ m ∧ Kept No w wr)
    case atStart => exact ⟨0, rfl, Nat.zero_le _, Nat.le_refl _, Kept.refl No w⟩
    case round =>
      obtain ⟨i, rfl, hin, hm, hk⟩ := hrel
      by_cases hlt : i < n
      · have hlt' : (i : Int) < n := by omega
        obtain ⟨x, hx⟩ : ∃ x, xs[i]? = some x := ⟨_, List.getElem?_eq_getElem (by have := HN.out; omega)⟩
        have n0 : (xs.map (Value.int .u64 ·))[i]? = some (.int .u64 x) := by rw [List.getElem?_map, hx]; rfl
        have a0 := (hk.cell la (fun h => h)).trans (HA.out i _ n0)
        have b0 := (hk.cell lb (fun h => h)).trans (HB.out i _ n0)
        clear n0
        have Hk := Lib.hid hk
        have Hm := Lib.hid hm
        clear hk hm hx
        go_wp2_with fail
        go_quiet (fail)
        go_wp2_with fail
        go_roundg (n - (i + 1))
        case measure => have := Hm.out; omega
        case rel => exact ⟨i + 1, by go_num, by omega, Nat.le_refl _, Hk.out.drewN _⟩
      · have hlt' : ¬ (i : Int) < n := by omega
        have Hk := Lib.hid hk
        clear hk hm
        go_wp2
        go_ret
        exact ⟨rfl, Hk.out.no_below⟩

set_option maxRecDepth 100000 in
set_option maxHeartbeats 2000000 in
theorem sameRuns_any (xs : List R2) (va vb : Value) (w : World) (ha : RowOf w va xs.length (runCells xs)) (hb : RowOf w vb xs.length (runCells xs)) (hl : xs.length ≤ 1000000) :
    Calls Try.prog 15 #[va, vb] w fun e w' => e = .returned (.bool true) ∧ Below w.heap.size w w' := by
  obtain ⟨n, hn⟩ : ∃ n, n = xs.length := ⟨_, rfl⟩
  rw [← hn] at ha hb hl
  by_cases hz : n = 0
  · subst hz
    obtain ⟨aa, ac, rfl⟩ : ∃ a c, va = .slice a 0 c := by
      rcases ha with ⟨rfl, _⟩ | ⟨g, c, rfl, _⟩ <;> exact ⟨_, _, rfl⟩
    obtain ⟨ba, bc, rfl⟩ : ∃ a c, vb = .slice a 0 c := by
      rcases hb with ⟨rfl, _⟩ | ⟨g, c, rfl, _⟩ <;> exact ⟨_, _, rfl⟩
    clear ha hb hn hl
    go_enter Try.func15, Try.ntmps15
    go_wp2
    go_loopg [5] 0 (fun m v wr => w = wr ∧ v = .int .i64 0)
    case atStart => exact ⟨rfl, rfl⟩
    case round =>
      obtain ⟨rfl, rfl⟩ := hrel
      go_wp2
      go_ret
      exact ⟨rfl, Below.refl _ _⟩
  · obtain ⟨ga, ca, rfl, la, ra⟩ := ha.resolve_left (fun h => hz h.2)
    obtain ⟨gb, cb, rfl, lb, rb⟩ := hb.resolve_left (fun h => hz h.2)
    have HA := Lib.hid ra
    have HB := Lib.hid rb
    have HN := Lib.hid hn
    clear ra rb hn ha hb hz
    go_enter Try.func15, Try.ntmps15
    go_wp2
    go_loopg [5] n (fun m v wr => ∃ i : Nat, v = .int .i64 i ∧ i ≤ n ∧ n - i ≤ m ∧ Kept No w wr)
    case atStart => exact ⟨0, rfl, Nat.zero_le _, Nat.le_refl _, Kept.refl No w⟩
    case round =>
      obtain ⟨i, rfl, hin, hm, hk⟩ := hrel
      by_cases hlt : i < n
      · have hlt' : (i : Int) < n := by omega
        obtain ⟨x, hx⟩ : ∃ x, xs[i]? = some x := ⟨_, List.getElem?_eq_getElem (by have := HN.out; omega)⟩
        obtain ⟨n0, n1⟩ := runCells_get xs i x hx
        have a0 := (hk.cell la (fun h => h)).trans (HA.out _ _ n0)
        have a1 := (hk.cell la (fun h => h)).trans (HA.out _ _ n1)
        have b0 := (hk.cell lb (fun h => h)).trans (HB.out _ _ n0)
        have b1 := (hk.cell lb (fun h => h)).trans (HB.out _ _ n1)
        clear n0 n1
        have Hk := Lib.hid hk
        have Hm := Lib.hid hm
        clear hk hm hx
        go_wp2_with fail
        go_quiet (fail)
        go_wp2_with fail
        go_roundg (n - (i + 1))
        case measure => have := Hm.out; omega
        case rel => exact ⟨i + 1, by go_num, by omega, Nat.le_refl _, Hk.out.drewN _⟩
      · have hlt' : ¬ (i : Int) < n := by omega
        have Hk := Lib.hid hk
        clear hk hm
        go_wp2
        go_ret
        exact ⟨rfl, Hk.out.no_below⟩

set_option maxRecDepth 100000 in
set_option maxHeartbeats 2000000 in
theorem sameNodes_any (xs : List R2) (va vb : Value) (w : World) (ha : RowOf w va xs.length (runCells xs)) (hb : RowOf w vb xs.length (runCells xs)) (hl : xs.length ≤ 1000000) :
    Calls Try.prog 19 #[va, vb] w fun e w' => e = .returned (.bool true) ∧ Below w.heap.size w w' := by
  obtain ⟨n, hn⟩ : ∃ n, n = xs.length := ⟨_, rfl⟩
  rw [← hn] at ha hb hl
  by_cases hz : n = 0
  · subst hz
    obtain ⟨aa, ac, rfl⟩ : ∃ a c, va = .slice a 0 c := by
      rcases ha with ⟨rfl, _⟩ | ⟨g, c, rfl, _⟩ <;> exact ⟨_, _, rfl⟩
    obtain ⟨ba, bc, rfl⟩ : ∃ a c, vb = .slice a 0 c := by
      rcases hb with ⟨rfl, _⟩ | ⟨g, c, rfl, _⟩ <;> exact ⟨_, _, rfl⟩
    clear ha hb hn hl
    go_enter Try.func19, Try.ntmps19
    go_wp2
    go_loopg [5] 0 (fun m v wr => w = wr ∧ v = .int .i64 0)
    case atStart => exact ⟨rfl, rfl⟩
    case round =>
      obtain ⟨rfl, rfl⟩ := hrel
      go_wp2
      go_ret
      exact ⟨rfl, Below.refl _ _⟩
  · obtain ⟨ga, ca, rfl, la, ra⟩ := ha.resolve_left (fun h => hz h.2)
    obtain ⟨gb, cb, rfl, lb, rb⟩ := hb.resolve_left (fun h => hz h.2)
    have HA := Lib.hid ra
    have HB := Lib.hid rb
    have HN := Lib.hid hn
    clear ra rb hn ha hb hz
    go_enter Try.func19, Try.ntmps19
    go_wp2
    go_loopg [5] n (fun m v wr => ∃ i : Nat, v = .int .i64 i ∧ i ≤ n ∧ n - i ≤ m ∧ Kept No w wr)
    case atStart => exact ⟨0, rfl, Nat.zero_le _, Nat.le_refl _, Kept.refl No w⟩
    case round =>
      obtain ⟨i, rfl, hin, hm, hk⟩ := hrel
      by_cases hlt : i < n
      · have hlt' : (i : Int) < n := by omega
        obtain ⟨x, hx⟩ : ∃ x, xs[i]? = some x := ⟨_, List.getElem?_eq_getElem (by have := HN.out; omega)⟩
        obtain ⟨n0, n1⟩ := runCells_get xs i x hx
        have a0 := (hk.cell la (fun h => h)).trans (HA.out _ _ n0)
        have a1 := (hk.cell la (fun h => h)).trans (HA.out _ _ n1)
        have b0 := (hk.cell lb (fun h => h)).trans (HB.out _ _ n0)
        have b1 := (hk.cell lb (fun h => h)).trans (HB.out _ _ n1)
        clear n0 n1
        have Hk := Lib.hid hk
        have Hm := Lib.hid hm
        clear hk hm hx
        go_wp2_with fail
        go_quiet (fail)
        go_wp2_with fail
        go_roundg (n - (i + 1))
        case measure => have := Hm.out; omega
        case rel => exact ⟨i + 1, by go_num, by omega, Nat.le_refl _, Hk.out.drewN _⟩
      · have hlt' : ¬ (i : Int) < n := by omega
        have Hk := Lib.hid hk
        clear hk hm
        go_wp2
        go_ret
        exact ⟨rfl, Hk.out.no_below⟩

end Go.Proofs.Ytdeebagjmhpocaa
