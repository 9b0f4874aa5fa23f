/- cmp.Compare, the runs' order, slices.BinarySearchFunc. -/
import Derived.Test.YtdeebagjmhpocaaC
import Derived.Deep.LoopGhost
namespace Go.Proofs.Ytdeebagjmhpocaa
set_option linter.unusedSimpArgs false
set_option linter.unusedVariables false
open Go.RowKit

def cmpI (a b : Int) : Int := if a < b then -1 else if b < a then 1 else 0
theorem cmpI_lt {a b : Int} (h : a < b) : cmpI a b = -1 := by simp [cmpI, h]
theorem cmpI_gt {a b : Int} (h : b < a) : cmpI a b = 1 := by simp [cmpI, h]; omega
theorem cmpI_eq {a b : Int} (h : a = b) : cmpI a b = 0 := by simp [cmpI, h]

set_option maxHeartbeats 1000000 in
theorem cmp_any (a b : Int) (w : World) : Calls Try.prog 87 #[.int .i64 a, .int .i64 b] w fun e w' => e = .returned (.int .i64 (cmpI a b)) ∧ w = w' := by
  have ha : (a != a) = false := by simp
  have hb : (b != b) = false := by simp
  by_cases h1 : a < b
  · have hv := Lib.hid (cmpI_lt h1)
    go_enter Try.func87, Try.ntmps87
    go_wp2
    go_ret
    exact ⟨by rw [hv.out]; rfl, rfl⟩
  · by_cases h2 : b < a
    · have hv := Lib.hid (cmpI_gt h2)
      go_enter Try.func87, Try.ntmps87
      go_wp2
      go_ret
      exact ⟨by rw [hv.out]; rfl, rfl⟩
    · have hv := Lib.hid (cmpI_eq (show a = b by omega))
      go_enter Try.func87, Try.ntmps87
      go_wp2
      go_ret
      exact ⟨by rw [hv.out]; rfl, rfl⟩

/-- A run: its first page, its length. -/
abbrev R2 := Int × Int
def runCells : List R2 → List Value
  | [] => []
  | x :: r => .int .i64 x.1 :: .int .i64 x.2 :: runCells r
theorem runCells_length : ∀ (a : List R2), (runCells a).length = a.length * 2
  | [] => rfl
  | x :: r => by simp [runCells, runCells_length r]; omega
theorem runCells_append : ∀ (a b : List R2), runCells (a ++ b) = runCells a ++ runCells b
  | [], _ => rfl
  | x :: r, b => by simp [runCells, runCells_append r b]
theorem runCells_get : ∀ (a : List R2) (i : Nat) (x : R2), a[i]? = some x → (runCells a)[i * 2]? = some (.int .i64 x.1) ∧ (runCells a)[i * 2 + 1]? = some (.int .i64 x.2)
  | [], i, x, h => by simp at h
  | y :: r, 0, x, h => by simp at h; subst h; simp [runCells]
  | y :: r, i + 1, x, h => by
    have := runCells_get r i x (by simpa using h)
    rw [show (i + 1) * 2 = i * 2 + 1 + 1 by omega]
    simpa [runCells] using this
theorem runCells_one : ∀ (a : List R2), ∀ u ∈ runCells a, u.oneCell' = true
  | [], u, h => by simp [runCells] at h
  | x :: r, u, h => by
    simp only [runCells, List.mem_cons] at h
    rcases h with rfl | rfl | h
    · rfl
    · rfl
    · exact runCells_one r u h

set_option maxHeartbeats 1000000 in
theorem place1_any (x : R2) (k : Int) (w : World) (h0 : 0 ≤ x.1) (h1 : x.1 ≤ 10000) (h2 : 0 ≤ x.2) (h3 : x.2 ≤ 10000) :
    Calls Try.prog 86 #[.agg #[.int .i64 x.1, .int .i64 x.2], .int .i64 k] w fun e w' => e = .returned (.int .i64 (cmpI (x.1 + x.2) k)) ∧ Below w.heap.size w w' := by
  obtain ⟨p, n⟩ := x
  dsimp only at *
  go_enter Try.func86, Try.ntmps86
  go_wp2_with (go_at_call 87; refine (cmp_any _ _ _).mono ?_; rintro e w' ⟨rfl, rfl⟩)
  go_ret
  exact ⟨rfl, (Below.refl _ _).alloc (Nat.le_refl _) _⟩

/-- Where a list of runs parts: those ahead of it end ahead of k, no other one does. -/
structure Parts (xs : List R2) (k : Int) (i : Nat) : Prop where
  le : i ≤ xs.length
  lo : ∀ p x, p < i → xs[p]? = some x → x.1 + x.2 < k
  hi : ∀ p x, i ≤ p → xs[p]? = some x → k ≤ x.1 + x.2

theorem addAt (g j : Nat) : (⟨g, 0, none⟩ : Addr).add j = ⟨g, j, none⟩ := by
  cases j <;> simp [Addr.add]
theorem ownsRow_cell {w : World} {base : Nat} {g n cap : Nat} {xs : List R2} (h : w.ownsRow base 77 2 (.slice (some ⟨g, 0, none⟩) n cap) n (runCells xs)) {i : Nat} {x : R2} (hx : xs[i]? = some x) :
    w.cell? ⟨g, i * 2, none⟩ = some (.int .i64 x.1) ∧ w.cell? ⟨g, i * 2 + 1, none⟩ = some (.int .i64 x.2) := by
  obtain ⟨h1, h2⟩ := runCells_get xs i x hx
  have := h.cells (g := g) rfl
  exact ⟨by simpa only [addAt] using this _ _ h1, by simpa only [addAt] using this _ _ h2⟩

def BsfPost (i : Nat) (w : World) (e : Ending) (w' : World) : Prop := ∃ b, e = .returned (.tuple #[.int .i64 i, .bool b]) ∧ Below w.heap.size w w'

set_option maxRecDepth 100000 in
set_option maxHeartbeats 2000000 in
theorem bsf_any (xs : List R2) (v : Value) (k : Int) (i : Nat) (w : World) (base n : Nat) (hn : n = xs.length) (hrow : w.ownsRow base 77 2 v n (runCells xs)) (hl : n ≤ 100000) (hp : Parts xs k i)
    (hb : ∀ (p : Nat) (x : R2), xs[p]? = some x → 0 ≤ x.1 ∧ x.1 ≤ 10000 ∧ 0 ≤ x.2 ∧ x.2 ≤ 10000) :
    Calls Try.prog 85 #[v, .int .i64 k, .func (.func 86) #[] #[]] w (BsfPost i w) := by
  have hin : i ≤ n := by rw [hn]; exact hp.le
  rcases hrow.2 with ⟨rfl, h0⟩ | ⟨g, cap, cur, rfl, hbg, hg, _⟩
  · have hi : i = 0 := by omega
    subst hi
    clear hrow hp hb h0 hn hin hl
    go_enter Try.func85, Try.ntmps85
    go_wp2
    go_loopg [9, 10] 0 (fun n v u wr => w = wr ∧ v = .int .i64 0 ∧ u = .int .i64 0)
    case atStart => exact ⟨rfl, rfl, rfl⟩
    case round =>
      obtain ⟨rfl, rfl, rfl⟩ := hrel
      go_wp2
      go_ret2
      exact ⟨_, rfl, Below.refl _ _⟩
  · have hglt := lt_of_block hg
    have HH : Hid (w.ownsRow base 77 2 (.slice (some ⟨g, 0, none⟩) n cap) n (runCells xs) ∧ n = xs.length) := ⟨hrow, hn⟩
    have HP := Lib.hid hp
    have HB := Lib.hid hb
    clear hrow hp hb hg hn
    go_enter Try.func85, Try.ntmps85
    go_wp2
    go_loopg [9, 10] n (fun m lo hi wr => ∃ a b : Nat, lo = .int .i64 a ∧ hi = .int .i64 b ∧ a ≤ i ∧ i ≤ b ∧ b ≤ n ∧ b - a ≤ m ∧ Below w.heap.size w wr)
    case atStart => exact ⟨0, n, rfl, rfl, Nat.zero_le _, hin, Nat.le_refl _, Nat.le_refl _, Below.refl _ _⟩
    case round =>
      obtain ⟨a, b, rfl, rfl, ha, hib, hbn, hm, hB⟩ := hrel
      by_cases hab : a < b
      · have hab' : (a : Int) < b := by omega
        obtain ⟨h, hh⟩ : ∃ h, h = (a + b) / 2 := ⟨_, rfl⟩
        have hhb : a ≤ h ∧ h < b := by omega
        obtain ⟨x, hx⟩ : ∃ x, xs[h]? = some x := ⟨_, List.getElem?_eq_getElem (by have := HH.out.2; omega)⟩
        obtain ⟨c0, c1⟩ := ownsRow_cell HH.out.1 hx
        obtain ⟨b0, b1, b2, b3⟩ := HB.out h x hx
        have d0 : wr.cell? ⟨g, (a + b) / 2 * 2, none⟩ = some (.int .i64 x.1) := by rw [← hh]; exact (hB.cell (p := ⟨g, h * 2, none⟩) hglt).trans c0
        have d1 : wr.cell? ⟨g, (a + b) / 2 * 2 + 1, none⟩ = some (.int .i64 x.2) := by rw [← hh]; exact (hB.cell (p := ⟨g, h * 2 + 1, none⟩) hglt).trans c1
        have Hh := Lib.hid hh
        have hB' := Lib.hid hB
        have hx' := Lib.hid hx
        have hm' := Lib.hid hm
        clear c0 c1 hh hB hx hm
        by_cases hlt : x.1 + x.2 < k
        · have hc := Lib.hid (cmpI_lt hlt)
          go_wp2_with fail
          refine (place1_any x k wr b0 b1 b2 b3).mono ?_
          rintro e w1 ⟨rfl, hb1⟩
          rw [hc.out]
          go_wp2
          go_roundg (b - (h + 1))
          case measure => have := hm'.out; omega
          case rel => exact ⟨h + 1, b, by rw [Hh.out]; go_num, rfl, by
              rcases Nat.lt_or_ge h i with h1 | h1
              · exact h1
              · have := HP.out.hi h x h1 hx'.out; omega, hib, hbn, Nat.le_refl _, hB'.out.trans (hb1.mono hB'.out.size)⟩
        · have hc : 0 ≤ cmpI (x.1 + x.2) k := by unfold cmpI; rw [if_neg hlt]; split <;> omega
          go_wp2_with fail
          refine (place1_any x k wr b0 b1 b2 b3).mono ?_
          rintro e w1 ⟨rfl, hb1⟩
          generalize cmpI (x.1 + x.2) k = cv at hc ⊢
          go_wp2
          go_roundg (h - a)
          case measure => have := hm'.out; omega
          case rel => exact ⟨a, h, rfl, by rw [Hh.out]; go_num, ha, by
              rcases Nat.lt_or_ge h i with h1 | h1
              · have := HP.out.lo h x h1 hx'.out; omega
              · exact h1, by omega, Nat.le_refl _, hB'.out.trans (hb1.mono hB'.out.size)⟩
      · have hab' : ¬ (a : Int) < b := by omega
        obtain rfl : a = i := by omega
        by_cases hin' : a < n
        · have hin2 : (a : Int) < n := by omega
          obtain ⟨x, hx⟩ : ∃ x, xs[a]? = some x := ⟨_, List.getElem?_eq_getElem (by have := HH.out.2; omega)⟩
          obtain ⟨c0, c1⟩ := ownsRow_cell HH.out.1 hx
          obtain ⟨b0, b1, b2, b3⟩ := HB.out a x hx
          have d0 : wr.cell? ⟨g, a * 2, none⟩ = some (.int .i64 x.1) := (hB.cell (p := ⟨g, a * 2, none⟩) hglt).trans c0
          have d1 : wr.cell? ⟨g, a * 2 + 1, none⟩ = some (.int .i64 x.2) := (hB.cell (p := ⟨g, a * 2 + 1, none⟩) hglt).trans c1
          have hB' := Lib.hid hB
          clear c0 c1 hx hB
          go_wp2_with fail
          refine (place1_any x k wr b0 b1 b2 b3).mono ?_
          rintro e w1 ⟨rfl, hb1⟩
          generalize hcv : decide (cmpI (x.1 + x.2) k = 0) = cv
          go_wp2
          go_ret2
          exact ⟨_, rfl, hB'.out.trans (hb1.mono hB'.out.size)⟩
        · have hin2 : ¬ (a : Int) < n := by omega
          go_wp2
          go_ret2
          exact ⟨_, rfl, hB⟩

end Go.Proofs.Ytdeebagjmhpocaa
