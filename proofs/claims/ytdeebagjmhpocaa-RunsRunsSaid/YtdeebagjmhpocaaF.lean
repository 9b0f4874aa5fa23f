/- The reference's tree: place, Has. -/
import Derived.Test.YtdeebagjmhpocaaV
namespace Go.Proofs.Ytdeebagjmhpocaa
set_option linter.unusedSimpArgs false
set_option linter.unusedVariables false
open Go.RowKit

/-- An item of the reference's tree. -/
structure It where
  key : Int
  draw : Int
  v : Int

def itCells : List It → List Value
  | [] => []
  | x :: r => .int .i64 x.key :: .int .u32 x.draw :: .int .i64 x.v :: itCells r
theorem itCells_length : ∀ (a : List It), (itCells a).length = a.length * 3
  | [] => rfl
  | x :: r => by simp [itCells, itCells_length r]; omega
theorem itCells_append : ∀ (a b : List It), itCells (a ++ b) = itCells a ++ itCells b
  | [], _ => rfl
  | x :: r, b => by simp [itCells, itCells_append r b]
theorem itCells_get : ∀ (a : List It) (i : Nat) (x : It), a[i]? = some x → (itCells a)[i * 3]? = some (.int .i64 x.key) ∧ (itCells a)[i * 3 + 1]? = some (.int .u32 x.draw) ∧ (itCells a)[i * 3 + 2]? = some (.int .i64 x.v)
  | [], i, x, h => by simp at h
  | y :: r, 0, x, h => by simp at h; subst h; simp [itCells]
  | y :: r, i + 1, x, h => by
    have := itCells_get r i x (by simpa using h)
    rw [show (i + 1) * 3 = i * 3 + 1 + 1 + 1 by omega]
    simpa [itCells] using this
theorem itCells_one : ∀ (a : List It), ∀ u ∈ itCells a, u.oneCell' = true
  | [], u, h => by simp [itCells] at h
  | x :: r, u, h => by
    simp only [itCells, List.mem_cons] at h
    rcases h with rfl | rfl | rfl | h
    · rfl
    · rfl
    · rfl
    · exact itCells_one r u h
theorem itCells_take : ∀ (xs : List It) (i : Nat), (itCells xs).take (i * 3) = itCells (xs.take i)
  | [], i => by simp [itCells]
  | x :: r, 0 => by simp [itCells]
  | x :: r, i + 1 => by
    rw [show (i + 1) * 3 = i * 3 + 1 + 1 + 1 by omega]
    simp [itCells, itCells_take r i]
theorem itCells_drop : ∀ (xs : List It) (i : Nat), (itCells xs).drop (i * 3) = itCells (xs.drop i)
  | [], i => by simp [itCells]
  | x :: r, 0 => by simp [itCells]
  | x :: r, i + 1 => by
    rw [show (i + 1) * 3 = i * 3 + 1 + 1 + 1 by omega]
    simp [itCells, itCells_drop r i]

theorem ownsRow_it {w : World} {base : Nat} {g n cap : Nat} {xs : List It} (h : w.ownsRow base 126 3 (.slice (some ⟨g, 0, none⟩) n cap) n (itCells xs)) {i : Nat} {x : It} (hx : xs[i]? = some x) :
    w.cell? ⟨g, i * 3, none⟩ = some (.int .i64 x.key) ∧ w.cell? ⟨g, i * 3 + 1, none⟩ = some (.int .u32 x.draw) ∧ w.cell? ⟨g, i * 3 + 2, none⟩ = some (.int .i64 x.v) := by
  obtain ⟨h1, h2, h3⟩ := itCells_get xs i x hx
  have := h.cells (g := g) rfl
  exact ⟨by simpa only [addAt] using this _ _ h1, by simpa only [addAt] using this _ _ h2, by simpa only [addAt] using this _ _ h3⟩

/-- Where the items part: those ahead of it lie below k, no other one does. -/
structure PartsI (xs : List It) (k : Int) (i : Nat) : Prop where
  le : i ≤ xs.length
  lo : ∀ p x, p < i → xs[p]? = some x → x.key < k
  hi : ∀ x, xs[i]? = some x → k ≤ x.key

set_option maxRecDepth 100000 in
set_option maxHeartbeats 2000000 in
theorem tplace_any (xs : List It) (v : Value) (q : Nat) (k : Int) (i : Nat) (w : World) (base : Nat) (hc : w.cell? ⟨q, 1, none⟩ = some v) (hrow : w.ownsRow base 126 3 v xs.length (itCells xs)) (hl : xs.length ≤ 100000) (hp : PartsI xs k i) :
    Calls Try.prog 74 #[.pointer (some ⟨q, 1, none⟩), .int .i64 k] w fun e w' => e = .returned (.int .i64 i) ∧ w = w' := by
  obtain ⟨n, hn⟩ : ∃ n, n = xs.length := ⟨_, rfl⟩
  rw [← hn] at hrow hl
  have hin : i ≤ n := by rw [hn]; exact hp.le
  rcases hrow.2 with ⟨rfl, h0⟩ | ⟨g, cap, cur, rfl, hbg, hg, _⟩
  · have hi : i = 0 := by omega
    subst hi
    clear hrow hp h0 hn hin hl
    go_enter Try.func74, Try.ntmps74
    go_wp2
    go_loopg [5] 0 (fun n v wr => w = wr ∧ v = .int .i64 0)
    case atStart => exact ⟨rfl, rfl⟩
    case round =>
      obtain ⟨rfl, rfl⟩ := hrel
      go_wp2
      go_ret
      exact ⟨rfl, rfl⟩
  · have HH : Hid (w.ownsRow base 126 3 (.slice (some ⟨g, 0, none⟩) n cap) n (itCells xs) ∧ n = xs.length) := ⟨hrow, hn⟩
    have HP := Lib.hid hp
    clear hrow hp hg hn
    go_enter Try.func74, Try.ntmps74
    go_wp2
    go_loopg [5] n (fun m lo wr => ∃ a : Nat, lo = .int .i64 a ∧ a ≤ i ∧ i - a ≤ m ∧ w = wr)
    case atStart => exact ⟨0, rfl, Nat.zero_le _, by omega, rfl⟩
    case round =>
      obtain ⟨a, rfl, ha, hm, rfl⟩ := hrel
      by_cases han : a < n
      · have han' : (a : Int) < n := by omega
        obtain ⟨x, hx⟩ : ∃ x, xs[a]? = some x := ⟨_, List.getElem?_eq_getElem (by have := HH.out.2; omega)⟩
        have d0 := (ownsRow_it HH.out.1 hx).1
        by_cases hai : a < i
        · have hlt : x.key < k := HP.out.lo a x hai hx
          have hm' := Lib.hid hm
          clear hx hm
          go_wp2
          go_roundg (i - (a + 1))
          case measure => have := hm'.out; omega
          case rel => exact ⟨a + 1, by go_num, by omega, Nat.le_refl _, rfl⟩
        · obtain rfl : a = i := by omega
          have hlt : ¬ x.key < k := by have := HP.out.hi x hx; omega
          clear hx hm
          go_wp2
          go_ret
          exact ⟨rfl, rfl⟩
      · have han' : ¬ (a : Int) < n := by omega
        obtain rfl : a = i := by omega
        go_wp2
        go_ret
        exact ⟨rfl, rfl⟩

/-- Is the key there? -/
def hasI (xs : List It) (k : Int) : Bool := xs.any (·.key == k)

set_option maxRecDepth 100000 in
set_option maxHeartbeats 2000000 in
theorem thas_any (xs : List It) (v : Value) (q : Nat) (k : Int) (i : Nat) (w : World) (base : Nat) (b : Bool) (hc : w.cell? ⟨q, 1, none⟩ = some v) (hrow : w.ownsRow base 126 3 v xs.length (itCells xs)) (hl : xs.length ≤ 100000) (hp : PartsI xs k i)
    (hb : b = match xs[i]? with | some x => x.key == k | none => false) :
    Calls Try.prog 73 #[.pointer (some ⟨q, 1, none⟩), .int .i64 k] w fun e w' => e = .returned (.bool b) ∧ w = w' := by
  have F := Lib.hid (tplace_any xs v q k i w base hc hrow hl hp)
  have hi0 := hp.le
  obtain ⟨n, hn⟩ : ∃ n, n = xs.length := ⟨_, rfl⟩
  rw [← hn] at hrow hl hi0
  rcases hrow.2 with ⟨rfl, h0⟩ | ⟨g, cap, cur, rfl, hbg, hg, _⟩
  · have hi : i = 0 := by omega
    subst hi
    have hb' : b = false := by
      have : xs = [] := List.eq_nil_of_length_eq_zero (by omega)
      subst this; simpa using hb
    subst hb'
    clear hrow hp h0 hn hl hb
    go_enter Try.func73, Try.ntmps73
    go_wp2_with fail
    refine F.out.mono ?_
    rintro e w1 ⟨rfl, rfl⟩
    go_wp2
    go_ret
    exact ⟨rfl, rfl⟩
  · rcases Nat.lt_or_ge i n with h | h
    · have han' : (i : Int) < n := by omega
      obtain ⟨x, hx⟩ : ∃ x, xs[i]? = some x := ⟨_, List.getElem?_eq_getElem (by omega)⟩
      have d0 := (ownsRow_it hrow hx).1
      have hb' : Hid ((x.key == k) = b) := by unfold Hid; rw [hb, hx]
      clear hrow hp hn hl hb hx hg
      go_enter Try.func73, Try.ntmps73
      go_wp2_with fail
      refine F.out.mono ?_
      rintro e w1 ⟨rfl, rfl⟩
      go_wp2
      go_ret
      exact ⟨by rw [← hb'.out]; rfl, rfl⟩
    · have han' : ¬ (i : Int) < n := by omega
      have hb' : b = false := by rw [hb, List.getElem?_eq_none (by omega)]
      subst hb'
      clear hrow hp hn hl hb hg
      go_enter Try.func73, Try.ntmps73
      go_wp2_with fail
      refine F.out.mono ?_
      rintro e w1 ⟨rfl, rfl⟩
      go_wp2
      go_ret
      exact ⟨rfl, rfl⟩

end Go.Proofs.Ytdeebagjmhpocaa
