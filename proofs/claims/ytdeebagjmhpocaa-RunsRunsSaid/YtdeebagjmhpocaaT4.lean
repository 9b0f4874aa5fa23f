/- The tree's functions, on: find. -/
import Derived.Test.YtdeebagjmhpocaaT3
import Derived.Deep.LoopGhost
namespace Go.Proofs.Ytdeebagjmhpocaa
set_option linter.unusedSimpArgs false
set_option linter.unusedVariables false
open Go.RowKit

/-- The subtree at a key, as it is sought. -/
def T.seek (k : Int) : T → T
  | .nil => .nil
  | .node b x l r => if x.key = k then .node b x l r else if k < x.key then l.seek k else r.seek k
def T.high : T → Nat
  | .nil => 0
  | .node _ _ l r => l.high + r.high + 1

def treapCells (t : T) (many : Int) : Array Value := #[t.ptr, .int .i64 many]

theorem T.ptr_nil : T.nil.ptr = .pointer none := rfl
theorem T.ptr_node (b : Nat) (x : Nd) (l r : T) : (T.node b x l r).ptr = .pointer (some ⟨b, 0, none⟩) := rfl
def FindPost (k : Int) (t : T) (w : World) (e : Ending) (w' : World) : Prop := e = .returned (t.seek k).ptr ∧ w = w'

set_option maxHeartbeats 800000 in
theorem find_any (k : Int) (p : Nat) (t : T) (m : Int) (w : World) (hp : w.heap[p]? = some (.cells (treapCells t m) 110 (0, 0))) (ht : t.In w) :
    Calls Try.prog 80 #[.pointer (some ⟨p, 0, none⟩), .int .i64 k] w (FindPost k t w) := by
  have c0 : w.cell? ⟨p, 0, none⟩ = some t.ptr := cellOf hp 0
  have Hp := Lib.hid hp
  clear hp
  go_enter Try.func80, Try.ntmps80
  go_wp2
  generalize hg : t.ptr = tp
  clear c0
  go_loopg [5] t.high (fun n v wr => w = wr ∧ ∃ s : T, v = s.ptr ∧ s.high ≤ n ∧ s.In w ∧ s.seek k = t.seek k)
  case atStart => exact ⟨rfl, t, hg.symm, Nat.le_refl _, ht, rfl⟩
  case round =>
    obtain ⟨rfl, s, rfl, hn, hs, hk⟩ := hrel
    clear hg
    cases s with
    | nil =>
      have Hk := Lib.hid hk
      clear hk
      rw [T.ptr_nil]
      go_wp2
      go_ret
      exact ⟨by rw [← Hk.out]; rfl, rfl⟩
    | node b x l r =>
      have b0 : w.cell? ⟨b, 0, none⟩ = some (.int .i64 x.key) := cellOf hs.1 0
      have b4 : w.cell? ⟨b, 4, none⟩ = some l.ptr := cellOf hs.1 4
      have b5 : w.cell? ⟨b, 5, none⟩ = some r.ptr := cellOf hs.1 5
      have Hs := Lib.hid hs
      have Hk := Lib.hid hk
      have Hn := Lib.hid hn
      clear hk hs hn
      rw [T.ptr_node]
      by_cases he : x.key = k
      · have g : (x.key != k) = false := by simpa using he
        have He := Lib.hid he
        clear he
        go_wp2
        go_ret
        exact ⟨by rw [← Hk.out, T.seek, if_pos He.out]; rfl, rfl⟩
      · have g : (x.key != k) = true := by simpa using he
        have He := Lib.hid he
        clear he
        by_cases hl : k < x.key
        · go_wp2
          go_roundg l.high
          case measure => have := Hn.out; simp only [T.high] at this; omega
          case rel => exact ⟨rfl, l, rfl, Nat.le_refl _, Hs.out.2.1, by rw [← Hk.out, T.seek, if_neg He.out, if_pos hl]⟩
        · go_wp2
          go_roundg r.high
          case measure => have := Hn.out; simp only [T.high] at this; omega
          case rel => exact ⟨rfl, r, rfl, Nat.le_refl _, Hs.out.2.2, by rw [← Hk.out, T.seek, if_neg He.out, if_neg (by omega)]⟩

end Go.Proofs.Ytdeebagjmhpocaa
