/- The tree's functions, on: above, join, find. -/
import Derived.Test.YtdeebagjmhpocaaT
namespace Go.Proofs.Ytdeebagjmhpocaa
set_option linter.unusedSimpArgs false
set_option linter.unusedVariables false
open Go.RowKit

def above (x y : Nd) : Bool := decide (y.draw < x.draw ∨ x.draw = y.draw ∧ x.key < y.key)

def AbovePost (x y : Nd) (w : World) (e : Ending) (w' : World) : Prop := e = .returned (.bool (above x y)) ∧ ∃ n, w' = w.drewN n

set_option maxHeartbeats 800000 in
theorem above_any (a b : Nat) (x y : Nd) (la ra lb rb : Value) (w : World) (ha : w.heap[a]? = some (.cells (x.cells la ra) 113 (0, 0))) (hb : w.heap[b]? = some (.cells (y.cells lb rb) 113 (0, 0))) :
    Calls Try.prog 89 #[.pointer (some ⟨a, 0, none⟩), .pointer (some ⟨b, 0, none⟩)] w (AbovePost x y w) := by
  have a0 : w.cell? ⟨a, 0, none⟩ = some (.int .i64 x.key) := cellOf ha 0
  have a1 : w.cell? ⟨a, 1, none⟩ = some (.int .u32 x.draw) := cellOf ha 1
  have b0 : w.cell? ⟨b, 0, none⟩ = some (.int .i64 y.key) := cellOf hb 0
  have b1 : w.cell? ⟨b, 1, none⟩ = some (.int .u32 y.draw) := cellOf hb 1
  clear ha hb
  obtain ⟨xk, xd, xp, xn⟩ := x
  obtain ⟨yk, yd, yp, yn⟩ := y
  dsimp only at a0 a1 b0 b1
  by_cases h1 : yd < xd
  · have g1 : decide (yd < xd) = true := by simpa using h1
    have hv : Hid (above ⟨xk, xd, xp, xn⟩ ⟨yk, yd, yp, yn⟩ = true) := by simp [above, Hid]; omega
    go_enter Try.func89, Try.ntmps89
    go_wp2
    go_quiet (fail)
    go_wp2
    go_ret
    exact ⟨by rw [hv.out]; rfl, _, rfl⟩
  · have g1 : decide (yd < xd) = false := by simpa using h1
    by_cases h2 : xd = yd
    · subst h2
      by_cases h3 : xk < yk
      · have g3 : decide (xk < yk) = true := by simpa using h3
        have hv : Hid (above ⟨xk, xd, xp, xn⟩ ⟨yk, xd, yp, yn⟩ = true) := by simp [above, Hid]; omega
        go_enter Try.func89, Try.ntmps89
        go_wp2
        go_quiet (fail)
        go_wp2
        go_ret
        exact ⟨by rw [hv.out]; rfl, _, rfl⟩
      · have g3 : decide (xk < yk) = false := by simpa using h3
        have hv : Hid (above ⟨xk, xd, xp, xn⟩ ⟨yk, xd, yp, yn⟩ = false) := by simp [above, Hid]; omega
        go_enter Try.func89, Try.ntmps89
        go_wp2
        go_quiet (fail)
        go_wp2
        go_ret
        exact ⟨by rw [hv.out]; rfl, _, rfl⟩
    · have g2 : (xd == yd) = false := by simpa using h2
      have hv : Hid (above ⟨xk, xd, xp, xn⟩ ⟨yk, yd, yp, yn⟩ = false) := by simp [above, Hid]; omega
      clear h2
      go_enter Try.func89, Try.ntmps89
      go_wp2
      go_quiet (fail)
      go_wp2
      go_ret
      exact ⟨by rw [hv.out]; rfl, _, rfl⟩

end Go.Proofs.Ytdeebagjmhpocaa
