/- The layout's functions: what each computes. -/
import Derived.Test.YtdeebagjmhpocaaM
namespace Go.Proofs.Ytdeebagjmhpocaa
set_option linter.unusedSimpArgs false
set_option linter.unusedVariables false
open Go.RowKit

set_option maxHeartbeats 400000 in
theorem pages_any (p t : Int) (w : World) (ht : 0 ≤ t) (ht' : t ≤ 64) :
    Calls Try.prog 92 #[.agg #[.int .i64 p, .int .i64 t]] w fun e w' => e = .returned (.int .i64 (68 + 14 * t)) ∧ Below w.heap.size w w' := by
  go_enter Try.func92, Try.ntmps92
  go_wp2
  go_ret
  exact ⟨rfl, (Below.refl _ _).alloc (Nat.le_refl _) _⟩

def may (p t : Int) : Prop := 1 ≤ p ∧ p ≤ 4096 ∧ 1 ≤ t ∧ t ≤ 64
def MayPost (p t : Int) (w : World) (e : Ending) (w' : World) : Prop := ∃ b : Bool, e = .returned (.bool b) ∧ (b = true ↔ may p t) ∧ Below w.heap.size w w'

set_option maxHeartbeats 400000 in
theorem may_any (p t : Int) (w : World) : Calls Try.prog 33 #[.agg #[.int .i64 p, .int .i64 t]] w (MayPost p t w) := by
  by_cases h1 : 1 ≤ p
  · by_cases h2 : p ≤ 4096
    · by_cases h3 : 1 ≤ t
      · by_cases h4 : t ≤ 64
        · go_enter Try.func33, Try.ntmps33
          go_wp2
          go_ret
          exact ⟨_, rfl, by simp [may]; omega, (Below.refl _ _).alloc (Nat.le_refl _) _⟩
        · go_enter Try.func33, Try.ntmps33
          go_wp2
          go_ret
          exact ⟨_, rfl, by simp [may]; omega, (Below.refl _ _).alloc (Nat.le_refl _) _⟩
      · go_enter Try.func33, Try.ntmps33
        go_wp2
        go_ret
        exact ⟨_, rfl, by simp [may]; omega, (Below.refl _ _).alloc (Nat.le_refl _) _⟩
    · go_enter Try.func33, Try.ntmps33
      go_wp2
      go_ret
      exact ⟨_, rfl, by simp [may]; omega, (Below.refl _ _).alloc (Nat.le_refl _) _⟩
  · go_enter Try.func33, Try.ntmps33
    go_wp2
    go_ret
    exact ⟨_, rfl, by simp [may]; omega, (Below.refl _ _).alloc (Nat.le_refl _) _⟩

set_option maxHeartbeats 400000 in
theorem many_any (p t : Int) (w : World) (h1 : 1 ≤ p) (h2 : p ≤ 4096) :
    Calls Try.prog 61 #[.agg #[.int .i64 p, .int .i64 t]] w fun e w' => e = .returned (.int .i64 ((p + 63) / 64)) ∧ Below w.heap.size w w' := by
  go_enter Try.func61, Try.ntmps61
  go_wp2
  go_ret
  exact ⟨by show Ending.returned (.int .i64 ((p + 64 - 1) / 64)) = _; first | rfl | rw [show p + 64 - 1 = p + 63 by omega], (Below.refl _ _).alloc (Nat.le_refl _) _⟩

theorem bcell {W w1 : World} (hb : Below W.heap.size W w1) : (∀ b o, b < W.heap.size → w1.cell? ⟨b, o, none⟩ = W.cell? ⟨b, o, none⟩) ∧ (∀ b o, b < W.heap.size → w1.frozen? ⟨b, o, none⟩ = W.frozen? ⟨b, o, none⟩) :=
  ⟨fun b o h => hb.cell (p := ⟨b, o, none⟩) h, fun b o h => hb.frozen (p := ⟨b, o, none⟩) h⟩

set_option maxHeartbeats 400000 in
theorem index_any (p t : Int) (w : World) (h1 : 1 ≤ p) (h2 : p ≤ 4096) (h3 : 1 ≤ t) (h4 : t ≤ 64) :
    Calls Try.prog 88 #[.agg #[.int .i64 p, .int .i64 t]] w fun e w' => e = .returned (.int .i64 (68 + 14 * t + 5 * p)) ∧ Below w.heap.size w w' := by
  go_enter Try.func88, Try.ntmps88
  go_wp2_with fail
  go_region_held3 (fun W => W.cell? ⟨w.heap.size, 0, none⟩ = some (.int .i64 p) ∧ W.cell? ⟨w.heap.size, 1, none⟩ = some (.int .i64 t))
    (first
      | go_keep
      | (have hz := hb.size; simp at hz
         exact ⟨by rw [hc _ _ (by simp)]; simp, by rw [hc _ _ (by simp)]; simp⟩))
    (first
      | (go_at_call 92; refine (pages_any _ _ _ (by omega) (by omega)).mono ?_; rintro e w1 ⟨rfl, hb⟩; obtain ⟨hc, hf⟩ := bcell hb))
  go_wp2
  go_ret
  refine ⟨?_, ((Below.refl w.heap.size w).alloc (Nat.le_refl _) _).drew.trans (hb.mono (by simp))⟩
  show Ending.returned (.int .i64 (IntKind.i64.wrap (68 + 14 * t + IntKind.i64.wrap (5 * p)))) = _; rw [IntWalk.i64_in (5 * p) (by omega), IntWalk.i64_in _ (by omega)]

set_option maxHeartbeats 400000 in
theorem used_any (p t : Int) (w : World) (h1 : 1 ≤ p) (h2 : p ≤ 4096) (h3 : 1 ≤ t) (h4 : t ≤ 64) :
    Calls Try.prog 77 #[.agg #[.int .i64 p, .int .i64 t]] w fun e w' => e = .returned (.int .i64 (68 + 14 * t + 6 * p)) ∧ Below w.heap.size w w' := by
  go_enter Try.func77, Try.ntmps77
  go_wp2_with fail
  go_region_held3 (fun W => W.cell? ⟨w.heap.size, 0, none⟩ = some (.int .i64 p) ∧ W.cell? ⟨w.heap.size, 1, none⟩ = some (.int .i64 t))
    (first
      | go_keep
      | (have hz := hb.size; simp at hz
         exact ⟨by rw [hc _ _ (by simp)]; simp, by rw [hc _ _ (by simp)]; simp⟩))
    (first
      | (go_at_call 88; refine (index_any _ _ _ (by omega) (by omega) (by omega) (by omega)).mono ?_; rintro e w1 ⟨rfl, hb⟩; obtain ⟨hc, hf⟩ := bcell hb))
  go_wp2
  go_ret
  refine ⟨?_, ((Below.refl w.heap.size w).alloc (Nat.le_refl _) _).drew.trans (hb.mono (by simp))⟩
  show Ending.returned (.int .i64 (IntKind.i64.wrap (68 + 14 * t + 5 * p + p))) = _; rw [IntWalk.i64_in _ (by omega), show 68 + 14 * t + 5 * p + p = 68 + 14 * t + 6 * p by omega]

set_option maxHeartbeats 1000000 in
theorem gone_any (p t : Int) (w : World) (h1 : 1 ≤ p) (h2 : p ≤ 4096) (h3 : 1 ≤ t) (h4 : t ≤ 64) :
    Calls Try.prog 60 #[.agg #[.int .i64 p, .int .i64 t]] w fun e w' => e = .returned (.int .i64 (68 + 14 * t + 6 * p + (p + 63) / 64)) ∧ Below w.heap.size w w' := by
  go_enter Try.func60, Try.ntmps60
  go_wp2_with fail
  go_region_held3 (fun W => W.cell? ⟨w.heap.size, 0, none⟩ = some (.int .i64 p) ∧ W.cell? ⟨w.heap.size, 1, none⟩ = some (.int .i64 t))
    (first
      | go_keep
      | (have hz := hb.size; have hz' := hb'.size; simp at hz hz'
         exact ⟨by rw [hc' _ _ (by omega), hc _ _ (by simp)]; first | simp | assumption, by rw [hc' _ _ (by omega), hc _ _ (by simp)]; first | simp | assumption⟩)
      | (have hz := hb.size; simp at hz
         exact ⟨by rw [hc _ _ (by simp)]; first | simp | assumption, by rw [hc _ _ (by simp)]; first | simp | assumption⟩))
    (first
      | (go_at_call 77; refine (used_any _ _ _ h1 h2 h3 h4).mono ?_; rintro e w1 ⟨rfl, hb⟩; obtain ⟨hc, hf⟩ := bcell hb)
      | (go_at_call 61; refine (many_any _ _ _ h1 h2).mono ?_; rintro e w2 ⟨rfl, hb'⟩; obtain ⟨hc', hf'⟩ := bcell hb'))
  go_wp2
  go_ret
  refine ⟨?_, (((Below.refl w.heap.size w).alloc (Nat.le_refl _) _).drew.trans (hb.mono (by simp))).trans (hb'.mono (by have := hb.size; simp at this; omega))⟩
  show Ending.returned (.int .i64 (IntKind.i64.wrap (68 + 14 * t + 6 * p + (p + 63) / 64))) = _; rw [IntWalk.i64_in _ (by omega)]

set_option maxHeartbeats 400000 in
theorem rmay_any (p t : Int) (w : World) : Calls Try.prog 36 #[.agg #[.int .i64 p, .int .i64 t]] w (MayPost p t w) := by
  by_cases h1 : 1 ≤ p
  · by_cases h2 : p ≤ 4096
    · by_cases h3 : 1 ≤ t
      · by_cases h4 : t ≤ 64
        · go_enter Try.func36, Try.ntmps36
          go_wp2
          go_ret
          exact ⟨_, rfl, by simp [may]; omega, (Below.refl _ _).alloc (Nat.le_refl _) _⟩
        · go_enter Try.func36, Try.ntmps36
          go_wp2
          go_ret
          exact ⟨_, rfl, by simp [may]; omega, (Below.refl _ _).alloc (Nat.le_refl _) _⟩
      · go_enter Try.func36, Try.ntmps36
        go_wp2
        go_ret
        exact ⟨_, rfl, by simp [may]; omega, (Below.refl _ _).alloc (Nat.le_refl _) _⟩
    · go_enter Try.func36, Try.ntmps36
      go_wp2
      go_ret
      exact ⟨_, rfl, by simp [may]; omega, (Below.refl _ _).alloc (Nat.le_refl _) _⟩
  · go_enter Try.func36, Try.ntmps36
    go_wp2
    go_ret
    exact ⟨_, rfl, by simp [may]; omega, (Below.refl _ _).alloc (Nat.le_refl _) _⟩

set_option maxHeartbeats 400000 in
theorem rmaps_any (p t : Int) (w : World) (h1 : 1 ≤ p) (h2 : p ≤ 4096) :
    Calls Try.prog 62 #[.agg #[.int .i64 p, .int .i64 t]] w fun e w' => e = .returned (.int .i64 ((p + 63) / 64)) ∧ Below w.heap.size w w' := by
  go_enter Try.func62, Try.ntmps62
  go_wp2
  go_ret
  exact ⟨by show Ending.returned (.int .i64 ((p + 63) / 64)) = _; first | rfl | rw [show p + 64 - 1 = p + 63 by omega], (Below.refl _ _).alloc (Nat.le_refl _) _⟩

def wordsOf (p t : Int) : Int := 68 + 14 * t + 6 * p + 2 * ((p + 63) / 64)

set_option maxHeartbeats 1000000 in
theorem words_any (p t : Int) (w : World) (h1 : 1 ≤ p) (h2 : p ≤ 4096) (h3 : 1 ≤ t) (h4 : t ≤ 64) :
    Calls Try.prog 35 #[.agg #[.int .i64 p, .int .i64 t]] w fun e w' => e = .returned (.int .i64 (wordsOf p t)) ∧ Below w.heap.size w w' := by
  go_enter Try.func35, Try.ntmps35
  go_wp2_with fail
  refine (may_any p t _).mono ?_
  rintro e w0 ⟨b, rfl, hb, hB⟩
  obtain rfl : b = true := hb.2 ⟨h1, h2, h3, h4⟩
  have hz0 : w.heap.size < w0.heap.size := by have := hB.size; simp at this; omega
  have c0 : w0.cell? ⟨w.heap.size, 0, none⟩ = some (.int .i64 p) := (hB.cell (p := ⟨w.heap.size, 0, none⟩) (by simp)).trans (cellOf (heap_alloc_new w _) 0)
  have c1 : w0.cell? ⟨w.heap.size, 1, none⟩ = some (.int .i64 t) := (hB.cell (p := ⟨w.heap.size, 1, none⟩) (by simp)).trans (cellOf (heap_alloc_new w _) 1)
  have HB : Hid (Below w.heap.size w w0) := ((Below.refl w.heap.size w).alloc (Nat.le_refl _) _).trans (hB.mono (by simp))
  clear hB hb
  go_wp2_with fail
  go_region_held3 (fun W => W.cell? ⟨w.heap.size, 0, none⟩ = some (.int .i64 p) ∧ W.cell? ⟨w.heap.size, 1, none⟩ = some (.int .i64 t))
    (first
      | go_keep
      | exact ⟨((hb'.cell (p := ⟨w.heap.size, 0, none⟩) (by have := hb.size; simp at this; show w.heap.size < w1.heap.size; omega)).trans (hb.cell (p := ⟨w.heap.size, 0, none⟩) hz0)).trans c0, ((hb'.cell (p := ⟨w.heap.size, 1, none⟩) (by have := hb.size; simp at this; show w.heap.size < w1.heap.size; omega)).trans (hb.cell (p := ⟨w.heap.size, 1, none⟩) hz0)).trans c1⟩
      | exact ⟨(hb.cell (p := ⟨w.heap.size, 0, none⟩) hz0).trans c0, (hb.cell (p := ⟨w.heap.size, 1, none⟩) hz0).trans c1⟩)
    (first
      | (go_at_call 60; refine (gone_any _ _ _ h1 h2 h3 h4).mono ?_; rintro e w1 ⟨rfl, hb⟩)
      | (go_at_call 61; refine (many_any _ _ _ h1 h2).mono ?_; rintro e w2 ⟨rfl, hb'⟩))
  go_wp2
  go_ret
  refine ⟨?_, (HB.out.drew.trans (hb.mono (by simp; omega))).trans (hb'.mono (by have := hb.size; simp at this; omega))⟩
  show Ending.returned (.int .i64 (IntKind.i64.wrap (68 + 14 * t + 6 * p + (p + 63) / 64 + (p + 63) / 64))) = _
  rw [IntWalk.i64_in _ (by omega), wordsOf, show 68 + 14 * t + 6 * p + (p + 63) / 64 + (p + 63) / 64 = 68 + 14 * t + 6 * p + 2 * ((p + 63) / 64) by omega]

set_option maxHeartbeats 1000000 in
theorem rwords_any (p t : Int) (w : World) (h1 : 1 ≤ p) (h2 : p ≤ 4096) (h3 : 1 ≤ t) (h4 : t ≤ 64) :
    Calls Try.prog 38 #[.agg #[.int .i64 p, .int .i64 t]] w fun e w' => e = .returned (.int .i64 (wordsOf p t)) ∧ Below w.heap.size w w' := by
  go_enter Try.func38, Try.ntmps38
  go_wp2_with fail
  refine (rmay_any p t _).mono ?_
  rintro e w0 ⟨b, rfl, hb, hB⟩
  obtain rfl : b = true := hb.2 ⟨h1, h2, h3, h4⟩
  have hz0 : w.heap.size < w0.heap.size := by have := hB.size; simp at this; omega
  have c0 : w0.cell? ⟨w.heap.size, 0, none⟩ = some (.int .i64 p) := (hB.cell (p := ⟨w.heap.size, 0, none⟩) (by simp)).trans (cellOf (heap_alloc_new w _) 0)
  have c1 : w0.cell? ⟨w.heap.size, 1, none⟩ = some (.int .i64 t) := (hB.cell (p := ⟨w.heap.size, 1, none⟩) (by simp)).trans (cellOf (heap_alloc_new w _) 1)
  have HB : Hid (Below w.heap.size w w0) := ((Below.refl w.heap.size w).alloc (Nat.le_refl _) _).trans (hB.mono (by simp))
  clear hB hb
  go_wp2_with fail
  go_region_held3 (fun W => W.cell? ⟨w.heap.size, 0, none⟩ = some (.int .i64 p) ∧ W.cell? ⟨w.heap.size, 1, none⟩ = some (.int .i64 t))
    (first
      | go_keep
      | exact ⟨(hb.cell (p := ⟨w.heap.size, 0, none⟩) hz0).trans c0, (hb.cell (p := ⟨w.heap.size, 1, none⟩) hz0).trans c1⟩)
    (first
      | (go_at_call 62; refine (rmaps_any _ _ _ h1 h2).mono ?_; rintro e w1 ⟨rfl, hb⟩))
  go_wp2
  go_ret
  refine ⟨?_, HB.out.drew.trans (hb.mono (by simp; omega))⟩
  show Ending.returned (.int .i64 (IntKind.i64.wrap (IntKind.i64.wrap (IntKind.i64.wrap (68 + IntKind.i64.wrap (14 * t)) + IntKind.i64.wrap (6 * p)) + IntKind.i64.wrap (2 * ((p + 63) / 64))))) = _
  rw [IntWalk.i64_in (6 * p) (by omega), IntWalk.i64_in (2 * ((p + 63) / 64)) (by omega), IntWalk.i64_in (14 * t) (by omega), IntWalk.i64_in (68 + 14 * t) (by omega), IntWalk.i64_in (68 + 14 * t + 6 * p) (by omega), IntWalk.i64_in _ (by omega), wordsOf]

end Go.Proofs.Ytdeebagjmhpocaa
