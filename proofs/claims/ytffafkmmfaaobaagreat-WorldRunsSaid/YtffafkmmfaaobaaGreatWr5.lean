/- A desk's step. -/
import Derived.Test.YtffafkmmfaaobaaGreatWr4
namespace Go.Proofs.YtffafkmmfaaobaaGreat
set_option linter.unusedSimpArgs false
set_option linter.unusedVariables false
open Go.RowKit

/-- What is asked of a call that tells a Did: blocks of G alone turn, P holds behind it. -/
def Does (G : Nat → Prop) (P : World → Prop) (f : FuncId) (args : Array Value) (d0 d1 d2 d3 : Int) (w : World) : Prop :=
  ∀ w0, Kept No w w0 → Calls Tryz.prog f args w0 fun e w' => e = .returned (didV d0 d1 d2 d3) ∧ Kept G w0 w' ∧ P w'

theorem TUp.and {A B : World → Prop} (hA : TUp A) (hB : TUp B) : TUp fun w => A w ∧ B w := fun R w w' hR hk h => ⟨hA R w w' hR hk h.1, hB R w w' hR hk h.2⟩
theorem TUp.store {s g : Nat} {ws : List Int} {k a o n m : Int} : TUp fun w => StoreIs 187 w s g ws k a o n m := fun R w w' hR hk h =>
  ⟨hk.at h.obj fun hr => by obtain ⟨cs, hc⟩ := hR _ hr; exact type_ne' hc h.obj (by decide) rfl, hk.at h.row fun hr => by obtain ⟨cs, hc⟩ := hR _ hr; exact type_ne' hc h.row (by decide) rfl⟩
theorem TUp.block {b : Nat} {cs : Array Value} {ty : TypeId} (hty : ty ≠ 45) : TUp fun w => w.heap[b]? = some (.cells cs ty (0, 0)) := fun R w w' hR hk h =>
  hk.at h fun hr => by obtain ⟨c2, hc⟩ := hR _ hr; exact type_ne' hc h (Ne.symm hty) rfl
theorem TUp.ex {α : Type} {A : α → World → Prop} (hA : ∀ x, TUp (A x)) : TUp fun w => ∃ x, A x w := fun R w w' hR hk ⟨x, h⟩ => ⟨x, hA x R w w' hR hk h⟩
theorem TUp.pure {A : Prop} : TUp fun _ => A := fun _ _ _ _ _ h => h

theorem call_close {P : World → Prop} {G : Nat → Prop} (hUp : TUp P) {w w2 w4 : World} {r : Nat} (K2 : Kept No w w2) (K4 : Kept G w2 w4) (hP : P w4)
    {z0 z1 z2 z3 : Value} (r4 : w4.heap[r]? = some (.cells #[z0, z1, z2, z3] 45 (0, 0))) (hr : w.heap.size = r) (v0 v1 v2 v3 : Value) :
    Kept G w ((((w4.setCell ⟨r, 0, none⟩ v0).setCell ⟨r, 1, none⟩ v1).setCell ⟨r, 2, none⟩ v2).setCell ⟨r, 3, none⟩ v3) ∧
      P ((((w4.setCell ⟨r, 0, none⟩ v0).setCell ⟨r, 1, none⟩ v1).setCell ⟨r, 2, none⟩ v2).setCell ⟨r, 3, none⟩ v3) := by
  have K5 : Kept (fun k => k = r) w4 ((((w4.setCell ⟨r, 0, none⟩ v0).setCell ⟨r, 1, none⟩ v1).setCell ⟨r, 2, none⟩ v2).setCell ⟨r, 3, none⟩ v3) :=
    ((((Kept.refl (fun k => k = r) w4).setCell (p := ⟨r, 0, none⟩) (.inl rfl) v0).setCell (p := ⟨r, 1, none⟩) (.inl rfl) v1).setCell (p := ⟨r, 2, none⟩) (.inl rfl) v2).setCell (p := ⟨r, 3, none⟩) (.inl rfl) v3
  exact ⟨Kept.trans (Kept.trans (K2.mono (fun k h => h.elim)) K4 (fun k h => .inl h)) K5 (fun k h => .inr (by omega)), hUp _ _ _ (fun k hk => by subst hk; exact ⟨_, r4⟩) K5 hP⟩

section
variable {w : World} {a s g : Nat} {p t : Int} {qv : Value} {ws : List Int} {k o n' o' m : Int} {F : Nat → Prop} {T : World → Prop} {C : FuncId} {cap : Array Value}

set_option maxRecDepth 100000 in
set_option maxHeartbeats 1000000 in
theorem layoutOf_any (hA : ArenaAt w a p t s qv) :
    Calls Tryz.prog 77 #[.pointer (some ⟨a, 0, none⟩)] w fun e w' => e = .returned (.agg #[.int .i64 p, .int .i64 t]) ∧ Below w.heap.size w w' := by
  have c0 : w.cell? ⟨a, 0, none⟩ = some (.int .i64 p) := cellOf hA 0
  have c1 : w.cell? ⟨a, 1, none⟩ = some (.int .i64 t) := cellOf hA 1
  have la : a < w.heap.size := lt_of_block hA
  clear hA
  go_enter Tryz.func77, Tryz.ntmps77
  go_wp2
  refine bodyPost_ret (v := .agg #[.int .i64 p, .int .i64 t]) (by simp [results, Tryz.results77, go_sem]) rfl ⟨rfl, ?_⟩
  repeat (first | exact Below.refl _ _ | refine Below.setCell ?_ (Nat.le_refl _) _ | refine Below.alloc ?_ (Nat.le_refl _) _)

set_option maxRecDepth 100000 in
set_option maxHeartbeats 4000000 in
theorem deskStep_any (mm : Nat) (rest : List Value) (ty : TypeId) (hM : MachIs w mm p t (.func (.func C) #[] cap) rest ty) (hA : ArenaAt w a p t s qv) {G : Nat → Prop} {P : World → Prop} {d0 d1 d2 d3 : Int}
    (hen : ∀ args W, (callFunc C args).run Tryz.prog W = .ok (.enter C args) W) (hUp : TUp P) (hG : ∀ k, G k → k < w.heap.size)
    (hC : Does G P C (#[.pointer (some ⟨a, 0, none⟩)] ++ cap) d0 d1 d2 d3 w) :
    Calls Tryz.prog 75 #[.pointer (some ⟨mm, 0, none⟩), .pointer (some ⟨a, 0, none⟩)] w fun e w' => e = .returned (didV d0 d1 d2 d3) ∧ Kept G w w' ∧ P w' := by
  have c2 : w.cell? ⟨mm, 2, none⟩ = some (.func (.func C) #[] cap) := (cellOf hM 2).trans (by simp)
  have c0 : w.cell? ⟨mm, 0, none⟩ = some (.int .i64 p) := (cellOf hM 0).trans (by simp)
  have c1 : w.cell? ⟨mm, 1, none⟩ = some (.int .i64 t) := (cellOf hM 1).trans (by simp)
  have lm : mm < w.heap.size := lt_of_block hM
  have la : a < w.heap.size := lt_of_block hA
  have q79 : ∀ W : World, (binOp .eql 79 (.func (.func C) #[] cap) .nilFunc).run Tryz.prog W = .ok (.bool false) W := fun _ => rfl
  have HA := Lib.hid hA
  have HM := Lib.hid hM
  have HC := Lib.hid hC
  clear hA hM hC
  go_enter Tryz.func75, Tryz.ntmps75
  go_wp2_with fail
  have r0 : (w.alloc (.cells #[.int .i64 0, .int .i64 0, .int .u64 0, .int .u64 0] 45)).heap[w.heap.size]? = some (.cells #[.int .i64 0, .int .i64 0, .int .u64 0, .int .u64 0] 45 (0, 0)) := heap_alloc_new w _
  have K0 : Kept No w (w.alloc (.cells #[.int .i64 0, .int .i64 0, .int .u64 0, .int .u64 0] 45)) := (Kept.refl No w).alloc _
  have z0 : (w.alloc (.cells #[.int .i64 0, .int .i64 0, .int .u64 0, .int .u64 0] 45)).heap.size = w.heap.size + 1 := by simp
  generalize w.alloc (.cells #[.int .i64 0, .int .i64 0, .int .u64 0, .int .u64 0] 45) = w0 at r0 K0 z0 ⊢
  generalize hr : w.heap.size = r at r0 ⊢
  have hS0 : w0.drew.cell? ⟨mm, 2, none⟩ = some (.func (.func C) #[] cap) ∧ w0.drew.cell? ⟨mm, 0, none⟩ = some (.int .i64 p) ∧ w0.drew.cell? ⟨mm, 1, none⟩ = some (.int .i64 t) :=
    ⟨(K0.cell lm (fun h => h)).trans c2, (K0.cell lm (fun h => h)).trans c0, (K0.cell lm (fun h => h)).trans c1⟩
  have HL := Lib.hid (layoutOf_any (w := w0.drew) (K0.at HA.out (fun h => h)))
  replace r0 := Lib.hid r0
  have lm0 : mm < w0.heap.size := by omega
  go_region_held3 (fun W => W.cell? ⟨mm, 2, none⟩ = some (.func (.func C) #[] cap) ∧ W.cell? ⟨mm, 0, none⟩ = some (.int .i64 p) ∧ W.cell? ⟨mm, 1, none⟩ = some (.int .i64 t))
    (first
      | with_reducible exact hS0
      | with_reducible exact hS2)
    (first
      | (go_at_call 77; refine HL.out.mono ?_; rintro e w2 ⟨rfl, hB⟩; have hS2 : w2.cell? ⟨mm, 2, none⟩ = some (.func (.func C) #[] cap) ∧ w2.cell? ⟨mm, 0, none⟩ = some (.int .i64 p) ∧ w2.cell? ⟨mm, 1, none⟩ = some (.int .i64 t) := ⟨(hB.cell (p := ⟨mm, 2, none⟩) lm0).trans hS0.1, (hB.cell (p := ⟨mm, 0, none⟩) lm0).trans hS0.2.1, (hB.cell (p := ⟨mm, 1, none⟩) lm0).trans hS0.2.2⟩))
  have K2 : Kept No w w2 := K0.drew.trans (Kept.of_below_size hB) (fun _ h => h.elim)
  have HK := Lib.hid (HC.out w2 K2)
  have r2 := Lib.hid ((hB.block r (lt_of_block r0.out)).trans r0.out)
  have hnr : ¬ G r := fun h => by have := hG r h; omega
  have e2 := hS2.1
  clear hB hS0 HL
  go_wp2_with (first
    | (refine HK.out.mono ?_; rintro e w4 ⟨rfl, hKG, hPP⟩; have r4 := hKG.at r2.out hnr; have g0 := cellOf r4 0; have g1 := cellOf r4 1; have g2 := cellOf r4 2; have g3 := cellOf r4 3; simp only [List.getElem?_toArray, List.getElem?_cons_zero, List.getElem?_cons_succ] at g0 g1 g2 g3; have f0 := freeOf r4 0; have f1 := freeOf r4 1; have f2 := freeOf r4 2; have f3 := freeOf r4 3; replace r4 := Lib.hid r4; replace hKG := Lib.hid hKG; replace hPP := Lib.hid hPP; simp only [didV]))
  have hX := call_close hUp K2 hKG.out hPP.out r4.out hr (.int .i64 d0) (.int .i64 d1) (.int .u64 d2) (.int .u64 d3)
  exact bodyPost_ret (v := didV d0 d1 d2 d3) (by simp [results, Tryz.results75, go_sem, didV, g0, g1, g2, g3]) rfl ⟨rfl, hX⟩

set_option maxRecDepth 100000 in
set_option maxHeartbeats 4000000 in
theorem enterStep_any (mm : Nat) {G : Nat → Prop} {P : World → Prop} {d0 d1 d2 d3 : Int} (hUp : TUp P) (hG : ∀ k, G k → k < w.heap.size)
    (hC : Does G P 75 #[.pointer (some ⟨mm, 0, none⟩), .pointer (some ⟨a, 0, none⟩)] d0 d1 d2 d3 w) :
    Calls Tryz.prog 57 #[.pointer (some ⟨mm, 0, none⟩), .pointer (some ⟨a, 0, none⟩)] w fun e w' => e = .returned (didV d0 d1 d2 d3) ∧ Kept G w w' ∧ P w' := by
  have HC := Lib.hid hC
  clear hC
  go_enter Tryz.func57, Tryz.ntmps57
  go_wp2_with fail
  have r0 : (w.alloc (.cells #[.int .i64 0, .int .i64 0, .int .u64 0, .int .u64 0] 45)).heap[w.heap.size]? = some (.cells #[.int .i64 0, .int .i64 0, .int .u64 0, .int .u64 0] 45 (0, 0)) := heap_alloc_new w _
  have K0 : Kept No w (w.alloc (.cells #[.int .i64 0, .int .i64 0, .int .u64 0, .int .u64 0] 45)) := (Kept.refl No w).alloc _
  generalize w.alloc (.cells #[.int .i64 0, .int .i64 0, .int .u64 0, .int .u64 0] 45) = w2 at r0 K0 ⊢
  generalize hr : w.heap.size = r at r0 ⊢
  have HK := Lib.hid (HC.out w2 K0)
  have r2 := Lib.hid r0
  have hnr : ¬ G r := fun h => by have := hG r h; omega
  clear r0
  go_wp2_with (first
    | (go_at_call 75; refine HK.out.mono ?_; rintro e w4 ⟨rfl, hKG, hPP⟩; have r4 := hKG.at r2.out hnr; have g0 := cellOf r4 0; have g1 := cellOf r4 1; have g2 := cellOf r4 2; have g3 := cellOf r4 3; simp only [List.getElem?_toArray, List.getElem?_cons_zero, List.getElem?_cons_succ] at g0 g1 g2 g3; have f0 := freeOf r4 0; have f1 := freeOf r4 1; have f2 := freeOf r4 2; have f3 := freeOf r4 3; replace r4 := Lib.hid r4; replace hKG := Lib.hid hKG; replace hPP := Lib.hid hPP; simp only [didV]))
  have hX := call_close hUp K0 hKG.out hPP.out r4.out hr (.int .i64 d0) (.int .i64 d1) (.int .u64 d2) (.int .u64 d3)
  exact bodyPost_ret (v := didV d0 d1 d2 d3) (by simp [results, Tryz.results57, go_sem, didV, g0, g1, g2, g3]) rfl ⟨rfl, hX⟩

set_option maxRecDepth 100000 in
set_option maxHeartbeats 4000000 in
theorem exitStep_any (mm : Nat) {G : Nat → Prop} {P : World → Prop} {d0 d1 d2 d3 : Int} (hUp : TUp P) (hG : ∀ k, G k → k < w.heap.size)
    (hC : Does G P 75 #[.pointer (some ⟨mm, 0, none⟩), .pointer (some ⟨a, 0, none⟩)] d0 d1 d2 d3 w) :
    Calls Tryz.prog 60 #[.pointer (some ⟨mm, 0, none⟩), .pointer (some ⟨a, 0, none⟩)] w fun e w' => e = .returned (didV d0 d1 d2 d3) ∧ Kept G w w' ∧ P w' := by
  have HC := Lib.hid hC
  clear hC
  go_enter Tryz.func60, Tryz.ntmps60
  go_wp2_with fail
  have r0 : (w.alloc (.cells #[.int .i64 0, .int .i64 0, .int .u64 0, .int .u64 0] 45)).heap[w.heap.size]? = some (.cells #[.int .i64 0, .int .i64 0, .int .u64 0, .int .u64 0] 45 (0, 0)) := heap_alloc_new w _
  have K0 : Kept No w (w.alloc (.cells #[.int .i64 0, .int .i64 0, .int .u64 0, .int .u64 0] 45)) := (Kept.refl No w).alloc _
  generalize w.alloc (.cells #[.int .i64 0, .int .i64 0, .int .u64 0, .int .u64 0] 45) = w2 at r0 K0 ⊢
  generalize hr : w.heap.size = r at r0 ⊢
  have HK := Lib.hid (HC.out w2 K0)
  have r2 := Lib.hid r0
  have hnr : ¬ G r := fun h => by have := hG r h; omega
  clear r0
  go_wp2_with (first
    | (go_at_call 75; refine HK.out.mono ?_; rintro e w4 ⟨rfl, hKG, hPP⟩; have r4 := hKG.at r2.out hnr; have g0 := cellOf r4 0; have g1 := cellOf r4 1; have g2 := cellOf r4 2; have g3 := cellOf r4 3; simp only [List.getElem?_toArray, List.getElem?_cons_zero, List.getElem?_cons_succ] at g0 g1 g2 g3; have f0 := freeOf r4 0; have f1 := freeOf r4 1; have f2 := freeOf r4 2; have f3 := freeOf r4 3; replace r4 := Lib.hid r4; replace hKG := Lib.hid hKG; replace hPP := Lib.hid hPP; simp only [didV]))
  have hX := call_close hUp K0 hKG.out hPP.out r4.out hr (.int .i64 d0) (.int .i64 d1) (.int .u64 d2) (.int .u64 d3)
  exact bodyPost_ret (v := didV d0 d1 d2 d3) (by simp [results, Tryz.results60, go_sem, didV, g0, g1, g2, g3]) rfl ⟨rfl, hX⟩

set_option maxRecDepth 100000 in
set_option maxHeartbeats 4000000 in
theorem stopStep_any (mm : Nat) {G : Nat → Prop} {P : World → Prop} {d0 d1 d2 d3 : Int} (hUp : TUp P) (hG : ∀ k, G k → k < w.heap.size)
    (hC : Does G P 75 #[.pointer (some ⟨mm, 0, none⟩), .pointer (some ⟨a, 0, none⟩)] d0 d1 d2 d3 w) :
    Calls Tryz.prog 62 #[.pointer (some ⟨mm, 0, none⟩), .pointer (some ⟨a, 0, none⟩)] w fun e w' => e = .returned (didV d0 d1 d2 d3) ∧ Kept G w w' ∧ P w' := by
  have HC := Lib.hid hC
  clear hC
  go_enter Tryz.func62, Tryz.ntmps62
  go_wp2_with fail
  have r0 : (w.alloc (.cells #[.int .i64 0, .int .i64 0, .int .u64 0, .int .u64 0] 45)).heap[w.heap.size]? = some (.cells #[.int .i64 0, .int .i64 0, .int .u64 0, .int .u64 0] 45 (0, 0)) := heap_alloc_new w _
  have K0 : Kept No w (w.alloc (.cells #[.int .i64 0, .int .i64 0, .int .u64 0, .int .u64 0] 45)) := (Kept.refl No w).alloc _
  generalize w.alloc (.cells #[.int .i64 0, .int .i64 0, .int .u64 0, .int .u64 0] 45) = w2 at r0 K0 ⊢
  generalize hr : w.heap.size = r at r0 ⊢
  have HK := Lib.hid (HC.out w2 K0)
  have r2 := Lib.hid r0
  have hnr : ¬ G r := fun h => by have := hG r h; omega
  clear r0
  go_wp2_with (first
    | (go_at_call 75; refine HK.out.mono ?_; rintro e w4 ⟨rfl, hKG, hPP⟩; have r4 := hKG.at r2.out hnr; have g0 := cellOf r4 0; have g1 := cellOf r4 1; have g2 := cellOf r4 2; have g3 := cellOf r4 3; simp only [List.getElem?_toArray, List.getElem?_cons_zero, List.getElem?_cons_succ] at g0 g1 g2 g3; have f0 := freeOf r4 0; have f1 := freeOf r4 1; have f2 := freeOf r4 2; have f3 := freeOf r4 3; replace r4 := Lib.hid r4; replace hKG := Lib.hid hKG; replace hPP := Lib.hid hPP; simp only [didV]))
  have hX := call_close hUp K0 hKG.out hPP.out r4.out hr (.int .i64 d0) (.int .i64 d1) (.int .u64 d2) (.int .u64 d3)
  exact bodyPost_ret (v := didV d0 d1 d2 d3) (by simp [results, Tryz.results62, go_sem, didV, g0, g1, g2, g3]) rfl ⟨rfl, hX⟩

set_option maxRecDepth 100000 in
set_option maxHeartbeats 4000000 in
theorem goStep_any (mm : Nat) {G : Nat → Prop} {P : World → Prop} {d0 d1 d2 d3 : Int} (hUp : TUp P) (hG : ∀ k, G k → k < w.heap.size)
    (hC : Does G P 75 #[.pointer (some ⟨mm, 0, none⟩), .pointer (some ⟨a, 0, none⟩)] d0 d1 d2 d3 w) :
    Calls Tryz.prog 65 #[.pointer (some ⟨mm, 0, none⟩), .pointer (some ⟨a, 0, none⟩)] w fun e w' => e = .returned (didV d0 d1 d2 d3) ∧ Kept G w w' ∧ P w' := by
  have HC := Lib.hid hC
  clear hC
  go_enter Tryz.func65, Tryz.ntmps65
  go_wp2_with fail
  have r0 : (w.alloc (.cells #[.int .i64 0, .int .i64 0, .int .u64 0, .int .u64 0] 45)).heap[w.heap.size]? = some (.cells #[.int .i64 0, .int .i64 0, .int .u64 0, .int .u64 0] 45 (0, 0)) := heap_alloc_new w _
  have K0 : Kept No w (w.alloc (.cells #[.int .i64 0, .int .i64 0, .int .u64 0, .int .u64 0] 45)) := (Kept.refl No w).alloc _
  generalize w.alloc (.cells #[.int .i64 0, .int .i64 0, .int .u64 0, .int .u64 0] 45) = w2 at r0 K0 ⊢
  generalize hr : w.heap.size = r at r0 ⊢
  have HK := Lib.hid (HC.out w2 K0)
  have r2 := Lib.hid r0
  have hnr : ¬ G r := fun h => by have := hG r h; omega
  clear r0
  go_wp2_with (first
    | (go_at_call 75; refine HK.out.mono ?_; rintro e w4 ⟨rfl, hKG, hPP⟩; have r4 := hKG.at r2.out hnr; have g0 := cellOf r4 0; have g1 := cellOf r4 1; have g2 := cellOf r4 2; have g3 := cellOf r4 3; simp only [List.getElem?_toArray, List.getElem?_cons_zero, List.getElem?_cons_succ] at g0 g1 g2 g3; have f0 := freeOf r4 0; have f1 := freeOf r4 1; have f2 := freeOf r4 2; have f3 := freeOf r4 3; replace r4 := Lib.hid r4; replace hKG := Lib.hid hKG; replace hPP := Lib.hid hPP; simp only [didV]))
  have hX := call_close hUp K0 hKG.out hPP.out r4.out hr (.int .i64 d0) (.int .i64 d1) (.int .u64 d2) (.int .u64 d3)
  exact bodyPost_ret (v := didV d0 d1 d2 d3) (by simp [results, Tryz.results65, go_sem, didV, g0, g1, g2, g3]) rfl ⟨rfl, hX⟩
end
end Go.Proofs.YtffafkmmfaaobaaGreat

namespace Go.Proofs.YtffafkmmfaaobaaGreat
set_option linter.unusedSimpArgs false
set_option linter.unusedVariables false
open Go.RowKit

theorem TUp.next {nv : Value} {K : FuncId} {fs cap : Array Value} {x : Nx} : TUp fun w => NextIs w nv K fs cap x := fun R w w' hR hk h =>
  h.kept hk fun b v ty hb hty hr => by
    obtain ⟨cs, hc⟩ := hR _ hr
    exact type_ne' hc hb (by rcases hty with rfl | rfl | rfl | rfl | rfl <;> decide) rfl

/-- Where a machine that begins a call stands. -/
inductive EP where
  | begin | world | gen | back | wait | done
def EP.nx : EP → Option (Nx × FuncId)
  | .begin => some (.add 4 1, 156)
  | .world => some (.load 1, 157)
  | .gen => some (.load 0, 160)
  | .back => some (.add 4 18446744073709551615, 158)
  | .wait => some (.load 1, 222)
  | .done => none

def NvAt (w : World) (nv : Value) (bm : Nat) (o : Option (Nx × FuncId)) : Prop :=
  match o with
  | none => nv = .nilFunc
  | some (x, K) => NextIs w nv K #[] #[.pointer (some ⟨bm, 0, none⟩)] x

def EnterAt (w : World) (m : Nat) (p t : Int) (pt : EP) (gen : Int) : Prop :=
  ∃ nv bm, MachIs w m p t nv [.int .i64 gen] 160 ∧ OneAt w bm (.pointer (some ⟨m, 0, none⟩)) 48 ∧ NvAt w nv bm pt.nx

/-- Where it stands next, told a word. -/
def EP.step (pt : EP) (u : Int) : EP :=
  match pt with
  | .begin => .world
  | .world => if u = 0 then .gen else .back
  | .gen => .done
  | .back => .wait
  | .wait => if u = 0 then .begin else .wait
  | .done => .done

section
variable {w : World} {m bm : Nat} {p t : Int} {nv : Value} {rest : List Value} {gen : Int}

set_option maxRecDepth 100000 in
set_option maxHeartbeats 1000000 in
theorem c156_any (hM : MachIs w m p t nv [.int .i64 gen] 160) (hb : OneAt w bm (.pointer (some ⟨m, 0, none⟩)) 48) (u : Int) :
    Calls Tryz.prog 156 #[.int .u64 u, .pointer (some ⟨bm, 0, none⟩)] w fun e w' => e = .returned (.tuple #[]) ∧ Kept (fun k => k = m) w w' ∧ EnterAt w' m p t .world gen := by
  have c0 := hb.cell
  have hbm : bm ≠ m := type_ne' hb hM (by decide)
  have HL := Lib.hid (laid_load hM 1 157 #[] #[.pointer (some ⟨bm, 0, none⟩)])
  have Hb := Lib.hid hb
  clear hM hb
  go_enter Tryz.func156, Tryz.ntmps156
  go_wp2_with (go_at_call 112; refine HL.out.mono ?_; rintro e w2 ⟨rfl, nv2, hM2, hN2, hK2⟩)
  go_end0
  exact ⟨rfl, hK2, nv2, bm, hM2, Hb.out.kept hK2 hbm, hN2⟩

set_option maxRecDepth 100000 in
set_option maxHeartbeats 1000000 in
theorem c157_any (hM : MachIs w m p t nv [.int .i64 gen] 160) (hb : OneAt w bm (.pointer (some ⟨m, 0, none⟩)) 48) (u : Int) :
    Calls Tryz.prog 157 #[.int .u64 u, .pointer (some ⟨bm, 0, none⟩)] w fun e w' => e = .returned (.tuple #[]) ∧ Kept (fun k => k = m) w w' ∧ EnterAt w' m p t (EP.step .world u) gen := by
  have c0 := hb.cell
  have hbm : bm ≠ m := type_ne' hb hM (by decide)
  have HL := Lib.hid (laid_load hM 0 160 #[] #[.pointer (some ⟨bm, 0, none⟩)])
  have HA := Lib.hid (laid_add hM 4 18446744073709551615 158 #[] #[.pointer (some ⟨bm, 0, none⟩)])
  have Hb := Lib.hid hb
  clear hM hb
  by_cases hu : u = 0
  · subst hu
    go_enter Tryz.func157, Tryz.ntmps157
    go_wp2_with (go_at_call 112; refine HL.out.mono ?_; rintro e w2 ⟨rfl, nv2, hM2, hN2, hK2⟩)
    go_end0
    exact ⟨rfl, hK2, nv2, bm, hM2, Hb.out.kept hK2 hbm, hN2⟩
  · have hu' : (u != 0) = true := by simpa using hu
    rw [show EP.step .world u = .back from if_neg hu]
    clear hu
    go_enter Tryz.func157, Tryz.ntmps157
    go_wp2_with (go_at_call 106; refine HA.out.mono ?_; rintro e w2 ⟨rfl, nv2, hM2, hN2, hK2⟩)
    first
      | go_end0
      | refine bodyPost_ret (v := .tuple #[]) (by simp [results, Tryz.results157, go_sem]) rfl ?_
    exact ⟨rfl, hK2, nv2, bm, hM2, Hb.out.kept hK2 hbm, hN2⟩

/-- A variable laid anew: the machine in the world behind it. -/
theorem mach_alloc (hM : MachIs w m p t nv rest 160) (o : Obj) : MachIs (w.alloc o) m p t nv rest 160 := block_alloc hM o

set_option maxRecDepth 100000 in
set_option maxHeartbeats 1000000 in
theorem wait_any (hM : MachIs w m p t nv [.int .i64 gen] 160) :
    Calls Tryz.prog 159 #[.pointer (some ⟨m, 0, none⟩)] w fun e w' => e = .returned (.tuple #[]) ∧ Kept (fun k => k = m) w w' ∧ EnterAt w' m p t .wait gen := by
  have lm : m < w.heap.size := lt_of_block hM
  have hM1 := mach_alloc hM (.cells #[.pointer (some ⟨m, 0, none⟩)] 48)
  have hb : OneAt (w.alloc (.cells #[.pointer (some ⟨m, 0, none⟩)] 48)) w.heap.size (.pointer (some ⟨m, 0, none⟩)) 48 := heap_alloc_new w _
  have hK1 : Kept (fun k => k = m) w (w.alloc (.cells #[.pointer (some ⟨m, 0, none⟩)] 48)) := (Kept.refl _ w).alloc _
  have HL := Lib.hid (laid_load hM1 1 222 #[] #[.pointer (some ⟨w.heap.size, 0, none⟩)])
  have Hb := Lib.hid hb
  have HK := Lib.hid hK1
  clear hM hM1 hb hK1
  go_enter Tryz.func159, Tryz.ntmps159
  go_wp2_with (go_at_call 112; refine HL.out.mono ?_; rintro e w2 ⟨rfl, nv2, hM2, hN2, hK2⟩)
  go_end0
  exact ⟨rfl, HK.out.trans hK2 (fun _ h => .inl h), nv2, w.heap.size, hM2, Hb.out.kept hK2 (by omega), hN2⟩

set_option maxRecDepth 100000 in
set_option maxHeartbeats 1000000 in
theorem begin_any (hM : MachIs w m p t nv [.int .i64 gen] 160) :
    Calls Tryz.prog 105 #[.pointer (some ⟨m, 0, none⟩)] w fun e w' => e = .returned (.tuple #[]) ∧ Kept (fun k => k = m) w w' ∧ EnterAt w' m p t .begin gen := by
  have lm : m < w.heap.size := lt_of_block hM
  have hM1 := mach_alloc hM (.cells #[.pointer (some ⟨m, 0, none⟩)] 48)
  have hb : OneAt (w.alloc (.cells #[.pointer (some ⟨m, 0, none⟩)] 48)) w.heap.size (.pointer (some ⟨m, 0, none⟩)) 48 := heap_alloc_new w _
  have hK1 : Kept (fun k => k = m) w (w.alloc (.cells #[.pointer (some ⟨m, 0, none⟩)] 48)) := (Kept.refl _ w).alloc _
  have HL := Lib.hid (laid_add hM1 4 1 156 #[] #[.pointer (some ⟨w.heap.size, 0, none⟩)])
  have Hb := Lib.hid hb
  have HK := Lib.hid hK1
  clear hM hM1 hb hK1
  go_enter Tryz.func105, Tryz.ntmps105
  go_wp2_with (go_at_call 106; refine HL.out.mono ?_; rintro e w2 ⟨rfl, nv2, hM2, hN2, hK2⟩)
  go_end0
  exact ⟨rfl, HK.out.trans hK2 (fun _ h => .inl h), nv2, w.heap.size, hM2, Hb.out.kept hK2 (by omega), hN2⟩

set_option maxRecDepth 100000 in
set_option maxHeartbeats 1000000 in
theorem c158_any (hM : MachIs w m p t nv [.int .i64 gen] 160) (hb : OneAt w bm (.pointer (some ⟨m, 0, none⟩)) 48) (u : Int) :
    Calls Tryz.prog 158 #[.int .u64 u, .pointer (some ⟨bm, 0, none⟩)] w fun e w' => e = .returned (.tuple #[]) ∧ Kept (fun k => k = m) w w' ∧ EnterAt w' m p t .wait gen := by
  have c0 := hb.cell
  have HW := Lib.hid (wait_any hM)
  clear hM hb
  go_enter Tryz.func158, Tryz.ntmps158
  go_wp2_with (go_at_call 159; refine HW.out.mono ?_; rintro e w2 ⟨rfl, hK2, hE⟩; replace hE := Lib.hid hE)
  go_end0
  exact ⟨rfl, hK2, hE.out⟩

set_option maxRecDepth 100000 in
set_option maxHeartbeats 1000000 in
theorem c222_any (hM : MachIs w m p t nv [.int .i64 gen] 160) (hb : OneAt w bm (.pointer (some ⟨m, 0, none⟩)) 48) (hN : NextIs w nv 222 #[] #[.pointer (some ⟨bm, 0, none⟩)] (.load 1)) (u : Int) :
    Calls Tryz.prog 222 #[.int .u64 u, .pointer (some ⟨bm, 0, none⟩)] w fun e w' => e = .returned (.tuple #[]) ∧ Kept (fun k => k = m) w w' ∧ EnterAt w' m p t (EP.step .wait u) gen := by
  have c0 := hb.cell
  have HW := Lib.hid (begin_any hM)
  have HE : Hid (EnterAt w m p t .wait gen) := Lib.hid ⟨nv, bm, hM, hb, hN⟩
  clear hM hb hN
  by_cases hu : u = 0
  · subst hu
    go_enter Tryz.func222, Tryz.ntmps222
    go_wp2_with (go_at_call 105; refine HW.out.mono ?_; rintro e w2 ⟨rfl, hK2, hE⟩; replace hE := Lib.hid hE)
    go_end0
    exact ⟨rfl, hK2, hE.out⟩
  · have hu' : (u == 0) = false := by simpa using hu
    rw [show EP.step .wait u = .wait from if_neg hu]
    clear hu
    go_enter Tryz.func222, Tryz.ntmps222
    go_wp2
    go_end0
    exact ⟨rfl, Kept.refl _ _, HE.out⟩

set_option maxRecDepth 100000 in
set_option maxHeartbeats 1000000 in
theorem c160_any (hM : MachIs w m p t nv [.int .i64 gen] 160) (hb : OneAt w bm (.pointer (some ⟨m, 0, none⟩)) 48) (u : Int) :
    Calls Tryz.prog 160 #[.int .u64 u, .pointer (some ⟨bm, 0, none⟩)] w fun e w' => e = .returned (.tuple #[]) ∧ Kept (fun k => k = m) w w' ∧ EnterAt w' m p t .done (wrap64 u) := by
  have c0 := hb.cell
  have hbm : bm ≠ m := type_ne' hb hM (by decide)
  have c3 : w.cell? ⟨m, 3, none⟩ = some (.int .i64 gen) := (cellOf hM 3).trans (by simp)
  have c2 : w.cell? ⟨m, 2, none⟩ = some nv := (cellOf hM 2).trans (by simp)
  have f3 : w.frozen? ⟨m, 3, none⟩ = false := freeOf hM 3
  have f2 : w.frozen? ⟨m, 2, none⟩ = false := freeOf hM 2
  have hW : ∀ w', w' = (w.setCell ⟨m, 3, none⟩ (.int .i64 (wrap64 u))).setCell ⟨m, 2, none⟩ .nilFunc → Kept (fun k => k = m) w w' ∧ EnterAt w' m p t .done (wrap64 u) := by
    rintro w' rfl
    refine ⟨((Kept.refl (fun k => k = m) w).setCell (p := ⟨m, 3, none⟩) (.inl rfl) _).setCell (p := ⟨m, 2, none⟩) (.inl rfl) _, .nilFunc, bm, ?_, ?_, rfl⟩
    · have := block_set (block_set hM 3 (.int .i64 (wrap64 u))) 2 .nilFunc
      simpa [MachIs] using this
    · exact block_set_other (block_set_other hb _ _ hbm) _ _ hbm
  have HW := Lib.hid hW
  clear hW hM hb
  go_enter Tryz.func160, Tryz.ntmps160
  go_wp2
  go_end0
  go_wp2
  go_end0
  exact ⟨rfl, HW.out _ rfl⟩
end
end Go.Proofs.YtffafkmmfaaobaaGreat

namespace Go.Proofs.YtffafkmmfaaobaaGreat
set_option linter.unusedSimpArgs false
set_option linter.unusedVariables false
open Go.RowKit

theorem StoreIs.kept {ty : TypeId} {F : Nat → Prop} {w w' : World} {s g : Nat} {ws : List Int} {k a o n m : Int} (h : StoreIs ty w s g ws k a o n m) (hk : Kept F w w') (hs : ¬ F s) (hg : ¬ F g) : StoreIs ty w' s g ws k a o n m :=
  ⟨hk.at h.obj hs, hk.at h.row hg⟩
theorem NextIs.no {w w' : World} {nv : Value} {K : FuncId} {fs cap : Array Value} {x : Nx} (h : NextIs w nv K fs cap x) (hk : Kept No w w') : NextIs w' nv K fs cap x := h.kept hk (fun _ _ _ _ _ h => h)
theorem MachIs.no {w w' : World} {m : Nat} {p t : Int} {nv : Value} {rest : List Value} {ty : TypeId} (h : MachIs w m p t nv rest ty) (hk : Kept No w w') : MachIs w' m p t nv rest ty := hk.at h (fun h => h)
theorem OneAt.no {w w' : World} {b : Nat} {v : Value} {ty : TypeId} (h : OneAt w b v ty) (hk : Kept No w w') : OneAt w' b v ty := h.kept hk (fun h => h)

theorem enters {f : FuncId} {fn : Func} {c : Code} (hf : Tryz.prog.funcs[f]? = some fn) (hname : (fn.name == "runtime.NumGoroutine") = false) (hb : fn.body = some c) (args : Array Value) (W : World) :
    (callFunc f args).run Tryz.prog W = .ok (.enter f args) W := by
  have h1 : fn.name ≠ "runtime.NumGoroutine" := by simpa using hname
  simp [callFunc, hf, h1, hb]

section
variable {w : World} {a s g : Nat} {p t : Int} {qv : Value} {ws : List Int} {k o n' o' c : Int} {T : World → Prop} {K : FuncId} {fs cap : Array Value}

theorem e166 : ∀ args W, (callFunc 166 args).run Tryz.prog W = .ok (.enter 166 args) W := enters Tryz.func166 (by kernel_rfl) rfl
theorem e169 : ∀ args W, (callFunc 169 args).run Tryz.prog W = .ok (.enter 169 args) W := enters Tryz.func169 (by kernel_rfl) rfl
theorem e164 : ∀ args W, (callFunc 164 args).run Tryz.prog W = .ok (.enter 164 args) W := enters Tryz.func164 (by kernel_rfl) rfl
theorem e161 : ∀ args W, (callFunc 161 args).run Tryz.prog W = .ok (.enter 161 args) W := enters Tryz.func161 (by kernel_rfl) rfl

/-- Behind a machine's step. -/
def MStep (w : World) (s g m : Nat) (ws : List Int) (x : Nx) (c : Int) (T : World → Prop) (e : Ending) (w' : World) : Prop :=
  e = .returned (didV (x.kind (ws.getD x.at 0)) x.at (ws.getD x.at 0) (x.next (ws.getD x.at 0))) ∧ Kept (fun k => SG s g k ∨ k = m) w w' ∧
  StoreIs 187 w' s g (ws.set x.at (x.next (ws.getD x.at 0))) (x.kind (ws.getD x.at 0)) x.at (ws.getD x.at 0) (x.next (ws.getD x.at 0)) (c + 1) ∧ T w'

theorem desk_mach (x : Nx) (m : Nat) (nv : Value) (rest : List Value) (ty : TypeId) (hN : NextIs w nv K fs cap x) (hM : MachIs w m p t nv rest ty) (hA : ArenaAt w a p t s qv) (hS : StoreIs 187 w s g ws k o n' o' c)
    (hlen : ws.length ≠ 1) (hi : x.at < ws.length) (hc : 0 ≤ c ∧ c < 1000000) (hma : m ≠ a) (hms : m ≠ s) (hmg : m ≠ g) (hUp : TUp T)
    (hen : ∀ args W, (callFunc K args).run Tryz.prog W = .ok (.enter K args) W)
    (hT : ∀ w0, Kept No w w0 → Then w0 s g ws x.at x c (fun k => k = m) T K fs cap) :
    Calls Tryz.prog 75 #[.pointer (some ⟨m, 0, none⟩), .pointer (some ⟨a, 0, none⟩)] w (MStep w s g m ws x c T) := by
  have hG : ∀ k, (SG s g k ∨ k = m) → k < w.heap.size := by
    rintro k ((rfl | rfl) | rfl)
    · exact lt_of_block hS.obj
    · exact lt_of_block hS.row
    · exact lt_of_block hM
  have hF : ∀ w0, Kept No w w0 → ∀ k, k = m → k < w0.heap.size ∧ k ≠ a ∧ k ≠ s ∧ k ≠ g := by
    rintro w0 hk _ rfl
    exact ⟨Nat.lt_of_lt_of_le (lt_of_block hM) hk.size, hma, hms, hmg⟩
  have hU2 : ∀ ws' k' i' o1 n1 c1, TUp fun W => StoreIs 187 W s g ws' k' i' o1 n1 c1 ∧ T W := fun _ _ _ _ _ _ => TUp.and TUp.store hUp
  have hsw : ∀ {A B C D : Prop}, (A ∧ B ∧ C ∧ D) → (A ∧ C ∧ B ∧ D) := fun ⟨a, b, c, d⟩ => ⟨a, c, b, d⟩
  cases x with
  | load i =>
    obtain ⟨b1, b2, rfl, h1, h2⟩ := hN
    exact deskStep_any m rest ty hM hA e166 (hU2 _ _ _ _ _ _) hG fun w0 h0 =>
      (step_load i b1 b2 hUp (hA.kept h0 (fun h => h)) (hS.kept h0 (fun h => h) (fun h => h)) hi hc hen (h1.no h0) (h2.no h0) (hF w0 h0) (hT w0 h0)).mono fun e w' h => hsw h
  | put i v =>
    obtain ⟨b1, b2, b3, rfl, h1, h2, h3⟩ := hN
    exact deskStep_any m rest ty hM hA e169 (hU2 _ _ _ _ _ _) hG fun w0 h0 =>
      (step_put i v b1 b2 b3 hUp (hA.kept h0 (fun h => h)) (hS.kept h0 (fun h => h) (fun h => h)) hlen hi hc hen (h1.no h0) (h2.no h0) (h3.no h0) (hF w0 h0) (hT w0 h0)).mono fun e w' h => hsw h
  | add i d =>
    obtain ⟨b1, b2, b3, rfl, h1, h2, h3⟩ := hN
    exact deskStep_any m rest ty hM hA e161 (hU2 _ _ _ _ _ _) hG fun w0 h0 =>
      (step_add i d b1 b2 b3 hUp (hA.kept h0 (fun h => h)) (hS.kept h0 (fun h => h) (fun h => h)) hlen hi hc hen (h1.no h0) (h2.no h0) (h3.no h0) (hF w0 h0) (hT w0 h0)).mono fun e w' h => hsw h
  | cas i o1 n1 =>
    obtain ⟨b1, b2, b3, b4, rfl, h1, h2, h3, h4⟩ := hN
    by_cases hu : ws.getD i 0 = o1
    · exact deskStep_any m rest ty hM hA e164 (hU2 _ _ _ _ _ _) hG fun w0 h0 =>
        (step_cas_won i o1 n1 b1 b2 b3 b4 hUp (hA.kept h0 (fun h => h)) (hS.kept h0 (fun h => h) (fun h => h)) hlen hi hc hen (h1.no h0) (h2.no h0) (h3.no h0) (h4.no h0) hu (hF w0 h0) (hT w0 h0)).mono fun e w' h => hsw h
    · exact deskStep_any m rest ty hM hA e164 (hU2 _ _ _ _ _ _) hG fun w0 h0 =>
        (step_cas_lost i o1 n1 b1 b2 b3 b4 hUp (hA.kept h0 (fun h => h)) (hS.kept h0 (fun h => h) (fun h => h)) hlen hi hc hen (h1.no h0) (h2.no h0) (h3.no h0) (h4.no h0) hu (hF w0 h0) (hT w0 h0)).mono fun e w' h => hsw h
end
end Go.Proofs.YtffafkmmfaaobaaGreat
