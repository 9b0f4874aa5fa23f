/- The closures of a machine's step, called. -/
import Derived.Test.YtffafkmmfaaobaaGreatWr3
namespace Go.Proofs.YtffafkmmfaaobaaGreat
set_option linter.unusedSimpArgs false
set_option linter.unusedVariables false
open Go.RowKit

/-- An arena lies at a, its store at s. -/
def ArenaAt (w : World) (a : Nat) (p t : Int) (s : Nat) (qv : Value) : Prop := w.heap[a]? = some (.cells #[.int .i64 p, .int .i64 t, .pointer (some ⟨s, 0, none⟩), qv] 153 (0, 0))
theorem ArenaAt.kept {F : Nat → Prop} {w w' : World} {a : Nat} {p t : Int} {s : Nat} {qv : Value} (h : ArenaAt w a p t s qv) (hk : Kept F w w') (hn : ¬ F a) : ArenaAt w' a p t s qv := hk.at h hn

set_option maxRecDepth 100000 in
set_option maxHeartbeats 1000000 in
theorem storeOf_any {w : World} {a s : Nat} (h : w.cell? ⟨a, 2, none⟩ = some (.pointer (some ⟨s, 0, none⟩))) :
    Calls Tryz.prog 49 #[.pointer (some ⟨a, 0, none⟩)] w fun e w' => e = .returned (.pointer (some ⟨s, 0, none⟩)) ∧ w = w' := by
  go_enter Tryz.func49, Tryz.ntmps49
  go_wp2
  go_ret
  exact ⟨rfl, rfl⟩

def didV (k a o n : Int) : Value := .agg #[.int .i64 k, .int .i64 a, .int .u64 o, .int .u64 n]

theorem one_ne {w : World} {a b : Nat} {va : Value} {cb : Array Value} {ta tb : TypeId} (ha : OneAt w a va ta) (hb : w.heap[b]? = some (.cells cb tb (0, 0))) (h : cb.size ≠ 1) : a ≠ b := by
  rintro rfl
  rw [OneAt] at ha
  rw [ha] at hb; simp at hb; exact h (by rw [← hb.1]; rfl)

/-- T stands behind a turn of variables of results. -/
def TUp (T : World → Prop) : Prop := ∀ (R : Nat → Prop) (w w' : World), (∀ k, R k → ∃ cs, w.heap[k]? = some (.cells cs 45 (0, 0))) → Kept R w w' → T w → T w'

/-- What a step leaves: the store turned, then what the closure does, then new blocks alone. -/
def StepPost (w : World) (s g : Nat) (ws : List Int) (i : Nat) (x : Nx) (m : Int) (F : Nat → Prop) (T : World → Prop) (e : Ending) (w' : World) : Prop :=
  e = .returned (didV (x.kind (ws.getD i 0)) i (ws.getD i 0) (x.next (ws.getD i 0))) ∧
  StoreIs 187 w' s g (ws.set i (x.next (ws.getD i 0))) (x.kind (ws.getD i 0)) i (ws.getD i 0) (x.next (ws.getD i 0)) (m + 1) ∧
  Kept (fun k => SG s g k ∨ F k) w w' ∧ T w'

/-- What the closure must do. -/
def Then (w : World) (s g : Nat) (ws : List Int) (i : Nat) (x : Nx) (m : Int) (F : Nat → Prop) (T : World → Prop) (K : FuncId) (fs cap : Array Value) : Prop :=
  ∀ w1, Kept (SG s g) w w1 → StoreIs 187 w1 s g (ws.set i (x.next (ws.getD i 0))) (x.kind (ws.getD i 0)) i (ws.getD i 0) (x.next (ws.getD i 0)) (m + 1) →
    Calls Tryz.prog K (fs ++ x.told (ws.getD i 0) ++ cap) w1 fun e w2 => e = .returned (.tuple #[]) ∧ Kept F w1 w2 ∧ T w2

section
variable {w : World} {a s g : Nat} {p t : Int} {qv : Value} {ws : List Int} {k o n' o' m : Int} {F : Nat → Prop} {T : World → Prop} {K : FuncId} {fs cap : Array Value}

theorem step_close (hUp : TUp T) {w w2 w3 w4 : World} {r : Nat} {k' i' o1 n1 m1 : Int} (K2 : Kept (SG s g) w w2) (hKF : Kept F w2 w3) (hTT : T w3)
    {z0 z1 z2 z3 : Value} (r3 : w3.heap[r]? = some (.cells #[z0, z1, z2, z3] 45 (0, 0))) (hB4 : Below w3.heap.size w3 w4)
    (S3 : StoreIs 187 w3 s g ws k' i' o1 n1 m1) (hr : w.heap.size = r) (hrs : s ≠ r) (hrg : g ≠ r) (v0 v1 v2 v3 : Value) :
    StoreIs 187 ((((w4.setCell ⟨r, 0, none⟩ v0).setCell ⟨r, 1, none⟩ v1).setCell ⟨r, 2, none⟩ v2).setCell ⟨r, 3, none⟩ v3) s g ws k' i' o1 n1 m1 ∧
      Kept (fun k => SG s g k ∨ F k) w ((((w4.setCell ⟨r, 0, none⟩ v0).setCell ⟨r, 1, none⟩ v1).setCell ⟨r, 2, none⟩ v2).setCell ⟨r, 3, none⟩ v3) ∧
      T ((((w4.setCell ⟨r, 0, none⟩ v0).setCell ⟨r, 1, none⟩ v1).setCell ⟨r, 2, none⟩ v2).setCell ⟨r, 3, none⟩ v3) := by
  have K34 : Kept (fun k => k = r) w3 w4 := (Kept.of_below_size hB4).mono (fun _ h => h.elim)
  have K4 : Kept (fun k => k = r) w3 ((((w4.setCell ⟨r, 0, none⟩ v0).setCell ⟨r, 1, none⟩ v1).setCell ⟨r, 2, none⟩ v2).setCell ⟨r, 3, none⟩ v3) :=
    (((K34.setCell (p := ⟨r, 0, none⟩) (.inl rfl) v0).setCell (p := ⟨r, 1, none⟩) (.inl rfl) v1).setCell (p := ⟨r, 2, none⟩) (.inl rfl) v2).setCell (p := ⟨r, 3, none⟩) (.inl rfl) v3
  refine ⟨⟨K4.at S3.obj hrs, K4.at S3.row hrg⟩, ?_, hUp _ _ _ (fun k hk => by subst hk; exact ⟨_, r3⟩) K4 hTT⟩
  refine Kept.trans (Kept.trans (K2.mono (fun k h => .inl (.inl h))) hKF (fun k h => .inl (.inr h))) K4 (fun k h => .inr (by omega))

set_option maxRecDepth 100000 in
set_option maxHeartbeats 4000000 in
theorem step_load (i b1 b2 : Nat) (hUp : TUp T) (hA : ArenaAt w a p t s qv) (hS : StoreIs 187 w s g ws k o n' o' m) (h1 : i < ws.length) (hm : 0 ≤ m ∧ m < 1000000)
    (hen : ∀ args W, (callFunc K args).run Tryz.prog W = .ok (.enter K args) W)
    (hb1 : OneAt w b1 (.int .i64 i) 3) (hb2 : OneAt w b2 (.func (.func K) fs cap) 164) (hF : ∀ k, F k → k < w.heap.size ∧ k ≠ a ∧ k ≠ s ∧ k ≠ g) (hT : Then w s g ws i (.load i) m F T K fs cap) :
    Calls Tryz.prog 166 #[.pointer (some ⟨a, 0, none⟩), .pointer (some ⟨b1, 0, none⟩), .pointer (some ⟨b2, 0, none⟩)] w (StepPost w s g ws i (.load i) m F T) := by
  have hT' : ∀ w1, Kept (SG s g) w w1 → StoreIs 187 w1 s g (ws.set i (ws.getD i 0)) 1 i (ws.getD i 0) (ws.getD i 0) (m + 1) →
    Calls Tryz.prog K (fs ++ #[.int .u64 (ws.getD i 0)] ++ cap) w1 fun e w2 => e = .returned (.tuple #[]) ∧ Kept F w1 w2 ∧ T w2 := hT
  have HT := Lib.hid hT'
  show Calls _ _ _ _ fun e w' => e = .returned (didV 1 i (ws.getD i 0) (ws.getD i 0)) ∧ StoreIs 187 w' s g (ws.set i (ws.getD i 0)) 1 i (ws.getD i 0) (ws.getD i 0) (m + 1) ∧ Kept (fun k => SG s g k ∨ F k) w w' ∧ T w'
  have has : a ≠ s := type_ne' hA hS.obj (by decide)
  have hag : a ≠ g := type_ne' hA hS.row (by decide)
  have hbs : b2 ≠ s := type_ne' hb2 hS.obj (by decide)
  have hbg : b2 ≠ g := type_ne' hb2 hS.row (by decide)
  have lr : s < w.heap.size := lt_of_block hS.obj
  have lg : g < w.heap.size := lt_of_block hS.row
  have hb1s : b1 ≠ s := type_ne' hb1 hS.obj (by decide)
  have hb1g : b1 ≠ g := type_ne' hb1 hS.row (by decide)
  have lb1 : b1 < w.heap.size + 1 := Nat.lt_succ_of_lt (lt_of_block hb1)
  have la : a < w.heap.size + 1 := Nat.lt_succ_of_lt (lt_of_block hA)
  have HA := Lib.hid hA
  have HS := Lib.hid hS
  have Hb1 := Lib.hid hb1
  have Hb2 := Lib.hid hb2
  have HF := Lib.hid hF
  clear hT hT' hA hS hb1 hb2 hF
  generalize hu : ws.getD i 0 = u at HT ⊢
  go_enter Tryz.func166, Tryz.ntmps166
  go_wp2_with fail
  have r0 : (w.alloc (.cells #[.int .i64 0, .int .i64 0, .int .u64 0, .int .u64 0] 45)).heap[w.heap.size]? = some (.cells #[.int .i64 0, .int .i64 0, .int .u64 0, .int .u64 0] 45 (0, 0)) := heap_alloc_new w _
  have K0 : Kept No w (w.alloc (.cells #[.int .i64 0, .int .i64 0, .int .u64 0, .int .u64 0] 45)) := (Kept.refl No w).alloc _
  have z0 : (w.alloc (.cells #[.int .i64 0, .int .i64 0, .int .u64 0, .int .u64 0] 45)).heap.size = w.heap.size + 1 := by simp
  rw [← z0] at lb1 la
  generalize w.alloc (.cells #[.int .i64 0, .int .i64 0, .int .u64 0, .int .u64 0] 45) = w0 at r0 K0 z0 lb1 la ⊢
  generalize hr : w.heap.size = r at r0 ⊢
  have hS0 : w0.drew.cell? ⟨b1, 0, none⟩ = some (.int .i64 i) ∧ w0.drew.cell? ⟨a, 2, none⟩ = some (.pointer (some ⟨s, 0, none⟩)) :=
    ⟨(OneAt.kept Hb1.out K0 (fun h => h)).cell, cellOf (ArenaAt.kept HA.out K0 (fun h => h)) 2⟩
  have SS : StoreIs 187 w0.drew s g ws k o n' o' m := ⟨K0.at HS.out.obj (fun h => h), K0.at HS.out.row (fun h => h)⟩
  have HL0 := load_acc SS i h1 hm
  simp only [AccPost, hu] at HL0
  have HL := Lib.hid HL0
  clear HL0
  replace SS := Lib.hid SS
  replace r0 := Lib.hid r0
  go_region_held3 (fun W => W.cell? ⟨b1, 0, none⟩ = some (.int .i64 i) ∧ W.cell? ⟨a, 2, none⟩ = some (.pointer (some ⟨s, 0, none⟩)))
    (first
      | with_reducible exact hS0
      | with_reducible exact hS2)
    (first
      | (go_at_call 49; refine (storeOf_any hS0.2).mono ?_; rintro e w1 ⟨rfl, rfl⟩)
      | (go_at_call 167; refine HL.out.mono ?_; rintro e w2 ⟨rfl, hS1, hK⟩; have hS2 : w2.cell? ⟨b1, 0, none⟩ = some (.int .i64 i) ∧ w2.cell? ⟨a, 2, none⟩ = some (.pointer (some ⟨s, 0, none⟩)) := ⟨(hK.cell lb1 (by simp [SG, hb1s, hb1g])).trans hS0.1, (hK.cell la (by simp [SG, has, hag])).trans hS0.2⟩; replace hS1 := Lib.hid hS1))
  have K2 : Kept (SG s g) w w2 := (K0.drew.mono (fun _ h => h.elim)).trans hK (fun _ h => .inl h)
  have cb2 : w2.cell? ⟨b2, 0, none⟩ = some (.func (.func K) fs cap) := (OneAt.kept Hb2.out K2 (by simp [SG, hbs, hbg])).cell
  have HC := Lib.hid (HT.out w2 K2 hS1.out)
  have hna : ¬ F a := fun h => (HF.out a h).2.1 rfl
  have hns : ¬ F s := fun h => (HF.out s h).2.2.1 rfl
  have hng : ¬ F g := fun h => (HF.out g h).2.2.2 rfl
  have hnr : ¬ F r := fun h => by have := (HF.out r h).1; omega
  have hrs : s ≠ r := by omega
  have hrg : g ≠ r := by omega
  have r2 := Lib.hid (hK.at r0.out (by simp [SG]; omega))
  have la2 : a < w2.heap.size := Nat.lt_of_lt_of_le la hK.size
  clear hK hS0 HL
  go_wp2_with (first
    | (refine HC.out.mono ?_; rintro e w3 ⟨rfl, hKF, hTT⟩; have ca3 : w3.cell? ⟨a, 2, none⟩ = some (.pointer (some ⟨s, 0, none⟩)) := (hKF.cell la2 hna).trans hS2.2; have S3 := Lib.hid (StoreIs.mk (hKF.at hS1.out.obj hns) (hKF.at hS1.out.row hng)); have r3 := Lib.hid (hKF.at r2.out hnr); replace hTT := Lib.hid hTT; replace hKF := Lib.hid hKF)
    | (go_at_call 49; refine (storeOf_any ca3).mono ?_; rintro e w1 ⟨rfl, rfl⟩)
    | (go_at_call 163; refine (last_acc S3.out).mono ?_; rintro e w4 ⟨rfl, hB4⟩; have r4 := (hB4.block r (lt_of_block r3.out)).trans r3.out; have d0 := cellOf r4 0; have d1 := cellOf r4 1; have d2 := cellOf r4 2; have d3 := cellOf r4 3; simp only [List.getElem?_toArray, List.getElem?_cons_zero, List.getElem?_cons_succ] at d0 d1 d2 d3; have f0 := freeOf r4 0; have f1 := freeOf r4 1; have f2 := freeOf r4 2; have f3 := freeOf r4 3; replace r4 := Lib.hid r4; replace hB4 := Lib.hid hB4))
  have hX := step_close hUp K2 hKF.out hTT.out r3.out hB4.out S3.out hr hrs hrg (.int .i64 1) (.int .i64 i) (.int .u64 u) (.int .u64 u)
  exact bodyPost_ret (v := didV 1 i u u) (by simp [results, Tryz.results166, go_sem, didV, d0, d1, d2, d3]) rfl ⟨rfl, hX⟩

set_option maxRecDepth 100000 in
set_option maxHeartbeats 4000000 in
theorem step_put (i : Nat) (v : Int) (b1 b2 b3 : Nat) (hUp : TUp T) (hA : ArenaAt w a p t s qv) (hS : StoreIs 187 w s g ws k o n' o' m) (hlen : ws.length ≠ 1) (h1 : i < ws.length) (hm : 0 ≤ m ∧ m < 1000000)
    (hen : ∀ args W, (callFunc K args).run Tryz.prog W = .ok (.enter K args) W)
    (hb1 : OneAt w b1 (.int .i64 i) 3) (hb2 : OneAt w b2 (.int .u64 v) 33) (hb3 : OneAt w b3 (.func (.func K) fs cap) 1) (hF : ∀ k, F k → k < w.heap.size ∧ k ≠ a ∧ k ≠ s ∧ k ≠ g) (hT : Then w s g ws i (.put i v) m F T K fs cap) :
    Calls Tryz.prog 169 #[.pointer (some ⟨a, 0, none⟩), .pointer (some ⟨b1, 0, none⟩), .pointer (some ⟨b2, 0, none⟩), .pointer (some ⟨b3, 0, none⟩)] w (StepPost w s g ws i (.put i v) m F T) := by
  have hT' : ∀ w1, Kept (SG s g) w w1 → StoreIs 187 w1 s g (ws.set i v) 2 i (ws.getD i 0) v (m + 1) →
    Calls Tryz.prog K (fs ++ cap) w1 fun e w2 => e = .returned (.tuple #[]) ∧ Kept F w1 w2 ∧ T w2 := hT
  have HT := Lib.hid hT'
  show Calls _ _ _ _ fun e w' => e = .returned (didV 2 i (ws.getD i 0) v) ∧ StoreIs 187 w' s g (ws.set i v) 2 i (ws.getD i 0) v (m + 1) ∧ Kept (fun k => SG s g k ∨ F k) w w' ∧ T w'
  have has : a ≠ s := type_ne' hA hS.obj (by decide)
  have hag : a ≠ g := type_ne' hA hS.row (by decide)
  have hbs : b3 ≠ s := type_ne' hb3 hS.obj (by decide)
  have hbg : b3 ≠ g := type_ne' hb3 hS.row (by decide)
  have lr : s < w.heap.size := lt_of_block hS.obj
  have lg : g < w.heap.size := lt_of_block hS.row
  have hb1s : b1 ≠ s := type_ne' hb1 hS.obj (by decide)
  have hb1g : b1 ≠ g := type_ne' hb1 hS.row (by decide)
  have lb1 : b1 < w.heap.size + 1 := Nat.lt_succ_of_lt (lt_of_block hb1)
  have la : a < w.heap.size + 1 := Nat.lt_succ_of_lt (lt_of_block hA)
  have hb2s : b2 ≠ s := type_ne' hb2 hS.obj (by decide)
  have lb2 : b2 < w.heap.size + 1 := Nat.lt_succ_of_lt (lt_of_block hb2)
  have Hb2 := Lib.hid hb2
  have hb2g : b2 ≠ g := one_ne hb2 hS.row (by simpa using hlen)
  have HA := Lib.hid hA
  have HS := Lib.hid hS
  have Hb1 := Lib.hid hb1
  have HbT := Lib.hid hb3
  have HF := Lib.hid hF
  clear hT hT' hA hS hb1 hb2 hb3 hF
  generalize hu : ws.getD i 0 = u at HT ⊢
  go_enter Tryz.func169, Tryz.ntmps169
  go_wp2_with fail
  have r0 : (w.alloc (.cells #[.int .i64 0, .int .i64 0, .int .u64 0, .int .u64 0] 45)).heap[w.heap.size]? = some (.cells #[.int .i64 0, .int .i64 0, .int .u64 0, .int .u64 0] 45 (0, 0)) := heap_alloc_new w _
  have K0 : Kept No w (w.alloc (.cells #[.int .i64 0, .int .i64 0, .int .u64 0, .int .u64 0] 45)) := (Kept.refl No w).alloc _
  have z0 : (w.alloc (.cells #[.int .i64 0, .int .i64 0, .int .u64 0, .int .u64 0] 45)).heap.size = w.heap.size + 1 := by simp
  rw [← z0] at lb1 la lb2
  generalize w.alloc (.cells #[.int .i64 0, .int .i64 0, .int .u64 0, .int .u64 0] 45) = w0 at r0 K0 z0 lb1 la lb2 ⊢
  generalize hr : w.heap.size = r at r0 ⊢
  have hS0 : w0.drew.cell? ⟨b1, 0, none⟩ = some (.int .i64 i) ∧ w0.drew.cell? ⟨a, 2, none⟩ = some (.pointer (some ⟨s, 0, none⟩)) ∧ w0.drew.cell? ⟨b2, 0, none⟩ = some (.int .u64 v) :=
    ⟨(OneAt.kept Hb1.out K0 (fun h => h)).cell, cellOf (ArenaAt.kept HA.out K0 (fun h => h)) 2, (OneAt.kept Hb2.out K0 (fun h => h)).cell⟩
  have SS : StoreIs 187 w0.drew s g ws k o n' o' m := ⟨K0.at HS.out.obj (fun h => h), K0.at HS.out.row (fun h => h)⟩
  have HL0 := put_acc SS v i h1 hm
  simp only [AccPost, hu] at HL0
  have HL := Lib.hid HL0
  clear HL0
  replace SS := Lib.hid SS
  replace r0 := Lib.hid r0
  go_region_held3 (fun W => W.cell? ⟨b1, 0, none⟩ = some (.int .i64 i) ∧ W.cell? ⟨a, 2, none⟩ = some (.pointer (some ⟨s, 0, none⟩)) ∧ W.cell? ⟨b2, 0, none⟩ = some (.int .u64 v))
    (first
      | with_reducible exact hS0
      | with_reducible exact hS2)
    (first
      | (go_at_call 49; refine (storeOf_any hS0.2.1).mono ?_; rintro e w1 ⟨rfl, rfl⟩)
      | (go_at_call 51; refine HL.out.mono ?_; rintro e w2 ⟨rfl, hS1, hK⟩; have hS2 : w2.cell? ⟨b1, 0, none⟩ = some (.int .i64 i) ∧ w2.cell? ⟨a, 2, none⟩ = some (.pointer (some ⟨s, 0, none⟩)) ∧ w2.cell? ⟨b2, 0, none⟩ = some (.int .u64 v) := ⟨(hK.cell lb1 (by simp [SG, hb1s, hb1g])).trans hS0.1, (hK.cell la (by simp [SG, has, hag])).trans hS0.2.1, (hK.cell lb2 (by simp [SG, hb2s, hb2g])).trans hS0.2.2⟩; replace hS1 := Lib.hid hS1))
  have K2 : Kept (SG s g) w w2 := (K0.drew.mono (fun _ h => h.elim)).trans hK (fun _ h => .inl h)
  have cb2 : w2.cell? ⟨b3, 0, none⟩ = some (.func (.func K) fs cap) := (OneAt.kept HbT.out K2 (by simp [SG, hbs, hbg])).cell
  have HC := Lib.hid (HT.out w2 K2 hS1.out)
  have hna : ¬ F a := fun h => (HF.out a h).2.1 rfl
  have hns : ¬ F s := fun h => (HF.out s h).2.2.1 rfl
  have hng : ¬ F g := fun h => (HF.out g h).2.2.2 rfl
  have hnr : ¬ F r := fun h => by have := (HF.out r h).1; omega
  have hrs : s ≠ r := by omega
  have hrg : g ≠ r := by omega
  have r2 := Lib.hid (hK.at r0.out (by simp [SG]; omega))
  have la2 : a < w2.heap.size := Nat.lt_of_lt_of_le la hK.size
  clear hK hS0 HL
  go_wp2_with (first
    | (refine HC.out.mono ?_; rintro e w3 ⟨rfl, hKF, hTT⟩; have ca3 : w3.cell? ⟨a, 2, none⟩ = some (.pointer (some ⟨s, 0, none⟩)) := (hKF.cell la2 hna).trans hS2.2.1; have S3 := Lib.hid (StoreIs.mk (hKF.at hS1.out.obj hns) (hKF.at hS1.out.row hng)); have r3 := Lib.hid (hKF.at r2.out hnr); replace hTT := Lib.hid hTT; replace hKF := Lib.hid hKF)
    | (go_at_call 49; refine (storeOf_any ca3).mono ?_; rintro e w1 ⟨rfl, rfl⟩)
    | (go_at_call 163; refine (last_acc S3.out).mono ?_; rintro e w4 ⟨rfl, hB4⟩; have r4 := (hB4.block r (lt_of_block r3.out)).trans r3.out; have d0 := cellOf r4 0; have d1 := cellOf r4 1; have d2 := cellOf r4 2; have d3 := cellOf r4 3; simp only [List.getElem?_toArray, List.getElem?_cons_zero, List.getElem?_cons_succ] at d0 d1 d2 d3; have f0 := freeOf r4 0; have f1 := freeOf r4 1; have f2 := freeOf r4 2; have f3 := freeOf r4 3; replace r4 := Lib.hid r4; replace hB4 := Lib.hid hB4))
  have hX := step_close hUp K2 hKF.out hTT.out r3.out hB4.out S3.out hr hrs hrg (.int .i64 2) (.int .i64 i) (.int .u64 u) (.int .u64 v)
  exact bodyPost_ret (v := didV 2 i u v) (by simp [results, Tryz.results169, go_sem, didV, d0, d1, d2, d3]) rfl ⟨rfl, hX⟩

set_option maxRecDepth 100000 in
set_option maxHeartbeats 4000000 in
theorem step_add (i : Nat) (d : Int) (b1 b2 b3 : Nat) (hUp : TUp T) (hA : ArenaAt w a p t s qv) (hS : StoreIs 187 w s g ws k o n' o' m) (hlen : ws.length ≠ 1) (h1 : i < ws.length) (hm : 0 ≤ m ∧ m < 1000000)
    (hen : ∀ args W, (callFunc K args).run Tryz.prog W = .ok (.enter K args) W)
    (hb1 : OneAt w b1 (.int .i64 i) 3) (hb2 : OneAt w b2 (.int .u64 d) 33) (hb3 : OneAt w b3 (.func (.func K) fs cap) 164) (hF : ∀ k, F k → k < w.heap.size ∧ k ≠ a ∧ k ≠ s ∧ k ≠ g) (hT : Then w s g ws i (.add i d) m F T K fs cap) :
    Calls Tryz.prog 161 #[.pointer (some ⟨a, 0, none⟩), .pointer (some ⟨b1, 0, none⟩), .pointer (some ⟨b2, 0, none⟩), .pointer (some ⟨b3, 0, none⟩)] w (StepPost w s g ws i (.add i d) m F T) := by
  have hT' : ∀ w1, Kept (SG s g) w w1 → StoreIs 187 w1 s g (ws.set i (IntKind.u64.wrap ((ws.getD i 0) + d))) 5 i (ws.getD i 0) (IntKind.u64.wrap ((ws.getD i 0) + d)) (m + 1) →
    Calls Tryz.prog K (fs ++ #[.int .u64 (ws.getD i 0)] ++ cap) w1 fun e w2 => e = .returned (.tuple #[]) ∧ Kept F w1 w2 ∧ T w2 := hT
  have HT := Lib.hid hT'
  show Calls _ _ _ _ fun e w' => e = .returned (didV 5 i (ws.getD i 0) (IntKind.u64.wrap ((ws.getD i 0) + d))) ∧ StoreIs 187 w' s g (ws.set i (IntKind.u64.wrap ((ws.getD i 0) + d))) 5 i (ws.getD i 0) (IntKind.u64.wrap ((ws.getD i 0) + d)) (m + 1) ∧ Kept (fun k => SG s g k ∨ F k) w w' ∧ T w'
  have has : a ≠ s := type_ne' hA hS.obj (by decide)
  have hag : a ≠ g := type_ne' hA hS.row (by decide)
  have hbs : b3 ≠ s := type_ne' hb3 hS.obj (by decide)
  have hbg : b3 ≠ g := type_ne' hb3 hS.row (by decide)
  have lr : s < w.heap.size := lt_of_block hS.obj
  have lg : g < w.heap.size := lt_of_block hS.row
  have hb1s : b1 ≠ s := type_ne' hb1 hS.obj (by decide)
  have hb1g : b1 ≠ g := type_ne' hb1 hS.row (by decide)
  have lb1 : b1 < w.heap.size + 1 := Nat.lt_succ_of_lt (lt_of_block hb1)
  have la : a < w.heap.size + 1 := Nat.lt_succ_of_lt (lt_of_block hA)
  have hb2s : b2 ≠ s := type_ne' hb2 hS.obj (by decide)
  have lb2 : b2 < w.heap.size + 1 := Nat.lt_succ_of_lt (lt_of_block hb2)
  have Hb2 := Lib.hid hb2
  have hb2g : b2 ≠ g := one_ne hb2 hS.row (by simpa using hlen)
  have HA := Lib.hid hA
  have HS := Lib.hid hS
  have Hb1 := Lib.hid hb1
  have HbT := Lib.hid hb3
  have HF := Lib.hid hF
  clear hT hT' hA hS hb1 hb2 hb3 hF
  generalize hu : ws.getD i 0 = u at HT ⊢
  go_enter Tryz.func161, Tryz.ntmps161
  go_wp2_with fail
  have r0 : (w.alloc (.cells #[.int .i64 0, .int .i64 0, .int .u64 0, .int .u64 0] 45)).heap[w.heap.size]? = some (.cells #[.int .i64 0, .int .i64 0, .int .u64 0, .int .u64 0] 45 (0, 0)) := heap_alloc_new w _
  have K0 : Kept No w (w.alloc (.cells #[.int .i64 0, .int .i64 0, .int .u64 0, .int .u64 0] 45)) := (Kept.refl No w).alloc _
  have z0 : (w.alloc (.cells #[.int .i64 0, .int .i64 0, .int .u64 0, .int .u64 0] 45)).heap.size = w.heap.size + 1 := by simp
  rw [← z0] at lb1 la lb2
  generalize w.alloc (.cells #[.int .i64 0, .int .i64 0, .int .u64 0, .int .u64 0] 45) = w0 at r0 K0 z0 lb1 la lb2 ⊢
  generalize hr : w.heap.size = r at r0 ⊢
  have hS0 : w0.drew.cell? ⟨b1, 0, none⟩ = some (.int .i64 i) ∧ w0.drew.cell? ⟨a, 2, none⟩ = some (.pointer (some ⟨s, 0, none⟩)) ∧ w0.drew.cell? ⟨b2, 0, none⟩ = some (.int .u64 d) :=
    ⟨(OneAt.kept Hb1.out K0 (fun h => h)).cell, cellOf (ArenaAt.kept HA.out K0 (fun h => h)) 2, (OneAt.kept Hb2.out K0 (fun h => h)).cell⟩
  have SS : StoreIs 187 w0.drew s g ws k o n' o' m := ⟨K0.at HS.out.obj (fun h => h), K0.at HS.out.row (fun h => h)⟩
  have HL0 := add_acc SS d i h1 hm
  simp only [AccPost, hu] at HL0
  have HL := Lib.hid HL0
  clear HL0
  replace SS := Lib.hid SS
  replace r0 := Lib.hid r0
  go_region_held3 (fun W => W.cell? ⟨b1, 0, none⟩ = some (.int .i64 i) ∧ W.cell? ⟨a, 2, none⟩ = some (.pointer (some ⟨s, 0, none⟩)) ∧ W.cell? ⟨b2, 0, none⟩ = some (.int .u64 d))
    (first
      | with_reducible exact hS0
      | with_reducible exact hS2)
    (first
      | (go_at_call 49; refine (storeOf_any hS0.2.1).mono ?_; rintro e w1 ⟨rfl, rfl⟩)
      | (go_at_call 162; refine HL.out.mono ?_; rintro e w2 ⟨rfl, hS1, hK⟩; have hS2 : w2.cell? ⟨b1, 0, none⟩ = some (.int .i64 i) ∧ w2.cell? ⟨a, 2, none⟩ = some (.pointer (some ⟨s, 0, none⟩)) ∧ w2.cell? ⟨b2, 0, none⟩ = some (.int .u64 d) := ⟨(hK.cell lb1 (by simp [SG, hb1s, hb1g])).trans hS0.1, (hK.cell la (by simp [SG, has, hag])).trans hS0.2.1, (hK.cell lb2 (by simp [SG, hb2s, hb2g])).trans hS0.2.2⟩; replace hS1 := Lib.hid hS1))
  have K2 : Kept (SG s g) w w2 := (K0.drew.mono (fun _ h => h.elim)).trans hK (fun _ h => .inl h)
  have cb2 : w2.cell? ⟨b3, 0, none⟩ = some (.func (.func K) fs cap) := (OneAt.kept HbT.out K2 (by simp [SG, hbs, hbg])).cell
  have HC := Lib.hid (HT.out w2 K2 hS1.out)
  have hna : ¬ F a := fun h => (HF.out a h).2.1 rfl
  have hns : ¬ F s := fun h => (HF.out s h).2.2.1 rfl
  have hng : ¬ F g := fun h => (HF.out g h).2.2.2 rfl
  have hnr : ¬ F r := fun h => by have := (HF.out r h).1; omega
  have hrs : s ≠ r := by omega
  have hrg : g ≠ r := by omega
  have r2 := Lib.hid (hK.at r0.out (by simp [SG]; omega))
  have la2 : a < w2.heap.size := Nat.lt_of_lt_of_le la hK.size
  clear hK hS0 HL
  go_wp2_with (first
    | (refine HC.out.mono ?_; rintro e w3 ⟨rfl, hKF, hTT⟩; have ca3 : w3.cell? ⟨a, 2, none⟩ = some (.pointer (some ⟨s, 0, none⟩)) := (hKF.cell la2 hna).trans hS2.2.1; have S3 := Lib.hid (StoreIs.mk (hKF.at hS1.out.obj hns) (hKF.at hS1.out.row hng)); have r3 := Lib.hid (hKF.at r2.out hnr); replace hTT := Lib.hid hTT; replace hKF := Lib.hid hKF)
    | (go_at_call 49; refine (storeOf_any ca3).mono ?_; rintro e w1 ⟨rfl, rfl⟩)
    | (go_at_call 163; refine (last_acc S3.out).mono ?_; rintro e w4 ⟨rfl, hB4⟩; have r4 := (hB4.block r (lt_of_block r3.out)).trans r3.out; have d0 := cellOf r4 0; have d1 := cellOf r4 1; have d2 := cellOf r4 2; have d3 := cellOf r4 3; simp only [List.getElem?_toArray, List.getElem?_cons_zero, List.getElem?_cons_succ] at d0 d1 d2 d3; have f0 := freeOf r4 0; have f1 := freeOf r4 1; have f2 := freeOf r4 2; have f3 := freeOf r4 3; replace r4 := Lib.hid r4; replace hB4 := Lib.hid hB4))
  have hX := step_close hUp K2 hKF.out hTT.out r3.out hB4.out S3.out hr hrs hrg (.int .i64 5) (.int .i64 i) (.int .u64 u) (.int .u64 (IntKind.u64.wrap (u + d)))
  exact bodyPost_ret (v := didV 5 i u (IntKind.u64.wrap (u + d))) (by simp [results, Tryz.results161, go_sem, didV, d0, d1, d2, d3]) rfl ⟨rfl, hX⟩

set_option maxRecDepth 100000 in
set_option maxHeartbeats 4000000 in
theorem step_cas_won (i : Nat) (o1 n1 : Int) (b1 b2 b3 b4 : Nat) (hUp : TUp T) (hA : ArenaAt w a p t s qv) (hS : StoreIs 187 w s g ws k o n' o' m) (hlen : ws.length ≠ 1) (h1 : i < ws.length) (hm : 0 ≤ m ∧ m < 1000000)
    (hen : ∀ args W, (callFunc K args).run Tryz.prog W = .ok (.enter K args) W)
    (hb1 : OneAt w b1 (.int .i64 i) 3) (hb2 : OneAt w b2 (.int .u64 o1) 33) (hb3 : OneAt w b3 (.int .u64 n1) 33) (hb4 : OneAt w b4 (.func (.func K) fs cap) 168) (hu : ws.getD i 0 = o1) (hF : ∀ k, F k → k < w.heap.size ∧ k ≠ a ∧ k ≠ s ∧ k ≠ g) (hT : Then w s g ws i (.cas i o1 n1) m F T K fs cap) :
    Calls Tryz.prog 164 #[.pointer (some ⟨a, 0, none⟩), .pointer (some ⟨b1, 0, none⟩), .pointer (some ⟨b2, 0, none⟩), .pointer (some ⟨b3, 0, none⟩), .pointer (some ⟨b4, 0, none⟩)] w (StepPost w s g ws i (.cas i o1 n1) m F T) := by
  have hT' : ∀ w1, Kept (SG s g) w w1 → StoreIs 187 w1 s g (ws.set i n1) 3 i (ws.getD i 0) n1 (m + 1) →
    Calls Tryz.prog K (fs ++ #[.bool true] ++ cap) w1 fun e w2 => e = .returned (.tuple #[]) ∧ Kept F w1 w2 ∧ T w2 := by
    have := hT; simpa only [Then, Nx.told, Nx.next, Nx.kind, hu, if_true, decide_true] using this
  have HT := Lib.hid hT'
  suffices hsuf : Calls Tryz.prog 164 #[.pointer (some ⟨a, 0, none⟩), .pointer (some ⟨b1, 0, none⟩), .pointer (some ⟨b2, 0, none⟩), .pointer (some ⟨b3, 0, none⟩), .pointer (some ⟨b4, 0, none⟩)] w fun e w' => e = .returned (didV 3 i (ws.getD i 0) n1) ∧ StoreIs 187 w' s g (ws.set i n1) 3 i (ws.getD i 0) n1 (m + 1) ∧ Kept (fun k => SG s g k ∨ F k) w w' ∧ T w' from hsuf.mono fun e w' hh => by simpa only [StepPost, Nx.next, Nx.kind, if_pos hu] using hh
  have has : a ≠ s := type_ne' hA hS.obj (by decide)
  have hag : a ≠ g := type_ne' hA hS.row (by decide)
  have hbs : b4 ≠ s := type_ne' hb4 hS.obj (by decide)
  have hbg : b4 ≠ g := type_ne' hb4 hS.row (by decide)
  have lr : s < w.heap.size := lt_of_block hS.obj
  have lg : g < w.heap.size := lt_of_block hS.row
  have hb1s : b1 ≠ s := type_ne' hb1 hS.obj (by decide)
  have hb1g : b1 ≠ g := type_ne' hb1 hS.row (by decide)
  have lb1 : b1 < w.heap.size + 1 := Nat.lt_succ_of_lt (lt_of_block hb1)
  have la : a < w.heap.size + 1 := Nat.lt_succ_of_lt (lt_of_block hA)
  have hb2s : b2 ≠ s := type_ne' hb2 hS.obj (by decide)
  have lb2 : b2 < w.heap.size + 1 := Nat.lt_succ_of_lt (lt_of_block hb2)
  have Hb2 := Lib.hid hb2
  have hb2g : b2 ≠ g := one_ne hb2 hS.row (by simpa using hlen)
  have hb3s : b3 ≠ s := type_ne' hb3 hS.obj (by decide)
  have lb3 : b3 < w.heap.size + 1 := Nat.lt_succ_of_lt (lt_of_block hb3)
  have Hb3 := Lib.hid hb3
  have hb3g : b3 ≠ g := one_ne hb3 hS.row (by simpa using hlen)
  have HA := Lib.hid hA
  have HS := Lib.hid hS
  have Hb1 := Lib.hid hb1
  have HbT := Lib.hid hb4
  have HF := Lib.hid hF
  clear hT hT' hA hS hb1 hb2 hb3 hb4 hF
  rw [hu] at HT ⊢
  go_enter Tryz.func164, Tryz.ntmps164
  go_wp2_with fail
  have r0 : (w.alloc (.cells #[.int .i64 0, .int .i64 0, .int .u64 0, .int .u64 0] 45)).heap[w.heap.size]? = some (.cells #[.int .i64 0, .int .i64 0, .int .u64 0, .int .u64 0] 45 (0, 0)) := heap_alloc_new w _
  have K0 : Kept No w (w.alloc (.cells #[.int .i64 0, .int .i64 0, .int .u64 0, .int .u64 0] 45)) := (Kept.refl No w).alloc _
  have z0 : (w.alloc (.cells #[.int .i64 0, .int .i64 0, .int .u64 0, .int .u64 0] 45)).heap.size = w.heap.size + 1 := by simp
  rw [← z0] at lb1 la lb2 lb3
  generalize w.alloc (.cells #[.int .i64 0, .int .i64 0, .int .u64 0, .int .u64 0] 45) = w0 at r0 K0 z0 lb1 la lb2 lb3 ⊢
  generalize hr : w.heap.size = r at r0 ⊢
  have hS0 : w0.drew.cell? ⟨b1, 0, none⟩ = some (.int .i64 i) ∧ w0.drew.cell? ⟨a, 2, none⟩ = some (.pointer (some ⟨s, 0, none⟩)) ∧ w0.drew.cell? ⟨b2, 0, none⟩ = some (.int .u64 o1) ∧ w0.drew.cell? ⟨b3, 0, none⟩ = some (.int .u64 n1) :=
    ⟨(OneAt.kept Hb1.out K0 (fun h => h)).cell, cellOf (ArenaAt.kept HA.out K0 (fun h => h)) 2, (OneAt.kept Hb2.out K0 (fun h => h)).cell, (OneAt.kept Hb3.out K0 (fun h => h)).cell⟩
  have SS : StoreIs 187 w0.drew s g ws k o n' o' m := ⟨K0.at HS.out.obj (fun h => h), K0.at HS.out.row (fun h => h)⟩
  have HL0 := cas_won SS o1 n1 i h1 hm hu
  simp only [AccPost, hu] at HL0
  have HL := Lib.hid HL0
  clear HL0
  replace SS := Lib.hid SS
  replace r0 := Lib.hid r0
  go_region_held3 (fun W => W.cell? ⟨b1, 0, none⟩ = some (.int .i64 i) ∧ W.cell? ⟨a, 2, none⟩ = some (.pointer (some ⟨s, 0, none⟩)) ∧ W.cell? ⟨b2, 0, none⟩ = some (.int .u64 o1) ∧ W.cell? ⟨b3, 0, none⟩ = some (.int .u64 n1))
    (first
      | with_reducible exact hS0
      | with_reducible exact hS2)
    (first
      | (go_at_call 49; refine (storeOf_any hS0.2.1).mono ?_; rintro e w1 ⟨rfl, rfl⟩)
      | (go_at_call 165; refine HL.out.mono ?_; rintro e w2 ⟨rfl, hS1, hK⟩; have hS2 : w2.cell? ⟨b1, 0, none⟩ = some (.int .i64 i) ∧ w2.cell? ⟨a, 2, none⟩ = some (.pointer (some ⟨s, 0, none⟩)) ∧ w2.cell? ⟨b2, 0, none⟩ = some (.int .u64 o1) ∧ w2.cell? ⟨b3, 0, none⟩ = some (.int .u64 n1) := ⟨(hK.cell lb1 (by simp [SG, hb1s, hb1g])).trans hS0.1, (hK.cell la (by simp [SG, has, hag])).trans hS0.2.1, (hK.cell lb2 (by simp [SG, hb2s, hb2g])).trans hS0.2.2.1, (hK.cell lb3 (by simp [SG, hb3s, hb3g])).trans hS0.2.2.2⟩; replace hS1 := Lib.hid hS1))
  have K2 : Kept (SG s g) w w2 := (K0.drew.mono (fun _ h => h.elim)).trans hK (fun _ h => .inl h)
  have cb2 : w2.cell? ⟨b4, 0, none⟩ = some (.func (.func K) fs cap) := (OneAt.kept HbT.out K2 (by simp [SG, hbs, hbg])).cell
  have HC := Lib.hid (HT.out w2 K2 hS1.out)
  have hna : ¬ F a := fun h => (HF.out a h).2.1 rfl
  have hns : ¬ F s := fun h => (HF.out s h).2.2.1 rfl
  have hng : ¬ F g := fun h => (HF.out g h).2.2.2 rfl
  have hnr : ¬ F r := fun h => by have := (HF.out r h).1; omega
  have hrs : s ≠ r := by omega
  have hrg : g ≠ r := by omega
  have r2 := Lib.hid (hK.at r0.out (by simp [SG]; omega))
  have la2 : a < w2.heap.size := Nat.lt_of_lt_of_le la hK.size
  clear hK hS0 HL
  go_wp2_with (first
    | (refine HC.out.mono ?_; rintro e w3 ⟨rfl, hKF, hTT⟩; have ca3 : w3.cell? ⟨a, 2, none⟩ = some (.pointer (some ⟨s, 0, none⟩)) := (hKF.cell la2 hna).trans hS2.2.1; have S3 := Lib.hid (StoreIs.mk (hKF.at hS1.out.obj hns) (hKF.at hS1.out.row hng)); have r3 := Lib.hid (hKF.at r2.out hnr); replace hTT := Lib.hid hTT; replace hKF := Lib.hid hKF)
    | (go_at_call 49; refine (storeOf_any ca3).mono ?_; rintro e w1 ⟨rfl, rfl⟩)
    | (go_at_call 163; refine (last_acc S3.out).mono ?_; rintro e w4 ⟨rfl, hB4⟩; have r4 := (hB4.block r (lt_of_block r3.out)).trans r3.out; have d0 := cellOf r4 0; have d1 := cellOf r4 1; have d2 := cellOf r4 2; have d3 := cellOf r4 3; simp only [List.getElem?_toArray, List.getElem?_cons_zero, List.getElem?_cons_succ] at d0 d1 d2 d3; have f0 := freeOf r4 0; have f1 := freeOf r4 1; have f2 := freeOf r4 2; have f3 := freeOf r4 3; replace r4 := Lib.hid r4; replace hB4 := Lib.hid hB4))
  have hX := step_close hUp K2 hKF.out hTT.out r3.out hB4.out S3.out hr hrs hrg (.int .i64 3) (.int .i64 i) (.int .u64 o1) (.int .u64 n1)
  exact bodyPost_ret (v := didV 3 i o1 n1) (by simp [results, Tryz.results164, go_sem, didV, d0, d1, d2, d3]) rfl ⟨rfl, hX⟩

set_option maxRecDepth 100000 in
set_option maxHeartbeats 4000000 in
theorem step_cas_lost (i : Nat) (o1 n1 : Int) (b1 b2 b3 b4 : Nat) (hUp : TUp T) (hA : ArenaAt w a p t s qv) (hS : StoreIs 187 w s g ws k o n' o' m) (hlen : ws.length ≠ 1) (h1 : i < ws.length) (hm : 0 ≤ m ∧ m < 1000000)
    (hen : ∀ args W, (callFunc K args).run Tryz.prog W = .ok (.enter K args) W)
    (hb1 : OneAt w b1 (.int .i64 i) 3) (hb2 : OneAt w b2 (.int .u64 o1) 33) (hb3 : OneAt w b3 (.int .u64 n1) 33) (hb4 : OneAt w b4 (.func (.func K) fs cap) 168) (hne : ws.getD i 0 ≠ o1) (hF : ∀ k, F k → k < w.heap.size ∧ k ≠ a ∧ k ≠ s ∧ k ≠ g) (hT : Then w s g ws i (.cas i o1 n1) m F T K fs cap) :
    Calls Tryz.prog 164 #[.pointer (some ⟨a, 0, none⟩), .pointer (some ⟨b1, 0, none⟩), .pointer (some ⟨b2, 0, none⟩), .pointer (some ⟨b3, 0, none⟩), .pointer (some ⟨b4, 0, none⟩)] w (StepPost w s g ws i (.cas i o1 n1) m F T) := by
  have hT' : ∀ w1, Kept (SG s g) w w1 → StoreIs 187 w1 s g (ws.set i (ws.getD i 0)) 4 i (ws.getD i 0) (ws.getD i 0) (m + 1) →
    Calls Tryz.prog K (fs ++ #[.bool false] ++ cap) w1 fun e w2 => e = .returned (.tuple #[]) ∧ Kept F w1 w2 ∧ T w2 := by
    have := hT; simpa only [Then, Nx.told, Nx.next, Nx.kind, if_neg hne, decide_eq_false hne] using this
  have HT := Lib.hid hT'
  suffices hsuf : Calls Tryz.prog 164 #[.pointer (some ⟨a, 0, none⟩), .pointer (some ⟨b1, 0, none⟩), .pointer (some ⟨b2, 0, none⟩), .pointer (some ⟨b3, 0, none⟩), .pointer (some ⟨b4, 0, none⟩)] w fun e w' => e = .returned (didV 4 i (ws.getD i 0) (ws.getD i 0)) ∧ StoreIs 187 w' s g (ws.set i (ws.getD i 0)) 4 i (ws.getD i 0) (ws.getD i 0) (m + 1) ∧ Kept (fun k => SG s g k ∨ F k) w w' ∧ T w' from hsuf.mono fun e w' hh => by simpa only [StepPost, Nx.next, Nx.kind, if_neg hne] using hh
  have has : a ≠ s := type_ne' hA hS.obj (by decide)
  have hag : a ≠ g := type_ne' hA hS.row (by decide)
  have hbs : b4 ≠ s := type_ne' hb4 hS.obj (by decide)
  have hbg : b4 ≠ g := type_ne' hb4 hS.row (by decide)
  have lr : s < w.heap.size := lt_of_block hS.obj
  have lg : g < w.heap.size := lt_of_block hS.row
  have hb1s : b1 ≠ s := type_ne' hb1 hS.obj (by decide)
  have hb1g : b1 ≠ g := type_ne' hb1 hS.row (by decide)
  have lb1 : b1 < w.heap.size + 1 := Nat.lt_succ_of_lt (lt_of_block hb1)
  have la : a < w.heap.size + 1 := Nat.lt_succ_of_lt (lt_of_block hA)
  have hb2s : b2 ≠ s := type_ne' hb2 hS.obj (by decide)
  have lb2 : b2 < w.heap.size + 1 := Nat.lt_succ_of_lt (lt_of_block hb2)
  have Hb2 := Lib.hid hb2
  have hb2g : b2 ≠ g := one_ne hb2 hS.row (by simpa using hlen)
  have hb3s : b3 ≠ s := type_ne' hb3 hS.obj (by decide)
  have lb3 : b3 < w.heap.size + 1 := Nat.lt_succ_of_lt (lt_of_block hb3)
  have Hb3 := Lib.hid hb3
  have hb3g : b3 ≠ g := one_ne hb3 hS.row (by simpa using hlen)
  have HA := Lib.hid hA
  have HS := Lib.hid hS
  have Hb1 := Lib.hid hb1
  have HbT := Lib.hid hb4
  have HF := Lib.hid hF
  clear hT hT' hA hS hb1 hb2 hb3 hb4 hF
  generalize hu : ws.getD i 0 = u at HT ⊢
  go_enter Tryz.func164, Tryz.ntmps164
  go_wp2_with fail
  have r0 : (w.alloc (.cells #[.int .i64 0, .int .i64 0, .int .u64 0, .int .u64 0] 45)).heap[w.heap.size]? = some (.cells #[.int .i64 0, .int .i64 0, .int .u64 0, .int .u64 0] 45 (0, 0)) := heap_alloc_new w _
  have K0 : Kept No w (w.alloc (.cells #[.int .i64 0, .int .i64 0, .int .u64 0, .int .u64 0] 45)) := (Kept.refl No w).alloc _
  have z0 : (w.alloc (.cells #[.int .i64 0, .int .i64 0, .int .u64 0, .int .u64 0] 45)).heap.size = w.heap.size + 1 := by simp
  rw [← z0] at lb1 la lb2 lb3
  generalize w.alloc (.cells #[.int .i64 0, .int .i64 0, .int .u64 0, .int .u64 0] 45) = w0 at r0 K0 z0 lb1 la lb2 lb3 ⊢
  generalize hr : w.heap.size = r at r0 ⊢
  have hS0 : w0.drew.cell? ⟨b1, 0, none⟩ = some (.int .i64 i) ∧ w0.drew.cell? ⟨a, 2, none⟩ = some (.pointer (some ⟨s, 0, none⟩)) ∧ w0.drew.cell? ⟨b2, 0, none⟩ = some (.int .u64 o1) ∧ w0.drew.cell? ⟨b3, 0, none⟩ = some (.int .u64 n1) :=
    ⟨(OneAt.kept Hb1.out K0 (fun h => h)).cell, cellOf (ArenaAt.kept HA.out K0 (fun h => h)) 2, (OneAt.kept Hb2.out K0 (fun h => h)).cell, (OneAt.kept Hb3.out K0 (fun h => h)).cell⟩
  have SS : StoreIs 187 w0.drew s g ws k o n' o' m := ⟨K0.at HS.out.obj (fun h => h), K0.at HS.out.row (fun h => h)⟩
  have HL0 := cas_lost SS o1 n1 i h1 hm hne
  simp only [AccPost, hu] at HL0
  have HL := Lib.hid HL0
  clear HL0
  replace SS := Lib.hid SS
  replace r0 := Lib.hid r0
  go_region_held3 (fun W => W.cell? ⟨b1, 0, none⟩ = some (.int .i64 i) ∧ W.cell? ⟨a, 2, none⟩ = some (.pointer (some ⟨s, 0, none⟩)) ∧ W.cell? ⟨b2, 0, none⟩ = some (.int .u64 o1) ∧ W.cell? ⟨b3, 0, none⟩ = some (.int .u64 n1))
    (first
      | with_reducible exact hS0
      | with_reducible exact hS2)
    (first
      | (go_at_call 49; refine (storeOf_any hS0.2.1).mono ?_; rintro e w1 ⟨rfl, rfl⟩)
      | (go_at_call 165; refine HL.out.mono ?_; rintro e w2 ⟨rfl, hS1, hK⟩; have hS2 : w2.cell? ⟨b1, 0, none⟩ = some (.int .i64 i) ∧ w2.cell? ⟨a, 2, none⟩ = some (.pointer (some ⟨s, 0, none⟩)) ∧ w2.cell? ⟨b2, 0, none⟩ = some (.int .u64 o1) ∧ w2.cell? ⟨b3, 0, none⟩ = some (.int .u64 n1) := ⟨(hK.cell lb1 (by simp [SG, hb1s, hb1g])).trans hS0.1, (hK.cell la (by simp [SG, has, hag])).trans hS0.2.1, (hK.cell lb2 (by simp [SG, hb2s, hb2g])).trans hS0.2.2.1, (hK.cell lb3 (by simp [SG, hb3s, hb3g])).trans hS0.2.2.2⟩; replace hS1 := Lib.hid hS1))
  have K2 : Kept (SG s g) w w2 := (K0.drew.mono (fun _ h => h.elim)).trans hK (fun _ h => .inl h)
  have cb2 : w2.cell? ⟨b4, 0, none⟩ = some (.func (.func K) fs cap) := (OneAt.kept HbT.out K2 (by simp [SG, hbs, hbg])).cell
  have HC := Lib.hid (HT.out w2 K2 hS1.out)
  have hna : ¬ F a := fun h => (HF.out a h).2.1 rfl
  have hns : ¬ F s := fun h => (HF.out s h).2.2.1 rfl
  have hng : ¬ F g := fun h => (HF.out g h).2.2.2 rfl
  have hnr : ¬ F r := fun h => by have := (HF.out r h).1; omega
  have hrs : s ≠ r := by omega
  have hrg : g ≠ r := by omega
  have r2 := Lib.hid (hK.at r0.out (by simp [SG]; omega))
  have la2 : a < w2.heap.size := Nat.lt_of_lt_of_le la hK.size
  clear hK hS0 HL
  go_wp2_with (first
    | (refine HC.out.mono ?_; rintro e w3 ⟨rfl, hKF, hTT⟩; have ca3 : w3.cell? ⟨a, 2, none⟩ = some (.pointer (some ⟨s, 0, none⟩)) := (hKF.cell la2 hna).trans hS2.2.1; have S3 := Lib.hid (StoreIs.mk (hKF.at hS1.out.obj hns) (hKF.at hS1.out.row hng)); have r3 := Lib.hid (hKF.at r2.out hnr); replace hTT := Lib.hid hTT; replace hKF := Lib.hid hKF)
    | (go_at_call 49; refine (storeOf_any ca3).mono ?_; rintro e w1 ⟨rfl, rfl⟩)
    | (go_at_call 163; refine (last_acc S3.out).mono ?_; rintro e w4 ⟨rfl, hB4⟩; have r4 := (hB4.block r (lt_of_block r3.out)).trans r3.out; have d0 := cellOf r4 0; have d1 := cellOf r4 1; have d2 := cellOf r4 2; have d3 := cellOf r4 3; simp only [List.getElem?_toArray, List.getElem?_cons_zero, List.getElem?_cons_succ] at d0 d1 d2 d3; have f0 := freeOf r4 0; have f1 := freeOf r4 1; have f2 := freeOf r4 2; have f3 := freeOf r4 3; replace r4 := Lib.hid r4; replace hB4 := Lib.hid hB4))
  have hX := step_close hUp K2 hKF.out hTT.out r3.out hB4.out S3.out hr hrs hrg (.int .i64 4) (.int .i64 i) (.int .u64 u) (.int .u64 u)
  exact bodyPost_ret (v := didV 4 i u u) (by simp [results, Tryz.results164, go_sem, didV, d0, d1, d2, d3]) rfl ⟨rfl, hX⟩

end
end Go.Proofs.YtffafkmmfaaobaaGreat
