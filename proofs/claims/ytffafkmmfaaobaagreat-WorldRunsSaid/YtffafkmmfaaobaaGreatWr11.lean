/- A step of the law's pair, on the program's side. -/
import Derived.Test.YtffafkmmfaaobaaGreatWr10
namespace Go.Proofs.YtffafkmmfaaobaaGreat
set_option linter.unusedSimpArgs false
set_option linter.unusedVariables false
open Go.RowKit

section
variable {w : World} {p t th gen : Int} {m : Nat}

theorem enter_done {pt : EP} (h : EnterAt w m p t pt gen) : Calls Tryz.prog 76 #[.pointer (some ⟨m, 0, none⟩)] w fun e w' => e = .returned (.bool pt.isDone) ∧ w = w' := by
  obtain ⟨nv, bm, h1, h2, h3⟩ := h
  refine deskDone_any h1 _ ?_
  cases pt
  · exact NextIs.func (K := 156) (fs := #[]) (cap := #[.pointer (some ⟨bm, 0, none⟩)]) (x := .add 4 1) h3
  · exact NextIs.func (K := 157) (fs := #[]) (cap := #[.pointer (some ⟨bm, 0, none⟩)]) (x := .load 1) h3
  · exact NextIs.func (K := 160) (fs := #[]) (cap := #[.pointer (some ⟨bm, 0, none⟩)]) (x := .load 0) h3
  · exact NextIs.func (K := 158) (fs := #[]) (cap := #[.pointer (some ⟨bm, 0, none⟩)]) (x := .add 4 18446744073709551615) h3
  · exact NextIs.func (K := 222) (fs := #[]) (cap := #[.pointer (some ⟨bm, 0, none⟩)]) (x := .load 1) h3
  · exact h3
theorem exit_done {d : Bool} (h : ExitAt w m p t d) : Calls Tryz.prog 76 #[.pointer (some ⟨m, 0, none⟩)] w fun e w' => e = .returned (.bool d) ∧ w = w' := by
  obtain ⟨nv, bm, h1, h2, h3⟩ := h
  refine deskDone_any h1 _ ?_
  cases d
  · exact NextIs.func (K := 107) (fs := #[]) (cap := #[.pointer (some ⟨bm, 0, none⟩)]) (x := .add 4 18446744073709551615) h3
  · exact h3
theorem go_done {d : Bool} (h : GoAt w m p t d) : Calls Tryz.prog 76 #[.pointer (some ⟨m, 0, none⟩)] w fun e w' => e = .returned (.bool d) ∧ w = w' := by
  obtain ⟨nv, h1, h3⟩ := h
  refine deskDone_any h1 _ ?_
  cases d
  · exact NextIs.func (K := 108) (fs := #[.pointer (some ⟨m, 0, none⟩)]) (cap := #[]) (x := .put 1 0) h3
  · exact h3
theorem stop_done {pt : SP} (h : StopAt w m p t th pt gen) : Calls Tryz.prog 76 #[.pointer (some ⟨m, 0, none⟩)] w fun e w' => e = .returned (.bool pt.isDone) ∧ w = w' := by
  obtain ⟨nv, bm, h1, h2, h3⟩ := h
  refine deskDone_any h1 _ ?_
  cases pt
  · exact NextIs.func (K := 111) (fs := #[]) (cap := #[.pointer (some ⟨bm, 0, none⟩)]) (x := .cas 1 0 (th + 1)) h3
  · exact NextIs.func (K := 113) (fs := #[.pointer (some ⟨m, 0, none⟩)]) (cap := #[]) (x := .load 4) h3
  · exact NextIs.func (K := 168) (fs := #[]) (cap := #[.pointer (some ⟨bm, 0, none⟩)]) (x := .load 0) h3
  · exact h3

/-- Behind a step of the law's pair, on the program's side. -/
def DoPost (w : World) (s g m : Nat) (ws : List Int) (x : Nx) (c : Int) (p t th : Int) (pt : WP) (e : Ending) (w' : World) : Prop :=
  e = .returned (.tuple #[didV (x.kind (ws.getD x.at 0)) x.at (ws.getD x.at 0) (x.next (ws.getD x.at 0)), .bool (pt.step (ws.getD x.at 0)).done, .int .i64 (pt.gens (ws.getD x.at 0) 0)]) ∧
  Kept (fun k => SG s g k ∨ k = m) w w' ∧
  StoreIs 187 w' s g (ws.set x.at (x.next (ws.getD x.at 0))) (x.kind (ws.getD x.at 0)) x.at (ws.getD x.at 0) (x.next (ws.getD x.at 0)) (c + 1) ∧
  PAt w' m p t th (pt.step (ws.getD x.at 0)) (pt.gens (ws.getD x.at 0) 0)

theorem do_close {s g r0 : Nat} {ws : List Int} {x : Nx} {c : Int} {pt : WP} {wA w2 : World} {cs : Array Value} (hr : w.heap.size = r0) (K0 : Kept No w wA) (hr0 : w2.heap[r0]? = some (.cells cs 45 (0, 0))) (hcs : cs.size ≠ 1)
    (hK : Kept (fun k => SG s g k ∨ k = m) wA w2) (hm : m < w.heap.size)
    (hS : StoreIs 187 w2 s g (ws.set x.at (x.next (ws.getD x.at 0))) (x.kind (ws.getD x.at 0)) x.at (ws.getD x.at 0) (x.next (ws.getD x.at 0)) (c + 1))
    (hT : PAt w2 m p t th (pt.step (ws.getD x.at 0)) (pt.gens (ws.getD x.at 0) 0)) (v0 v1 v2 v3 : Value) (w' : World) (hw' : w' = (((w2.setCell ⟨r0, 0, none⟩ v0).setCell ⟨r0, 1, none⟩ v1).setCell ⟨r0, 2, none⟩ v2).setCell ⟨r0, 3, none⟩ v3) :
    Kept (fun k => SG s g k ∨ k = m) w w' ∧ StoreIs 187 w' s g (ws.set x.at (x.next (ws.getD x.at 0))) (x.kind (ws.getD x.at 0)) x.at (ws.getD x.at 0) (x.next (ws.getD x.at 0)) (c + 1) ∧
      PAt w' m p t th (pt.step (ws.getD x.at 0)) (pt.gens (ws.getD x.at 0) 0) := by
  subst hw'
  have K5 : Kept (fun k => k = r0) w2 ((((w2.setCell ⟨r0, 0, none⟩ v0).setCell ⟨r0, 1, none⟩ v1).setCell ⟨r0, 2, none⟩ v2).setCell ⟨r0, 3, none⟩ v3) :=
    ((((Kept.refl (fun k => k = r0) w2).setCell (p := ⟨r0, 0, none⟩) (.inl rfl) v0).setCell (p := ⟨r0, 1, none⟩) (.inl rfl) v1).setCell (p := ⟨r0, 2, none⟩) (.inl rfl) v2).setCell (p := ⟨r0, 3, none⟩) (.inl rfl) v3
  exact ⟨((K0.mono (fun _ h => h.elim)).trans hK (fun _ h => .inl h)).trans K5 (fun k h => .inr (by omega)), hS.kept K5 (type_ne' hS.obj hr0 (by decide)) (type_ne' hS.row hr0 (by decide)),
    hT.kept K5 (by omega) (Far.of (fun b hb => by subst hb; exact ⟨_, _, hr0, hcs⟩))⟩

theorem set4_cell {W : World} {μ i r : Nat} {x : Option Value} (h : W.cell? ⟨μ, i, none⟩ = x) (hne : μ ≠ r) (v0 v1 v2 v3 : Value) :
    ((((W.setCell ⟨r, 0, none⟩ v0).setCell ⟨r, 1, none⟩ v1).setCell ⟨r, 2, none⟩ v2).setCell ⟨r, 3, none⟩ v3).cell? ⟨μ, i, none⟩ = x := by
  refine Eq.trans (World.cell?_of_block (w := W) ?_) h
  rw [Below.heap_setCell _ _ _ _ hne, Below.heap_setCell _ _ _ _ hne, Below.heap_setCell _ _ _ _ hne, Below.heap_setCell _ _ _ _ hne]

set_option maxRecDepth 100000 in
set_option maxHeartbeats 4000000 in
theorem do_enter {μ r a s g : Nat} {pt : EP} {x : Nx} {ws : List Int} {k o n' o' c : Int} {qv : Value} (hMu : MuAt w μ m r (.enter pt)) (hE : EnterAt w m p t pt 0) (hx : (WP.enter pt).nx th = some x)
    (hA : ArenaAt w a p t s qv) (hS : StoreIs 187 w s g ws k o n' o' c) (hlen : 5 ≤ ws.length) (hc : 0 ≤ c ∧ c < 1000000) :
    Calls Tryz.prog 14 #[.pointer (some ⟨μ, 0, none⟩), .pointer (some ⟨a, 0, none⟩)] w (DoPost w s g m ws x c p t th (.enter pt)) := by
  obtain ⟨K, hxK⟩ : ∃ K, pt.nx = some (x, K) := by
    simp only [WP.nx] at hx
    cases e : pt.nx with
    | none => rw [e] at hx; cases hx
    | some y => rw [e] at hx; obtain ⟨y1, y2⟩ := y; simp at hx; subst hx; exact ⟨y2, rfl⟩
  have hmm : m < w.heap.size := by obtain ⟨nv, bm, h1, _⟩ := hE; exact lt_of_block h1
  have hμm : μ ≠ m := by obtain ⟨nv, bm, h1, _⟩ := hE; exact type_ne' hMu h1 (by decide)
  have hμs : μ ≠ s := type_ne' hMu hS.obj (by decide)
  have hμg : μ ≠ g := type_ne' hMu hS.row (by decide)
  have hT : ∀ W, Kept No w W → Calls Tryz.prog 57 #[.pointer (some ⟨m, 0, none⟩), .pointer (some ⟨a, 0, none⟩)] W (MStep W s g m ws x c fun w' => EnterAt w' m p t (pt.step (ws.getD x.at 0)) (pt.gens (ws.getD x.at 0) 0)) := fun W hK =>
    enter_mach (hE.kept hK (fun h => h) (Far.of (fun _ h => h.elim))) x hxK (hA.kept hK (fun h => h)) (hS.kept hK (fun h => h) (fun h => h)) hlen hc
  obtain ⟨kd, hkd⟩ : ∃ kd, x.kind (ws.getD x.at 0) = kd := ⟨_, rfl⟩
  obtain ⟨at', hat⟩ : ∃ at' : Int, (x.at : Int) = at' := ⟨_, rfl⟩
  obtain ⟨u, hu⟩ : ∃ u, ws.getD x.at 0 = u := ⟨_, rfl⟩
  obtain ⟨nx, hnx⟩ : ∃ nx, x.next (ws.getD x.at 0) = nx := ⟨_, rfl⟩
  obtain ⟨gn, hgn⟩ : ∃ gn, pt.gens (ws.getD x.at 0) 0 = gn := ⟨_, rfl⟩
  obtain ⟨dn, hdn⟩ : ∃ dn, (pt.step (ws.getD x.at 0)).isDone = dn := ⟨_, rfl⟩
  have HT : Hid (∀ W, Kept No w W → Calls Tryz.prog 57 #[.pointer (some ⟨m, 0, none⟩), .pointer (some ⟨a, 0, none⟩)] W fun e w' => e = .returned (.agg #[.int .i64 kd, .int .i64 at', .int .u64 u, .int .u64 nx]) ∧ Kept (fun k => SG s g k ∨ k = m) W w' ∧
      StoreIs 187 w' s g (ws.set x.at (x.next (ws.getD x.at 0))) (x.kind (ws.getD x.at 0)) x.at (ws.getD x.at 0) (x.next (ws.getD x.at 0)) (c + 1) ∧ EnterAt w' m p t (pt.step (ws.getD x.at 0)) (pt.gens (ws.getD x.at 0) 0)) :=
    Lib.hid (fun W hW => (hT W hW).mono fun e w' ⟨h1, h2⟩ => ⟨by rw [h1, ← hkd, ← hat, ← hu, ← hnx]; rfl, h2⟩)
  have HU := Lib.hid (And.intro hkd (And.intro hat (And.intro hu (And.intro hnx (And.intro hgn hdn)))))
  clear hkd hat hu hnx hgn hdn
  have HMu := Lib.hid hMu
  have HS := Lib.hid hS
  clear hMu hE hx hxK hA hS hT
  have lμ : μ < w.heap.size := lt_of_block HMu.out
  go_enter Tryz.func14, Tryz.ntmps14
  have r0 : (w.alloc (.cells #[.int .i64 0, .int .i64 0, .int .u64 0, .int .u64 0] 45)).heap[w.heap.size]? = some (.cells #[.int .i64 0, .int .i64 0, .int .u64 0, .int .u64 0] 45 (0, 0)) := heap_alloc_new w _
  have K0 : Kept No w (w.alloc (.cells #[.int .i64 0, .int .i64 0, .int .u64 0, .int .u64 0] 45)) := (Kept.refl No w).alloc _
  have c0' : (w.alloc (.cells #[.int .i64 0, .int .i64 0, .int .u64 0, .int .u64 0] 45)).cell? ⟨μ, 0, none⟩ = some (.pointer (some ⟨m, 0, none⟩)) := cellOf (block_alloc HMu.out _) 0
  have c0 : w.cell? ⟨μ, 0, none⟩ = some (.pointer (some ⟨m, 0, none⟩)) := cellOf HMu.out 0
  go_wp2_with fail
  generalize w.alloc (.cells #[.int .i64 0, .int .i64 0, .int .u64 0, .int .u64 0] 45) = wA at r0 K0 c0' ⊢
  obtain ⟨r1, hr1⟩ : ∃ r1, w.heap.size = r1 := ⟨_, rfl⟩
  rw [hr1] at r0 ⊢
  have R0 := Lib.hid r0
  have HR := Lib.hid hr1
  have lA : μ < wA.heap.size := Nat.lt_of_lt_of_le lμ K0.size
  have hrF : ¬ (SG s g r1 ∨ r1 = m) := by
    rintro ((e | e) | e)
    · exact absurd (lt_of_block HS.out.obj) (by rw [← e, HR.out]; exact Nat.lt_irrefl _)
    · exact absurd (lt_of_block HS.out.row) (by rw [← e, HR.out]; exact Nat.lt_irrefl _)
    · exact absurd hmm (by rw [← e, HR.out]; exact Nat.lt_irrefl _)
  have hμr : μ ≠ r1 := by have := HR.out; omega
  clear r0 hr1 c0
  have hS0 : wA.drew.cell? ⟨μ, 0, none⟩ = some (.pointer (some ⟨m, 0, none⟩)) := c0'
  go_region_held3 (fun W => W.cell? ⟨μ, 0, none⟩ = some (.pointer (some ⟨m, 0, none⟩))) (first | with_reducible exact hS0 | with_reducible exact hS2 | with_reducible exact set4_cell hS2 hμr _ _ _ _)
    (first
      | (go_at_call 57; refine (HT.out _ K0.drew).mono ?_; rintro e w2 ⟨rfl, hK, hS', hT'⟩; have hS2 : w2.cell? ⟨μ, 0, none⟩ = some (.pointer (some ⟨m, 0, none⟩)) := (hK.cell lA (by simp [SG, hμm, hμs, hμg])).trans hS0; have R2 := hK.at (show wA.drew.heap[r1]? = _ from R0.out) hrF; have g0 := cellOf R2 0; have g1 := cellOf R2 1; have g2 := cellOf R2 2; have g3 := cellOf R2 3; simp only [List.getElem?_toArray, List.getElem?_cons_zero, List.getElem?_cons_succ] at g0 g1 g2 g3; have q0 := freeOf R2 0; have q1 := freeOf R2 1; have q2 := freeOf R2 2; have q3 := freeOf R2 3; replace R2 := Lib.hid R2; have HD : Hid (Calls Tryz.prog 58 #[.pointer (some ⟨m, 0, none⟩)] w2 fun e w' => e = .returned (.bool dn) ∧ w2 = w') := Lib.hid (by rw [← HU.out.2.2.2.2.2]; exact enterDone_any (enter_done hT')); have HG : Hid (Calls Tryz.prog 59 #[.pointer (some ⟨m, 0, none⟩)] w2 fun e w' => e = .returned (.int .i64 gn) ∧ w2 = w') := Lib.hid (by rw [← HU.out.2.2.2.2.1]; obtain ⟨nv, bm, h1, _⟩ := hT'; exact enterGen_any h1); replace hS' := Lib.hid hS'; replace hT' := Lib.hid hT')
      | (go_at_call 58; refine HD.out.mono ?_; rintro e w3 ⟨rfl, rfl⟩)
      | (go_at_call 59; refine HG.out.mono ?_; rintro e w3 ⟨rfl, rfl⟩))
  go_wp2_with fail
  obtain ⟨r1', r2', r3'⟩ := do_close HR.out K0.drew R2.out (by simp) hK hmm hS'.out (pt := .enter pt) hT'.out (.int .i64 kd) (.int .i64 at') (.int .u64 u) (.int .u64 nx) _ rfl
  obtain ⟨e1, e2, e3, e4, e5, e6⟩ := HU.out
  refine bodyPost_ret (v := .tuple #[.agg #[.int .i64 kd, .int .i64 at', .int .u64 u, .int .u64 nx], .bool dn, .int .i64 gn]) (by simp [results, Tryz.results14, go_sem, g0, g1, g2, g3]) rfl ⟨?_, r1', r2', r3'⟩
  rw [← e1, ← e2, ← e3, ← e4, ← e5, ← e6]
  rfl
set_option maxRecDepth 100000 in
set_option maxHeartbeats 4000000 in
theorem do_stop {μ r a s g : Nat} {pt : SP} {x : Nx} {ws : List Int} {k o n' o' c : Int} {qv : Value} (hMu : MuAt w μ m r (.stop pt)) (hE : StopAt w m p t th pt 0) (hx : (WP.stop pt).nx th = some x)
    (hA : ArenaAt w a p t s qv) (hS : StoreIs 187 w s g ws k o n' o' c) (hlen : 5 ≤ ws.length) (hc : 0 ≤ c ∧ c < 1000000) :
    Calls Tryz.prog 14 #[.pointer (some ⟨μ, 0, none⟩), .pointer (some ⟨a, 0, none⟩)] w (DoPost w s g m ws x c p t th (.stop pt)) := by
  have hmm : m < w.heap.size := by obtain ⟨nv, bm, h1, _⟩ := hE; exact lt_of_block h1
  have hμm : μ ≠ m := by obtain ⟨nv, bm, h1, _⟩ := hE; exact type_ne' hMu h1 (by decide)
  have hμs : μ ≠ s := type_ne' hMu hS.obj (by decide)
  have hμg : μ ≠ g := type_ne' hMu hS.row (by decide)
  have hT : ∀ W, Kept No w W → Calls Tryz.prog 62 #[.pointer (some ⟨m, 0, none⟩), .pointer (some ⟨a, 0, none⟩)] W (MStep W s g m ws x c fun w' => StopAt w' m p t th (pt.step (ws.getD x.at 0)) (pt.gens (ws.getD x.at 0) 0)) := fun W hK =>
    stop_mach hx (hE.kept hK (fun h => h) (Far.of (fun _ h => h.elim))) (hA.kept hK (fun h => h)) (hS.kept hK (fun h => h) (fun h => h)) hlen hc
  obtain ⟨kd, hkd⟩ : ∃ kd, x.kind (ws.getD x.at 0) = kd := ⟨_, rfl⟩
  obtain ⟨at', hat⟩ : ∃ at' : Int, (x.at : Int) = at' := ⟨_, rfl⟩
  obtain ⟨u, hu⟩ : ∃ u, ws.getD x.at 0 = u := ⟨_, rfl⟩
  obtain ⟨nx, hnx⟩ : ∃ nx, x.next (ws.getD x.at 0) = nx := ⟨_, rfl⟩
  obtain ⟨gn, hgn⟩ : ∃ gn, pt.gens (ws.getD x.at 0) 0 = gn := ⟨_, rfl⟩
  obtain ⟨dn, hdn⟩ : ∃ dn, (pt.step (ws.getD x.at 0)).isDone = dn := ⟨_, rfl⟩
  have HT : Hid (∀ W, Kept No w W → Calls Tryz.prog 62 #[.pointer (some ⟨m, 0, none⟩), .pointer (some ⟨a, 0, none⟩)] W fun e w' => e = .returned (.agg #[.int .i64 kd, .int .i64 at', .int .u64 u, .int .u64 nx]) ∧ Kept (fun k => SG s g k ∨ k = m) W w' ∧
      StoreIs 187 w' s g (ws.set x.at (x.next (ws.getD x.at 0))) (x.kind (ws.getD x.at 0)) x.at (ws.getD x.at 0) (x.next (ws.getD x.at 0)) (c + 1) ∧ StopAt w' m p t th (pt.step (ws.getD x.at 0)) (pt.gens (ws.getD x.at 0) 0)) :=
    Lib.hid (fun W hW => (hT W hW).mono fun e w' ⟨h1, h2⟩ => ⟨by rw [h1, ← hkd, ← hat, ← hu, ← hnx]; rfl, h2⟩)
  have HU := Lib.hid (And.intro hkd (And.intro hat (And.intro hu (And.intro hnx (And.intro hgn hdn)))))
  clear hkd hat hu hnx hgn hdn
  have HMu := Lib.hid hMu
  have HS := Lib.hid hS
  clear hMu hE hx hA hS hT
  have lμ : μ < w.heap.size := lt_of_block HMu.out
  go_enter Tryz.func14, Tryz.ntmps14
  have r0 : (w.alloc (.cells #[.int .i64 0, .int .i64 0, .int .u64 0, .int .u64 0] 45)).heap[w.heap.size]? = some (.cells #[.int .i64 0, .int .i64 0, .int .u64 0, .int .u64 0] 45 (0, 0)) := heap_alloc_new w _
  have K0 : Kept No w (w.alloc (.cells #[.int .i64 0, .int .i64 0, .int .u64 0, .int .u64 0] 45)) := (Kept.refl No w).alloc _
  have c0' : (w.alloc (.cells #[.int .i64 0, .int .i64 0, .int .u64 0, .int .u64 0] 45)).cell? ⟨μ, 2, none⟩ = some (.pointer (some ⟨m, 0, none⟩)) := cellOf (block_alloc HMu.out _) 2
  have c0 : w.cell? ⟨μ, 2, none⟩ = some (.pointer (some ⟨m, 0, none⟩)) := cellOf HMu.out 2
  have z0 : (w.alloc (.cells #[.int .i64 0, .int .i64 0, .int .u64 0, .int .u64 0] 45)).cell? ⟨μ, 0, none⟩ = some (.pointer none) := cellOf (block_alloc HMu.out _) 0
  have y0 : w.cell? ⟨μ, 0, none⟩ = some (.pointer none) := cellOf HMu.out 0
  have z1 : (w.alloc (.cells #[.int .i64 0, .int .i64 0, .int .u64 0, .int .u64 0] 45)).cell? ⟨μ, 1, none⟩ = some (.pointer none) := cellOf (block_alloc HMu.out _) 1
  have y1 : w.cell? ⟨μ, 1, none⟩ = some (.pointer none) := cellOf HMu.out 1
  go_wp2_with fail
  generalize w.alloc (.cells #[.int .i64 0, .int .i64 0, .int .u64 0, .int .u64 0] 45) = wA at r0 K0 c0' z0 z1 ⊢
  obtain ⟨r1, hr1⟩ : ∃ r1, w.heap.size = r1 := ⟨_, rfl⟩
  rw [hr1] at r0 ⊢
  have R0 := Lib.hid r0
  have HR := Lib.hid hr1
  have lA : μ < wA.heap.size := Nat.lt_of_lt_of_le lμ K0.size
  have hrF : ¬ (SG s g r1 ∨ r1 = m) := by
    rintro ((e | e) | e)
    · exact absurd (lt_of_block HS.out.obj) (by rw [← e, HR.out]; exact Nat.lt_irrefl _)
    · exact absurd (lt_of_block HS.out.row) (by rw [← e, HR.out]; exact Nat.lt_irrefl _)
    · exact absurd hmm (by rw [← e, HR.out]; exact Nat.lt_irrefl _)
  have hμr : μ ≠ r1 := by have := HR.out; omega
  clear r0 hr1 c0 z0 z1 y0 y1
  have hS0 : wA.drew.cell? ⟨μ, 2, none⟩ = some (.pointer (some ⟨m, 0, none⟩)) := c0'
  go_region_held3 (fun W => W.cell? ⟨μ, 2, none⟩ = some (.pointer (some ⟨m, 0, none⟩))) (first | with_reducible exact hS0 | with_reducible exact hS2 | with_reducible exact set4_cell hS2 hμr _ _ _ _)
    (first
      | (go_at_call 62; refine (HT.out _ K0.drew).mono ?_; rintro e w2 ⟨rfl, hK, hS', hT'⟩; have hS2 : w2.cell? ⟨μ, 2, none⟩ = some (.pointer (some ⟨m, 0, none⟩)) := (hK.cell lA (by simp [SG, hμm, hμs, hμg])).trans hS0; have R2 := hK.at (show wA.drew.heap[r1]? = _ from R0.out) hrF; have g0 := cellOf R2 0; have g1 := cellOf R2 1; have g2 := cellOf R2 2; have g3 := cellOf R2 3; simp only [List.getElem?_toArray, List.getElem?_cons_zero, List.getElem?_cons_succ] at g0 g1 g2 g3; have q0 := freeOf R2 0; have q1 := freeOf R2 1; have q2 := freeOf R2 2; have q3 := freeOf R2 3; replace R2 := Lib.hid R2; have HD : Hid (Calls Tryz.prog 63 #[.pointer (some ⟨m, 0, none⟩)] w2 fun e w' => e = .returned (.bool dn) ∧ w2 = w') := Lib.hid (by rw [← HU.out.2.2.2.2.2]; exact stopDone_any (stop_done hT')); have HG : Hid (Calls Tryz.prog 64 #[.pointer (some ⟨m, 0, none⟩)] w2 fun e w' => e = .returned (.int .i64 gn) ∧ w2 = w') := Lib.hid (by rw [← HU.out.2.2.2.2.1]; obtain ⟨nv, bm, h1, _⟩ := hT'; exact stopGen_any h1); replace hS' := Lib.hid hS'; replace hT' := Lib.hid hT')
      | (go_at_call 63; refine HD.out.mono ?_; rintro e w3 ⟨rfl, rfl⟩)
      | (go_at_call 64; refine HG.out.mono ?_; rintro e w3 ⟨rfl, rfl⟩))
  go_wp2_with fail
  obtain ⟨r1', r2', r3'⟩ := do_close HR.out K0.drew R2.out (by simp) hK hmm hS'.out (pt := .stop pt) hT'.out (.int .i64 kd) (.int .i64 at') (.int .u64 u) (.int .u64 nx) _ rfl
  obtain ⟨e1, e2, e3, e4, e5, e6⟩ := HU.out
  refine bodyPost_ret (v := .tuple #[.agg #[.int .i64 kd, .int .i64 at', .int .u64 u, .int .u64 nx], .bool dn, .int .i64 gn]) (by simp [results, Tryz.results14, go_sem, g0, g1, g2, g3]) rfl ⟨?_, r1', r2', r3'⟩
  rw [← e1, ← e2, ← e3, ← e4, ← e5, ← e6]
  rfl
set_option maxRecDepth 100000 in
set_option maxHeartbeats 4000000 in
theorem do_exit {μ r a s g : Nat}  {ws : List Int} {k o n' o' c : Int} {qv : Value} (hMu : MuAt w μ m r (.exit false)) (hE : ExitAt w m p t false)
    (hA : ArenaAt w a p t s qv) (hS : StoreIs 187 w s g ws k o n' o' c) (hlen : 5 ≤ ws.length) (hc : 0 ≤ c ∧ c < 1000000) :
    Calls Tryz.prog 14 #[.pointer (some ⟨μ, 0, none⟩), .pointer (some ⟨a, 0, none⟩)] w (DoPost w s g m ws (.add 4 18446744073709551615) c p t th (.exit false)) := by
  have hmm : m < w.heap.size := by obtain ⟨nv, bm, h1, _⟩ := hE; exact lt_of_block h1
  have hμm : μ ≠ m := by obtain ⟨nv, bm, h1, _⟩ := hE; exact type_ne' hMu h1 (by decide)
  have hμs : μ ≠ s := type_ne' hMu hS.obj (by decide)
  have hμg : μ ≠ g := type_ne' hMu hS.row (by decide)
  have hT : ∀ W, Kept No w W → Calls Tryz.prog 60 #[.pointer (some ⟨m, 0, none⟩), .pointer (some ⟨a, 0, none⟩)] W (MStep W s g m ws (.add 4 18446744073709551615) c fun w' => ExitAt w' m p t true) := fun W hK =>
    exit_mach (hE.kept hK (fun h => h) (Far.of (fun _ h => h.elim))) (hA.kept hK (fun h => h)) (hS.kept hK (fun h => h) (fun h => h)) hlen hc
  obtain ⟨kd, hkd⟩ : ∃ kd, (.add 4 18446744073709551615 : Nx).kind (ws.getD (.add 4 18446744073709551615 : Nx).at 0) = kd := ⟨_, rfl⟩
  obtain ⟨at', hat⟩ : ∃ at' : Int, ((.add 4 18446744073709551615 : Nx).at : Int) = at' := ⟨_, rfl⟩
  obtain ⟨u, hu⟩ : ∃ u, ws.getD (.add 4 18446744073709551615 : Nx).at 0 = u := ⟨_, rfl⟩
  obtain ⟨nx, hnx⟩ : ∃ nx, (.add 4 18446744073709551615 : Nx).next (ws.getD (.add 4 18446744073709551615 : Nx).at 0) = nx := ⟨_, rfl⟩
  have HT : Hid (∀ W, Kept No w W → Calls Tryz.prog 60 #[.pointer (some ⟨m, 0, none⟩), .pointer (some ⟨a, 0, none⟩)] W fun e w' => e = .returned (.agg #[.int .i64 kd, .int .i64 at', .int .u64 u, .int .u64 nx]) ∧ Kept (fun k => SG s g k ∨ k = m) W w' ∧
      StoreIs 187 w' s g (ws.set (.add 4 18446744073709551615 : Nx).at ((.add 4 18446744073709551615 : Nx).next (ws.getD (.add 4 18446744073709551615 : Nx).at 0))) ((.add 4 18446744073709551615 : Nx).kind (ws.getD (.add 4 18446744073709551615 : Nx).at 0)) (.add 4 18446744073709551615 : Nx).at (ws.getD (.add 4 18446744073709551615 : Nx).at 0) ((.add 4 18446744073709551615 : Nx).next (ws.getD (.add 4 18446744073709551615 : Nx).at 0)) (c + 1) ∧ ExitAt w' m p t true) :=
    Lib.hid (fun W hW => (hT W hW).mono fun e w' ⟨h1, h2⟩ => ⟨by rw [h1, ← hkd, ← hat, ← hu, ← hnx]; rfl, h2⟩)
  have HU := Lib.hid (And.intro hkd (And.intro hat (And.intro hu hnx)))
  clear hkd hat hu hnx
  have HMu := Lib.hid hMu
  have HS := Lib.hid hS
  clear hMu hE hA hS hT
  have lμ : μ < w.heap.size := lt_of_block HMu.out
  go_enter Tryz.func14, Tryz.ntmps14
  have r0 : (w.alloc (.cells #[.int .i64 0, .int .i64 0, .int .u64 0, .int .u64 0] 45)).heap[w.heap.size]? = some (.cells #[.int .i64 0, .int .i64 0, .int .u64 0, .int .u64 0] 45 (0, 0)) := heap_alloc_new w _
  have K0 : Kept No w (w.alloc (.cells #[.int .i64 0, .int .i64 0, .int .u64 0, .int .u64 0] 45)) := (Kept.refl No w).alloc _
  have c0' : (w.alloc (.cells #[.int .i64 0, .int .i64 0, .int .u64 0, .int .u64 0] 45)).cell? ⟨μ, 1, none⟩ = some (.pointer (some ⟨m, 0, none⟩)) := cellOf (block_alloc HMu.out _) 1
  have c0 : w.cell? ⟨μ, 1, none⟩ = some (.pointer (some ⟨m, 0, none⟩)) := cellOf HMu.out 1
  have z0 : (w.alloc (.cells #[.int .i64 0, .int .i64 0, .int .u64 0, .int .u64 0] 45)).cell? ⟨μ, 0, none⟩ = some (.pointer none) := cellOf (block_alloc HMu.out _) 0
  have y0 : w.cell? ⟨μ, 0, none⟩ = some (.pointer none) := cellOf HMu.out 0
  go_wp2_with fail
  generalize w.alloc (.cells #[.int .i64 0, .int .i64 0, .int .u64 0, .int .u64 0] 45) = wA at r0 K0 c0' z0 ⊢
  obtain ⟨r1, hr1⟩ : ∃ r1, w.heap.size = r1 := ⟨_, rfl⟩
  rw [hr1] at r0 ⊢
  have R0 := Lib.hid r0
  have HR := Lib.hid hr1
  have lA : μ < wA.heap.size := Nat.lt_of_lt_of_le lμ K0.size
  have hrF : ¬ (SG s g r1 ∨ r1 = m) := by
    rintro ((e | e) | e)
    · exact absurd (lt_of_block HS.out.obj) (by rw [← e, HR.out]; exact Nat.lt_irrefl _)
    · exact absurd (lt_of_block HS.out.row) (by rw [← e, HR.out]; exact Nat.lt_irrefl _)
    · exact absurd hmm (by rw [← e, HR.out]; exact Nat.lt_irrefl _)
  have hμr : μ ≠ r1 := by have := HR.out; omega
  clear r0 hr1 c0 z0 y0
  have hS0 : wA.drew.cell? ⟨μ, 1, none⟩ = some (.pointer (some ⟨m, 0, none⟩)) := c0'
  go_region_held3 (fun W => W.cell? ⟨μ, 1, none⟩ = some (.pointer (some ⟨m, 0, none⟩))) (first | with_reducible exact hS0 | with_reducible exact hS2 | with_reducible exact set4_cell hS2 hμr _ _ _ _)
    (first
      | (go_at_call 60; refine (HT.out _ K0.drew).mono ?_; rintro e w2 ⟨rfl, hK, hS', hT'⟩; have hS2 : w2.cell? ⟨μ, 1, none⟩ = some (.pointer (some ⟨m, 0, none⟩)) := (hK.cell lA (by simp [SG, hμm, hμs, hμg])).trans hS0; have R2 := hK.at (show wA.drew.heap[r1]? = _ from R0.out) hrF; have g0 := cellOf R2 0; have g1 := cellOf R2 1; have g2 := cellOf R2 2; have g3 := cellOf R2 3; simp only [List.getElem?_toArray, List.getElem?_cons_zero, List.getElem?_cons_succ] at g0 g1 g2 g3; have q0 := freeOf R2 0; have q1 := freeOf R2 1; have q2 := freeOf R2 2; have q3 := freeOf R2 3; replace R2 := Lib.hid R2; have HD : Hid (Calls Tryz.prog 61 #[.pointer (some ⟨m, 0, none⟩)] w2 fun e w' => e = .returned (.bool true) ∧ w2 = w') := Lib.hid (exitDone_any (exit_done hT')); replace hS' := Lib.hid hS'; replace hT' := Lib.hid hT')
      | (go_at_call 61; refine HD.out.mono ?_; rintro e w3 ⟨rfl, rfl⟩))
  go_wp2_with fail
  obtain ⟨r1', r2', r3'⟩ := do_close HR.out K0.drew R2.out (by simp) hK hmm hS'.out (pt := .exit false) (x := .add 4 18446744073709551615) hT'.out (.int .i64 kd) (.int .i64 at') (.int .u64 u) (.int .u64 nx) _ rfl
  obtain ⟨e1, e2, e3, e4⟩ := HU.out
  refine bodyPost_ret (v := .tuple #[.agg #[.int .i64 kd, .int .i64 at', .int .u64 u, .int .u64 nx], .bool true, .int .i64 0]) (by simp [results, Tryz.results14, go_sem, g0, g1, g2, g3]) rfl ⟨?_, r1', r2', r3'⟩
  rw [← e1, ← e2, ← e3, ← e4]
  rfl
set_option maxRecDepth 100000 in
set_option maxHeartbeats 4000000 in
theorem do_go {μ r a s g : Nat}  {ws : List Int} {k o n' o' c : Int} {qv : Value} (hMu : MuAt w μ m r (.go false)) (hE : GoAt w m p t false)
    (hA : ArenaAt w a p t s qv) (hS : StoreIs 187 w s g ws k o n' o' c) (hlen : 5 ≤ ws.length) (hc : 0 ≤ c ∧ c < 1000000) :
    Calls Tryz.prog 14 #[.pointer (some ⟨μ, 0, none⟩), .pointer (some ⟨a, 0, none⟩)] w (DoPost w s g m ws (.put 1 0) c p t th (.go false)) := by
  have hmm : m < w.heap.size := by obtain ⟨nv, h1, _⟩ := hE; exact lt_of_block h1
  have hμm : μ ≠ m := by obtain ⟨nv, h1, _⟩ := hE; exact type_ne' hMu h1 (by decide)
  have hμs : μ ≠ s := type_ne' hMu hS.obj (by decide)
  have hμg : μ ≠ g := type_ne' hMu hS.row (by decide)
  have hT : ∀ W, Kept No w W → Calls Tryz.prog 65 #[.pointer (some ⟨m, 0, none⟩), .pointer (some ⟨a, 0, none⟩)] W (MStep W s g m ws (.put 1 0) c fun w' => GoAt w' m p t true) := fun W hK =>
    go_mach (hE.kept hK (fun h => h) (Far.of (fun _ h => h.elim))) (hA.kept hK (fun h => h)) (hS.kept hK (fun h => h) (fun h => h)) hlen hc
  obtain ⟨kd, hkd⟩ : ∃ kd, (.put 1 0 : Nx).kind (ws.getD (.put 1 0 : Nx).at 0) = kd := ⟨_, rfl⟩
  obtain ⟨at', hat⟩ : ∃ at' : Int, ((.put 1 0 : Nx).at : Int) = at' := ⟨_, rfl⟩
  obtain ⟨u, hu⟩ : ∃ u, ws.getD (.put 1 0 : Nx).at 0 = u := ⟨_, rfl⟩
  obtain ⟨nx, hnx⟩ : ∃ nx, (.put 1 0 : Nx).next (ws.getD (.put 1 0 : Nx).at 0) = nx := ⟨_, rfl⟩
  have HT : Hid (∀ W, Kept No w W → Calls Tryz.prog 65 #[.pointer (some ⟨m, 0, none⟩), .pointer (some ⟨a, 0, none⟩)] W fun e w' => e = .returned (.agg #[.int .i64 kd, .int .i64 at', .int .u64 u, .int .u64 nx]) ∧ Kept (fun k => SG s g k ∨ k = m) W w' ∧
      StoreIs 187 w' s g (ws.set (.put 1 0 : Nx).at ((.put 1 0 : Nx).next (ws.getD (.put 1 0 : Nx).at 0))) ((.put 1 0 : Nx).kind (ws.getD (.put 1 0 : Nx).at 0)) (.put 1 0 : Nx).at (ws.getD (.put 1 0 : Nx).at 0) ((.put 1 0 : Nx).next (ws.getD (.put 1 0 : Nx).at 0)) (c + 1) ∧ GoAt w' m p t true) :=
    Lib.hid (fun W hW => (hT W hW).mono fun e w' ⟨h1, h2⟩ => ⟨by rw [h1, ← hkd, ← hat, ← hu, ← hnx]; rfl, h2⟩)
  have HU := Lib.hid (And.intro hkd (And.intro hat (And.intro hu hnx)))
  clear hkd hat hu hnx
  have HMu := Lib.hid hMu
  have HS := Lib.hid hS
  clear hMu hE hA hS hT
  have lμ : μ < w.heap.size := lt_of_block HMu.out
  go_enter Tryz.func14, Tryz.ntmps14
  have r0 : (w.alloc (.cells #[.int .i64 0, .int .i64 0, .int .u64 0, .int .u64 0] 45)).heap[w.heap.size]? = some (.cells #[.int .i64 0, .int .i64 0, .int .u64 0, .int .u64 0] 45 (0, 0)) := heap_alloc_new w _
  have K0 : Kept No w (w.alloc (.cells #[.int .i64 0, .int .i64 0, .int .u64 0, .int .u64 0] 45)) := (Kept.refl No w).alloc _
  have c0' : (w.alloc (.cells #[.int .i64 0, .int .i64 0, .int .u64 0, .int .u64 0] 45)).cell? ⟨μ, 3, none⟩ = some (.pointer (some ⟨m, 0, none⟩)) := cellOf (block_alloc HMu.out _) 3
  have c0 : w.cell? ⟨μ, 3, none⟩ = some (.pointer (some ⟨m, 0, none⟩)) := cellOf HMu.out 3
  have z0 : (w.alloc (.cells #[.int .i64 0, .int .i64 0, .int .u64 0, .int .u64 0] 45)).cell? ⟨μ, 0, none⟩ = some (.pointer none) := cellOf (block_alloc HMu.out _) 0
  have y0 : w.cell? ⟨μ, 0, none⟩ = some (.pointer none) := cellOf HMu.out 0
  have z1 : (w.alloc (.cells #[.int .i64 0, .int .i64 0, .int .u64 0, .int .u64 0] 45)).cell? ⟨μ, 1, none⟩ = some (.pointer none) := cellOf (block_alloc HMu.out _) 1
  have y1 : w.cell? ⟨μ, 1, none⟩ = some (.pointer none) := cellOf HMu.out 1
  have z2 : (w.alloc (.cells #[.int .i64 0, .int .i64 0, .int .u64 0, .int .u64 0] 45)).cell? ⟨μ, 2, none⟩ = some (.pointer none) := cellOf (block_alloc HMu.out _) 2
  have y2 : w.cell? ⟨μ, 2, none⟩ = some (.pointer none) := cellOf HMu.out 2
  go_wp2_with fail
  generalize w.alloc (.cells #[.int .i64 0, .int .i64 0, .int .u64 0, .int .u64 0] 45) = wA at r0 K0 c0' z0 z1 z2 ⊢
  obtain ⟨r1, hr1⟩ : ∃ r1, w.heap.size = r1 := ⟨_, rfl⟩
  rw [hr1] at r0 ⊢
  have R0 := Lib.hid r0
  have HR := Lib.hid hr1
  have lA : μ < wA.heap.size := Nat.lt_of_lt_of_le lμ K0.size
  have hrF : ¬ (SG s g r1 ∨ r1 = m) := by
    rintro ((e | e) | e)
    · exact absurd (lt_of_block HS.out.obj) (by rw [← e, HR.out]; exact Nat.lt_irrefl _)
    · exact absurd (lt_of_block HS.out.row) (by rw [← e, HR.out]; exact Nat.lt_irrefl _)
    · exact absurd hmm (by rw [← e, HR.out]; exact Nat.lt_irrefl _)
  have hμr : μ ≠ r1 := by have := HR.out; omega
  clear r0 hr1 c0 z0 z1 z2 y0 y1 y2
  have hS0 : wA.drew.cell? ⟨μ, 3, none⟩ = some (.pointer (some ⟨m, 0, none⟩)) := c0'
  go_region_held3 (fun W => W.cell? ⟨μ, 3, none⟩ = some (.pointer (some ⟨m, 0, none⟩))) (first | with_reducible exact hS0 | with_reducible exact hS2 | with_reducible exact set4_cell hS2 hμr _ _ _ _)
    (first
      | (go_at_call 65; refine (HT.out _ K0.drew).mono ?_; rintro e w2 ⟨rfl, hK, hS', hT'⟩; have hS2 : w2.cell? ⟨μ, 3, none⟩ = some (.pointer (some ⟨m, 0, none⟩)) := (hK.cell lA (by simp [SG, hμm, hμs, hμg])).trans hS0; have R2 := hK.at (show wA.drew.heap[r1]? = _ from R0.out) hrF; have g0 := cellOf R2 0; have g1 := cellOf R2 1; have g2 := cellOf R2 2; have g3 := cellOf R2 3; simp only [List.getElem?_toArray, List.getElem?_cons_zero, List.getElem?_cons_succ] at g0 g1 g2 g3; have q0 := freeOf R2 0; have q1 := freeOf R2 1; have q2 := freeOf R2 2; have q3 := freeOf R2 3; replace R2 := Lib.hid R2; have HD : Hid (Calls Tryz.prog 66 #[.pointer (some ⟨m, 0, none⟩)] w2 fun e w' => e = .returned (.bool true) ∧ w2 = w') := Lib.hid (goDone_any (go_done hT')); replace hS' := Lib.hid hS'; replace hT' := Lib.hid hT')
      | (go_at_call 66; refine HD.out.mono ?_; rintro e w3 ⟨rfl, rfl⟩))
  go_wp2_with fail
  obtain ⟨r1', r2', r3'⟩ := do_close HR.out K0.drew R2.out (by simp) hK hmm hS'.out (pt := .go false) (x := .put 1 0) hT'.out (.int .i64 kd) (.int .i64 at') (.int .u64 u) (.int .u64 nx) _ rfl
  obtain ⟨e1, e2, e3, e4⟩ := HU.out
  refine bodyPost_ret (v := .tuple #[.agg #[.int .i64 kd, .int .i64 at', .int .u64 u, .int .u64 nx], .bool true, .int .i64 0]) (by simp [results, Tryz.results14, go_sem, g0, g1, g2, g3]) rfl ⟨?_, r1', r2', r3'⟩
  rw [← e1, ← e2, ← e3, ← e4]
  rfl

theorem do_any {μ r a s g : Nat} {pt : WP} {x : Nx} {ws : List Int} {k o n' o' c : Int} {qv : Value} (hMu : MuAt w μ m r pt) (hP : PAt w m p t th pt 0) (hx : pt.nx th = some x)
    (hA : ArenaAt w a p t s qv) (hS : StoreIs 187 w s g ws k o n' o' c) (hlen : 5 ≤ ws.length) (hc : 0 ≤ c ∧ c < 1000000) :
    Calls Tryz.prog 14 #[.pointer (some ⟨μ, 0, none⟩), .pointer (some ⟨a, 0, none⟩)] w (DoPost w s g m ws x c p t th pt) := by
  cases pt with
  | enter pt => exact do_enter hMu hP hx hA hS hlen hc
  | stop pt => exact do_stop hMu hP hx hA hS hlen hc
  | exit d =>
    cases d
    · simp [WP.nx] at hx; subst hx; exact do_exit hMu hP hA hS hlen hc
    · simp [WP.nx] at hx
  | go d =>
    cases d
    · simp [WP.nx] at hx; subst hx; exact do_go hMu hP hA hS hlen hc
    · simp [WP.nx] at hx
end
end Go.Proofs.YtffafkmmfaaobaaGreat
