/- The machines of layer 20: their steps, whether they are done, what they tell, how they are made. -/
import Derived.Test.YtffafkmmfaaobaaGreatWr7
namespace Go.Proofs.YtffafkmmfaaobaaGreat
set_option linter.unusedSimpArgs false
set_option linter.unusedVariables false
open Go.RowKit

section
variable {w : World} {a s g : Nat} {p t : Int} {qv : Value} {ws : List Int} {k o n' o' c : Int} {m : Nat} {gen th : Int}

theorem TUp.exit {dn : Bool} : TUp fun w => ExitAt w m p t dn :=
  TUp.ex fun nv => TUp.ex fun bm => TUp.and (TUp.block (by decide)) (TUp.and (TUp.block (by decide)) (by
    cases dn
    · exact (TUp.next : TUp fun w => NextIs w nv 107 #[] #[.pointer (some ⟨bm, 0, none⟩)] (.add 4 18446744073709551615))
    · exact (TUp.pure : TUp fun _ => nv = .nilFunc)))
theorem TUp.go {dn : Bool} : TUp fun w => GoAt w m p t dn :=
  TUp.ex fun nv => TUp.and (TUp.block (by decide)) (by
    cases dn
    · exact (TUp.next : TUp fun w => NextIs w nv 108 #[.pointer (some ⟨m, 0, none⟩)] #[] (.put 1 0))
    · exact (TUp.pure : TUp fun _ => nv = .nilFunc))
theorem TUp.stop {pt : SP} : TUp fun w => StopAt w m p t th pt gen :=
  TUp.ex fun nv => TUp.ex fun bm => TUp.and (TUp.block (by decide)) (TUp.and (TUp.block (by decide)) (by
    cases pt
    · exact (TUp.next : TUp fun w => NextIs w nv 111 #[] #[.pointer (some ⟨bm, 0, none⟩)] (.cas 1 0 (th + 1)))
    · exact (TUp.next : TUp fun w => NextIs w nv 113 #[.pointer (some ⟨m, 0, none⟩)] #[] (.load 4))
    · exact (TUp.next : TUp fun w => NextIs w nv 168 #[] #[.pointer (some ⟨bm, 0, none⟩)] (.load 0))
    · exact (TUp.pure : TUp fun _ => nv = .nilFunc)))

theorem hG_of {nv : Value} {rest : List Value} {ty : TypeId} (hM : MachIs w m p t nv rest ty) (hS : StoreIs 187 w s g ws k o n' o' c) : ∀ k, (SG s g k ∨ k = m) → k < w.heap.size := by
  rintro k ((rfl | rfl) | rfl)
  · exact lt_of_block hS.obj
  · exact lt_of_block hS.row
  · exact lt_of_block hM

theorem exit_mach (hE : ExitAt w m p t false) (hA : ArenaAt w a p t s qv) (hS : StoreIs 187 w s g ws k o n' o' c) (hlen : 5 ≤ ws.length) (hc : 0 ≤ c ∧ c < 1000000) :
    Calls Tryz.prog 60 #[.pointer (some ⟨m, 0, none⟩), .pointer (some ⟨a, 0, none⟩)] w (MStep w s g m ws (.add 4 18446744073709551615) c fun w' => ExitAt w' m p t true) := by
  obtain ⟨nv, bm, hM, hb, hN⟩ := hE
  have hma : m ≠ a := type_ne' hM hA (by decide)
  have hms : m ≠ s := type_ne' hM hS.obj (by decide)
  have hmg : m ≠ g := type_ne' hM hS.row (by decide)
  have hbs : bm ≠ s := type_ne' hb hS.obj (by decide)
  have hbg : bm ≠ g := type_ne' hb hS.row (by decide)
  refine exitStep_any m (TUp.and TUp.store TUp.exit) (hG_of hM hS) (mach_gen _ m nv _ 162 hN hM hA hS (by omega) (by show 4 < _; omega) hc hma hms hmg TUp.exit (enters Tryz.func107 (by kernel_rfl) rfl) ?_)
  intro w1 hk
  exact c107_any (hk.at hM (by simp [SG, hms, hmg])) (hb.kept hk (by simp [SG, hbs, hbg])) _

theorem go_mach (hE : GoAt w m p t false) (hA : ArenaAt w a p t s qv) (hS : StoreIs 187 w s g ws k o n' o' c) (hlen : 5 ≤ ws.length) (hc : 0 ≤ c ∧ c < 1000000) :
    Calls Tryz.prog 65 #[.pointer (some ⟨m, 0, none⟩), .pointer (some ⟨a, 0, none⟩)] w (MStep w s g m ws (.put 1 0) c fun w' => GoAt w' m p t true) := by
  obtain ⟨nv, hM, hN⟩ := hE
  have hma : m ≠ a := type_ne' hM hA (by decide)
  have hms : m ≠ s := type_ne' hM hS.obj (by decide)
  have hmg : m ≠ g := type_ne' hM hS.row (by decide)
  refine goStep_any m (TUp.and TUp.store TUp.go) (hG_of hM hS) (mach_gen _ m nv _ 169 hN hM hA hS (by omega) (by show 1 < _; omega) hc hma hms hmg TUp.go (enters Tryz.func108 (by kernel_rfl) rfl) ?_)
  intro w1 hk
  exact c108_any (hk.at hM (by simp [SG, hms, hmg]))

theorem stop_mach {pt : SP} {x : Nx} (hx : pt.nx th = some x) (hE : StopAt w m p t th pt gen) (hA : ArenaAt w a p t s qv) (hS : StoreIs 187 w s g ws k o n' o' c) (hlen : 5 ≤ ws.length) (hc : 0 ≤ c ∧ c < 1000000) :
    Calls Tryz.prog 62 #[.pointer (some ⟨m, 0, none⟩), .pointer (some ⟨a, 0, none⟩)] w
      (MStep w s g m ws x c fun w' => StopAt w' m p t th (pt.step (ws.getD x.at 0)) (pt.gens (ws.getD x.at 0) gen)) := by
  obtain ⟨nv, bm, hM, hb, hN⟩ := hE
  have hma : m ≠ a := type_ne' hM hA (by decide)
  have hms : m ≠ s := type_ne' hM hS.obj (by decide)
  have hmg : m ≠ g := type_ne' hM hS.row (by decide)
  have hbs : bm ≠ s := type_ne' hb hS.obj (by decide)
  have hbg : bm ≠ g := type_ne' hb hS.row (by decide)
  have h1 : ∀ {w1}, Kept (SG s g) w w1 → MachIs w1 m p t nv [.int .i64 gen] 165 := fun hk => hk.at hM (by simp [SG, hms, hmg])
  have h2 : ∀ {w1}, Kept (SG s g) w w1 → OneAt w1 bm (.pointer (some ⟨m, 0, none⟩)) 50 := fun hk => hb.kept hk (by simp [SG, hbs, hbg])
  cases pt <;> simp [SP.nx] at hx <;> subst hx
  · refine stopStep_any m (TUp.and TUp.store TUp.stop) (hG_of hM hS) (mach_gen _ m nv _ 165 hN hM hA hS (by omega) (by show 1 < _; omega) hc hma hms hmg TUp.stop (enters Tryz.func111 (by kernel_rfl) rfl) ?_)
    intro w1 hk
    refine (c111_any (h1 hk) (h2 hk) (NextIs.sg (show NextIs w nv 111 #[] #[.pointer (some ⟨bm, 0, none⟩)] (.cas 1 0 (th + 1)) from hN) hS (by omega) hk) (decide (ws.getD 1 0 = 0))).mono ?_
    rintro e w2 ⟨r1, r2, r3⟩
    refine ⟨r1, r2, ?_⟩
    by_cases h : ws.getD 1 0 = 0 <;> simpa [SP.step, SP.gens, Nx.at, h] using r3
  · refine stopStep_any m (TUp.and TUp.store TUp.stop) (hG_of hM hS) (mach_gen _ m nv _ 165 hN hM hA hS (by omega) (by show 4 < _; omega) hc hma hms hmg TUp.stop (enters Tryz.func113 (by kernel_rfl) rfl) ?_)
    intro w1 hk
    exact c113_any (h1 hk) (h2 hk) (NextIs.sg (show NextIs w nv 113 #[.pointer (some ⟨m, 0, none⟩)] #[] (.load 4) from hN) hS (by omega) hk) _
  · refine stopStep_any m (TUp.and TUp.store TUp.stop) (hG_of hM hS) (mach_gen _ m nv _ 165 hN hM hA hS (by omega) (by show 0 < _; omega) hc hma hms hmg TUp.stop (enters Tryz.func168 (by kernel_rfl) rfl) ?_)
    intro w1 hk
    exact c168_any (h1 hk) (h2 hk) _

set_option maxRecDepth 100000 in
theorem eq_nil (W : World) : (binOp .eql 79 .nilFunc .nilFunc).run Tryz.prog W = .ok (.bool true) W := rfl
set_option maxRecDepth 100000 in
theorem eq_func (C : FuncId) (cap : Array Value) (W : World) : (binOp .eql 79 (.func (.func C) #[] cap) .nilFunc).run Tryz.prog W = .ok (.bool false) W := rfl

set_option maxRecDepth 100000 in
set_option maxHeartbeats 1000000 in
theorem deskDone_nil (h : w.cell? ⟨m, 2, none⟩ = some .nilFunc) :
    Calls Tryz.prog 76 #[.pointer (some ⟨m, 0, none⟩)] w fun e w' => e = .returned (.bool true) ∧ w = w' := by
  have q := eq_nil
  go_enter Tryz.func76, Tryz.ntmps76
  go_wp2
  go_ret
  exact ⟨rfl, rfl⟩
set_option maxRecDepth 100000 in
set_option maxHeartbeats 1000000 in
theorem deskDone_func {C : FuncId} {cap : Array Value} (h : w.cell? ⟨m, 2, none⟩ = some (.func (.func C) #[] cap)) :
    Calls Tryz.prog 76 #[.pointer (some ⟨m, 0, none⟩)] w fun e w' => e = .returned (.bool false) ∧ w = w' := by
  have q := eq_func C cap
  go_enter Tryz.func76, Tryz.ntmps76
  go_wp2
  go_ret
  exact ⟨rfl, rfl⟩

/-- What is next is a function. -/
theorem NextIs.func {nv : Value} {K : FuncId} {fs cap : Array Value} {x : Nx} (h : NextIs w nv K fs cap x) : ∃ C cp, nv = .func (.func C) #[] cp := by
  cases x with
  | load i => obtain ⟨_, _, rfl, _⟩ := h; exact ⟨_, _, rfl⟩
  | put i v => obtain ⟨_, _, _, rfl, _⟩ := h; exact ⟨_, _, rfl⟩
  | cas i x y => obtain ⟨_, _, _, _, rfl, _⟩ := h; exact ⟨_, _, rfl⟩
  | add i d => obtain ⟨_, _, _, rfl, _⟩ := h; exact ⟨_, _, rfl⟩

theorem deskDone_any {nv : Value} {rest : List Value} {ty : TypeId} (hM : MachIs w m p t nv rest ty) (b : Bool) (h : if b then nv = .nilFunc else ∃ C cp, nv = .func (.func C) #[] cp) :
    Calls Tryz.prog 76 #[.pointer (some ⟨m, 0, none⟩)] w fun e w' => e = .returned (.bool b) ∧ w = w' := by
  have c2 : w.cell? ⟨m, 2, none⟩ = some nv := (cellOf hM 2).trans (by simp)
  cases b
  · obtain ⟨C, cp, rfl⟩ := h
    exact deskDone_func c2
  · simp only [if_true] at h
    subst h
    exact deskDone_nil c2

set_option maxRecDepth 100000 in
set_option maxHeartbeats 1000000 in
theorem enterDone_any {b : Bool} (h : Calls Tryz.prog 76 #[.pointer (some ⟨m, 0, none⟩)] w fun e w' => e = .returned (.bool b) ∧ w = w') :
    Calls Tryz.prog 58 #[.pointer (some ⟨m, 0, none⟩)] w fun e w' => e = .returned (.bool b) ∧ w = w' := by
  go_enter Tryz.func58, Tryz.ntmps58
  go_wp2_with (go_at_call 76; refine h.mono ?_; rintro e w1 ⟨rfl, rfl⟩)
  go_ret
  exact ⟨rfl, rfl⟩

set_option maxRecDepth 100000 in
set_option maxHeartbeats 1000000 in
theorem exitDone_any {b : Bool} (h : Calls Tryz.prog 76 #[.pointer (some ⟨m, 0, none⟩)] w fun e w' => e = .returned (.bool b) ∧ w = w') :
    Calls Tryz.prog 61 #[.pointer (some ⟨m, 0, none⟩)] w fun e w' => e = .returned (.bool b) ∧ w = w' := by
  go_enter Tryz.func61, Tryz.ntmps61
  go_wp2_with (go_at_call 76; refine h.mono ?_; rintro e w1 ⟨rfl, rfl⟩)
  go_ret
  exact ⟨rfl, rfl⟩

set_option maxRecDepth 100000 in
set_option maxHeartbeats 1000000 in
theorem stopDone_any {b : Bool} (h : Calls Tryz.prog 76 #[.pointer (some ⟨m, 0, none⟩)] w fun e w' => e = .returned (.bool b) ∧ w = w') :
    Calls Tryz.prog 63 #[.pointer (some ⟨m, 0, none⟩)] w fun e w' => e = .returned (.bool b) ∧ w = w' := by
  go_enter Tryz.func63, Tryz.ntmps63
  go_wp2_with (go_at_call 76; refine h.mono ?_; rintro e w1 ⟨rfl, rfl⟩)
  go_ret
  exact ⟨rfl, rfl⟩

set_option maxRecDepth 100000 in
set_option maxHeartbeats 1000000 in
theorem goDone_any {b : Bool} (h : Calls Tryz.prog 76 #[.pointer (some ⟨m, 0, none⟩)] w fun e w' => e = .returned (.bool b) ∧ w = w') :
    Calls Tryz.prog 66 #[.pointer (some ⟨m, 0, none⟩)] w fun e w' => e = .returned (.bool b) ∧ w = w' := by
  go_enter Tryz.func66, Tryz.ntmps66
  go_wp2_with (go_at_call 76; refine h.mono ?_; rintro e w1 ⟨rfl, rfl⟩)
  go_ret
  exact ⟨rfl, rfl⟩

set_option maxRecDepth 100000 in
set_option maxHeartbeats 1000000 in
theorem enterGen_any {nv : Value} (hM : MachIs w m p t nv [.int .i64 gen] 160) :
    Calls Tryz.prog 59 #[.pointer (some ⟨m, 0, none⟩)] w fun e w' => e = .returned (.int .i64 gen) ∧ w = w' := by
  have c3 : w.cell? ⟨m, 3, none⟩ = some (.int .i64 gen) := (cellOf hM 3).trans (by simp)
  clear hM
  go_enter Tryz.func59, Tryz.ntmps59
  go_wp2
  go_ret
  exact ⟨rfl, rfl⟩

set_option maxRecDepth 100000 in
set_option maxHeartbeats 1000000 in
theorem stopGen_any {nv : Value} (hM : MachIs w m p t nv [.int .i64 gen] 165) :
    Calls Tryz.prog 64 #[.pointer (some ⟨m, 0, none⟩)] w fun e w' => e = .returned (.int .i64 gen) ∧ w = w' := by
  have c3 : w.cell? ⟨m, 3, none⟩ = some (.int .i64 gen) := (cellOf hM 3).trans (by simp)
  clear hM
  go_enter Tryz.func64, Tryz.ntmps64
  go_wp2
  go_ret
  exact ⟨rfl, rfl⟩
end
end Go.Proofs.YtffafkmmfaaobaaGreat

namespace Go.Proofs.YtffafkmmfaaobaaGreat
set_option linter.unusedSimpArgs false
set_option linter.unusedVariables false
open Go.RowKit

section
variable {w0 w : World} {R : RC} {j : Nat}

def ExitOr (w0 : World) (R : RC) (j : Nat) (e : Ending) (w' : World) : Prop :=
  (Hid (j ≤ R.n) ∧ e = .returned (.bool true) ∧ Hid (RefS w0 R (j + 1) w')) ∨ (Hid (j = R.n + 1) ∧ e = .returned (.bool false) ∧ Hid (RefS w0 R (R.n + 1) w'))

set_option maxRecDepth 100000 in
set_option maxHeartbeats 1000000 in
theorem exit_any (h : RefS w0 R j w) (ok : R.Ok w0) (hj : j ≤ R.n + 1) (hx : j = R.n → R.x = .add 4 18446744073709551615) :
    Calls Tryz.prog 128 #[.pointer (some ⟨R.m, 0, none⟩)] w (ExitOr w0 R j) := by
  have HA := Lib.hid (madd_any h ok hj 4 18446744073709551615 (fun e => ⟨4, rfl, hx e⟩))
  clear h hx
  go_enter Tryz.func128, Tryz.ntmps128
  go_wp2_with fail
  refine HA.out.mono ?_
  rintro e w1 (⟨u, _, hl, rfl, h1⟩ | ⟨hl, rfl, h1⟩)
  · go_wp2_with fail
    go_ret
    exact .inl ⟨hl, rfl, h1⟩
  · go_wp2_with fail
    go_ret
    exact .inr ⟨hl, rfl, h1⟩

/-- A word is waited for: at j2 it was told to be 0; or it was not yet. -/
def TillPost (w0 : World) (R : RC) (j : Nat) (e : Ending) (w' : World) : Prop :=
  (∃ j2, j ≤ j2 ∧ j2 ≤ R.n ∧ (∀ k, j ≤ k → k < j2 → R.ys.getD k 0 ≠ 0) ∧ R.ys.getD j2 0 = 0 ∧ e = .returned (.bool true) ∧ RefS w0 R (j2 + 1) w') ∨
  ((∀ k, j ≤ k → k ≤ R.n → R.ys.getD k 0 ≠ 0) ∧ e = .returned (.bool false) ∧ RefS w0 R (R.n + 1) w')

set_option maxRecDepth 100000 in
set_option maxHeartbeats 2000000 in
theorem till_ref (i : Nat) (h : RefS w0 R j w) (ok : R.Ok w0) (hj : j ≤ R.n + 1) (hx : j ≤ R.n → (∀ k, j ≤ k → k < R.n → R.ys.getD k 0 ≠ 0) → R.x = .load i) :
    Calls Tryz.prog 194 #[.pointer (some ⟨R.m, 0, none⟩), .int .i64 (i : Int)] w (TillPost w0 R j) := by
  have H := Lib.hid h
  have HX := Lib.hid hx
  have OK := Lib.hid ok
  clear h hx ok
  go_enter Tryz.func194, Tryz.ntmps194
  go_wp2_with fail
  go_loopg [] (R.n + 1) (fun m wr => ∃ j1, j ≤ j1 ∧ j1 ≤ R.n + 1 ∧ R.n + 1 - j1 ≤ m ∧ Hid (∀ k, j ≤ k → k < j1 → R.ys.getD k 0 ≠ 0) ∧ Hid (RefS w0 R j1 wr))
  case atStart => exact ⟨j, Nat.le_refl _, hj, by omega, Lib.hid (fun k h1 h2 => by omega), H⟩
  case round =>
    obtain ⟨j1, h1, h2, hm, hne, hR⟩ := hrel
    by_cases he : j1 = R.n + 1
    · subst he
      have HA := Lib.hid (load_end hR.out (i : Int))
      clear h1 h2 hm hR
      go_wp2_with (go_at_call 170; refine HA.out.mono ?_; rintro e w1 ⟨rfl, h1⟩; replace h1 := Lib.hid h1)
      go_ret
      exact .inr ⟨fun k a b => hne.out k a (by omega), rfl, h1.out⟩
    · have hle : j1 ≤ R.n := by omega
      have HA := Lib.hid (load_ref hR.out OK.out hle (i : Int) (fun e => ⟨i, rfl, HX.out (by omega) (fun k a b => hne.out k a (by omega))⟩))
      by_cases hz : R.ys.getD j1 0 = 0
      · have HZ := Lib.hid hz
        rw [hz] at HA
        have Hle := Lib.hid (And.intro h1 hle)
        clear h1 h2 hm hR he hle hz
        go_wp2_with (go_at_call 170; refine HA.out.mono ?_; rintro e w1 ⟨rfl, h1⟩; replace h1 := Lib.hid h1)
        go_ret
        exact .inl ⟨j1, Hle.out.1, Hle.out.2, hne.out, HZ.out, rfl, h1.out⟩
      · have Hne : Hid (∀ k, j ≤ k → k < j1 + 1 → R.ys.getD k 0 ≠ 0) := Lib.hid (fun k a b => by
          by_cases e : k = j1
          · subst e; exact hz
          · exact hne.out k a (by omega))
        obtain ⟨u, hu⟩ : ∃ u, R.ys.getD j1 0 = u := ⟨_, rfl⟩
        rw [hu] at HA hz
        have hzb : (u == 0) = false := by simpa using hz
        have Hle := Lib.hid (And.intro h1 (And.intro hle hm))
        clear h1 h2 hm hR he hle hz hu hne
        go_wp2_with (go_at_call 170; refine HA.out.mono ?_; rintro e w1 ⟨rfl, h1⟩; replace h1 := Lib.hid h1)
        go_roundg (R.n + 1 - (j1 + 1))
        case measure => have := Hle.out; omega
        case rel => exact ⟨j1 + 1, by have := Hle.out; omega, by have := Hle.out; omega, Nat.le_refl _, Hne, h1⟩

/-- A machine of points goes by what is told. -/
structure Goes {α : Type} (R : RC) (step : α → Int → α) (q : Nat → α) (j : Nat) : Prop where
  step : ∀ k, j ≤ k → k ≤ R.n → q (k + 1) = step (q k) (R.ys.getD k 0)

def EnterPost (w0 : World) (R : RC) (q : Nat → EP) (e : Ending) (w' : World) : Prop :=
  (q (R.n + 1) = .done ∧ e = .returned (.tuple #[.int .i64 (wrap64 R.u), .bool true]) ∧ RefS w0 R (R.n + 1) w') ∨
  (q (R.n + 1) ≠ .done ∧ e = .returned (.tuple #[.int .i64 0, .bool false]) ∧ RefS w0 R (R.n + 1) w')

/-- Points of a machine whose last one has a step. -/
structure EAll (R : RC) (q : Nat → EP) (j : Nat) : Prop where
  step : ∀ k, j ≤ k → k ≤ R.n → q (k + 1) = (q k).step (R.ys.getD k 0)
  last : ∃ K, (q R.n).nx = some (R.x, K)

theorem EAll.live {q : Nat → EP} (h : EAll R q j) {k : Nat} (hk : j ≤ k) (hn : k ≤ R.n) : q k ≠ .done := by
  intro hd
  have : ∀ i, k + i ≤ R.n → q (k + i) = .done := by
    intro i
    induction i with
    | zero => intro _; exact hd
    | succ i ih => intro hi; rw [← Nat.add_assoc, h.step (k + i) (by omega) (by omega), ih (by omega)]; rfl
  have h2 := this (R.n - k) (by omega)
  rw [show k + (R.n - k) = R.n by omega] at h2
  obtain ⟨K, h3⟩ := h.last
  rw [h2] at h3; simp [EP.nx] at h3
theorem EAll.now {q : Nat → EP} (h : EAll R q j) {k : Nat} {pt : EP} (hp : q k = pt) (e : k = R.n) {x : Nx} {K : FuncId} (hx : pt.nx = some (x, K)) : R.x = x := by
  subst e
  obtain ⟨K', h3⟩ := h.last
  rw [hp, hx] at h3
  simp at h3; exact h3.1.symm
theorem EAll.waits {q : Nat → EP} (h : EAll R q j) {k : Nat} (hk : j ≤ k) (hp : q k = .wait) {m : Nat} (hm : m ≤ R.n + 1) (hne : ∀ i, k ≤ i → i < m → R.ys.getD i 0 ≠ 0) (hkm : k ≤ m) : q m = .wait := by
  have : ∀ i, k + i ≤ m → q (k + i) = .wait := by
    intro i
    induction i with
    | zero => intro _; exact hp
    | succ i ih =>
      intro hi
      rw [← Nat.add_assoc, h.step (k + i) (by omega) (by omega), ih (by omega)]
      exact if_neg (hne (k + i) (by omega) (by omega))
  have h2 := this (m - k) (by omega)
  rwa [show k + (m - k) = m by omega] at h2

set_option maxRecDepth 100000 in
set_option maxHeartbeats 4000000 in
theorem enter_ref (q : Nat → EP) (h : RefS w0 R j w) (ok : R.Ok w0) (hj : j ≤ R.n) (hq : EAll R q j) (h0 : q j = .begin) :
    Calls Tryz.prog 127 #[.pointer (some ⟨R.m, 0, none⟩)] w (EnterPost w0 R q) := by
  have H := Lib.hid h
  have HQ := Lib.hid hq
  have OK := Lib.hid ok
  have H0 := Lib.hid h0
  clear h ok hq h0
  go_enter Tryz.func127, Tryz.ntmps127
  go_wp2_with fail
  go_loopg [] (R.n + 1) (fun m wr => ∃ j1, j ≤ j1 ∧ j1 ≤ R.n + 1 ∧ R.n + 1 - j1 ≤ m ∧ Hid (q j1 = .begin) ∧ Hid (RefS w0 R j1 wr))
  case atStart => exact ⟨j, Nat.le_refl _, by omega, by omega, H0, H⟩
  case round =>
    obtain ⟨j1, h1, h2, hm, hb, hR⟩ := hrel
    go_wp2_with fail
    refine (madd_any hR.out OK.out h2 4 1 (fun e => ⟨4, rfl, HQ.out.now hb.out e rfl⟩)).mono ?_
    rintro e w1 (⟨u, _, hl, rfl, r1⟩ | ⟨hl, rfl, r1⟩)
    rotate_left
    · have q1 : Hid (q (R.n + 1) = .begin) := Lib.hid (hl.out ▸ hb.out)
      go_wp2_with fail
      go_ret2
      exact .inr ⟨by rw [q1.out]; simp, rfl, r1.out⟩
    have q1 : Hid (q (j1 + 1) = .world) := Lib.hid (by rw [HQ.out.step j1 h1 hl.out, hb.out]; rfl)
    go_wp2_with fail
    refine (mload_any r1.out OK.out (by have := hl.out; omega) 1 (fun e => ⟨1, rfl, HQ.out.now q1.out e rfl⟩)).mono ?_
    rintro e w2 (⟨u2, hu2, hl2, rfl, r2⟩ | ⟨hl2, rfl, r2⟩)
    rotate_left
    · have q2 : Hid (q (R.n + 1) = .world) := Lib.hid (hl2.out ▸ q1.out)
      go_wp2_with fail
      go_ret2
      exact .inr ⟨by rw [q2.out]; simp, rfl, r2.out⟩
    by_cases hz : u2 = 0
    · subst hz
      have q2 : Hid (q (j1 + 1 + 1) = .gen) := Lib.hid (by rw [HQ.out.step (j1 + 1) (by omega) hl2.out, q1.out]; exact if_pos hu2.out)
      go_wp2_with fail
      refine (mload_any r2.out OK.out (by have := hl2.out; omega) 0 (fun e => ⟨0, rfl, HQ.out.now q2.out e rfl⟩)).mono ?_
      rintro e w3 (⟨u3, hu3, hl3, rfl, r3⟩ | ⟨hl3, rfl, r3⟩)
      · have q3 : q (j1 + 1 + 1 + 1) = .done := by rw [HQ.out.step (j1 + 1 + 1) (by omega) hl3.out, q2.out]; rfl
        have hjn : j1 + 1 + 1 = R.n := by
          have := hl3.out
          by_cases e : j1 + 1 + 1 = R.n
          · exact e
          · exact absurd q3 (HQ.out.live (by omega) (by omega))
        have hF : Hid (q (R.n + 1) = .done ∧ u3 = R.u ∧ RefS w0 R (R.n + 1) w3) := Lib.hid ⟨hjn ▸ q3, by rw [← hu3.out, hjn, RC.ys_n], hjn ▸ r3.out⟩
        clear q3 hjn
        go_wp2_with fail
        go_ret2
        obtain ⟨f1, f2, f3⟩ := hF.out
        exact .inl ⟨f1, by rw [← f2]; rfl, f3⟩
      · have q3 : Hid (q (R.n + 1) = .gen) := Lib.hid (hl3.out ▸ q2.out)
        go_wp2_with fail
        go_ret2
        exact .inr ⟨by rw [q3.out]; simp, rfl, r3.out⟩
    · have hzb : (u2 == 0) = false := by simpa using hz
      have q2 : Hid (q (j1 + 1 + 1) = .back) := Lib.hid (by rw [HQ.out.step (j1 + 1) (by omega) hl2.out, q1.out]; exact if_neg (by rw [hu2.out]; exact hz))
      clear hz
      go_wp2_with fail
      refine (exit_any r2.out OK.out (by have := hl2.out; omega) (fun e => HQ.out.now q2.out e rfl)).mono ?_
      rintro e w3 (⟨hl3, rfl, r3⟩ | ⟨hl3, rfl, r3⟩)
      rotate_left
      · have q3 : Hid (q (R.n + 1) = .back) := Lib.hid (hl3.out ▸ q2.out)
        go_wp2_with fail
        go_ret2
        exact .inr ⟨by rw [q3.out]; simp, rfl, r3.out⟩
      have q3 : Hid (q (j1 + 1 + 1 + 1) = .wait) := Lib.hid (by rw [HQ.out.step (j1 + 1 + 1) (by omega) hl3.out, q2.out]; rfl)
      go_wp2_with fail
      refine (till_ref 1 r3.out OK.out (by have := hl3.out; omega) (fun a b => HQ.out.now (HQ.out.waits (by omega) q3.out (by omega) b a) rfl rfl)).mono ?_
      rintro e w4 (⟨j2, a1, a2, a3, a4, rfl, r4⟩ | ⟨a3, rfl, r4⟩)
      · have q4 : Hid (q (j2 + 1) = .begin) := Lib.hid (by rw [HQ.out.step j2 (by omega) a2, HQ.out.waits (by omega) q3.out (by omega) a3 a1]; exact if_pos a4)
        have R4 := Lib.hid r4
        have A := Lib.hid (And.intro a1 (And.intro a2 (And.intro hm h1)))
        clear a1 a2 a3 a4 r4 hm h1 h2
        go_wp2_with fail
        go_roundg (R.n + 1 - (j2 + 1))
        case measure => have := A.out; omega
        case rel => exact ⟨j2 + 1, by have := A.out; omega, by have := A.out; omega, Nat.le_refl _, q4, R4⟩
      · have q4 : Hid (q (R.n + 1) = .wait) := Lib.hid (HQ.out.waits (by omega) q3.out (by omega) (fun i x y => a3 i x (by omega)) (by have := hl3.out; omega))
        have R4 := Lib.hid r4
        clear a3 r4
        go_wp2_with fail
        go_ret2
        exact .inr ⟨by rw [q4.out]; simp, rfl, R4.out⟩

/-- Points of a machine whose last one has a step. -/
structure PAll {α : Type} (nx : α → Option Nx) (step : α → Int → α) (R : RC) (q : Nat → α) (j : Nat) : Prop where
  step : ∀ k, j ≤ k → k ≤ R.n → q (k + 1) = step (q k) (R.ys.getD k 0)
  last : nx (q R.n) = some R.x

theorem PAll.now {α : Type} {nx : α → Option Nx} {step : α → Int → α} {q : Nat → α} (h : PAll nx step R q j) {k : Nat} {pt : α} (hp : q k = pt) (e : k = R.n) {x : Nx} (hx : nx pt = some x) : R.x = x := by
  subst e
  have h3 := h.last
  rw [hp, hx] at h3
  simp at h3; exact h3.symm
/-- A point from which nothing leads on. -/
theorem PAll.stays {α : Type} {nx : α → Option Nx} {step : α → Int → α} {q : Nat → α} (h : PAll nx step R q j) {d : α} {k m : Nat} (hk : j ≤ k) (hp : q k = d) (hd : ∀ i, k ≤ i → i < m → step d (R.ys.getD i 0) = d) (hm : m ≤ R.n + 1) (hkm : k ≤ m) : q m = d := by
  have : ∀ i, k + i ≤ m → q (k + i) = d := by
    intro i
    induction i with
    | zero => intro _; exact hp
    | succ i ih => intro hi; rw [← Nat.add_assoc, h.step (k + i) (by omega) (by omega), ih (by omega)]; exact hd (k + i) (by omega) (by omega)
  have h2 := this (m - k) (by omega)
  rwa [show k + (m - k) = m by omega] at h2
theorem PAll.live {α : Type} {nx : α → Option Nx} {step : α → Int → α} {q : Nat → α} (h : PAll nx step R q j) {d : α} (hd : ∀ u, step d u = d) (hn : nx d = none) {k : Nat} (hk : j ≤ k) (hkn : k ≤ R.n) : q k ≠ d := by
  intro hp
  have h2 := h.stays hk hp (m := R.n) (fun i _ _ => hd _) (by omega) hkn
  have h3 := h.last
  rw [h2, hn] at h3; cases h3

def StopPost (w0 : World) (R : RC) (q : Nat → SP) (e : Ending) (w' : World) : Prop :=
  (q (R.n + 1) = .done ∧ e = .returned (.tuple #[.int .i64 (wrap64 R.u), .bool true]) ∧ RefS w0 R (R.n + 1) w') ∨
  (q (R.n + 1) ≠ .done ∧ e = .returned (.tuple #[.int .i64 0, .bool false]) ∧ RefS w0 R (R.n + 1) w')

set_option maxRecDepth 100000 in
set_option maxHeartbeats 4000000 in
theorem stop_ref (th : Int) (ht : 0 ≤ th ∧ th < 100) (q : Nat → SP) (h : RefS w0 R j w) (ok : R.Ok w0) (hj : j ≤ R.n) (hq : PAll (SP.nx th) SP.step R q j) (h0 : q j = .begin) :
    Calls Tryz.prog 129 #[.pointer (some ⟨R.m, 0, none⟩), .int .i64 th] w (StopPost w0 R q) := by
  have H := Lib.hid h
  have HQ := Lib.hid hq
  have OK := Lib.hid ok
  have H0 := Lib.hid h0
  obtain ⟨ht0, ht1⟩ := ht
  clear h ok hq h0
  go_enter Tryz.func129, Tryz.ntmps129
  go_wp2_with fail
  go_loopg [] (R.n + 1) (fun m wr => ∃ j1, j ≤ j1 ∧ j1 ≤ R.n + 1 ∧ R.n + 1 - j1 ≤ m ∧ Hid (q j1 = .begin) ∧ Hid (RefS w0 R j1 wr))
  case atStart => exact ⟨j, Nat.le_refl _, by omega, by omega, H0, H⟩
  case round =>
    obtain ⟨j1, h1, h2, hm, hb, hR⟩ := hrel
    go_wp2_with fail
    refine (mcas_any hR.out OK.out h2 1 0 (th + 1) (fun e => ⟨1, rfl, HQ.out.now hb.out e rfl⟩)).mono ?_
    rintro e w1 (⟨b, hb2, hl, rfl, r1⟩ | ⟨hl, rfl, r1⟩)
    rotate_left
    · have q1 : Hid (q (R.n + 1) = .begin) := Lib.hid (hl.out ▸ hb.out)
      go_wp2_with fail
      go_ret2
      exact .inr ⟨by rw [q1.out]; simp, rfl, r1.out⟩
    cases b
    · have q1 : Hid (q (j1 + 1) = .begin) := Lib.hid (by
        rw [HQ.out.step j1 h1 hl.out, hb.out]
        exact if_neg (by simpa using hb2.out))
      have A := Lib.hid (And.intro hl.out (And.intro hm h1))
      clear hm h1 h2 hb2
      go_wp2_with fail
      go_roundg (R.n + 1 - (j1 + 1))
      case measure => have := A.out; omega
      case rel => exact ⟨j1 + 1, by have := A.out; omega, by have := A.out; omega, Nat.le_refl _, q1, r1⟩
    · have q1 : Hid (q (j1 + 1) = .busy) := Lib.hid (by
        rw [HQ.out.step j1 h1 hl.out, hb.out]
        exact if_pos (by simpa using hb2.out))
      clear hb2
      go_wp2_with fail
      have hbz : j1 + 1 ≤ R.n → (∀ k, j1 + 1 ≤ k → k < R.n → R.ys.getD k 0 ≠ 0) → R.x = .load 4 := fun a b =>
        HQ.out.now (HQ.out.stays (by omega) q1.out (fun i x y => if_neg (b i x y)) (by omega) a) rfl rfl
      refine (till_ref 4 r1.out OK.out (by have := hl.out; omega) hbz).mono ?_
      clear hbz
      rintro e w4 (⟨j2, a1, a2, a3, a4, rfl, r4⟩ | ⟨a3, rfl, r4⟩)
      · have q4 : Hid (q (j2 + 1) = .gen) := Lib.hid (by rw [HQ.out.step j2 (by omega) a2, HQ.out.stays (by omega) q1.out (fun i x y => if_neg (a3 i x y)) (by omega) a1]; exact if_pos a4)
        have R4 := Lib.hid r4
        have A := Lib.hid (And.intro a1 (And.intro a2 h1))
        clear a1 a2 a3 a4 r4 hm h1 h2
        go_wp2_with fail
        refine (mload_any R4.out OK.out (by have := A.out; omega) 0 (fun e => ⟨0, rfl, HQ.out.now q4.out e rfl⟩)).mono ?_
        rintro e w3 (⟨u3, hu3, hl3, rfl, r3⟩ | ⟨hl3, rfl, r3⟩)
        · have q3 : q (j2 + 1 + 1) = .done := by rw [HQ.out.step (j2 + 1) (by have := A.out; omega) hl3.out, q4.out]; rfl
          have hjn : j2 + 1 = R.n := by
            have := hl3.out
            by_cases e : j2 + 1 = R.n
            · exact e
            · exact absurd q3 (HQ.out.live (fun _ => rfl) rfl (by have := A.out; omega) (by omega))
          have hF : Hid (q (R.n + 1) = .done ∧ u3 = R.u ∧ RefS w0 R (R.n + 1) w3) := Lib.hid ⟨hjn ▸ q3, by rw [← hu3.out, hjn, RC.ys_n], hjn ▸ r3.out⟩
          clear q3 hjn
          go_wp2_with fail
          go_ret2
          obtain ⟨f1, f2, f3⟩ := hF.out
          exact .inl ⟨f1, by rw [← f2]; rfl, f3⟩
        · have q3 : Hid (q (R.n + 1) = .gen) := Lib.hid (hl3.out ▸ q4.out)
          go_wp2_with fail
          go_ret2
          exact .inr ⟨by rw [q3.out]; simp, rfl, r3.out⟩
      · have q4 : Hid (q (R.n + 1) = .busy) := Lib.hid (HQ.out.stays (by omega) q1.out (fun i x y => if_neg (a3 i x (by omega))) (by omega) (by have := hl.out; omega))
        have R4 := Lib.hid r4
        clear a3 r4
        go_wp2_with fail
        go_ret2
        exact .inr ⟨by rw [q4.out]; simp, rfl, R4.out⟩
end
end Go.Proofs.YtffafkmmfaaobaaGreat
