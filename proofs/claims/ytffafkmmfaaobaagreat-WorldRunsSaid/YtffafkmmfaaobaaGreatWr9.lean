/- The reference's machine: its text gone through; a step. -/
import Derived.Test.YtffafkmmfaaobaaGreatWr8
import Derived.Test.YtffafkmmfaaobaaGreatWr0
namespace Go.Proofs.YtffafkmmfaaobaaGreat
set_option linter.unusedSimpArgs false
set_option linter.unusedVariables false
open Go.RowKit

def IsSl (v : Value) : Prop := ∃ a n k, v = .slice a n k

/-- All was gone through: what is there now. -/
structure RefEnd (w0 : World) (R : RC) (w : World) (v : MV) : Prop where
  mach : MAt w R.m R.c v
  did : v.d0 = R.x.kind R.u ∧ v.d1 = R.x.at ∧ v.d2 = R.u ∧ v.d3 = R.x.next R.u
  row : LogRow w R.B v.log R.ys
  own : NewOwn w0 R.v.log v.log
  store : StoreIs 110 w R.s R.g (R.ws.set R.x.at (R.x.next R.u)) (R.x.kind R.u) R.x.at R.u (R.x.next R.u) (R.ct + 1)
  mem : MemAt w R.b R.p R.t R.s R.qv
  kept : Kept (RMut w0 R) w0 w
  live : IsSl v.live
  marks : IsSl v.marks

section
variable {w0 w w' : World} {R : RC} {j : Nat} {v v' : MV}

theorem MarksOk.sl {mk : Value} (h : MarksOk w0 w mk) : IsSl mk := by
  obtain ⟨nm, ms, ⟨_, h2⟩, _⟩ := h
  rcases h2 with ⟨rfl, _⟩ | ⟨g, cap, cur, rfl, _⟩ <;> exact ⟨_, _, _, rfl⟩

theorem RefS.toEnd (h : RefS w0 R (R.n + 1) w) (hl : IsSl R.v.live) : ∃ v, RefEnd w0 R w v ∧ v.got = R.v.got ∧ v.code = R.v.code ∧ v.gens = R.v.gens ∧ v.live = R.v.live := by
  obtain ⟨mk, hmk, lg', h1, h2, h3, h4⟩ := h.end
  exact ⟨_, ⟨h1, ⟨rfl, rfl, rfl, rfl⟩, h2, h3, h4, h.mem, h.kept, hl, hmk.sl⟩, rfl, rfl, rfl, rfl⟩

/-- Behind a turn of the machine alone. -/
theorem RefEnd.turn (h : RefEnd w0 R w v) (hM : MAt w' R.m R.c v') (hK : Kept (fun k => k = R.m) w w') (hd : v'.d0 = v.d0 ∧ v'.d1 = v.d1 ∧ v'.d2 = v.d2 ∧ v'.d3 = v.d3) (hlog : v'.log = v.log) (hl : IsSl v'.live) (hm : IsSl v'.marks) : RefEnd w0 R w' v' := by
  have h1 := h.mach
  refine ⟨hM, ?_, ?_, by rw [hlog]; exact h.own, h.store.kept hK (type_ne' h.store.obj h1 (by decide)) (type_ne' h.store.row h1 (by decide)), hK.at h.mem (type_ne' h.mem h1 (by decide)), h.kept.trans hK (fun k hk => .inl (.inr (.inl hk))), hl, hm⟩
  · obtain ⟨a, b, c, d⟩ := hd; obtain ⟨e, f, g, i⟩ := h.did; exact ⟨a.trans e, b.trans f, c.trans g, d.trans i⟩
  · rw [hlog]; exact h.row.kept hK (fun k cs hc _ => type_ne' hc h1 (by decide))

theorem m_got {m : Nat} {c : MC} (h : MAt w m c v) (x : Int) : MAt (w.setCell ⟨m, 23, none⟩ (.int .i64 x)) m c { v with got := x } := by
  have := block_set h 23 (.int .i64 x); simpa [MAt] using this

theorem keptSet {m i : Nat} (u : Value) : Kept (fun k => k = m) w (w.setCell ⟨m, i, none⟩ u) := (Kept.refl (fun k => k = m) w).setCell (p := ⟨m, i, none⟩) (.inl rfl) u
theorem RefEnd.gens (h : RefEnd w0 R w v) (x : Int) : RefEnd w0 R (w.setCell ⟨R.m, 26, none⟩ (.int .i64 x)) { v with gens := x } :=
  h.turn (m_gens h.mach x) (keptSet _) ⟨rfl, rfl, rfl, rfl⟩ rfl h.live h.marks
theorem RefEnd.gotSet (h : RefEnd w0 R w v) (x : Int) : RefEnd w0 R (w.setCell ⟨R.m, 23, none⟩ (.int .i64 x)) { v with got := x } :=
  h.turn (m_got h.mach x) (keptSet _) ⟨rfl, rfl, rfl, rfl⟩ rfl h.live h.marks
theorem RefEnd.doneSet (h : RefEnd w0 R w v) (x : Bool) : RefEnd w0 R (w.setCell ⟨R.m, 15, none⟩ (.bool x)) { v with done := x } :=
  h.turn (m_done h.mach x) (keptSet _) ⟨rfl, rfl, rfl, rfl⟩ rfl h.live h.marks
theorem RefEnd.idle (h : RefEnd w0 R w v) :
    Calls Tryz.prog 135 #[.pointer (some ⟨R.m, 0, none⟩)] w fun e w' => e = .returned (.tuple #[]) ∧ RefEnd w0 R w' { v with got := -1, code := 2, live := .slice none 0 0 } := by
  obtain ⟨a, n, k, hl⟩ := h.live
  exact (idle_any h.mach hl).mono fun e w' ⟨he, h1, h2⟩ => ⟨he, h.turn h1 h2 ⟨rfl, rfl, rfl, rfl⟩ rfl ⟨_, _, _, rfl⟩ h.marks⟩

/-- Behind the machine's text: is it done, what it tells: the cycle, the page. -/
def BodyPost (w0 : World) (R : RC) (dn : Bool) (P : Int → Int → Prop) (e : Ending) (w : World) : Prop :=
  e = .returned (.bool dn) ∧ ∃ v, RefEnd w0 R w v ∧ P v.gens v.got

/-- What is told ahead of the first step. -/
structure Fresh (v : MV) : Prop where
  got : v.got = -1
  gens : v.gens = 0
  live : v.live = .slice none 0 0

theorem RefS.cells (h : RefS w0 R 0 w) : w.cell? ⟨R.m, 0, none⟩ = some (.int .i64 R.c.what) ∧ w.cell? ⟨R.m, 3, none⟩ = some (.int .i64 R.c.thread) ∧ w.cell? ⟨R.m, 8, none⟩ = some (.int .i64 R.c.head) ∧ w.cell? ⟨R.m, 4, none⟩ = some (.int .i64 R.c.page) ∧ w.cell? ⟨R.m, 7, none⟩ = some (.int .i64 R.c.gen) := by
  obtain ⟨mk, _, h1, _⟩ := h.lt (Nat.zero_le _)
  exact ⟨cellOf h1 0, cellOf h1 3, cellOf h1 8, cellOf h1 4, cellOf h1 7⟩

set_option maxRecDepth 100000 in
set_option maxHeartbeats 4000000 in
theorem body_enter (q : Nat → EP) (h : RefS w0 R 0 w) (ok : R.Ok w0) (hF : Fresh R.v) (hw : R.c.what = 13) (hq : EAll R q 0) (h0 : q 0 = .begin) (dn : Bool) (hdn : dn = true ↔ q (R.n + 1) = .done) :
    Calls Tryz.prog 68 #[.pointer (some ⟨R.m, 0, none⟩)] w (BodyPost w0 R dn (fun g o => g = (if dn then wrap64 R.u else 0) ∧ o = -1)) := by
  have HE := Lib.hid (enter_ref q h ok (Nat.zero_le _) hq h0)
  have m0 : w.cell? ⟨R.m, 0, none⟩ = some (.int .i64 13) := by rw [← hw]; exact h.cells.1
  have HD := Lib.hid hdn
  have HF := Lib.hid hF
  clear h ok hw hq h0 hdn hF
  go_enter Tryz.func68, Tryz.ntmps68
  go_wp2_with fail
  refine HE.out.mono ?_
  rintro e w1 (⟨a1, rfl, a2⟩ | ⟨a1, rfl, a2⟩)
  · obtain rfl : dn = true := HD.out.2 a1
    obtain ⟨v, hv, g1, _, _, _⟩ := a2.toEnd ⟨_, _, _, HF.out.live⟩
    have c26 : w1.cell? ⟨R.m, 26, none⟩ = some (.int .i64 v.gens) := cellOf hv.mach 26
    have f26 : w1.frozen? ⟨R.m, 26, none⟩ = false := freeOf hv.mach 26
    have HV := Lib.hid (hv.gens (wrap64 R.u))
    have HG := Lib.hid g1
    clear a1 a2 hv g1
    generalize v.gens = y at c26
    go_wp2_with fail
    go_ret
    exact ⟨rfl, _, HV.out, rfl, HG.out.trans HF.out.got⟩
  · have hdf : dn = false := by cases dn; rfl; exact absurd (HD.out.1 rfl) a1
    subst hdf
    obtain ⟨v, hv, g1, _, _, _⟩ := a2.toEnd ⟨_, _, _, HF.out.live⟩
    have c26 : w1.cell? ⟨R.m, 26, none⟩ = some (.int .i64 v.gens) := cellOf hv.mach 26
    have f26 : w1.frozen? ⟨R.m, 26, none⟩ = false := freeOf hv.mach 26
    have HV := Lib.hid (hv.gens 0).idle
    clear a1 a2 hv g1
    generalize v.gens = y at c26
    go_wp2_with fail
    refine HV.out.mono ?_
    rintro e w2 ⟨rfl, hv2⟩
    have HV2 := Lib.hid hv2
    clear hv2
    go_wp2_with fail
    go_ret
    exact ⟨rfl, _, HV2.out, rfl, rfl⟩

set_option maxRecDepth 100000 in
set_option maxHeartbeats 4000000 in
theorem body_stop (q : Nat → SP) (h : RefS w0 R 0 w) (ok : R.Ok w0) (hF : Fresh R.v) (hw : R.c.what = 15) (ht : 0 ≤ R.c.thread ∧ R.c.thread < 100) (hq : PAll (SP.nx R.c.thread) SP.step R q 0) (h0 : q 0 = .begin) (dn : Bool) (hdn : dn = true ↔ q (R.n + 1) = .done) :
    Calls Tryz.prog 68 #[.pointer (some ⟨R.m, 0, none⟩)] w (BodyPost w0 R dn (fun g o => g = (if dn then wrap64 R.u else 0) ∧ o = -1)) := by
  have HE := Lib.hid (stop_ref R.c.thread ht q h ok (Nat.zero_le _) hq h0)
  have m0 : w.cell? ⟨R.m, 0, none⟩ = some (.int .i64 15) := by rw [← hw]; exact h.cells.1
  have m3 : w.cell? ⟨R.m, 3, none⟩ = some (.int .i64 R.c.thread) := h.cells.2.1
  have HD := Lib.hid hdn
  have HF := Lib.hid hF
  clear h ok hw hq h0 hdn hF
  generalize R.c.thread = th at HE m3 ht
  obtain ⟨ht0, ht1⟩ := ht
  go_enter Tryz.func68, Tryz.ntmps68
  go_wp2_with fail
  refine HE.out.mono ?_
  rintro e w1 (⟨a1, rfl, a2⟩ | ⟨a1, rfl, a2⟩)
  · obtain rfl : dn = true := HD.out.2 a1
    obtain ⟨v, hv, g1, _, _, _⟩ := a2.toEnd ⟨_, _, _, HF.out.live⟩
    have c26 : w1.cell? ⟨R.m, 26, none⟩ = some (.int .i64 v.gens) := cellOf hv.mach 26
    have f26 : w1.frozen? ⟨R.m, 26, none⟩ = false := freeOf hv.mach 26
    have HV := Lib.hid (hv.gens (wrap64 R.u))
    have HG := Lib.hid g1
    clear a1 a2 hv g1
    generalize v.gens = y at c26
    go_wp2_with fail
    go_ret
    exact ⟨rfl, _, HV.out, rfl, HG.out.trans HF.out.got⟩
  · have hdf : dn = false := by cases dn; rfl; exact absurd (HD.out.1 rfl) a1
    subst hdf
    obtain ⟨v, hv, g1, _, _, _⟩ := a2.toEnd ⟨_, _, _, HF.out.live⟩
    have c26 : w1.cell? ⟨R.m, 26, none⟩ = some (.int .i64 v.gens) := cellOf hv.mach 26
    have f26 : w1.frozen? ⟨R.m, 26, none⟩ = false := freeOf hv.mach 26
    have HV := Lib.hid (hv.gens 0).idle
    clear a1 a2 hv g1
    generalize v.gens = y at c26
    go_wp2_with fail
    refine HV.out.mono ?_
    rintro e w2 ⟨rfl, hv2⟩
    have HV2 := Lib.hid hv2
    clear hv2
    go_wp2_with fail
    go_ret
    exact ⟨rfl, _, HV2.out, rfl, rfl⟩

set_option maxRecDepth 100000 in
set_option maxHeartbeats 4000000 in
theorem body_exit (h : RefS w0 R 0 w) (ok : R.Ok w0) (hF : Fresh R.v) (hw : R.c.what = 14) (hn : R.n = 0) (hx : R.x = .add 4 18446744073709551615) :
    Calls Tryz.prog 68 #[.pointer (some ⟨R.m, 0, none⟩)] w (BodyPost w0 R true (fun g o => g = 0 ∧ o = -1)) := by
  have HE := Lib.hid (exit_any h ok (by omega) (fun _ => hx))
  have m0 : w.cell? ⟨R.m, 0, none⟩ = some (.int .i64 14) := by rw [← hw]; exact h.cells.1
  have HF := Lib.hid hF
  have HN := Lib.hid hn
  clear h ok hw hF hn hx
  go_enter Tryz.func68, Tryz.ntmps68
  go_wp2_with fail
  refine HE.out.mono ?_
  rintro e w1 (⟨a1, rfl, a2⟩ | ⟨a1, rfl, a2⟩)
  · obtain ⟨v, hv, g1, _, g2, _⟩ := RefS.toEnd (w0 := w0) (R := R) (w := w1) (by rw [HN.out]; exact a2.out) ⟨_, _, _, HF.out.live⟩
    have HV := Lib.hid hv
    have HG := Lib.hid (And.intro g1 g2)
    clear a1 a2 hv g1 g2
    go_wp2_with fail
    go_ret
    exact ⟨rfl, _, HV.out, HG.out.2.trans HF.out.gens, HG.out.1.trans HF.out.got⟩
  · exact absurd a1.out (by omega)

set_option maxRecDepth 100000 in
set_option maxHeartbeats 4000000 in
theorem body_go (h : RefS w0 R 0 w) (ok : R.Ok w0) (hF : Fresh R.v) (hw : R.c.what = 16) (hn : R.n = 0) (hx : R.x = .put 1 0) :
    Calls Tryz.prog 68 #[.pointer (some ⟨R.m, 0, none⟩)] w (BodyPost w0 R true (fun g o => g = 0 ∧ o = -1)) := by
  have HE := Lib.hid (mput_any h ok (by omega) 1 0 (fun _ => ⟨1, rfl, hx⟩))
  have m0 : w.cell? ⟨R.m, 0, none⟩ = some (.int .i64 16) := by rw [← hw]; exact h.cells.1
  have HF := Lib.hid hF
  have HN := Lib.hid hn
  clear h ok hw hF hn hx
  go_enter Tryz.func68, Tryz.ntmps68
  go_wp2_with fail
  refine HE.out.mono ?_
  rintro e w1 (⟨u, _, a1, rfl, a2⟩ | ⟨a1, rfl, a2⟩)
  · obtain ⟨v, hv, g1, _, g2, _⟩ := RefS.toEnd (w0 := w0) (R := R) (w := w1) (by rw [HN.out]; exact a2.out) ⟨_, _, _, HF.out.live⟩
    have HV := Lib.hid hv
    have HG := Lib.hid (And.intro g1 g2)
    clear a1 a2 hv g1 g2
    go_wp2_with fail
    go_ret
    exact ⟨rfl, _, HV.out, HG.out.2.trans HF.out.gens, HG.out.1.trans HF.out.got⟩
  · exact absurd a1.out (by omega)

/-- The reference's machine between steps. -/
structure RefM (w : World) (m : Nat) (c : MC) (B : Nat) (v : MV) (xs : List Int) : Prop where
  mach : MAt w m c v
  row : LogRow w B v.log xs
  live : IsSl v.live
  marks : IsSl v.marks

def stepRC (m b s g : Nat) (c : MC) (v : MV) (p t : Int) (qv : Value) (B : Nat) (ws xs : List Int) (x : Nx) (ct : Int) : RC :=
  { m := m, b := b, s := s, g := g, c := c, v := { v.fresh with mem := .pointer (some ⟨b, 0, none⟩) }, p := p, t := t, qv := qv, B := B, ws := ws, xs := xs, x := x, ct := ct }

/-- Behind a step of the reference's machine. -/
def RStep (w : World) (m s g : Nat) (c : MC) (v : MV) (B : Nat) (ws xs : List Int) (x : Nx) (ct : Int) (dn : Bool) (P : Int → Int → Prop) (e : Ending) (w' : World) : Prop :=
  e = .returned (didV (x.kind (ws.getD x.at 0)) x.at (ws.getD x.at 0) (x.next (ws.getD x.at 0))) ∧ ∃ v', RefM w' m c B v' (xs ++ [ws.getD x.at 0]) ∧ v'.done = dn ∧ P v'.gens v'.got ∧ NewOwn w v.log v'.log ∧
    StoreIs 110 w' s g (ws.set x.at (x.next (ws.getD x.at 0))) (x.kind (ws.getD x.at 0)) x.at (ws.getD x.at 0) (x.next (ws.getD x.at 0)) (ct + 1) ∧ Kept (fun k => SG s g k ∨ k = m ∨ LogOwn w v.log k) w w'

theorem rstep_close {m b s g : Nat} {c : MC} {p t : Int} {qv : Value} {B : Nat} {ws xs : List Int} {x : Nx} {ct : Int} {w2 w5 : World} {v2 v5 : MV} (hM : MAt w m c v) (hM2 : MAt w2 m c v2) (K2 : Kept (fun k => k = m) w w2)
    (hE : RefEnd w2 (stepRC m b s g c v p t qv B ws xs x ct) w5 v5) {r : Nat} (hr : w.heap.size = r) {z0 z1 z2 z3 : Value} (r5 : w5.heap[r]? = some (.cells #[z0, z1, z2, z3] 45 (0, 0))) (y0 y1 y2 y3 : Value) :
    RefM ((((w5.setCell ⟨r, 0, none⟩ y0).setCell ⟨r, 1, none⟩ y1).setCell ⟨r, 2, none⟩ y2).setCell ⟨r, 3, none⟩ y3) m c B v5 (xs ++ [ws.getD x.at 0]) ∧ NewOwn w v.log v5.log ∧
    StoreIs 110 ((((w5.setCell ⟨r, 0, none⟩ y0).setCell ⟨r, 1, none⟩ y1).setCell ⟨r, 2, none⟩ y2).setCell ⟨r, 3, none⟩ y3) s g (ws.set x.at (x.next (ws.getD x.at 0))) (x.kind (ws.getD x.at 0)) x.at (ws.getD x.at 0) (x.next (ws.getD x.at 0)) (ct + 1) ∧
    Kept (fun k => SG s g k ∨ k = m ∨ LogOwn w v.log k) w ((((w5.setCell ⟨r, 0, none⟩ y0).setCell ⟨r, 1, none⟩ y1).setCell ⟨r, 2, none⟩ y2).setCell ⟨r, 3, none⟩ y3) := by
  have K5 : Kept (fun k => k = r) w5 ((((w5.setCell ⟨r, 0, none⟩ y0).setCell ⟨r, 1, none⟩ y1).setCell ⟨r, 2, none⟩ y2).setCell ⟨r, 3, none⟩ y3) :=
    ((((Kept.refl (fun k => k = r) w5).setCell (p := ⟨r, 0, none⟩) (.inl rfl) y0).setCell (p := ⟨r, 1, none⟩) (.inl rfl) y1).setCell (p := ⟨r, 2, none⟩) (.inl rfl) y2).setCell (p := ⟨r, 3, none⟩) (.inl rfl) y3
  have hmr : m ≠ r := type_ne' hE.mach r5 (by decide)
  have hlm : m < w.heap.size := lt_of_block hM
  refine ⟨⟨K5.at hE.mach hmr, hE.row.kept K5 (fun k cs hc _ => type_ne' hc r5 (by decide)), hE.live, hE.marks⟩, hE.own.imp id (fun h k hk => Nat.le_trans K2.size (h k hk)),
    hE.store.kept K5 (type_ne' hE.store.obj r5 (by decide)) (type_ne' hE.store.row r5 (by decide)), ?_⟩
  refine Kept.trans (Kept.trans (K2.mono (fun k h => .inl (.inr (.inl h)))) hE.kept ?_) K5 (fun k h => .inr (by omega))
  intro k hk
  by_cases hlt : k < w.heap.size
  · rcases hk with hk | hk | ⟨ho, cs, hc, hz⟩
    · exact .inl (.inl hk)
    · exact .inl (.inr (.inl hk))
    · refine .inl (.inr (.inr ⟨ho, cs, ?_, hz⟩))
      have hkm : k ≠ m := type_ne' hc hM2 (by decide)
      rw [← K2.block k hlt hkm]; exact hc
  · exact .inr (by omega)

set_option maxRecDepth 100000 in
set_option maxHeartbeats 4000000 in
theorem step_ref {m b s g : Nat} {c : MC} {p t : Int} {qv : Value} {B : Nat} {ws xs : List Int} {k a o n ct : Int} (x : Nx) (hM : RefM w m c B v xs) (hd : v.done = false) (hb : MemAt w b p t s qv) (hs : StoreIs 110 w s g ws k a o n ct)
    (hcp : c.p = p) (hct : c.t = t) (hB : B ≤ w.heap.size) (hg : v.log.ownBlock ≠ some g) (hxs : xs.length < 1000000) (hx : x.at < ws.length) (hc : 0 ≤ ct ∧ ct < 1000000) (dn : Bool) (P : Int → Int → Prop)
    (hbody : ∀ w1, (stepRC m b s g c v p t qv B ws xs x ct).Ok w1 → Fresh (stepRC m b s g c v p t qv B ws xs x ct).v → RefS w1 (stepRC m b s g c v p t qv B ws xs x ct) 0 w1 →
      Calls Tryz.prog 68 #[.pointer (some ⟨m, 0, none⟩)] w1 (BodyPost w1 (stepRC m b s g c v p t qv B ws xs x ct) dn P)) :
    Calls Tryz.prog 15 #[.pointer (some ⟨m, 0, none⟩), .pointer (some ⟨b, 0, none⟩)] w (RStep w m s g c v B ws xs x ct dn P) := by
  obtain ⟨la, ln, lc, hlive⟩ := hM.live
  obtain ⟨ma, mn, mc, hmarks⟩ := hM.marks
  have hF := fun W h => fresh_any (w := W) (m := m) (c := c) (v := v) h hlive hmarks
  have m15 : w.cell? ⟨m, 15, none⟩ = some (.bool false) := (cellOf hM.mach 15).trans (by rw [← hd]; rfl)
  have m1 : w.cell? ⟨m, 1, none⟩ = some (.int .i64 p) := (cellOf hM.mach 1).trans (by rw [← hcp]; rfl)
  have m2 : w.cell? ⟨m, 2, none⟩ = some (.int .i64 t) := (cellOf hM.mach 2).trans (by rw [← hct]; rfl)
  have b2 : w.cell? ⟨b, 2, none⟩ = some (.int .i64 p) := cellOf hb 2
  have b3 : w.cell? ⟨b, 3, none⟩ = some (.int .i64 t) := cellOf hb 3
  have lm : m < w.heap.size := lt_of_block hM.mach
  have lb : b < w.heap.size := lt_of_block hb
  have hmb : b ≠ m := type_ne' hb hM.mach (by decide)
  have hms : s ≠ m := type_ne' hs.obj hM.mach (by decide)
  have hmg : g ≠ m := type_ne' hs.row hM.mach (by decide)
  have HF := Lib.hid hF
  have HM := Lib.hid hM
  have Hb := Lib.hid hb
  have HS := Lib.hid hs
  have HB := Lib.hid hbody
  have HH := Lib.hid (And.intro hB (And.intro hg (And.intro hxs (And.intro hx hc))))
  clear hM hd hb hs hcp hct hB hg hxs hx hc hbody hF hlive hmarks
  go_enter Tryz.func15, Tryz.ntmps15
  go_wp2_with fail
  have r0 : (w.alloc (.cells #[.int .i64 0, .int .i64 0, .int .u64 0, .int .u64 0] 45)).heap[w.heap.size]? = some (.cells #[.int .i64 0, .int .i64 0, .int .u64 0, .int .u64 0] 45 (0, 0)) := heap_alloc_new w _
  have K0 : Kept No w (w.alloc (.cells #[.int .i64 0, .int .i64 0, .int .u64 0, .int .u64 0] 45)) := (Kept.refl No w).alloc _
  generalize w.alloc (.cells #[.int .i64 0, .int .i64 0, .int .u64 0, .int .u64 0] 45) = wA at r0 K0 ⊢
  obtain ⟨r, hr⟩ : ∃ r, w.heap.size = r := ⟨_, rfl⟩
  rw [hr] at r0 ⊢
  replace m15 := (K0.cell (i := 15) lm (fun h => h)).trans m15
  replace m1 := (K0.cell (i := 1) lm (fun h => h)).trans m1
  replace m2 := (K0.cell (i := 2) lm (fun h => h)).trans m2
  replace b2 := (K0.cell (i := 2) lb (fun h => h)).trans b2
  replace b3 := (K0.cell (i := 3) lb (fun h => h)).trans b3
  have R0 := Lib.hid r0
  have HR := Lib.hid hr
  clear r0 hr
  go_quiet (fail)
  go_wp2_with fail
  refine (HF.out _ (HM.out.mach.kept (K0.drewN _) (fun h => h))).mono ?_
  rintro e w1 ⟨rfl, hM1, hK1⟩
  have c18 : w1.cell? ⟨m, 18, none⟩ = some v.mem := cellOf hM1 18
  have f18 : w1.frozen? ⟨m, 18, none⟩ = false := freeOf hM1 18
  have HM1 := Lib.hid hM1
  have K1 : Kept (fun k => k = m) w w1 := ((K0.drewN _).mono (fun _ h => h.elim)).trans hK1 (fun _ h => .inl h)
  have R1 : Hid (w1.heap[r]? = some (.cells #[.int .i64 0, .int .i64 0, .int .u64 0, .int .u64 0] 45 (0, 0))) := Lib.hid (hK1.at (show (wA.drewN _).heap[r]? = _ from R0.out) (fun e => by have := HR.out; omega))
  clear hM1 hK1 m15 m1 m2 b2 b3
  go_wp2_with fail
  have K2 : Kept (fun k => k = m) w (w1.setCell ⟨m, 18, none⟩ (.pointer (some ⟨b, 0, none⟩))) := K1.trans (keptSet _) (fun _ h => .inl h)
  have hM2 := m_mem HM1.out (.pointer (some ⟨b, 0, none⟩))
  have R2 : Hid ((w1.setCell ⟨m, 18, none⟩ (.pointer (some ⟨b, 0, none⟩))).heap[r]? = some (.cells #[.int .i64 0, .int .i64 0, .int .u64 0, .int .u64 0] 45 (0, 0))) := Lib.hid (block_set_other R1.out _ _ (fun e => by have := HR.out; simp at e; omega))
  generalize w1.setCell ⟨m, 18, none⟩ (.pointer (some ⟨b, 0, none⟩)) = w2 at K2 hM2 R2 ⊢
  have hS2 := HS.out.kept K2 hms hmg
  have hb2 : MemAt w2 b p t s qv := K2.at Hb.out hmb
  have hL2 := HM.out.row.kept K2 (fun k cs hc _ => type_ne' hc HM.out.mach (by decide))
  have hOk : (stepRC m b s g c v p t qv B ws xs x ct).Ok w2 := ⟨rfl, rfl, HH.out.2.2.1, HH.out.2.2.2.1, HH.out.2.2.2.2, Nat.le_trans HH.out.1 K2.size, HH.out.2.1⟩
  have hRef : RefS w2 (stepRC m b s g c v p t qv B ws xs x ct) 0 w2 :=
    ⟨hb2, Kept.refl _ _, .slice none 0 0, ⟨0, [], World.ownsRow_nil _ _ _ _, by omega⟩, .inl ⟨Nat.zero_le _, hM2, hL2, _, _, _, _, hS2⟩⟩
  refine (HB.out w2 hOk ⟨rfl, rfl, rfl⟩ hRef).mono ?_
  rintro e w3 ⟨rfl, v3, hE, hP⟩
  have c15 : w3.cell? ⟨m, 15, none⟩ = some (.bool v3.done) := cellOf hE.mach 15
  have f15 : w3.frozen? ⟨m, 15, none⟩ = false := freeOf hE.mach 15
  have d0 : w3.cell? ⟨m, 19, none⟩ = some (.int .i64 (x.kind (ws.getD x.at 0))) := (cellOf hE.mach 19).trans (by rw [← show v3.d0 = x.kind (ws.getD x.at 0) from hE.did.1]; rfl)
  have d1 : w3.cell? ⟨m, 20, none⟩ = some (.int .i64 x.at) := (cellOf hE.mach 20).trans (by rw [← show v3.d1 = x.at from hE.did.2.1]; rfl)
  have d2 : w3.cell? ⟨m, 21, none⟩ = some (.int .u64 (ws.getD x.at 0)) := (cellOf hE.mach 21).trans (by rw [← show v3.d2 = ws.getD x.at 0 from hE.did.2.2.1]; rfl)
  have d3 : w3.cell? ⟨m, 22, none⟩ = some (.int .u64 (x.next (ws.getD x.at 0))) := (cellOf hE.mach 22).trans (by rw [← show v3.d3 = x.next (ws.getD x.at 0) from hE.did.2.2.2]; rfl)
  have hrm : r ≠ m := by have := HR.out; omega
  have hrF : ¬ RMut w2 (stepRC m b s g c v p t qv B ws xs x ct) r := by
    rintro ((e | e) | e | ⟨_, cs, hc, _⟩)
    · exact type_ne' R2.out hS2.obj (by decide) e
    · exact type_ne' R2.out hS2.row (by decide) e
    · exact hrm e
    · exact type_ne' R2.out hc (by decide) rfl
  have r3 := hE.kept.at R2.out hrF
  have g0 := cellOf r3 0
  have g1 := cellOf r3 1
  have g2 := cellOf r3 2
  have g3 := cellOf r3 3
  simp only [List.getElem?_toArray, List.getElem?_cons_zero, List.getElem?_cons_succ] at g0 g1 g2 g3
  have q0 := freeOf r3 0
  have q1 := freeOf r3 1
  have q2 := freeOf r3 2
  have q3 := freeOf r3 3
  have hmr : m ≠ r := hrm.symm
  have R3 := Lib.hid r3
  have HE := Lib.hid hE
  have HP := Lib.hid hP
  have KK2 := Lib.hid K2
  have HM2 := Lib.hid hM2
  clear hOk hRef hS2 hb2 hL2 hM2 K2 hE hP r3 hrF
  obtain ⟨u, hu⟩ : ∃ u, ws.getD x.at 0 = u := ⟨_, rfl⟩
  rw [hu] at d0 d2 d3
  obtain ⟨kd, hkd⟩ : ∃ u', x.kind u = u' := ⟨_, rfl⟩
  obtain ⟨nx, hnx⟩ : ∃ u', x.next u = u' := ⟨_, rfl⟩
  rw [hkd] at d0
  rw [hnx] at d3
  have HU := Lib.hid (And.intro hu (And.intro hkd hnx))
  clear hu hkd hnx
  generalize v3.done = d15 at c15
  go_wp2_with fail
  have hE5 := HE.out.doneSet dn
  have r5 := block_set_other R3.out (⟨m, 15, none⟩ : Addr) (.bool dn) hrm
  have hX := rstep_close HM.out.mach HM2.out KK2.out hE5 HR.out r5 (.int .i64 kd) (.int .i64 x.at) (.int .u64 u) (.int .u64 nx)
  obtain ⟨e1, e2, e3⟩ := HU.out
  subst e1
  subst e2
  subst e3
  exact bodyPost_ret (v := didV (x.kind (ws.getD x.at 0)) x.at (ws.getD x.at 0) (x.next (ws.getD x.at 0))) (by simp [results, Tryz.results15, go_sem, didV, g0, g1, g2, g3]) rfl ⟨rfl, _, hX.1, rfl, HP.out, hX.2.1, hX.2.2.1, hX.2.2.2⟩
end
end Go.Proofs.YtffafkmmfaaobaaGreat

namespace Go.Proofs.YtffafkmmfaaobaaGreat
set_option linter.unusedSimpArgs false
set_option linter.unusedVariables false
open Go.RowKit

set_option maxHeartbeats 400000 in
theorem pages_any (p t : Int) (w : World) (ht : 0 ≤ t) (ht' : t ≤ 64) :
    Calls Tryz.prog 209 #[.agg #[.int .i64 p, .int .i64 t]] w fun e w' => e = .returned (.int .i64 (68 + 14 * t)) ∧ Below w.heap.size w w' := by
  go_enter Tryz.func209, Tryz.ntmps209
  go_wp2
  go_ret
  exact ⟨rfl, (Below.refl _ _).alloc (Nat.le_refl _) _⟩

def may (p t : Int) : Prop := 1 ≤ p ∧ p ≤ 4096 ∧ 1 ≤ t ∧ t ≤ 64
def MayPost (p t : Int) (w : World) (e : Ending) (w' : World) : Prop := ∃ b : Bool, e = .returned (.bool b) ∧ (b = true ↔ may p t) ∧ Below w.heap.size w w'

set_option maxHeartbeats 400000 in
theorem may_any (p t : Int) (w : World) : Calls Tryz.prog 90 #[.agg #[.int .i64 p, .int .i64 t]] w (MayPost p t w) := by
  by_cases h1 : 1 ≤ p
  · by_cases h2 : p ≤ 4096
    · by_cases h3 : 1 ≤ t
      · by_cases h4 : t ≤ 64
        · go_enter Tryz.func90, Tryz.ntmps90
          go_wp2
          go_ret
          exact ⟨_, rfl, by simp [may]; omega, (Below.refl _ _).alloc (Nat.le_refl _) _⟩
        · go_enter Tryz.func90, Tryz.ntmps90
          go_wp2
          go_ret
          exact ⟨_, rfl, by simp [may]; omega, (Below.refl _ _).alloc (Nat.le_refl _) _⟩
      · go_enter Tryz.func90, Tryz.ntmps90
        go_wp2
        go_ret
        exact ⟨_, rfl, by simp [may]; omega, (Below.refl _ _).alloc (Nat.le_refl _) _⟩
    · go_enter Tryz.func90, Tryz.ntmps90
      go_wp2
      go_ret
      exact ⟨_, rfl, by simp [may]; omega, (Below.refl _ _).alloc (Nat.le_refl _) _⟩
  · go_enter Tryz.func90, Tryz.ntmps90
    go_wp2
    go_ret
    exact ⟨_, rfl, by simp [may]; omega, (Below.refl _ _).alloc (Nat.le_refl _) _⟩

set_option maxHeartbeats 400000 in
theorem many_any (p t : Int) (w : World) (h1 : 1 ≤ p) (h2 : p ≤ 4096) :
    Calls Tryz.prog 151 #[.agg #[.int .i64 p, .int .i64 t]] w fun e w' => e = .returned (.int .i64 ((p + 63) / 64)) ∧ Below w.heap.size w w' := by
  go_enter Tryz.func151, Tryz.ntmps151
  go_wp2
  go_ret
  exact ⟨by show Ending.returned (.int .i64 ((p + 64 - 1) / 64)) = _; first | rfl | rw [show p + 64 - 1 = p + 63 by omega], (Below.refl _ _).alloc (Nat.le_refl _) _⟩

theorem bcell {W w1 : World} (hb : Below W.heap.size W w1) : (∀ b o, b < W.heap.size → w1.cell? ⟨b, o, none⟩ = W.cell? ⟨b, o, none⟩) ∧ (∀ b o, b < W.heap.size → w1.frozen? ⟨b, o, none⟩ = W.frozen? ⟨b, o, none⟩) :=
  ⟨fun b o h => hb.cell (p := ⟨b, o, none⟩) h, fun b o h => hb.frozen (p := ⟨b, o, none⟩) h⟩

set_option maxHeartbeats 400000 in
theorem index_any (p t : Int) (w : World) (h1 : 1 ≤ p) (h2 : p ≤ 4096) (h3 : 1 ≤ t) (h4 : t ≤ 64) :
    Calls Tryz.prog 210 #[.agg #[.int .i64 p, .int .i64 t]] w fun e w' => e = .returned (.int .i64 (68 + 14 * t + 5 * p)) ∧ Below w.heap.size w w' := by
  go_enter Tryz.func210, Tryz.ntmps210
  go_wp2_with fail
  go_region_held3 (fun W => W.cell? ⟨w.heap.size, 0, none⟩ = some (.int .i64 p) ∧ W.cell? ⟨w.heap.size, 1, none⟩ = some (.int .i64 t))
    (first
      | go_keep
      | (have hz := hb.size; simp at hz
         exact ⟨by rw [hc _ _ (by simp)]; simp, by rw [hc _ _ (by simp)]; simp⟩))
    (first
      | (go_at_call 209; refine (pages_any _ _ _ (by omega) (by omega)).mono ?_; rintro e w1 ⟨rfl, hb⟩; obtain ⟨hc, hf⟩ := bcell hb))
  go_wp2
  go_ret
  refine ⟨?_, ((Below.refl w.heap.size w).alloc (Nat.le_refl _) _).drew.trans (hb.mono (by simp))⟩
  show Ending.returned (.int .i64 (IntKind.i64.wrap (68 + 14 * t + IntKind.i64.wrap (5 * p)))) = _; rw [IntWalk.i64_in (5 * p) (by omega), IntWalk.i64_in _ (by omega)]

set_option maxHeartbeats 400000 in
theorem used_any (p t : Int) (w : World) (h1 : 1 ≤ p) (h2 : p ≤ 4096) (h3 : 1 ≤ t) (h4 : t ≤ 64) :
    Calls Tryz.prog 211 #[.agg #[.int .i64 p, .int .i64 t]] w fun e w' => e = .returned (.int .i64 (68 + 14 * t + 6 * p)) ∧ Below w.heap.size w w' := by
  go_enter Tryz.func211, Tryz.ntmps211
  go_wp2_with fail
  go_region_held3 (fun W => W.cell? ⟨w.heap.size, 0, none⟩ = some (.int .i64 p) ∧ W.cell? ⟨w.heap.size, 1, none⟩ = some (.int .i64 t))
    (first
      | go_keep
      | (have hz := hb.size; simp at hz
         exact ⟨by rw [hc _ _ (by simp)]; simp, by rw [hc _ _ (by simp)]; simp⟩))
    (first
      | (go_at_call 210; refine (index_any _ _ _ (by omega) (by omega) (by omega) (by omega)).mono ?_; rintro e w1 ⟨rfl, hb⟩; obtain ⟨hc, hf⟩ := bcell hb))
  go_wp2
  go_ret
  refine ⟨?_, ((Below.refl w.heap.size w).alloc (Nat.le_refl _) _).drew.trans (hb.mono (by simp))⟩
  show Ending.returned (.int .i64 (IntKind.i64.wrap (68 + 14 * t + 5 * p + p))) = _; rw [IntWalk.i64_in _ (by omega), show 68 + 14 * t + 5 * p + p = 68 + 14 * t + 6 * p by omega]

set_option maxHeartbeats 1000000 in
theorem gone_any (p t : Int) (w : World) (h1 : 1 ≤ p) (h2 : p ≤ 4096) (h3 : 1 ≤ t) (h4 : t ≤ 64) :
    Calls Tryz.prog 150 #[.agg #[.int .i64 p, .int .i64 t]] w fun e w' => e = .returned (.int .i64 (68 + 14 * t + 6 * p + (p + 63) / 64)) ∧ Below w.heap.size w w' := by
  go_enter Tryz.func150, Tryz.ntmps150
  go_wp2_with fail
  go_region_held3 (fun W => W.cell? ⟨w.heap.size, 0, none⟩ = some (.int .i64 p) ∧ W.cell? ⟨w.heap.size, 1, none⟩ = some (.int .i64 t))
    (first
      | go_keep
      | (have hz := hb.size; have hz' := hb'.size; simp at hz hz'
         exact ⟨by rw [hc' _ _ (by omega), hc _ _ (by simp)]; first | simp | assumption, by rw [hc' _ _ (by omega), hc _ _ (by simp)]; first | simp | assumption⟩)
      | (have hz := hb.size; simp at hz
         exact ⟨by rw [hc _ _ (by simp)]; first | simp | assumption, by rw [hc _ _ (by simp)]; first | simp | assumption⟩))
    (first
      | (go_at_call 211; refine (used_any _ _ _ h1 h2 h3 h4).mono ?_; rintro e w1 ⟨rfl, hb⟩; obtain ⟨hc, hf⟩ := bcell hb)
      | (go_at_call 151; refine (many_any _ _ _ h1 h2).mono ?_; rintro e w2 ⟨rfl, hb'⟩; obtain ⟨hc', hf'⟩ := bcell hb'))
  go_wp2
  go_ret
  refine ⟨?_, (((Below.refl w.heap.size w).alloc (Nat.le_refl _) _).drew.trans (hb.mono (by simp))).trans (hb'.mono (by have := hb.size; simp at this; omega))⟩
  show Ending.returned (.int .i64 (IntKind.i64.wrap (68 + 14 * t + 6 * p + (p + 63) / 64))) = _; rw [IntWalk.i64_in _ (by omega)]

set_option maxHeartbeats 400000 in
theorem rmay_any (p t : Int) (w : World) : Calls Tryz.prog 97 #[.agg #[.int .i64 p, .int .i64 t]] w (MayPost p t w) := by
  by_cases h1 : 1 ≤ p
  · by_cases h2 : p ≤ 4096
    · by_cases h3 : 1 ≤ t
      · by_cases h4 : t ≤ 64
        · go_enter Tryz.func97, Tryz.ntmps97
          go_wp2
          go_ret
          exact ⟨_, rfl, by simp [may]; omega, (Below.refl _ _).alloc (Nat.le_refl _) _⟩
        · go_enter Tryz.func97, Tryz.ntmps97
          go_wp2
          go_ret
          exact ⟨_, rfl, by simp [may]; omega, (Below.refl _ _).alloc (Nat.le_refl _) _⟩
      · go_enter Tryz.func97, Tryz.ntmps97
        go_wp2
        go_ret
        exact ⟨_, rfl, by simp [may]; omega, (Below.refl _ _).alloc (Nat.le_refl _) _⟩
    · go_enter Tryz.func97, Tryz.ntmps97
      go_wp2
      go_ret
      exact ⟨_, rfl, by simp [may]; omega, (Below.refl _ _).alloc (Nat.le_refl _) _⟩
  · go_enter Tryz.func97, Tryz.ntmps97
    go_wp2
    go_ret
    exact ⟨_, rfl, by simp [may]; omega, (Below.refl _ _).alloc (Nat.le_refl _) _⟩

set_option maxHeartbeats 400000 in
theorem rmaps_any (p t : Int) (w : World) (h1 : 1 ≤ p) (h2 : p ≤ 4096) :
    Calls Tryz.prog 144 #[.agg #[.int .i64 p, .int .i64 t]] w fun e w' => e = .returned (.int .i64 ((p + 63) / 64)) ∧ Below w.heap.size w w' := by
  go_enter Tryz.func144, Tryz.ntmps144
  go_wp2
  go_ret
  exact ⟨by show Ending.returned (.int .i64 ((p + 63) / 64)) = _; first | rfl | rw [show p + 64 - 1 = p + 63 by omega], (Below.refl _ _).alloc (Nat.le_refl _) _⟩

def wordsOf (p t : Int) : Int := 68 + 14 * t + 6 * p + 2 * ((p + 63) / 64)

set_option maxHeartbeats 1000000 in
theorem words_any (p t : Int) (w : World) (h1 : 1 ≤ p) (h2 : p ≤ 4096) (h3 : 1 ≤ t) (h4 : t ≤ 64) :
    Calls Tryz.prog 95 #[.agg #[.int .i64 p, .int .i64 t]] w fun e w' => e = .returned (.int .i64 (wordsOf p t)) ∧ Below w.heap.size w w' := by
  go_enter Tryz.func95, Tryz.ntmps95
  go_wp2_with fail
  refine (may_any p t _).mono ?_
  rintro e w0 ⟨b, rfl, hb, hB⟩
  obtain rfl : b = true := hb.2 ⟨h1, h2, h3, h4⟩
  have hz0 : w.heap.size < w0.heap.size := by have := hB.size; simp at this; omega
  have c0 : w0.cell? ⟨w.heap.size, 0, none⟩ = some (.int .i64 p) := (hB.cell (p := ⟨w.heap.size, 0, none⟩) (by simp)).trans (cellOf (heap_alloc_new w _) 0)
  have c1 : w0.cell? ⟨w.heap.size, 1, none⟩ = some (.int .i64 t) := (hB.cell (p := ⟨w.heap.size, 1, none⟩) (by simp)).trans (cellOf (heap_alloc_new w _) 1)
  have HB : Hid (Below w.heap.size w w0) := ((Below.refl w.heap.size w).alloc (Nat.le_refl _) _).trans (hB.mono (by simp))
  clear hB hb
  go_wp2_with fail
  go_region_held3 (fun W => W.cell? ⟨w.heap.size, 0, none⟩ = some (.int .i64 p) ∧ W.cell? ⟨w.heap.size, 1, none⟩ = some (.int .i64 t))
    (first
      | go_keep
      | exact ⟨((hb'.cell (p := ⟨w.heap.size, 0, none⟩) (by have := hb.size; simp at this; show w.heap.size < w1.heap.size; omega)).trans (hb.cell (p := ⟨w.heap.size, 0, none⟩) hz0)).trans c0, ((hb'.cell (p := ⟨w.heap.size, 1, none⟩) (by have := hb.size; simp at this; show w.heap.size < w1.heap.size; omega)).trans (hb.cell (p := ⟨w.heap.size, 1, none⟩) hz0)).trans c1⟩
      | exact ⟨(hb.cell (p := ⟨w.heap.size, 0, none⟩) hz0).trans c0, (hb.cell (p := ⟨w.heap.size, 1, none⟩) hz0).trans c1⟩)
    (first
      | (go_at_call 150; refine (gone_any _ _ _ h1 h2 h3 h4).mono ?_; rintro e w1 ⟨rfl, hb⟩)
      | (go_at_call 151; refine (many_any _ _ _ h1 h2).mono ?_; rintro e w2 ⟨rfl, hb'⟩))
  go_wp2
  go_ret
  refine ⟨?_, (HB.out.drew.trans (hb.mono (by simp; omega))).trans (hb'.mono (by have := hb.size; simp at this; omega))⟩
  show Ending.returned (.int .i64 (IntKind.i64.wrap (68 + 14 * t + 6 * p + (p + 63) / 64 + (p + 63) / 64))) = _
  rw [IntWalk.i64_in _ (by omega), wordsOf, show 68 + 14 * t + 6 * p + (p + 63) / 64 + (p + 63) / 64 = 68 + 14 * t + 6 * p + 2 * ((p + 63) / 64) by omega]

set_option maxHeartbeats 1000000 in
theorem rwords_any (p t : Int) (w : World) (h1 : 1 ≤ p) (h2 : p ≤ 4096) (h3 : 1 ≤ t) (h4 : t ≤ 64) :
    Calls Tryz.prog 99 #[.agg #[.int .i64 p, .int .i64 t]] w fun e w' => e = .returned (.int .i64 (wordsOf p t)) ∧ Below w.heap.size w w' := by
  go_enter Tryz.func99, Tryz.ntmps99
  go_wp2_with fail
  refine (rmay_any p t _).mono ?_
  rintro e w0 ⟨b, rfl, hb, hB⟩
  obtain rfl : b = true := hb.2 ⟨h1, h2, h3, h4⟩
  have hz0 : w.heap.size < w0.heap.size := by have := hB.size; simp at this; omega
  have c0 : w0.cell? ⟨w.heap.size, 0, none⟩ = some (.int .i64 p) := (hB.cell (p := ⟨w.heap.size, 0, none⟩) (by simp)).trans (cellOf (heap_alloc_new w _) 0)
  have c1 : w0.cell? ⟨w.heap.size, 1, none⟩ = some (.int .i64 t) := (hB.cell (p := ⟨w.heap.size, 1, none⟩) (by simp)).trans (cellOf (heap_alloc_new w _) 1)
  have HB : Hid (Below w.heap.size w w0) := ((Below.refl w.heap.size w).alloc (Nat.le_refl _) _).trans (hB.mono (by simp))
  clear hB hb
  go_wp2_with fail
  go_region_held3 (fun W => W.cell? ⟨w.heap.size, 0, none⟩ = some (.int .i64 p) ∧ W.cell? ⟨w.heap.size, 1, none⟩ = some (.int .i64 t))
    (first
      | go_keep
      | exact ⟨(hb.cell (p := ⟨w.heap.size, 0, none⟩) hz0).trans c0, (hb.cell (p := ⟨w.heap.size, 1, none⟩) hz0).trans c1⟩)
    (first
      | (go_at_call 144; refine (rmaps_any _ _ _ h1 h2).mono ?_; rintro e w1 ⟨rfl, hb⟩))
  go_wp2
  go_ret
  refine ⟨?_, HB.out.drew.trans (hb.mono (by simp; omega))⟩
  show Ending.returned (.int .i64 (IntKind.i64.wrap (IntKind.i64.wrap (IntKind.i64.wrap (68 + IntKind.i64.wrap (14 * t)) + IntKind.i64.wrap (6 * p)) + IntKind.i64.wrap (2 * ((p + 63) / 64))))) = _
  rw [IntWalk.i64_in (6 * p) (by omega), IntWalk.i64_in (2 * ((p + 63) / 64)) (by omega), IntWalk.i64_in (14 * t) (by omega), IntWalk.i64_in (68 + 14 * t) (by omega), IntWalk.i64_in (68 + 14 * t + 6 * p) (by omega), IntWalk.i64_in _ (by omega), wordsOf]

end Go.Proofs.YtffafkmmfaaobaaGreat
