/- What the laws share: are the two arenas alike. -/
import Derived.Test.YtffafkmmfaaobaaGreatWr20
namespace Go.Proofs.YtffafkmmfaaobaaGreat
set_option linter.unusedSimpArgs false
set_option linter.unusedVariables false
open Go.RowKit

theorem runsUp_full (n : Nat) : ∀ i, i + 1 ≤ n → runsUp (List.replicate n true) (i + 1) = [((0 : Int), ((i + 1 : Nat) : Int))]
  | 0, h => by
    have h0 : (0 : Nat) < n := by omega
    simp [runsUp, stepR, List.getElem?_replicate, h0]
  | i + 1, h => by
    rw [runsUp, runsUp_full n i (by omega)]
    have h0 : i + 1 < n := by omega
    simp [stepR, List.getElem?_replicate, h0]

set_option maxRecDepth 100000 in
set_option maxHeartbeats 1000000 in
theorem runsOf_any {w : World} {a q : Nat} (h : w.cell? ⟨a, 3, none⟩ = some (.pointer (some ⟨q, 0, none⟩))) :
    Calls Tryz.prog 50 #[.pointer (some ⟨a, 0, none⟩)] w fun e w' => e = .returned (.pointer (some ⟨q, 0, none⟩)) ∧ w = w' := by
  go_enter Tryz.func50, Tryz.ntmps50
  go_wp2
  go_ret
  exact ⟨rfl, rfl⟩

section
variable {w0 w1 w : World} {a s g b s' g' : Nat} {p t : Int} {rs : RSt} {rs' : FSt} {ws : List Int} {n : Int}

set_option maxRecDepth 100000 in
set_option maxHeartbeats 4000000 in
theorem same_any (hS : Start w0 w1 a s g b s' g' p t rs rs') (hp : 1 ≤ p ∧ p ≤ 4096) (hK : Kept (SG2 s g s' g') w1 w) (hT : Twin w a s g b s' g' p t (.pointer (some ⟨rs.q, 0, none⟩)) (.pointer (some ⟨rs'.q, 0, none⟩)) ws n) (hlen : ws.length ≤ 100000) :
    Calls Tryz.prog 16 #[.pointer (some ⟨a, 0, none⟩), .pointer (some ⟨b, 0, none⟩)] w fun e w' => e = .returned (.bool true) ∧ Below w.heap.size w w' := by
  obtain ⟨k, x, o, y, ct, h1, _, _⟩ := hT.st
  obtain ⟨k', x', o', y', ct', h1', _, _⟩ := hT.st'
  have hty : ∀ k, SG2 s g s' g' k → ∃ cs ty, w1.heap[k]? = some (.cells cs ty (0, 0)) ∧ (ty = 187 ∨ ty = 33 ∨ ty = 110) := by
    rintro k ((rfl | rfl) | (rfl | rfl))
    · exact ⟨_, _, hS.ar.store.obj, .inl rfl⟩
    · exact ⟨_, _, hS.ar.store.row, .inr (.inl rfl)⟩
    · exact ⟨_, _, hS.me.store.obj, .inr (.inr rfl)⟩
    · exact ⟨_, _, hS.me.store.row, .inr (.inl rfl)⟩
  have hno : ∀ {k : Nat} {cs : Array Value} {ty : TypeId}, w1.heap[k]? = some (.cells cs ty (0, 0)) → ty ≠ 187 → ty ≠ 33 → ty ≠ 110 → ¬ SG2 s g s' g' k := by
    intro k cs ty hc n1 n2 n3 hk
    obtain ⟨cs', ty', hc', h⟩ := hty k hk
    have e : ty ≠ ty' := by rcases h with rfl | rfl | rfl <;> assumption
    exact type_ne' hc hc' e rfl
  have hR : RunsIs w rs := hS.ar.runs.kept hK (fun k hk => by
    obtain ⟨m, t1, t2, t3⟩ := hS.ar.runs.tree
    rcases hk with (rfl | rfl | hk | hk) | hk
    · exact hno hS.ar.runs.obj (by decide) (by decide) (by decide)
    · exact hno t1 (by decide) (by decide) (by decide)
    · obtain ⟨cs, hc⟩ := T.In.type t2 k hk; exact hno hc (by decide) (by decide) (by decide)
    · obtain ⟨cs, hc⟩ := ownsRow_type hS.ar.runs.list hk; exact hno hc (by decide) (by decide) (by decide)
    · obtain ⟨cs, hc⟩ := ownsRow_type hS.ar.runs.draws hk; exact hno hc (by decide) (by decide) (by decide))
  have hF : RefIs w rs' := hS.me.runs.kept hK (fun k hk => by
    rcases hk with rfl | rfl | hk | hk
    · exact hno hS.me.runs.obj (by decide) (by decide) (by decide)
    · exact hno hS.me.runs.free (by decide) (by decide) (by decide)
    · obtain ⟨cs, hc⟩ := ownsRow_type hS.me.runs.items hk; exact hno hc (by decide) (by decide) (by decide)
    · obtain ⟨cs, hc⟩ := ownsRow_type hS.me.runs.draws hk; exact hno hc (by decide) (by decide) (by decide))
  have hxs := hS.xs
  have hup : runsUp rs'.free rs'.free.length = [(0, p)] := by
    obtain ⟨n, rfl⟩ := Int.eq_ofNat_of_zero_le (show 0 ≤ p by omega)
    rw [hS.free, List.length_replicate]
    have e := runsUp_full n (n - 1) (by omega)
    have e2 : n - 1 + 1 = n := by omega
    rw [e2] at e
    simpa using e
  have a2 : w.cell? ⟨a, 2, none⟩ = some (.pointer (some ⟨s, 0, none⟩)) := cellOf hT.ar 2
  have a3 : w.cell? ⟨a, 3, none⟩ = some (.pointer (some ⟨rs.q, 0, none⟩)) := cellOf hT.ar 3
  have b0 : w.cell? ⟨b, 0, none⟩ = some (.pointer (some ⟨s', 0, none⟩)) := cellOf hT.me 0
  have b1 : w.cell? ⟨b, 1, none⟩ = some (.pointer (some ⟨rs'.q, 0, none⟩)) := cellOf hT.me 1
  have s0 : w.cell? ⟨s', 0, none⟩ = some (.slice (some ⟨g', 0, none⟩) ws.length ws.length) := cellOf h1'.obj 0
  have la : a < w.heap.size := lt_of_block hT.ar
  have lb : b < w.heap.size := lt_of_block hT.me
  have ls : s' < w.heap.size := lt_of_block h1'.obj
  have hStep : ∀ W, Below w.heap.size w W → (W.cell? ⟨b, 0, none⟩ = some (.pointer (some ⟨s', 0, none⟩)) ∧ W.cell? ⟨b, 1, none⟩ = some (.pointer (some ⟨rs'.q, 0, none⟩)) ∧ W.cell? ⟨s', 0, none⟩ = some (.slice (some ⟨g', 0, none⟩) ws.length ws.length)) :=
    fun W hB => ⟨(hB.cell (p := ⟨b, 0, none⟩) lb).trans b0, (hB.cell (p := ⟨b, 1, none⟩) lb).trans b1, (hB.cell (p := ⟨s', 0, none⟩) ls).trans s0⟩
  have hC49 := Lib.hid (storeOf_any (w := w.drew) a2)
  have hC70 := Lib.hid (wordsOut_any (w := w.drew) (h1.kept (Kept.refl No w).drew (fun h => h) (fun h => h)) hlen)
  have hC69 : Hid (∀ W va, Below w.heap.size w W → RowOf W va ws.length (ws.map (Value.int .u64 ·)) → Calls Tryz.prog 69 #[va, .slice (some ⟨g', 0, none⟩) ws.length ws.length] W fun e w' => e = .returned (.bool true) ∧ Below W.heap.size W w') :=
    Lib.hid (fun W va hB hr => sameWords_any ws va _ W hr (RowOf.of_own ((h1'.below hB).row_own (by unfold maxLen; omega))) (by omega))
  have hC50 : Hid (∀ W, Below w.heap.size w W → Calls Tryz.prog 50 #[.pointer (some ⟨a, 0, none⟩)] W fun e w' => e = .returned (.pointer (some ⟨rs.q, 0, none⟩)) ∧ W = w') :=
    Lib.hid (fun W hB => runsOf_any ((hB.cell (p := ⟨a, 3, none⟩) la).trans a3))
  have hC72 : Hid (∀ W, Below w.heap.size w W → Calls Tryz.prog 72 #[.pointer (some ⟨rs.q, 0, none⟩)] W (RowPost 0 1 (runCells [(0, p)]) W)) := Lib.hid (fun W hB => by
    have := runsList_any (hR.below hB); rw [hxs] at this; exact this)
  have hC73 : Hid (∀ W, Below w.heap.size w W → Calls Tryz.prog 73 #[.pointer (some ⟨rs'.q, 0, none⟩)] W (RowPost 0 1 (runCells [(0, p)]) W)) := Lib.hid (fun W hB => by
    have := refList_any rs' W (hF.below hB); rw [hup] at this; exact this)
  have hStep := Lib.hid hStep
  generalize rs.q = q at *
  generalize rs'.q = q' at *
  clear hT h1 h1' hty hno hR hF hxs hup hS hK a2 a3
  go_enter Tryz.func16, Tryz.ntmps16
  go_wp2_with fail
  have hB0 : Below w.heap.size w w.drew := (Below.refl _ w).drew
  have hS0 := hStep.out _ hB0
  clear b0 b1 s0
  go_region_held3 (fun W => W.cell? ⟨b, 0, none⟩ = some (.pointer (some ⟨s', 0, none⟩)) ∧ W.cell? ⟨b, 1, none⟩ = some (.pointer (some ⟨q', 0, none⟩)) ∧ W.cell? ⟨s', 0, none⟩ = some (.slice (some ⟨g', 0, none⟩) ws.length ws.length))
    (first | with_reducible exact hS0 | with_reducible exact hStep.out _ hB2 | with_reducible exact hStep.out _ hB3 | with_reducible exact hStep.out _ hB4 | with_reducible exact hStep.out _ hB5 | with_reducible exact hStep.out _ hB6)
    (first
      | (go_at_call 49; refine hC49.out.mono ?_; rintro e w1 ⟨rfl, rfl⟩)
      | (go_at_call 70; refine hC70.out.mono ?_; rintro e w2 ⟨v2, rfl, hr2, hb2⟩; have hB2 : Below w.heap.size w w2 := hB0.trans hb2; replace hr2 := Lib.hid hr2)
      | (go_at_call 69; refine (hC69.out _ _ hB2 hr2.out).mono ?_; rintro e w3 ⟨rfl, hb3⟩; have hB3 : Below w.heap.size w w3 := hB2.trans (hb3.mono hB2.size))
      | (go_at_call 50; refine (hC50.out _ hB3).mono ?_; rintro e w3' ⟨rfl, rfl⟩)
      | (go_at_call 72; refine (hC72.out _ hB3).mono ?_; rintro e w4 ⟨v4, rfl, hr4, hb4⟩; have hB4 : Below w.heap.size w w4 := hB3.trans (hb4.mono hB3.size); replace hr4 := Lib.hid hr4)
      | (go_at_call 73; refine (hC73.out _ hB4).mono ?_; rintro e w5 ⟨v5, rfl, hr5, hb5⟩; have hB5 : Below w.heap.size w w5 := hB4.trans (hb5.mono hB4.size); have hr45 := Lib.hid (hr4.out.below hb5); replace hr5 := Lib.hid hr5)
      | (go_at_call 71; refine (sameRuns_any [(0, p)] _ _ _ hr45.out hr5.out (by simp)).mono ?_; rintro e w6 ⟨rfl, hb6⟩; have hB6 : Below w.heap.size w w6 := hB5.trans (hb6.mono hB5.size)))
  go_wp2_with fail
  go_ret
  exact ⟨rfl, hB6⟩
end
end Go.Proofs.YtffafkmmfaaobaaGreat

namespace Go.Proofs.YtffafkmmfaaobaaGreat
set_option linter.unusedSimpArgs false
set_option linter.unusedVariables false
open Go.RowKit

theorem words0_len {p t : Int} (h : may p t) : 83 ≤ (words0 p t).length ∧ (words0 p t).length ≤ 100000 := by
  obtain ⟨h1, h2, h3, h4⟩ := h
  unfold words0
  rw [List.length_set, List.length_replicate]
  unfold wordsOf
  omega
theorem words0_get {p t : Int} (h : may p t) (i : Nat) : (words0 p t).getD i 0 = if i = 0 then 1 else 0 := by
  have hl := (words0_len h).1
  unfold words0 at *
  rw [List.getD_eq_getElem?_getD]
  by_cases e : i = 0
  · subst e
    rw [List.getElem?_set_self (by rw [List.length_set] at hl; omega)]; rfl
  · rw [List.getElem?_set_ne (by omega), if_neg e, List.getElem?_replicate]
    split <;> rfl

section
variable {w : World} {a s g m : Nat} {p t : Int} {qv : Value}

def AwS (w : World) (a s g m : Nat) (p t : Int) (qv : Value) (ws : List Int) (n : Int) (pt : EP) (gen : Int) : Prop :=
  ArenaAt w a p t s qv ∧ (∃ k x o y, StoreIs 187 w s g ws k x o y n) ∧ EnterAt w m p t pt gen

theorem aw_step {ws : List Int} {n : Int} {pt : EP} {gen : Int} (h : AwS w a s g m p t qv ws n pt gen) (hl : 5 ≤ ws.length) (hn : 0 ≤ n ∧ n < 1000) (x : Nx) (K : FuncId) (hx : pt.nx = some (x, K)) (u : Int) (hu : ws.getD x.at 0 = u) :
    Calls Tryz.prog 57 #[.pointer (some ⟨m, 0, none⟩), .pointer (some ⟨a, 0, none⟩)] w fun e w' => e = .returned (.agg #[.int .i64 (x.kind u), .int .i64 x.at, .int .u64 u, .int .u64 (x.next u)]) ∧
      AwS w' a s g m p t qv (ws.set x.at (x.next u)) (n + 1) (pt.step u) (pt.gens u gen) ∧ Kept (fun k => SG s g k ∨ k = m) w w' := by
  obtain ⟨hA, ⟨k, x', o, y, hS⟩, hE⟩ := h
  subst hu
  have hma : a ≠ m := by obtain ⟨nv, bm, h1, _⟩ := hE; exact type_ne' hA h1 (by decide)
  refine (enter_mach hE x hx hA hS hl ⟨hn.1, by omega⟩).mono ?_
  rintro e w' ⟨rfl, hK, hS', hT⟩
  exact ⟨rfl, ⟨hK.at hA (by simp [SG, type_ne' hA hS.obj (by decide), type_ne' hA hS.row (by decide), hma]), ⟨_, _, _, _, hS'⟩, hT⟩, hK⟩

set_option maxRecDepth 100000 in
theorem field_kind (k a o n : Int) (W : World) : (Instr.field 45 (.agg #[.int .i64 k, .int .i64 a, .int .u64 o, .int .u64 n]) 0).run Tryz.prog W = .ok (.int .i64 k) W := rfl

set_option maxRecDepth 100000 in
set_option maxHeartbeats 4000000 in
theorem awake20_any (w : World) : Calls Tryz.prog 17 #[] w fun e w' => e = .returned (.bool true) ∧ Below w.heap.size w w' := by
  have hm : may 1 1 := by unfold may; omega
  have HM := Lib.hid hm
  clear hm
  have hfk := field_kind
  go_enter Tryz.func17, Tryz.ntmps17
  go_wp2_with fail
  refine (arenaNew_any 1 1 _ [] _ (.inl ⟨rfl, rfl, rfl⟩) (by simp)).mono ?_
  rintro e w1 ⟨_, hA, hb1⟩
  obtain ⟨a, s, g, rs, rfl, hA1, _, _, _, _, _, _, la, ls, lg, _⟩ := hA HM.out
  have HA := Lib.hid hA1
  clear hA hA1
  go_wp2_with fail
  refine (newEnter_any HM.out).mono ?_
  rintro e w2 ⟨m, rfl, hE, lm, hb2⟩
  have h0 : Hid (AwS w2 a s g m 1 1 (.pointer (some ⟨rs.q, 0, none⟩)) (words0 1 1) 0 .begin 0) := Lib.hid
    ⟨(hb2.block a (lt_of_block HA.out.obj)).trans HA.out.obj, ⟨_, _, _, _, HA.out.store.below hb2⟩, hE⟩
  have hB2 : Below w.heap.size w w2 := hb1.trans (hb2.mono hb1.size)
  have L := words0_len HM.out
  have G := words0_get HM.out
  have hlm : w.heap.size ≤ m := Nat.le_trans hb1.size lm
  have C1 : Hid (Calls Tryz.prog 57 #[.pointer (some ⟨m, 0, none⟩), .pointer (some ⟨a, 0, none⟩)] w2 fun e w' => e = .returned (.agg #[.int .i64 5, .int .i64 4, .int .u64 0, .int .u64 1]) ∧
      AwS w' a s g m 1 1 (.pointer (some ⟨rs.q, 0, none⟩)) ((words0 1 1).set 4 1) 1 .world 0 ∧ Kept (fun k => SG s g k ∨ k = m) w2 w') :=
    Lib.hid (aw_step h0.out (by omega) (by omega) (.add 4 1) 156 rfl 0 (by rw [show (Nx.add 4 1).at = 4 from rfl, G 4]; rfl))
  have C2 : Hid (∀ W, AwS W a s g m 1 1 (.pointer (some ⟨rs.q, 0, none⟩)) ((words0 1 1).set 4 1) 1 .world 0 → Calls Tryz.prog 57 #[.pointer (some ⟨m, 0, none⟩), .pointer (some ⟨a, 0, none⟩)] W fun e w' => e = .returned (.agg #[.int .i64 1, .int .i64 1, .int .u64 0, .int .u64 0]) ∧
      AwS w' a s g m 1 1 (.pointer (some ⟨rs.q, 0, none⟩)) (((words0 1 1).set 4 1).set 1 0) 2 .gen 0 ∧ Kept (fun k => SG s g k ∨ k = m) W w') :=
    Lib.hid (fun W h => aw_step h (by rw [List.length_set]; omega) (by omega) (.load 1) 157 rfl 0 (by
      show ((words0 1 1).set 4 1).getD 1 0 = 0
      rw [List.getD_eq_getElem?_getD, List.getElem?_set_ne (by omega), ← List.getD_eq_getElem?_getD, G 1]; rfl))
  have C3 : Hid (∀ W, AwS W a s g m 1 1 (.pointer (some ⟨rs.q, 0, none⟩)) (((words0 1 1).set 4 1).set 1 0) 2 .gen 0 → Calls Tryz.prog 57 #[.pointer (some ⟨m, 0, none⟩), .pointer (some ⟨a, 0, none⟩)] W fun e w' => e = .returned (.agg #[.int .i64 1, .int .i64 0, .int .u64 1, .int .u64 1]) ∧
      AwS w' a s g m 1 1 (.pointer (some ⟨rs.q, 0, none⟩)) ((((words0 1 1).set 4 1).set 1 0).set 0 1) 3 .done 1 ∧ Kept (fun k => SG s g k ∨ k = m) W w') :=
    Lib.hid (fun W h => by
      have e : wrap64 1 = 1 := IntWalk.wrap64_in 1 (by omega)
      have := aw_step h (by rw [List.length_set, List.length_set]; omega) (by omega) (.load 0) 160 rfl 1 (by
      show (((words0 1 1).set 4 1).set 1 0).getD 0 0 = 1
      rw [List.getD_eq_getElem?_getD, List.getElem?_set_ne (by omega), List.getElem?_set_ne (by omega), ← List.getD_eq_getElem?_getD, G 0]; rfl)
      rw [show EP.gens .gen 1 0 = 1 from e] at this
      exact this)
  have lS : Hid (∀ W W', Below w.heap.size w W → Kept (fun k => SG s g k ∨ k = m) W W' → Below w.heap.size w W') := Lib.hid (fun W W' hB hK =>
    hB.trans (hK.below hB.size (by rintro k ((rfl | rfl) | rfl) <;> assumption)))
  clear hE hb1 hb2 L G la ls lg lm hlm
  go_wp2_with fail
  refine C1.out.mono ?_
  rintro e w3 ⟨rfl, h3, hK3⟩
  have hB3 := lS.out _ _ hB2 hK3
  have D2 := Lib.hid (C2.out _ h3)
  clear h3 hK3
  go_wp2_with fail
  refine D2.out.mono ?_
  rintro e w4 ⟨rfl, h4, hK4⟩
  have hB4 := lS.out _ _ hB3 hK4
  have D3 := Lib.hid (C3.out _ h4)
  clear h4 hK4
  go_wp2_with fail
  refine D3.out.mono ?_
  rintro e w5 ⟨rfl, h5, hK5⟩
  have hB5 := lS.out _ _ hB4 hK5
  have hD := Lib.hid (enterDone_any (enter_done h5.2.2))
  have hG : Hid (Calls Tryz.prog 59 #[.pointer (some ⟨m, 0, none⟩)] w5 fun e w' => e = .returned (.int .i64 1) ∧ w5 = w') := Lib.hid (by obtain ⟨nv, bm, h1, _⟩ := h5.2.2; exact enterGen_any h1)
  clear h5 hK5
  go_wp2_with (first
    | (go_at_call 58; refine hD.out.mono ?_; rintro e w6 ⟨rfl, rfl⟩)
    | (go_at_call 59; refine hG.out.mono ?_; rintro e w6 ⟨rfl, rfl⟩))
  go_ret
  exact ⟨rfl, hB5⟩
end
end Go.Proofs.YtffafkmmfaaobaaGreat

namespace Go.Proofs.YtffafkmmfaaobaaGreat
set_option linter.unusedSimpArgs false
set_option linter.unusedVariables false
open Go.RowKit

/-- A thread's pair. -/
structure Th where
  μ : Nat
  m : Nat
  r : Nat
  k : Int
  v : MV
  xs : List Int
def Th.pt (T : Th) : WP := T.xs.foldl WP.step (wp0 T.k)

def thV : Option Th → Value
  | none => .pointer none
  | some T => .pointer (some ⟨T.μ, 0, none⟩)

structure ThAt (w : World) (B : Nat) (p t i : Int) (N : Nat) (T : Th) : Prop where
  hk : T.k = 13 ∨ T.k = 14 ∨ T.k = 15 ∨ T.k = 16
  mu : MuAt w T.μ T.m T.r T.pt
  pr : PAt w T.m p t i T.pt 0
  rf : RefM w T.r (wmc T.k p t i) B T.v T.xs
  vd : T.v.done = false
  nd : T.pt.done = false
  lm : B ≤ T.m
  lr : B ≤ T.r
  lμ : B ≤ T.μ
  few : T.xs.length ≤ N

theorem WP.nx_of {pt : WP} (h : pt.done = false) (th : Int) : ∃ x, pt.nx th = some x := by
  cases pt with
  | enter pt => cases pt <;> simp [WP.done, EP.isDone] at h <;> exact ⟨_, rfl⟩
  | exit d => simp [WP.done] at h; subst h; exact ⟨_, rfl⟩
  | stop pt => cases pt <;> simp [WP.done, SP.isDone] at h <;> exact ⟨_, rfl⟩
  | go d => simp [WP.done] at h; subst h; exact ⟨_, rfl⟩
theorem WP.what_step (pt : WP) (u : Int) : (pt.step u).what = pt.what := by cases pt <;> rfl
theorem muCells_step (m r : Nat) (pt : WP) (u : Int) : muCells m r (pt.step u) = muCells m r pt := by cases pt <;> rfl

section
variable {w w' : World} {F : Nat → Prop} {B : Nat} {p t i : Int} {N : Nat} {T : Th}

theorem PAt.mach {m : Nat} {th gen : Int} {pt : WP} (h : PAt w m p t th pt gen) : ∃ cs ty, w.heap[m]? = some (.cells cs ty (0, 0)) ∧ cs.size ≠ 1 ∧ (ty = 160 ∨ ty = 162 ∨ ty = 165 ∨ ty = 169) := by
  cases pt with
  | enter pt => obtain ⟨nv, bm, h1, _⟩ := h; exact ⟨_, _, h1, by simp, by simp⟩
  | exit d => obtain ⟨nv, bm, h1, _⟩ := h; exact ⟨_, _, h1, by simp, by simp⟩
  | stop pt => obtain ⟨nv, bm, h1, _⟩ := h; exact ⟨_, _, h1, by simp, by simp⟩
  | go d => obtain ⟨nv, h1, _⟩ := h; exact ⟨_, _, h1, by simp, by simp⟩

theorem LogRow.ty {lg : Value} {xs : List Int} (h : LogRow w B lg xs) {k : Nat} (hk : lg.ownBlock = some k) : B ≤ k ∧ ∃ cs, w.heap[k]? = some (.cells cs 33 (0, 0)) := by
  rcases h.1.2 with ⟨rfl, _⟩ | ⟨g, cap, cur, rfl, hb, hg, _⟩
  · simp [Value.ownBlock] at hk
  · simp [Value.ownBlock] at hk; subst hk; exact ⟨hb, _, hg⟩

theorem ThAt.kept (h : ThAt w B p t i N T) (hk : Kept F w w') (hm : ¬ F T.m) (hr : ¬ F T.r) (hμ : ¬ F T.μ) (hl : ∀ k, T.v.log.ownBlock = some k → ¬ F k) (hf : Far F w) : ThAt w' B p t i N T :=
  { h with
    mu := hk.at h.mu hμ
    pr := h.pr.kept hk hm hf
    rf := ⟨hk.at h.rf.mach hr, h.rf.row.kept hk (fun k cs _ ho => hl k ho), h.rf.live, h.rf.marks⟩ }

/-- Two threads' own blocks are apart. -/
def Apart (T U : Th) : Prop := T.m ≠ U.m ∧ T.r ≠ U.r ∧ ∀ k, T.v.log.ownBlock = some k → U.v.log.ownBlock ≠ some k

/-- What the law goes through with. -/
structure Law20 (w0 w1 : World) (a s g b s' g' : Nat) (p : Int) (n : Nat) (rs : RSt) (rs' : FSt) (ob : Nat) (rv : Nat → Value) (th : Nat → Option Th) (N : Nat) (C : Int) (w : World) : Prop where
  start : Start w0 w1 a s g b s' g' p n rs rs'
  may : may p n
  kept : Kept (SG2 s g s' g') w1 w
  twin : ∃ ws, 83 ≤ ws.length ∧ ws.length ≤ 100000 ∧ Twin w a s g b s' g' p n (.pointer (some ⟨rs.q, 0, none⟩)) (.pointer (some ⟨rs'.q, 0, none⟩)) ws C
  row : w.heap[ob]? = some (.cells ((List.range n).map rv).toArray 35 (0, 0))
  lob : w1.heap.size ≤ ob
  ths : ∀ i T, i < n → th i = some T → ThAt w w1.heap.size p n i N T
  sep : ∀ i j T U, i < n → j < n → i ≠ j → th i = some T → th j = some U → Apart T U

variable {C : Int} {w0 w1 : World} {a s g b s' g' : Nat} {n : Nat} {rs : RSt} {rs' : FSt} {ob : Nat} {rv : Nat → Value} {th : Nat → Option Th}

theorem Law20.sgLt (h : Law20 w0 w1 a s g b s' g' p n rs rs' ob rv th N C w) : ∀ k, SG2 s g s' g' k → k < w1.heap.size := by
  rintro k ((rfl | rfl) | (rfl | rfl))
  · exact lt_of_block h.start.ar.store.obj
  · exact lt_of_block h.start.ar.store.row
  · exact lt_of_block h.start.me.store.obj
  · exact lt_of_block h.start.me.store.row
theorem Law20.sgBig (h : Law20 w0 w1 a s g b s' g' p n rs rs' ob rv th N C w) : ∀ k, SG2 s g s' g' k → ∃ cs ty, w.heap[k]? = some (.cells cs ty (0, 0)) ∧ cs.size ≠ 1 := by
  obtain ⟨ws, h1, h2, hT⟩ := h.twin
  obtain ⟨_, _, _, _, _, hS, _⟩ := hT.st
  obtain ⟨_, _, _, _, _, hS', _⟩ := hT.st'
  rintro k ((rfl | rfl) | (rfl | rfl))
  · exact ⟨_, _, hS.obj, by simp⟩
  · exact ⟨_, _, hS.row, by simp; omega⟩
  · exact ⟨_, _, hS'.obj, by simp⟩
  · exact ⟨_, _, hS'.row, by simp; omega⟩
theorem Law20.below (h : Law20 w0 w1 a s g b s' g' p n rs rs' ob rv th N C w) : Below w0.heap.size w0 w := by
  have hz := h.start.below.size
  refine h.start.below.trans (h.kept.below hz ?_)
  rintro k ((rfl | rfl) | (rfl | rfl))
  · exact h.start.ls
  · exact h.start.lg
  · exact h.start.ls'
  · exact h.start.lg'

/-- Behind new blocks alone. -/
theorem Law20.go (h : Law20 w0 w1 a s g b s' g' p n rs rs' ob rv th N C w) (hb : Below w.heap.size w w') : Law20 w0 w1 a s g b s' g' p n rs rs' ob rv th N C w' := by
  have K : Kept No w w' := Kept.of_below_size hb
  obtain ⟨ws, h1, h2, hT⟩ := h.twin
  exact { h with
    kept := h.kept.trans K (fun _ h => h.elim)
    twin := ⟨ws, h1, h2, hT.kept K (fun h => h) (fun h => h) (fun h => h) (fun h => h) (fun h => h) (fun h => h)⟩
    row := K.at h.row (fun h => h)
    ths := fun i T hi hT => (h.ths i T hi hT).kept K (fun h => h) (fun h => h) (fun h => h) (fun _ _ h => h) (Far.of (fun _ h => h.elim)) }
theorem Law20.more (h : Law20 w0 w1 a s g b s' g' p n rs rs' ob rv th N C w) {N' : Nat} (hN : N ≤ N') : Law20 w0 w1 a s g b s' g' p n rs rs' ob rv th N' C w :=
  { h with ths := fun i T hi hT => { h.ths i T hi hT with few := Nat.le_trans (h.ths i T hi hT).few hN } }

theorem Law20.moreC (h : Law20 w0 w1 a s g b s' g' p n rs rs' ob rv th N C w) {C' : Int} (hC : C ≤ C') : Law20 w0 w1 a s g b s' g' p n rs rs' ob rv th N C' w := by
  obtain ⟨ws, h1, h2, hT⟩ := h.twin
  obtain ⟨k, x, o, y, ct, a1, a2, a3⟩ := hT.st
  obtain ⟨k', x', o', y', ct', b1, b2, b3⟩ := hT.st'
  exact { h with twin := ⟨ws, h1, h2, hT.ar, hT.me, ⟨k, x, o, y, ct, a1, a2, by omega⟩, ⟨k', x', o', y', ct', b1, b2, by omega⟩, hT.gg⟩ }

/-- A word is put on both sides. -/
theorem Law20.sgNo (h : Law20 w0 w1 a s g b s' g' p n rs rs' ob rv th N C w) : ∀ k, w1.heap.size ≤ k → ¬ SG2 s g s' g' k := fun k hk hs => by have := h.sgLt k hs; omega
theorem Law20.put (h : Law20 w0 w1 a s g b s' g' p n rs rs' ob rv th N C w) (v : Int) (hC : C < 900000) :
    Calls Tryz.prog 11 #[.pointer (some ⟨a, 0, none⟩), .pointer (some ⟨b, 0, none⟩), .int .i64 0, .int .u64 v] w fun e w' => e = .returned (.bool true) ∧ Law20 w0 w1 a s g b s' g' p n rs rs' ob rv th N (C + 1) w' := by
  obtain ⟨ws, h1, h2, hT⟩ := h.twin
  refine (pput_any hT 0 (by omega) v hC h2).mono ?_
  rintro e w' ⟨rfl, hT', hK⟩
  have hno := h.sgNo
  refine ⟨rfl, { h with
    kept := h.kept.trans hK (fun _ h => .inl h)
    twin := ⟨_, by rw [List.length_set]; exact h1, by rw [List.length_set]; exact h2, hT'⟩
    row := hK.at h.row (hno _ h.lob)
    ths := fun i T hi hT => ?_ }⟩
  have hTh := h.ths i T hi hT
  exact hTh.kept hK (hno _ hTh.lm) (hno _ hTh.lr) (hno _ hTh.lμ) (fun k hk => hno _ (hTh.rf.row.ty hk).1) (Far.of h.sgBig)

def updT {α : Type} (th : Nat → α) (i : Nat) (x : α) : Nat → α := fun j => if j = i then x else th j
theorem updT_at {α : Type} (th : Nat → α) (i : Nat) (x : α) : updT th i x i = x := by simp [updT]
theorem updT_ne {α : Type} (th : Nat → α) {i j : Nat} (x : α) (h : j ≠ i) : updT th i x j = th j := by simp [updT, h]
theorem row_upd (rv : Nat → Value) (i : Nat) (x : Value) (n : Nat) :
    ((List.range n).map rv).toArray.setIfInBounds i x = ((List.range n).map (updT rv i x)).toArray := by
  apply Array.ext'
  simp only [Array.toList_setIfInBounds, List.toList_toArray]
  apply List.ext_getElem?
  intro k
  rw [List.getElem?_set]
  simp only [List.getElem?_map, List.length_map, List.length_range]
  by_cases e : i = k
  · subst e
    rw [if_pos rfl]
    split
    · rename_i hlt
      simp [updT, hlt]
    · rename_i hlt
      simp [List.getElem?_eq_none, hlt]
  · rw [if_neg e]
    by_cases hk : k < n
    · simp [updT, hk, Ne.symm e]
    · simp [List.getElem?_eq_none, hk]
theorem row_get (rv : Nat → Value) {i n : Nat} (h : i < n) : ((List.range n).map rv).toArray[i]? = some (rv i) := by simp [h]

/-- The law's row is turned, and who stands there with it. -/
theorem Law20.set (h : Law20 w0 w1 a s g b s' g' p n rs rs' ob rv th N C w) (i : Nat) (v : Value) (x : Option Th)
    (hx : ∀ T, x = some T → ThAt w w1.heap.size p n i N T ∧ ∀ j U, j < n → j ≠ i → th j = some U → Apart T U ∧ Apart U T) :
    Law20 w0 w1 a s g b s' g' p n rs rs' ob (updT rv i v) (updT th i x) N C (w.setCell ⟨ob, i, none⟩ v) := by
  have hK : Kept (fun k => k = ob) w (w.setCell ⟨ob, i, none⟩ v) := keptSet v
  have hfar : Far (fun k => k = ob) w := by
    rintro k v' ty rfl ho
    have := ho.symm.trans h.row
    simp at this
    exact this.2
  obtain ⟨ws, h1, h2, hT⟩ := h.twin
  have hob : ∀ k, k < w1.heap.size → ¬ k = ob := fun k hk e => by have := h.lob; omega
  have hst := h.start
  have hkept : ∀ j T, ThAt w w1.heap.size p n j N T → ThAt (w.setCell ⟨ob, i, none⟩ v) w1.heap.size p n j N T := by
    intro j T hTh
    obtain ⟨cs, ty, hc, _, hty⟩ := hTh.pr.mach
    refine hTh.kept hK (type_ne' hc h.row (by rcases hty with rfl | rfl | rfl | rfl <;> decide)) (type_ne' hTh.rf.mach h.row (by decide)) (type_ne' hTh.mu h.row (by decide)) (fun k hk => ?_) hfar
    obtain ⟨_, cs', hc'⟩ := hTh.rf.row.ty hk
    exact type_ne' hc' h.row (by decide)
  exact { h with
    kept := h.kept.trans hK (fun k hk => .inr (by have := h.lob; omega))
    twin := ⟨ws, h1, h2, hT.kept hK (hob _ (lt_of_block hst.ar.obj)) (hob _ (lt_of_block hst.ar.store.obj)) (hob _ (lt_of_block hst.ar.store.row)) (hob _ (lt_of_block hst.me.obj)) (hob _ (lt_of_block hst.me.store.obj)) (hob _ (lt_of_block hst.me.store.row))⟩
    row := by rw [block_set h.row i v, row_upd]
    ths := fun j T hj hTj => by
      by_cases e : j = i
      · subst e
        rw [updT_at] at hTj
        exact hkept _ _ (hx T hTj).1
      · rw [updT_ne _ _ e] at hTj
        exact hkept _ _ (h.ths j T hj hTj)
    sep := fun j k T U hj hk hjk hTj hUk => by
      by_cases e : j = i
      · subst e
        rw [updT_at] at hTj
        rw [updT_ne _ _ (Ne.symm hjk)] at hUk
        exact ((hx T hTj).2 k U hk (Ne.symm hjk) hUk).1
      · rw [updT_ne _ _ e] at hTj
        by_cases e2 : k = i
        · subst e2
          rw [updT_at] at hUk
          exact ((hx U hUk).2 j T hj e hTj).2
        · rw [updT_ne _ _ e2] at hUk
          exact h.sep j k T U hj hk hjk hTj hUk }

theorem LogRow.none_own {w : World} : (Value.slice none 0 0).ownBlock = none := rfl

/-- A pair is made. -/
theorem Law20.made (h : Law20 w0 w1 a s g b s' g' p n rs rs' ob rv th N C w) (i : Nat) (hi : i < n) (k : Int) (hk : k = 13 ∨ k = 14 ∨ k = 15 ∨ k = 16) :
    Calls Tryz.prog 13 #[.agg #[.int .i64 p, .int .i64 n], .int .i64 k, .int .i64 i] w fun e w' => ∃ T : Th, e = .returned (.pointer (some ⟨T.μ, 0, none⟩)) ∧ Law20 w0 w1 a s g b s' g' p n rs rs' ob rv th N C w' ∧
      ThAt w' w1.heap.size p n i N T ∧ (∀ j U, j < n → j ≠ i → th j = some U → Apart T U ∧ Apart U T) ∧ Below w.heap.size w w' := by
  refine (made_any (w := w) h.may (by omega) (by omega) w1.heap.size k hk).mono ?_
  rintro e w' ⟨μ, m, r, rfl, h1, h2, h3, l1, l2, l3, hb⟩
  have hz := h.kept.size
  refine ⟨⟨μ, m, r, k, mv0.fresh, []⟩, rfl, h.go hb, ⟨hk, h1, h2, h3, rfl, ?_, by show w1.heap.size ≤ m; omega, by show w1.heap.size ≤ r; omega, by show w1.heap.size ≤ μ; omega, by simp⟩, ?_, hb⟩
  · rcases hk with rfl | rfl | rfl | rfl <;> rfl
  · intro j U hj hji hU
    have hTh := h.ths j U hj hU
    have g1 : U.m < w.heap.size := by obtain ⟨cs, ty, hc, _⟩ := hTh.pr.mach; exact lt_of_block hc
    have g2 : U.r < w.heap.size := lt_of_block hTh.rf.mach
    refine ⟨⟨by show m ≠ U.m; omega, by show r ≠ U.r; omega, fun k hk => by cases hk⟩, ⟨by show U.m ≠ m; omega, by show U.r ≠ r; omega, fun k hk hk2 => by cases hk2⟩⟩
end
end Go.Proofs.YtffafkmmfaaobaaGreat
