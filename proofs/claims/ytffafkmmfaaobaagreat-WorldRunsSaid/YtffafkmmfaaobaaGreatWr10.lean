/- The machines of layer 20: how they are made. -/
import Derived.Test.YtffafkmmfaaobaaGreatWr8
import Derived.Test.YtffafkmmfaaobaaGreatWr9
namespace Go.Proofs.YtffafkmmfaaobaaGreat
set_option linter.unusedSimpArgs false
set_option linter.unusedVariables false
open Go.RowKit

section
variable {w : World} {p t th : Int}

theorem may_yes (h : may p t) (w : World) : Calls Tryz.prog 90 #[.agg #[.int .i64 p, .int .i64 t]] w fun e w' => e = .returned (.bool true) ∧ Below w.heap.size w w' :=
  (may_any p t w).mono fun e w' ⟨b, he, hb, hB⟩ => by
    have : b = true := hb.2 h
    subst this
    exact ⟨he, hB⟩

set_option maxRecDepth 100000 in
set_option maxHeartbeats 2000000 in
theorem newEnter_any (h : may p t) : Calls Tryz.prog 53 #[.agg #[.int .i64 p, .int .i64 t]] w fun e w' => ∃ m, e = .returned (.pointer (some ⟨m, 0, none⟩)) ∧ EnterAt w' m p t .begin 0 ∧ w.heap.size ≤ m ∧ Below w.heap.size w w' := by
  have H := Lib.hid h
  clear h
  go_enter Tryz.func53, Tryz.ntmps53
  have hb0 : (w.alloc (.cells #[.int .i64 p, .int .i64 t] 40)).heap[w.heap.size]? = some (.cells #[.int .i64 p, .int .i64 t] 40 (0, 0)) := heap_alloc_new w _
  have hB0 : Below w.heap.size w (w.alloc (.cells #[.int .i64 p, .int .i64 t] 40)) := (Below.refl _ w).alloc (Nat.le_refl _) _
  go_wp2_with fail
  generalize w.alloc (.cells #[.int .i64 p, .int .i64 t] 40) = w1 at hb0 hB0 ⊢
  generalize hr : w.heap.size = r at hb0 hB0 ⊢
  refine (may_yes H.out _).mono ?_
  rintro e w2 ⟨rfl, hB2⟩
  have hb2 := (hB2.block r (lt_of_block hb0)).trans hb0
  have hB02 : Below r w w2 := hB0.trans (hB2.mono (by have := lt_of_block hb0; omega))
  have l0 : w2.cell? ⟨r, 0, none⟩ = some (.int .i64 p) := cellOf hb2 0
  have l1 : w2.cell? ⟨r, 1, none⟩ = some (.int .i64 t) := cellOf hb2 1
  have lr : r < w2.heap.size := lt_of_block hb2
  clear hb0 hB0 hB2 hb2
  go_wp2_with fail
  have hM : MachIs (w2.alloc (.cells #[.int .i64 p, .int .i64 t, .nilFunc, .int .i64 0] 160)) w2.heap.size p t .nilFunc [.int .i64 0] 160 := heap_alloc_new w2 _
  have hB3 : Below r w (w2.alloc (.cells #[.int .i64 p, .int .i64 t, .nilFunc, .int .i64 0] 160)) := hB02.alloc (by omega) _
  generalize w2.alloc (.cells #[.int .i64 p, .int .i64 t, .nilFunc, .int .i64 0] 160) = w3 at hM hB3 ⊢
  generalize hm : w2.heap.size = m at hM lr ⊢
  refine (begin_any hM).mono ?_
  rintro e w4 ⟨rfl, hK, hE⟩
  have hB4 : Below r w w4 := hB3.trans (hK.below (by have := hB3.size; omega) (fun k hk => by omega))
  have HE := Lib.hid hE
  clear hE hM hK
  go_wp2_with fail
  go_ret
  exact ⟨m, rfl, HE.out, by omega, hr ▸ hB4⟩

set_option maxRecDepth 100000 in
set_option maxHeartbeats 2000000 in
theorem newExit_any (h : may p t) : Calls Tryz.prog 54 #[.agg #[.int .i64 p, .int .i64 t]] w fun e w' => ∃ m, e = .returned (.pointer (some ⟨m, 0, none⟩)) ∧ ExitAt w' m p t false ∧ w.heap.size ≤ m ∧ Below w.heap.size w w' := by
  have H := Lib.hid h
  clear h
  go_enter Tryz.func54, Tryz.ntmps54
  have hb0 : (w.alloc (.cells #[.int .i64 p, .int .i64 t] 40)).heap[w.heap.size]? = some (.cells #[.int .i64 p, .int .i64 t] 40 (0, 0)) := heap_alloc_new w _
  have hB0 : Below w.heap.size w (w.alloc (.cells #[.int .i64 p, .int .i64 t] 40)) := (Below.refl _ w).alloc (Nat.le_refl _) _
  go_wp2_with fail
  generalize w.alloc (.cells #[.int .i64 p, .int .i64 t] 40) = w1 at hb0 hB0 ⊢
  generalize hr : w.heap.size = r at hb0 hB0 ⊢
  refine (may_yes H.out _).mono ?_
  rintro e w2 ⟨rfl, hB2⟩
  have hb2 := (hB2.block r (lt_of_block hb0)).trans hb0
  have hB02 : Below r w w2 := hB0.trans (hB2.mono (by have := lt_of_block hb0; omega))
  have l0 : w2.cell? ⟨r, 0, none⟩ = some (.int .i64 p) := cellOf hb2 0
  have l1 : w2.cell? ⟨r, 1, none⟩ = some (.int .i64 t) := cellOf hb2 1
  have lr : r < w2.heap.size := lt_of_block hb2
  clear hb0 hB0 hB2 hb2
  go_wp2_with fail
  have hM : MachIs ((w2.alloc (.cells #[.int .i64 p, .int .i64 t, .nilFunc] 162)).alloc (.cells #[.pointer (some ⟨w2.heap.size, 0, none⟩)] 49)) w2.heap.size p t .nilFunc [] 162 := block_alloc (heap_alloc_new w2 _) _
  have hb : OneAt ((w2.alloc (.cells #[.int .i64 p, .int .i64 t, .nilFunc] 162)).alloc (.cells #[.pointer (some ⟨w2.heap.size, 0, none⟩)] 49)) (w2.heap.size + 1) (.pointer (some ⟨w2.heap.size, 0, none⟩)) 49 := by
    have := heap_alloc_new (w2.alloc (.cells #[.int .i64 p, .int .i64 t, .nilFunc] 162)) (.cells #[.pointer (some ⟨w2.heap.size, 0, none⟩)] 49)
    simpa [OneAt] using this
  have hB3 : Below r w ((w2.alloc (.cells #[.int .i64 p, .int .i64 t, .nilFunc] 162)).alloc (.cells #[.pointer (some ⟨w2.heap.size, 0, none⟩)] 49)) := (hB02.alloc (by omega) _).alloc (by simp; omega) _
  generalize (w2.alloc (.cells #[.int .i64 p, .int .i64 t, .nilFunc] 162)).alloc (.cells #[.pointer (some ⟨w2.heap.size, 0, none⟩)] 49) = w3 at hM hb hB3 ⊢
  generalize hn : w2.heap.size + 1 = n at hb ⊢
  generalize hm : w2.heap.size = m at hM hb lr hn ⊢
  refine (laid_add hM 4 18446744073709551615 107 #[] #[.pointer (some ⟨n, 0, none⟩)]).mono ?_
  rintro e w4 ⟨rfl, nv, hM4, hN4, hK⟩
  have hB4 : Below r w w4 := hB3.trans (hK.below (by have := hB3.size; omega) (fun k hk => by omega))
  have hb4 := hb.kept hK (by omega)
  have c4 := hb4.cell
  have HE : Hid (ExitAt w4 m p t false) := Lib.hid ⟨nv, n, hM4, hb4, hN4⟩
  clear hM hM4 hN4 hK hb hb4
  go_wp2_with fail
  go_ret
  exact ⟨m, rfl, HE.out, by omega, hr ▸ hB4⟩

set_option maxRecDepth 100000 in
set_option maxHeartbeats 2000000 in
theorem newGo_any (h : may p t) : Calls Tryz.prog 56 #[.agg #[.int .i64 p, .int .i64 t]] w fun e w' => ∃ m, e = .returned (.pointer (some ⟨m, 0, none⟩)) ∧ GoAt w' m p t false ∧ w.heap.size ≤ m ∧ Below w.heap.size w w' := by
  have H := Lib.hid h
  clear h
  go_enter Tryz.func56, Tryz.ntmps56
  have hb0 : (w.alloc (.cells #[.int .i64 p, .int .i64 t] 40)).heap[w.heap.size]? = some (.cells #[.int .i64 p, .int .i64 t] 40 (0, 0)) := heap_alloc_new w _
  have hB0 : Below w.heap.size w (w.alloc (.cells #[.int .i64 p, .int .i64 t] 40)) := (Below.refl _ w).alloc (Nat.le_refl _) _
  go_wp2_with fail
  generalize w.alloc (.cells #[.int .i64 p, .int .i64 t] 40) = w1 at hb0 hB0 ⊢
  generalize hr : w.heap.size = r at hb0 hB0 ⊢
  refine (may_yes H.out _).mono ?_
  rintro e w2 ⟨rfl, hB2⟩
  have hb2 := (hB2.block r (lt_of_block hb0)).trans hb0
  have hB02 : Below r w w2 := hB0.trans (hB2.mono (by have := lt_of_block hb0; omega))
  have l0 : w2.cell? ⟨r, 0, none⟩ = some (.int .i64 p) := cellOf hb2 0
  have l1 : w2.cell? ⟨r, 1, none⟩ = some (.int .i64 t) := cellOf hb2 1
  have lr : r < w2.heap.size := lt_of_block hb2
  clear hb0 hB0 hB2 hb2
  go_wp2_with fail
  have hM : MachIs (w2.alloc (.cells #[.int .i64 p, .int .i64 t, .nilFunc] 169)) w2.heap.size p t .nilFunc [] 169 := heap_alloc_new w2 _
  have hB3 : Below r w (w2.alloc (.cells #[.int .i64 p, .int .i64 t, .nilFunc] 169)) := hB02.alloc (by omega) _
  generalize w2.alloc (.cells #[.int .i64 p, .int .i64 t, .nilFunc] 169) = w3 at hM hB3 ⊢
  generalize hm : w2.heap.size = m at hM lr ⊢
  have HL := Lib.hid (laid_put (w := w3.drew) hM 1 0 108 #[.pointer (some ⟨m, 0, none⟩)] #[])
  go_region_held3 (fun _ => True) (first | trivial)
    (first
      | (go_at_call 114; refine HL.out.mono ?_; rintro e w4 ⟨rfl, nv, hM4, hN4, hK⟩))
  have hB4 : Below r w w4 := (hB3.drew).trans (hK.below (by have := hB3.size; show r ≤ w3.heap.size; omega) (fun k hk => by omega))
  have HE : Hid (GoAt w4 m p t false) := Lib.hid ⟨nv, hM4, hN4⟩
  clear hM4 hN4 hK
  go_wp2_with fail
  go_ret
  exact ⟨m, rfl, HE.out, by omega, hr ▸ hB4⟩

set_option maxRecDepth 100000 in
set_option maxHeartbeats 1000000 in
theorem thread_yes (h0 : 0 ≤ th) (h1 : th < t) (w : World) : Calls Tryz.prog 109 #[.agg #[.int .i64 p, .int .i64 t], .int .i64 th] w fun e w' => e = .returned (.bool true) ∧ Below w.heap.size w w' := by
  go_enter Tryz.func109, Tryz.ntmps109
  go_wp2
  go_ret
  exact ⟨rfl, (Below.refl _ _).alloc (Nat.le_refl _) _⟩

set_option maxRecDepth 100000 in
set_option maxHeartbeats 2000000 in
theorem newStop_any (h : may p t) (h0 : 0 ≤ th) (h1 : th < t) : Calls Tryz.prog 55 #[.agg #[.int .i64 p, .int .i64 t], .int .i64 th] w fun e w' => ∃ m, e = .returned (.pointer (some ⟨m, 0, none⟩)) ∧ StopAt w' m p t th .begin 0 ∧ w.heap.size ≤ m ∧ Below w.heap.size w w' := by
  have ht : t ≤ 64 := h.2.2.2
  have hw1 : IntKind.i64.wrap (th + 1) = th + 1 := IntWalk.i64_in _ (by omega)
  have H := Lib.hid h
  clear h
  go_enter Tryz.func55, Tryz.ntmps55
  have hb0 : (w.alloc (.cells #[.int .i64 p, .int .i64 t] 40)).heap[w.heap.size]? = some (.cells #[.int .i64 p, .int .i64 t] 40 (0, 0)) := heap_alloc_new w _
  have hB0 : Below w.heap.size w (w.alloc (.cells #[.int .i64 p, .int .i64 t] 40)) := (Below.refl _ w).alloc (Nat.le_refl _) _
  go_wp2_with fail
  generalize w.alloc (.cells #[.int .i64 p, .int .i64 t] 40) = w1 at hb0 hB0 ⊢
  generalize hr : w.heap.size = r at hb0 hB0 ⊢
  refine (may_yes H.out _).mono ?_
  rintro e w2' ⟨rfl, hB2⟩
  have hb2 := (hB2.block r (lt_of_block hb0)).trans hb0
  have hB02' : Below r w w2' := hB0.trans (hB2.mono (by have := lt_of_block hb0; omega))
  have k0 : w2'.cell? ⟨r, 0, none⟩ = some (.int .i64 p) := cellOf hb2 0
  have k1 : w2'.cell? ⟨r, 1, none⟩ = some (.int .i64 t) := cellOf hb2 1
  have lr' : r < w2'.heap.size := lt_of_block hb2
  clear hb0 hB0 hB2
  go_wp2_with fail
  refine (thread_yes h0 h1 _).mono ?_
  rintro e w2 ⟨rfl, hB3'⟩
  have hb3 := (hB3'.block r (lt_of_block hb2)).trans hb2
  have hB02 : Below r w w2 := hB02'.trans (hB3'.mono (by omega))
  have l0 : w2.cell? ⟨r, 0, none⟩ = some (.int .i64 p) := cellOf hb3 0
  have l1 : w2.cell? ⟨r, 1, none⟩ = some (.int .i64 t) := cellOf hb3 1
  have lr : r < w2.heap.size := lt_of_block hb3
  clear hb2 hB02' hB3' hb3 k0 k1 lr'
  go_wp2_with fail
  have hM : MachIs ((w2.alloc (.cells #[.int .i64 p, .int .i64 t, .nilFunc, .int .i64 0] 165)).alloc (.cells #[.pointer (some ⟨w2.heap.size, 0, none⟩)] 50)) w2.heap.size p t .nilFunc [.int .i64 0] 165 := block_alloc (heap_alloc_new w2 _) _
  have hb : OneAt ((w2.alloc (.cells #[.int .i64 p, .int .i64 t, .nilFunc, .int .i64 0] 165)).alloc (.cells #[.pointer (some ⟨w2.heap.size, 0, none⟩)] 50)) (w2.heap.size + 1) (.pointer (some ⟨w2.heap.size, 0, none⟩)) 50 := by
    have := heap_alloc_new (w2.alloc (.cells #[.int .i64 p, .int .i64 t, .nilFunc, .int .i64 0] 165)) (.cells #[.pointer (some ⟨w2.heap.size, 0, none⟩)] 50)
    simpa [OneAt] using this
  have hB3 : Below r w ((w2.alloc (.cells #[.int .i64 p, .int .i64 t, .nilFunc, .int .i64 0] 165)).alloc (.cells #[.pointer (some ⟨w2.heap.size, 0, none⟩)] 50)) := (hB02.alloc (by omega) _).alloc (by simp; omega) _
  generalize (w2.alloc (.cells #[.int .i64 p, .int .i64 t, .nilFunc, .int .i64 0] 165)).alloc (.cells #[.pointer (some ⟨w2.heap.size, 0, none⟩)] 50) = w3 at hM hb hB3 ⊢
  generalize hn : w2.heap.size + 1 = n at hb ⊢
  generalize hm : w2.heap.size = m at hM hb lr hn ⊢
  refine (laid_cas hM 1 0 (th + 1) 111 #[] #[.pointer (some ⟨n, 0, none⟩)]).mono ?_
  rintro e w4 ⟨rfl, nv, hM4, hN4, hK⟩
  have hB4 : Below r w w4 := hB3.trans (hK.below (by have := hB3.size; omega) (fun k hk => by omega))
  have hb4 := hb.kept hK (by omega)
  have c4 := hb4.cell
  have HE : Hid (StopAt w4 m p t th .begin 0) := Lib.hid ⟨nv, n, hM4, hb4, hN4⟩
  clear hM hM4 hN4 hK hb hb4
  go_wp2_with fail
  go_ret
  exact ⟨m, rfl, HE.out, by omega, hr ▸ hB4⟩
end
end Go.Proofs.YtffafkmmfaaobaaGreat

namespace Go.Proofs.YtffafkmmfaaobaaGreat
set_option linter.unusedSimpArgs false
set_option linter.unusedVariables false
open Go.RowKit

/-- Nothing was told yet. -/
def mv0 : MV := { log := .slice none 0 0, done := false, at' := 0, used := false, mem := .pointer none, d0 := 0, d1 := 0, d2 := 0, d3 := 0, got := 0, code := 0, n := 0, gens := 0, freed := 0, live := .slice none 0 0, marks := .slice none 0 0, full := 0, entry0 := 0 }
def mcAgg (c : MC) : Value := .agg #[.int .i64 c.what, .int .i64 c.p, .int .i64 c.t, .int .i64 c.thread, .int .i64 c.page, .int .i64 c.cls, .int .i64 c.pages, .int .i64 c.gen, .int .i64 c.head, .int .i64 c.size, .int .i64 c.most,
    .int .u64 c.mask, .bool c.drop, .slice none 0 0, .slice none 0 0, .bool false, .int .i64 0, .bool false, .pointer none, .int .i64 0, .int .i64 0, .int .u64 0, .int .u64 0, .int .i64 0, .int .i64 0, .int .i64 0, .int .i64 0,
    .int .u64 0, .slice none 0 0, .slice none 0 0, .int .i64 0, .int .i64 0]

theorem LogRow.nil (w : World) (B : Nat) : LogRow w B (.slice none 0 0) [] := ⟨World.ownsRow_nil _ _ _ _, fun _ => rfl⟩

set_option maxRecDepth 100000 in
set_option maxHeartbeats 1000000 in
theorem newM_any (c : MC) (hl : c.list = .slice none 0 0) (w : World) (B : Nat) : Calls Tryz.prog 46 #[mcAgg c] w fun e w' => ∃ r, e = .returned (.pointer (some ⟨r, 0, none⟩)) ∧ RefM w' r c B mv0.fresh [] ∧ w.heap.size ≤ r ∧ Below w.heap.size w w' := by
  have hN : ∀ W, W = w.alloc (.cells #[.int .i64 c.what, .int .i64 c.p, .int .i64 c.t, .int .i64 c.thread, .int .i64 c.page, .int .i64 c.cls, .int .i64 c.pages, .int .i64 c.gen, .int .i64 c.head, .int .i64 c.size, .int .i64 c.most,
    .int .u64 c.mask, .bool c.drop, .slice none 0 0, .slice none 0 0, .bool false, .int .i64 0, .bool false, .pointer none, .int .i64 0, .int .i64 0, .int .u64 0, .int .u64 0, .int .i64 0, .int .i64 0, .int .i64 0, .int .i64 0,
    .int .u64 0, .slice none 0 0, .slice none 0 0, .int .i64 0, .int .i64 0] 60) → MAt W w.heap.size c mv0 ∧ Below w.heap.size w W := by
    rintro W rfl
    refine ⟨?_, (Below.refl _ w).alloc (Nat.le_refl _) _⟩
    unfold MAt
    rw [hl]
    exact heap_alloc_new w _
  have HN := Lib.hid hN
  clear hN hl
  unfold mcAgg
  go_enter Tryz.func46, Tryz.ntmps46
  go_wp2_with fail
  obtain ⟨hM, hB⟩ := HN.out _ rfl
  refine (fresh_any hM rfl rfl).mono ?_
  rintro e w2 ⟨rfl, hM2, hK⟩
  have hF : Hid (RefM w2 w.heap.size c B mv0.fresh [] ∧ Below w.heap.size w w2) := Lib.hid ⟨⟨hM2, LogRow.nil _ _, ⟨_, _, _, rfl⟩, ⟨_, _, _, rfl⟩⟩, hB.trans (hK.below (by simp) (fun k e => by omega))⟩
  clear hM hB hM2 hK
  go_wp2_with fail
  go_ret
  exact ⟨_, rfl, hF.out.1, Nat.le_refl _, hF.out.2⟩
end Go.Proofs.YtffafkmmfaaobaaGreat

namespace Go.Proofs.YtffafkmmfaaobaaGreat
set_option linter.unusedSimpArgs false
set_option linter.unusedVariables false
open Go.RowKit

/-- Where a machine of layer 20 stands. -/
inductive WP where
  | enter (pt : EP)
  | exit (d : Bool)
  | stop (pt : SP)
  | go (d : Bool)

def WP.nx (th : Int) : WP → Option Nx
  | .enter pt => pt.nx.map Prod.fst
  | .exit d => if d then none else some (.add 4 18446744073709551615)
  | .stop pt => pt.nx th
  | .go d => if d then none else some (.put 1 0)
def WP.step : WP → Int → WP
  | .enter pt, u => .enter (pt.step u)
  | .exit _, _ => .exit true
  | .stop pt, u => .stop (pt.step u)
  | .go _, _ => .go true
def WP.gens : WP → Int → Int → Int
  | .enter pt, u, g => pt.gens u g
  | .stop pt, u, g => pt.gens u g
  | _, _, g => g
def EP.isDone : EP → Bool
  | .done => true
  | _ => false
def SP.isDone : SP → Bool
  | .done => true
  | _ => false
def WP.done : WP → Bool
  | .enter pt => pt.isDone
  | .exit d => d
  | .stop pt => pt.isDone
  | .go d => d
def WP.what : WP → Int
  | .enter _ => 13
  | .exit _ => 14
  | .stop _ => 15
  | .go _ => 16
/-- The machine that has not begun. -/
def wp0 (k : Int) : WP := if k = 13 then .enter .begin else if k = 14 then .exit false else if k = 15 then .stop .begin else .go false

def PAt (w : World) (m : Nat) (p t th : Int) (pt : WP) (gen : Int) : Prop :=
  match pt with
  | .enter pt => EnterAt w m p t pt gen
  | .exit d => ExitAt w m p t d
  | .stop pt => StopAt w m p t th pt gen
  | .go d => GoAt w m p t d

/-- The law's pair. -/
def muCells (m r : Nat) : WP → Array Value
  | .enter _ => #[.pointer (some ⟨m, 0, none⟩), .pointer none, .pointer none, .pointer none, .pointer (some ⟨r, 0, none⟩)]
  | .exit _ => #[.pointer none, .pointer (some ⟨m, 0, none⟩), .pointer none, .pointer none, .pointer (some ⟨r, 0, none⟩)]
  | .stop _ => #[.pointer none, .pointer none, .pointer (some ⟨m, 0, none⟩), .pointer none, .pointer (some ⟨r, 0, none⟩)]
  | .go _ => #[.pointer none, .pointer none, .pointer none, .pointer (some ⟨m, 0, none⟩), .pointer (some ⟨r, 0, none⟩)]
def MuAt (w : World) (μ m r : Nat) (pt : WP) : Prop := w.heap[μ]? = some (.cells (muCells m r pt) 54 (0, 0))
def wmc (k p t th : Int) : MC := { what := k, p := p, t := t, thread := th, page := 0, cls := 0, pages := 0, gen := 0, head := 0, size := 0, most := 0, mask := 0, drop := false, list := .slice none 0 0 }

/-- Of the variables of one cell just those of the law's row are among F. -/
def Far (F : Nat → Prop) (w : World) : Prop := ∀ b v ty, F b → OneAt w b v ty → ty = 35

section
variable {w w' : World} {F : Nat → Prop} {m : Nat} {p t th gen : Int}

theorem NextIs.far {nv : Value} {K : FuncId} {fs cap : Array Value} {x : Nx} (h : NextIs w nv K fs cap x) (hk : Kept F w w') (hf : Far F w) : NextIs w' nv K fs cap x :=
  h.kept hk fun b v ty hb hty hF => by
    have := hf b v ty hF hb
    subst this
    revert hty; decide
theorem OneAt.far {b : Nat} {v : Value} {ty : TypeId} (h : OneAt w b v ty) (hk : Kept F w w') (hf : Far F w) (hty : ty ≠ 35) : OneAt w' b v ty :=
  h.kept hk fun hF => hty (hf b v ty hF h)
theorem EnterAt.kept {pt : EP} (h : EnterAt w m p t pt gen) (hk : Kept F w w') (hm : ¬ F m) (hf : Far F w) : EnterAt w' m p t pt gen := by
  obtain ⟨nv, bm, h1, h2, h3⟩ := h
  refine ⟨nv, bm, hk.at h1 hm, h2.far hk hf (by decide), ?_⟩
  unfold NvAt at *
  cases e : pt.nx with
  | none => rw [e] at h3; exact h3
  | some y => rw [e] at h3; exact h3.far hk hf
theorem ExitAt.kept {d : Bool} (h : ExitAt w m p t d) (hk : Kept F w w') (hm : ¬ F m) (hf : Far F w) : ExitAt w' m p t d := by
  obtain ⟨nv, bm, h1, h2, h3⟩ := h
  refine ⟨nv, bm, hk.at h1 hm, h2.far hk hf (by decide), ?_⟩
  cases d
  · exact NextIs.far (K := 107) (fs := #[]) (cap := #[.pointer (some ⟨bm, 0, none⟩)]) (x := .add 4 18446744073709551615) h3 hk hf
  · exact h3
theorem GoAt.kept {d : Bool} (h : GoAt w m p t d) (hk : Kept F w w') (hm : ¬ F m) (hf : Far F w) : GoAt w' m p t d := by
  obtain ⟨nv, h1, h3⟩ := h
  refine ⟨nv, hk.at h1 hm, ?_⟩
  cases d
  · exact NextIs.far (K := 108) (fs := #[.pointer (some ⟨m, 0, none⟩)]) (cap := #[]) (x := .put 1 0) h3 hk hf
  · exact h3
theorem StopAt.kept {pt : SP} (h : StopAt w m p t th pt gen) (hk : Kept F w w') (hm : ¬ F m) (hf : Far F w) : StopAt w' m p t th pt gen := by
  obtain ⟨nv, bm, h1, h2, h3⟩ := h
  refine ⟨nv, bm, hk.at h1 hm, h2.far hk hf (by decide), ?_⟩
  cases pt
  · exact NextIs.far (K := 111) (fs := #[]) (cap := #[.pointer (some ⟨bm, 0, none⟩)]) (x := .cas 1 0 (th + 1)) h3 hk hf
  · exact NextIs.far (K := 113) (fs := #[.pointer (some ⟨m, 0, none⟩)]) (cap := #[]) (x := .load 4) h3 hk hf
  · exact NextIs.far (K := 168) (fs := #[]) (cap := #[.pointer (some ⟨bm, 0, none⟩)]) (x := .load 0) h3 hk hf
  · exact h3
theorem PAt.kept {pt : WP} (h : PAt w m p t th pt gen) (hk : Kept F w w') (hm : ¬ F m) (hf : Far F w) : PAt w' m p t th pt gen := by
  cases pt with
  | enter pt => exact EnterAt.kept h hk hm hf
  | exit d => exact ExitAt.kept h hk hm hf
  | stop pt => exact StopAt.kept h hk hm hf
  | go d => exact GoAt.kept h hk hm hf
theorem Far.of {F : Nat → Prop} (h : ∀ b, F b → ∃ cs ty, w.heap[b]? = some (.cells cs ty (0, 0)) ∧ cs.size ≠ 1) : Far F w := fun b v ty hF ho => by
  obtain ⟨cs, ty', hc, hs⟩ := h b hF
  exact absurd rfl (one_ne ho hc hs)
end

section
variable {w : World} {p t th : Int}

/-- What is made: the law's pair, its machine, its reference. -/
def MadePost (k p t th : Int) (B : Nat) (w : World) (e : Ending) (w' : World) : Prop :=
  ∃ μ m r, e = .returned (.pointer (some ⟨μ, 0, none⟩)) ∧ MuAt w' μ m r (wp0 k) ∧ PAt w' m p t th (wp0 k) 0 ∧ RefM w' r (wmc k p t th) B mv0.fresh [] ∧
    w.heap.size ≤ μ ∧ w.heap.size ≤ m ∧ w.heap.size ≤ r ∧ Below w.heap.size w w'

/-- The pair is stored where it stands. -/
theorem made_close {k : Int} {B b0 μ m r : Nat} {w0 w3 w4 : World} {i : Nat} (hb : w0.heap.size = b0) (hB3 : Below b0 w0 w3) (hB4 : Below w3.heap.size w3 w4) (hμ : w3.heap[μ]? = some (.cells #[.pointer none, .pointer none, .pointer none, .pointer none, .pointer (some ⟨r, 0, none⟩)] 54 (0, 0)))
    (hR : RefM w3 r (wmc k p t th) B mv0.fresh []) (hP : PAt w4 m p t th (wp0 k) 0) (hm : w3.heap.size ≤ m) (hbr : b0 ≤ r) (hbμ : b0 ≤ μ)
    (hc : (#[.pointer none, .pointer none, .pointer none, .pointer none, .pointer (some ⟨r, 0, none⟩)] : Array Value).setIfInBounds i (.pointer (some ⟨m, 0, none⟩)) = muCells m r (wp0 k)) :
    MadePost k p t th B w0 (.returned (.pointer (some ⟨μ, 0, none⟩))) (w4.setCell ⟨μ, i, none⟩ (.pointer (some ⟨m, 0, none⟩))) := by
  have hμ4 := (hB4.block μ (lt_of_block hμ)).trans hμ
  have hlt := lt_of_block hμ
  have h3 := hB3.size
  have K : Kept (fun k => k = μ) w4 (w4.setCell ⟨μ, i, none⟩ (.pointer (some ⟨m, 0, none⟩))) := keptSet _
  have K34 : Kept No w3 w4 := Kept.of_below_size hB4
  refine ⟨μ, m, r, rfl, ?_, hP.kept K (by omega) (Far.of (fun b hb => by subst hb; exact ⟨_, _, hμ4, by simp⟩)), ?_, by omega, by omega, by omega, ?_⟩
  · unfold MuAt
    rw [block_set hμ4, hc]
  · exact ⟨K.at (K34.at hR.mach (fun h => h)) (type_ne' hR.mach hμ (by decide)), LogRow.nil _ _, hR.live, hR.marks⟩
  · rw [hb]
    exact (hB3.trans (hB4.mono (by omega))).setCell hbμ _

set_option maxRecDepth 100000 in
set_option maxHeartbeats 2000000 in
theorem made_enter (h : may p t) (B : Nat) :
    Calls Tryz.prog 13 #[.agg #[.int .i64 p, .int .i64 t], .int .i64 13, .int .i64 th] w (MadePost 13 p t th B w) := by
  have H := Lib.hid h
  clear h
  go_enter Tryz.func13, Tryz.ntmps13
  have hb0 : (w.alloc (.cells #[.int .i64 p, .int .i64 t] 40)).heap[w.heap.size]? = some (.cells #[.int .i64 p, .int .i64 t] 40 (0, 0)) := heap_alloc_new w _
  have hB0 : Below w.heap.size w (w.alloc (.cells #[.int .i64 p, .int .i64 t] 40)) := (Below.refl _ w).alloc (Nat.le_refl _) _
  go_wp2_with fail
  generalize w.alloc (.cells #[.int .i64 p, .int .i64 t] 40) = w1 at hb0 hB0 ⊢
  obtain ⟨b0, hb⟩ : ∃ b0, w.heap.size = b0 := ⟨_, rfl⟩
  rw [hb] at hb0 hB0 ⊢
  refine (newM_any (wmc 13 p t th) rfl w1 B).mono ?_
  rintro e w2 ⟨r, rfl, hR, hr, hB2⟩
  have hb2 := (hB2.block b0 (lt_of_block hb0)).trans hb0
  have hB02 : Below b0 w w2 := hB0.trans (hB2.mono (by have := lt_of_block hb0; omega))
  have hbr : b0 ≤ r := by have := lt_of_block hb0; omega
  have hB3 : Below b0 w (w2.alloc (.cells #[.pointer none, .pointer none, .pointer none, .pointer none, .pointer (some ⟨r, 0, none⟩)] 54)) := hB02.alloc (by have := hB02.size; omega) _
  have hμ := heap_alloc_new w2 (.cells #[.pointer none, .pointer none, .pointer none, .pointer none, .pointer (some ⟨r, 0, none⟩)] 54)
  have hb3 := block_alloc hb2 (.cells #[.pointer none, .pointer none, .pointer none, .pointer none, .pointer (some ⟨r, 0, none⟩)] 54)
  have l0 : w2.cell? ⟨b0, 0, none⟩ = some (.int .i64 p) := cellOf hb2 0
  have l1 : w2.cell? ⟨b0, 1, none⟩ = some (.int .i64 t) := cellOf hb2 1
  have lb : b0 < w2.heap.size := lt_of_block hb2
  have hR3 : RefM (w2.alloc (.cells #[.pointer none, .pointer none, .pointer none, .pointer none, .pointer (some ⟨r, 0, none⟩)] 54)) r (wmc 13 p t th) B mv0.fresh [] := ⟨block_alloc hR.mach _, LogRow.nil _ _, hR.live, hR.marks⟩
  have hbμ : b0 ≤ w2.heap.size := Nat.le_of_lt lb
  have HR3 := Lib.hid hR3
  have Hμ := Lib.hid hμ
  have Hb := Lib.hid hb
  clear hB0 hB2 hr hb0 hb2 hB02 hb3 hR hR3 hμ hb
  go_wp2_with fail
  generalize w2.alloc (.cells #[.pointer none, .pointer none, .pointer none, .pointer none, .pointer (some ⟨r, 0, none⟩)] 54) = w3 at HR3 Hμ hB3 ⊢
  generalize w2.heap.size = μ at Hμ lb hbμ ⊢
  refine (newEnter_any H.out).mono ?_
  rintro e w4 ⟨m, rfl, hE, hm, hB4⟩
  have hμ4 := (hB4.block μ (lt_of_block Hμ.out)).trans Hμ.out
  have c0 : w4.cell? ⟨μ, 0, none⟩ = some (.pointer none) := cellOf hμ4 0
  have f0 : w4.frozen? ⟨μ, 0, none⟩ = false := freeOf hμ4 0
  have HF := Lib.hid (made_close (k := 13) (i := 0) Hb.out hB3 hB4 Hμ.out HR3.out hE hm hbr hbμ rfl)
  clear hμ4 hE hm hB4 hB3
  go_wp2_with fail
  go_ret
  exact HF.out
set_option maxRecDepth 100000 in
set_option maxHeartbeats 2000000 in
theorem made_exit (h : may p t) (B : Nat) :
    Calls Tryz.prog 13 #[.agg #[.int .i64 p, .int .i64 t], .int .i64 14, .int .i64 th] w (MadePost 14 p t th B w) := by
  have H := Lib.hid h
  clear h
  go_enter Tryz.func13, Tryz.ntmps13
  have hb0 : (w.alloc (.cells #[.int .i64 p, .int .i64 t] 40)).heap[w.heap.size]? = some (.cells #[.int .i64 p, .int .i64 t] 40 (0, 0)) := heap_alloc_new w _
  have hB0 : Below w.heap.size w (w.alloc (.cells #[.int .i64 p, .int .i64 t] 40)) := (Below.refl _ w).alloc (Nat.le_refl _) _
  go_wp2_with fail
  generalize w.alloc (.cells #[.int .i64 p, .int .i64 t] 40) = w1 at hb0 hB0 ⊢
  obtain ⟨b0, hb⟩ : ∃ b0, w.heap.size = b0 := ⟨_, rfl⟩
  rw [hb] at hb0 hB0 ⊢
  refine (newM_any (wmc 14 p t th) rfl w1 B).mono ?_
  rintro e w2 ⟨r, rfl, hR, hr, hB2⟩
  have hb2 := (hB2.block b0 (lt_of_block hb0)).trans hb0
  have hB02 : Below b0 w w2 := hB0.trans (hB2.mono (by have := lt_of_block hb0; omega))
  have hbr : b0 ≤ r := by have := lt_of_block hb0; omega
  have hB3 : Below b0 w (w2.alloc (.cells #[.pointer none, .pointer none, .pointer none, .pointer none, .pointer (some ⟨r, 0, none⟩)] 54)) := hB02.alloc (by have := hB02.size; omega) _
  have hμ := heap_alloc_new w2 (.cells #[.pointer none, .pointer none, .pointer none, .pointer none, .pointer (some ⟨r, 0, none⟩)] 54)
  have hb3 := block_alloc hb2 (.cells #[.pointer none, .pointer none, .pointer none, .pointer none, .pointer (some ⟨r, 0, none⟩)] 54)
  have l0 : w2.cell? ⟨b0, 0, none⟩ = some (.int .i64 p) := cellOf hb2 0
  have l1 : w2.cell? ⟨b0, 1, none⟩ = some (.int .i64 t) := cellOf hb2 1
  have lb : b0 < w2.heap.size := lt_of_block hb2
  have hR3 : RefM (w2.alloc (.cells #[.pointer none, .pointer none, .pointer none, .pointer none, .pointer (some ⟨r, 0, none⟩)] 54)) r (wmc 14 p t th) B mv0.fresh [] := ⟨block_alloc hR.mach _, LogRow.nil _ _, hR.live, hR.marks⟩
  have hbμ : b0 ≤ w2.heap.size := Nat.le_of_lt lb
  have HR3 := Lib.hid hR3
  have Hμ := Lib.hid hμ
  have Hb := Lib.hid hb
  clear hB0 hB2 hr hb0 hb2 hB02 hb3 hR hR3 hμ hb
  go_wp2_with fail
  generalize w2.alloc (.cells #[.pointer none, .pointer none, .pointer none, .pointer none, .pointer (some ⟨r, 0, none⟩)] 54) = w3 at HR3 Hμ hB3 ⊢
  generalize w2.heap.size = μ at Hμ lb hbμ ⊢
  refine (newExit_any H.out).mono ?_
  rintro e w4 ⟨m, rfl, hE, hm, hB4⟩
  have hμ4 := (hB4.block μ (lt_of_block Hμ.out)).trans Hμ.out
  have c0 : w4.cell? ⟨μ, 1, none⟩ = some (.pointer none) := cellOf hμ4 1
  have f0 : w4.frozen? ⟨μ, 1, none⟩ = false := freeOf hμ4 1
  have HF := Lib.hid (made_close (k := 14) (i := 1) Hb.out hB3 hB4 Hμ.out HR3.out hE hm hbr hbμ rfl)
  clear hμ4 hE hm hB4 hB3
  go_wp2_with fail
  go_ret
  exact HF.out
set_option maxRecDepth 100000 in
set_option maxHeartbeats 2000000 in
theorem made_stop (h : may p t) (ht0 : 0 ≤ th) (ht1 : th < t) (B : Nat) :
    Calls Tryz.prog 13 #[.agg #[.int .i64 p, .int .i64 t], .int .i64 15, .int .i64 th] w (MadePost 15 p t th B w) := by
  have H := Lib.hid h
  clear h
  go_enter Tryz.func13, Tryz.ntmps13
  have hb0 : (w.alloc (.cells #[.int .i64 p, .int .i64 t] 40)).heap[w.heap.size]? = some (.cells #[.int .i64 p, .int .i64 t] 40 (0, 0)) := heap_alloc_new w _
  have hB0 : Below w.heap.size w (w.alloc (.cells #[.int .i64 p, .int .i64 t] 40)) := (Below.refl _ w).alloc (Nat.le_refl _) _
  go_wp2_with fail
  generalize w.alloc (.cells #[.int .i64 p, .int .i64 t] 40) = w1 at hb0 hB0 ⊢
  obtain ⟨b0, hb⟩ : ∃ b0, w.heap.size = b0 := ⟨_, rfl⟩
  rw [hb] at hb0 hB0 ⊢
  refine (newM_any (wmc 15 p t th) rfl w1 B).mono ?_
  rintro e w2 ⟨r, rfl, hR, hr, hB2⟩
  have hb2 := (hB2.block b0 (lt_of_block hb0)).trans hb0
  have hB02 : Below b0 w w2 := hB0.trans (hB2.mono (by have := lt_of_block hb0; omega))
  have hbr : b0 ≤ r := by have := lt_of_block hb0; omega
  have hB3 : Below b0 w (w2.alloc (.cells #[.pointer none, .pointer none, .pointer none, .pointer none, .pointer (some ⟨r, 0, none⟩)] 54)) := hB02.alloc (by have := hB02.size; omega) _
  have hμ := heap_alloc_new w2 (.cells #[.pointer none, .pointer none, .pointer none, .pointer none, .pointer (some ⟨r, 0, none⟩)] 54)
  have hb3 := block_alloc hb2 (.cells #[.pointer none, .pointer none, .pointer none, .pointer none, .pointer (some ⟨r, 0, none⟩)] 54)
  have l0 : w2.cell? ⟨b0, 0, none⟩ = some (.int .i64 p) := cellOf hb2 0
  have l1 : w2.cell? ⟨b0, 1, none⟩ = some (.int .i64 t) := cellOf hb2 1
  have lb : b0 < w2.heap.size := lt_of_block hb2
  have hR3 : RefM (w2.alloc (.cells #[.pointer none, .pointer none, .pointer none, .pointer none, .pointer (some ⟨r, 0, none⟩)] 54)) r (wmc 15 p t th) B mv0.fresh [] := ⟨block_alloc hR.mach _, LogRow.nil _ _, hR.live, hR.marks⟩
  have hbμ : b0 ≤ w2.heap.size := Nat.le_of_lt lb
  have HR3 := Lib.hid hR3
  have Hμ := Lib.hid hμ
  have Hb := Lib.hid hb
  clear hB0 hB2 hr hb0 hb2 hB02 hb3 hR hR3 hμ hb
  go_wp2_with fail
  generalize w2.alloc (.cells #[.pointer none, .pointer none, .pointer none, .pointer none, .pointer (some ⟨r, 0, none⟩)] 54) = w3 at HR3 Hμ hB3 ⊢
  generalize w2.heap.size = μ at Hμ lb hbμ ⊢
  refine (newStop_any H.out ht0 ht1).mono ?_
  rintro e w4 ⟨m, rfl, hE, hm, hB4⟩
  have hμ4 := (hB4.block μ (lt_of_block Hμ.out)).trans Hμ.out
  have c0 : w4.cell? ⟨μ, 2, none⟩ = some (.pointer none) := cellOf hμ4 2
  have f0 : w4.frozen? ⟨μ, 2, none⟩ = false := freeOf hμ4 2
  have HF := Lib.hid (made_close (k := 15) (i := 2) Hb.out hB3 hB4 Hμ.out HR3.out hE hm hbr hbμ rfl)
  clear hμ4 hE hm hB4 hB3
  go_wp2_with fail
  go_ret
  exact HF.out
set_option maxRecDepth 100000 in
set_option maxHeartbeats 2000000 in
theorem made_go (h : may p t) (B : Nat) :
    Calls Tryz.prog 13 #[.agg #[.int .i64 p, .int .i64 t], .int .i64 16, .int .i64 th] w (MadePost 16 p t th B w) := by
  have H := Lib.hid h
  clear h
  go_enter Tryz.func13, Tryz.ntmps13
  have hb0 : (w.alloc (.cells #[.int .i64 p, .int .i64 t] 40)).heap[w.heap.size]? = some (.cells #[.int .i64 p, .int .i64 t] 40 (0, 0)) := heap_alloc_new w _
  have hB0 : Below w.heap.size w (w.alloc (.cells #[.int .i64 p, .int .i64 t] 40)) := (Below.refl _ w).alloc (Nat.le_refl _) _
  go_wp2_with fail
  generalize w.alloc (.cells #[.int .i64 p, .int .i64 t] 40) = w1 at hb0 hB0 ⊢
  obtain ⟨b0, hb⟩ : ∃ b0, w.heap.size = b0 := ⟨_, rfl⟩
  rw [hb] at hb0 hB0 ⊢
  refine (newM_any (wmc 16 p t th) rfl w1 B).mono ?_
  rintro e w2 ⟨r, rfl, hR, hr, hB2⟩
  have hb2 := (hB2.block b0 (lt_of_block hb0)).trans hb0
  have hB02 : Below b0 w w2 := hB0.trans (hB2.mono (by have := lt_of_block hb0; omega))
  have hbr : b0 ≤ r := by have := lt_of_block hb0; omega
  have hB3 : Below b0 w (w2.alloc (.cells #[.pointer none, .pointer none, .pointer none, .pointer none, .pointer (some ⟨r, 0, none⟩)] 54)) := hB02.alloc (by have := hB02.size; omega) _
  have hμ := heap_alloc_new w2 (.cells #[.pointer none, .pointer none, .pointer none, .pointer none, .pointer (some ⟨r, 0, none⟩)] 54)
  have hb3 := block_alloc hb2 (.cells #[.pointer none, .pointer none, .pointer none, .pointer none, .pointer (some ⟨r, 0, none⟩)] 54)
  have l0 : w2.cell? ⟨b0, 0, none⟩ = some (.int .i64 p) := cellOf hb2 0
  have l1 : w2.cell? ⟨b0, 1, none⟩ = some (.int .i64 t) := cellOf hb2 1
  have lb : b0 < w2.heap.size := lt_of_block hb2
  have hR3 : RefM (w2.alloc (.cells #[.pointer none, .pointer none, .pointer none, .pointer none, .pointer (some ⟨r, 0, none⟩)] 54)) r (wmc 16 p t th) B mv0.fresh [] := ⟨block_alloc hR.mach _, LogRow.nil _ _, hR.live, hR.marks⟩
  have hbμ : b0 ≤ w2.heap.size := Nat.le_of_lt lb
  have HR3 := Lib.hid hR3
  have Hμ := Lib.hid hμ
  have Hb := Lib.hid hb
  clear hB0 hB2 hr hb0 hb2 hB02 hb3 hR hR3 hμ hb
  go_wp2_with fail
  generalize w2.alloc (.cells #[.pointer none, .pointer none, .pointer none, .pointer none, .pointer (some ⟨r, 0, none⟩)] 54) = w3 at HR3 Hμ hB3 ⊢
  generalize w2.heap.size = μ at Hμ lb hbμ ⊢
  refine (newGo_any H.out).mono ?_
  rintro e w4 ⟨m, rfl, hE, hm, hB4⟩
  have hμ4 := (hB4.block μ (lt_of_block Hμ.out)).trans Hμ.out
  have c0 : w4.cell? ⟨μ, 3, none⟩ = some (.pointer none) := cellOf hμ4 3
  have f0 : w4.frozen? ⟨μ, 3, none⟩ = false := freeOf hμ4 3
  have HF := Lib.hid (made_close (k := 16) (i := 3) Hb.out hB3 hB4 Hμ.out HR3.out hE hm hbr hbμ rfl)
  clear hμ4 hE hm hB4 hB3
  go_wp2_with fail
  go_ret
  exact HF.out

theorem made_any (h : may p t) (ht0 : 0 ≤ th) (ht1 : th < t) (B : Nat) (k : Int) (hk : k = 13 ∨ k = 14 ∨ k = 15 ∨ k = 16) :
    Calls Tryz.prog 13 #[.agg #[.int .i64 p, .int .i64 t], .int .i64 k, .int .i64 th] w (MadePost k p t th B w) := by
  rcases hk with rfl | rfl | rfl | rfl
  · exact made_enter h B
  · exact made_exit h B
  · exact made_stop h ht0 ht1 B
  · exact made_go h B
end
end Go.Proofs.YtffafkmmfaaobaaGreat
