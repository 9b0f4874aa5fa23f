/- The tree's methods: the walk of Ceil. -/
import Derived.Test.YtdeebagjmhpocaaT7
namespace Go.Proofs.Ytdeebagjmhpocaa
set_option linter.unusedSimpArgs false
set_option linter.unusedVariables false
open Go.RowKit

def ceilT (k : Int) : T → T → T
  | best, .nil => best
  | best, .node b x l r => if x.key < k then ceilT k best r else ceilT k (.node b x l r) l

def ceilVal : T → Value
  | .nil => .tuple #[.int .i64 0, .agg #[.int .i64 0, .int .i64 0], .bool false]
  | .node _ y _ _ => .tuple #[.int .i64 y.key, .agg #[.int .i64 y.pg, .int .i64 y.ln], .bool true]

def CeilPost (k : Int) (t : T) (w : World) (e : Ending) (w' : World) : Prop := e = .returned (ceilVal (ceilT k .nil t)) ∧ Below w.heap.size w w'

set_option maxRecDepth 100000 in
set_option maxHeartbeats 1600000 in
theorem ceil_any (p : Nat) (k : Int) (t : T) (w : World) (h : TreapAt w p t) :
    Calls Try.prog 70 #[.pointer (some ⟨p, 0, none⟩), .int .i64 k] w (CeilPost k t w) := by
  obtain ⟨m, hp, ht, hnd⟩ := h
  have c0 : w.cell? ⟨p, 0, none⟩ = some t.ptr := cellOf hp 0
  have hplt := lt_of_block hp
  have Hp := Lib.hid hp
  have Ht := Lib.hid ht
  clear hp ht hnd
  go_enter Try.func70, Try.ntmps70
  go_wp2
  obtain ⟨tp, hg⟩ : ∃ tp, t.ptr = tp := ⟨_, rfl⟩
  rw [hg]
  clear c0
  go_loopg [7, 8] t.high (fun n v u wr => (∃ d, wr = (w.alloc (Obj.cells #[Value.int IntKind.i64 0, Value.int IntKind.i64 0] 77)).drewN d) ∧ ∃ best s : T, v = best.ptr ∧ u = s.ptr ∧ s.high ≤ n ∧ s.In w ∧ best.In w ∧ ceilT k best s = ceilT k .nil t)
  case atStart => exact ⟨⟨0, rfl⟩, .nil, t, rfl, hg.symm, Nat.le_refl _, Ht.out, trivial, rfl⟩
  case round =>
    obtain ⟨⟨d, rfl⟩, best, s, rfl, rfl, hn, hs, hb, hk⟩ := hrel
    clear hg
    cases s with
    | nil =>
      rw [T.ptr_nil]
      have hres : ((w.alloc (Obj.cells #[Value.int IntKind.i64 0, Value.int IntKind.i64 0] 77)).drewN d).heap[w.heap.size]? = some (.cells #[.int .i64 0, .int .i64 0] 77 (0, 0)) := heap_alloc_new w _
      have hK : Kept No w ((w.alloc (Obj.cells #[Value.int IntKind.i64 0, Value.int IntKind.i64 0] 77)).drewN d) := ((Kept.refl _ w).alloc _).drewN d
      cases best with
      | nil =>
        rw [T.ptr_nil]
        generalize ((w.alloc (Obj.cells #[Value.int IntKind.i64 0, Value.int IntKind.i64 0] 77)).drewN d) = W at *
        have r0 : W.cell? ⟨w.heap.size, 0, none⟩ = some (.int .i64 0) := cellOf hres 0
        have r1 : W.cell? ⟨w.heap.size, 1, none⟩ = some (.int .i64 0) := cellOf hres 1
        have g0 : W.frozen? ⟨w.heap.size, 0, none⟩ = false := freeOf hres 0
        have g1 : W.frozen? ⟨w.heap.size, 1, none⟩ = false := freeOf hres 1
        have Hk := Lib.hid (And.intro hk (And.intro hres hK))
        clear hk hres hK
        go_wp2
        go_region
        all_goals
          go_wp2
          obtain ⟨hk, hres, hK⟩ := Hk.out
          have E1 : ((W.setCell ⟨w.heap.size, 0, none⟩ (.int .i64 0)).setCell ⟨w.heap.size, 1, none⟩ (.int .i64 0)).drew.heap[w.heap.size]? = some (.cells #[.int .i64 0, .int .i64 0] 77 (0, 0)) := by
            rw [show ∀ w : World, w.drew.heap = w.heap from fun _ => rfl, block_set (block_set hres 0 _) 1 _]; rfl
          have E3 := ((hK.setCell (p := ⟨w.heap.size, 0, none⟩) (.inr (Nat.le_refl _)) (.int .i64 0)).setCell (p := ⟨w.heap.size, 1, none⟩) (.inr (Nat.le_refl _)) (.int .i64 0)).drew.no_below
          generalize ((W.setCell ⟨w.heap.size, 0, none⟩ (.int .i64 0)).setCell ⟨w.heap.size, 1, none⟩ (.int .i64 0)).drew = WF at *
          have c0 := cellOf E1 0
          have c1 := cellOf E1 1
          refine bodyPost_ret (v := .tuple #[.int .i64 0, .agg #[.int .i64 0, .int .i64 0], .bool false]) (by simp [results, Try.results70, go_sem, c0, c1]) rfl ⟨by rw [← hk]; rfl, E3⟩
      | node c y l r =>
        rw [T.ptr_node]
        have hb' := (hb.1 : w.heap[c]? = _)
        have hclt := lt_of_block hb'
        have hbW := hK.at hb' (fun h => h.elim)
        have hcr : c ≠ w.heap.size := by omega
        have hcr' : w.heap.size ≠ c := by omega
        generalize ((w.alloc (Obj.cells #[Value.int IntKind.i64 0, Value.int IntKind.i64 0] 77)).drewN d) = W at *
        have e0 : W.cell? ⟨c, 0, none⟩ = some (.int .i64 y.key) := cellOf hbW 0
        have e2 : W.cell? ⟨c, 2, none⟩ = some (.int .i64 y.pg) := cellOf hbW 2
        have e3 : W.cell? ⟨c, 3, none⟩ = some (.int .i64 y.ln) := cellOf hbW 3
        have r0 : W.cell? ⟨w.heap.size, 0, none⟩ = some (.int .i64 0) := cellOf hres 0
        have r1 : W.cell? ⟨w.heap.size, 1, none⟩ = some (.int .i64 0) := cellOf hres 1
        have g0 : W.frozen? ⟨w.heap.size, 0, none⟩ = false := freeOf hres 0
        have g1 : W.frozen? ⟨w.heap.size, 1, none⟩ = false := freeOf hres 1
        have Hk := Lib.hid (And.intro hk (And.intro hres hK))
        clear hk hb hs hn hres hK hb' hbW
        go_wp2
        go_region_held3 (fun W => W.cell? ⟨c, 0, none⟩ = some (.int .i64 y.key) ∧ W.cell? ⟨c, 2, none⟩ = some (.int .i64 y.pg) ∧ W.cell? ⟨c, 3, none⟩ = some (.int .i64 y.ln)) (first | go_keep) (first | fail)
        go_wp2
        obtain ⟨hk, hres, hK⟩ := Hk.out
        have E1 : ((W.setCell ⟨w.heap.size, 0, none⟩ (.int .i64 y.pg)).setCell ⟨w.heap.size, 1, none⟩ (.int .i64 y.ln)).drew.heap[w.heap.size]? = some (.cells #[.int .i64 y.pg, .int .i64 y.ln] 77 (0, 0)) := by
          rw [show ∀ w : World, w.drew.heap = w.heap from fun _ => rfl, block_set (block_set hres 0 _) 1 _]; rfl
        have E3 := ((hK.setCell (p := ⟨w.heap.size, 0, none⟩) (.inr (Nat.le_refl _)) (.int .i64 y.pg)).setCell (p := ⟨w.heap.size, 1, none⟩) (.inr (Nat.le_refl _)) (.int .i64 y.ln)).drew.no_below
        generalize ((W.setCell ⟨w.heap.size, 0, none⟩ (.int .i64 y.pg)).setCell ⟨w.heap.size, 1, none⟩ (.int .i64 y.ln)).drew = WF at *
        have c0 := cellOf E1 0
        have c1 := cellOf E1 1
        refine bodyPost_ret (v := .tuple #[.int .i64 y.key, .agg #[.int .i64 y.pg, .int .i64 y.ln], .bool true]) (by simp [results, Try.results70, go_sem, c0, c1]) rfl ⟨by rw [← hk]; rfl, E3⟩
    | node b x l r =>
      have b0 : w.cell? ⟨b, 0, none⟩ = some (.int .i64 x.key) := cellOf hs.1 0
      have b4 : w.cell? ⟨b, 4, none⟩ = some l.ptr := cellOf hs.1 4
      have b5 : w.cell? ⟨b, 5, none⟩ = some r.ptr := cellOf hs.1 5
      have hblt := lt_of_block hs.1
      have Hk := Lib.hid hk
      have Hn := Lib.hid hn
      have Hs := Lib.hid hs
      have Hb := Lib.hid hb
      clear hk hn hs hb
      rw [T.ptr_node]
      obtain ⟨bp, hbp⟩ : ∃ bp, best.ptr = bp := ⟨_, rfl⟩
      rw [hbp]
      have Hbp := Lib.hid hbp
      clear hbp
      by_cases hl : x.key < k
      · go_wp2
        go_roundg r.high
        case measure => have := Hn.out; simp only [T.high] at this; omega
        case rel => exact ⟨⟨_, rfl⟩, best, r, Hbp.out.symm, rfl, Nat.le_refl _, Hs.out.2.2, Hb.out, by rw [← Hk.out, ceilT, if_pos hl]⟩
      · go_wp2
        go_quiet (fail)
        go_wp2
        go_roundg l.high
        case measure => have := Hn.out; simp only [T.high] at this; omega
        case rel => exact ⟨⟨_, World.drewN_drewN _ _ _⟩, .node b x l r, l, rfl, rfl, Nat.le_refl _, Hs.out.2.1, Hs.out, by rw [← Hk.out]; conv => rhs; rw [ceilT, if_neg (by omega)]⟩

end Go.Proofs.Ytdeebagjmhpocaa
