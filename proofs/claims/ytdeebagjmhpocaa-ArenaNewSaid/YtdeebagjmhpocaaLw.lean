/- ArenaNew: the walk. -/
import Derived.Test.YtdeebagjmhpocaaAw
namespace Go.Proofs.Ytdeebagjmhpocaa
set_option linter.unusedSimpArgs false
set_option linter.unusedVariables false
open Go.RowKit

theorem runsUp_full (n : Nat) : ∀ i, i + 1 ≤ n → runsUp (List.replicate n true) (i + 1) = [((0 : Int), ((i + 1 : Nat) : Int))]
  | 0, h => by
    have h0 : 0 < n := by omega
    simp [runsUp, stepR, List.getElem?_replicate, h0]
  | i + 1, h => by
    rw [runsUp, runsUp_full n i (by omega)]
    simp [stepR, List.getElem?_replicate, show i + 1 < n by omega]

theorem shape_one (x : It) (d : Int) : shapeF 1 [x] d = [(x.key, d)] := by
  simp [shapeF, bestUp]

theorem pre_one (B : Nat) (x : Nd) : pairs (preT 0 (putT B x .nil)) = [(x.key, 0)] ∧ (putT B x .nil).high = 1 := by
  constructor
  · simp [putT, T.split, joinT, preT, pairs]
  · simp [putT, T.split, joinT, T.high]

theorem keepA {wb W W' : World} {P1 P2 : Option Value} {a1 a2 : Addr} (h : Below wb.heap.size wb W ∧ W.cell? a1 = P1 ∧ W.cell? a2 = P2) (h1 : a1.block < wb.heap.size) (h2 : a2.block < wb.heap.size) (hb : Below W.heap.size W W') :
    Below wb.heap.size wb W' ∧ W'.cell? a1 = P1 ∧ W'.cell? a2 = P2 :=
  ⟨h.1.trans (hb.mono h.1.size), (hb.cell (Nat.lt_of_lt_of_le h1 h.1.size)).trans h.2.1, (hb.cell (Nat.lt_of_lt_of_le h2 h.1.size)).trans h.2.2⟩

theorem keepB {wb W W' : World} {P1 P2 P3 : Option Value} {a1 a2 a3 : Addr} (h : Below wb.heap.size wb W ∧ W.cell? a1 = P1 ∧ W.cell? a2 = P2 ∧ W.cell? a3 = P3) (h1 : a1.block < wb.heap.size) (h2 : a2.block < wb.heap.size) (h3 : a3.block < wb.heap.size) (hb : Below W.heap.size W W') :
    Below wb.heap.size wb W' ∧ W'.cell? a1 = P1 ∧ W'.cell? a2 = P2 ∧ W'.cell? a3 = P3 :=
  ⟨h.1.trans (hb.mono h.1.size), (hb.cell (Nat.lt_of_lt_of_le h1 h.1.size)).trans h.2.1, (hb.cell (Nat.lt_of_lt_of_le h2 h.1.size)).trans h.2.2.1, (hb.cell (Nat.lt_of_lt_of_le h3 h.1.size)).trans h.2.2.2⟩

theorem cell_lt {w : World} {p : Addr} {u : Value} (h : w.cell? p = some u) : p.block < w.heap.size := by
  rcases Nat.lt_or_ge p.block w.heap.size with h1 | h1
  · exact h1
  · simp [World.cell?, Array.getElem?_eq_none h1] at h

/-- What the law's first part is told of its draws. -/
theorem cutSrc {w : World} {a : Option Addr} {len cap : Nat} (zs : List Int) (h : (a = none ∧ len = 0 ∧ cap = 0 ∧ zs = []) ∨ ∃ x, a = some x ∧ len ≤ cap ∧ zs.length = cap ∧ (∀ i, i < zs.length → w.cell? (x.add i) = some (.int .u32 (zs.getD i 0)))) :
    SrcOf w 1 (.slice a (min len 50) cap) (zs.take (min len 50)).length ((zs.take (min len 50)).map (.int .u32 ·)) := by
  rcases h with ⟨rfl, rfl, rfl, rfl⟩ | ⟨x, rfl, h1, h2, h4⟩
  · exact .inl ⟨rfl, rfl, rfl⟩
  · have hl : (zs.take (min len 50)).length = min len 50 := by rw [List.length_take]; omega
    refine .inr ⟨x, cap, by rw [hl], by simp, fun j u hu => ?_, fun hne => ?_⟩
    case refine_2 =>
      have hz : 0 < zs.length := by
        rcases Nat.eq_zero_or_pos zs.length with h0 | h0
        · exact absurd (by rw [List.eq_nil_of_length_eq_zero h0]; simp) hne
        · exact h0
      have := cell_lt (h4 0 hz)
      rwa [add_block] at this
    rw [List.getElem?_map, List.getElem?_take] at hu
    split at hu
    · have hj : j < zs.length := by omega
      rw [List.getElem?_eq_getElem hj] at hu
      simp at hu
      rw [h4 j hj, ← hu]; simp [List.getD_eq_getElem?_getD, hj]
    · simp at hu

def ws1 (p t : Int) : List Int := (List.replicate (wordsOf p t).toNat (0 : Int)).set 0 1

/-- What is there behind the law's two makings. -/
def LawMid (p t : Int) (ds : List Int) (w : World) (s8 s9 : Value) (W : World) : Prop :=
  Below w.heap.size w W ∧ ((¬ may p t ∧ s8 = .pointer none ∧ s9 = .pointer none) ∨ (may p t ∧ ∃ a s g rs b s' g' rs', s8 = .pointer (some ⟨a, 0, none⟩) ∧ s9 = .pointer (some ⟨b, 0, none⟩) ∧
    ArenaIs W a p t s g (ws1 p t) rs ∧ rs.xs = [(0, p)] ∧ (∃ B, rs.t = putT B (ndOf (0, p) (drawOf ds 0)) .nil) ∧
    MemIs W b p t s' g' (ws1 p t) rs' ∧ rs'.free = List.replicate p.toNat true ∧ rs'.its = [itOf (0, p) (drawOf ds 0)]))

theorem keep3 {W W' : World} {b : Nat} {x0 x1 x2 : Option Value} (h : W.cell? ⟨b, 0, none⟩ = x0 ∧ W.cell? ⟨b, 1, none⟩ = x1 ∧ W.cell? ⟨b, 2, none⟩ = x2) (hb : Below W.heap.size W W') (h0 : b < W.heap.size) :
    W'.cell? ⟨b, 0, none⟩ = x0 ∧ W'.cell? ⟨b, 1, none⟩ = x1 ∧ W'.cell? ⟨b, 2, none⟩ = x2 :=
  ⟨(hb.cell (p := ⟨b, 0, none⟩) h0).trans h.1, (hb.cell (p := ⟨b, 1, none⟩) h0).trans h.2.1, (hb.cell (p := ⟨b, 2, none⟩) h0).trans h.2.2⟩

set_option maxRecDepth 100000 in
set_option maxHeartbeats 8000000 in
theorem law3 (p t : Int) (a : Option Addr) (len cap : Nat) (zs : List Int) (w : World)
    (h : (a = none ∧ len = 0 ∧ cap = 0 ∧ zs = []) ∨ ∃ x, a = some x ∧ len ≤ cap ∧ zs.length = cap ∧ (∀ i, i < zs.length → w.cell? (x.add i) = some (.int .u32 (zs.getD i 0)))) :
    Calls Try.prog 3 #[.int .i64 p, .int .i64 t, .slice a len cap] w fun e w' => e = .returned (.bool true) ∧ Below w.heap.size w w' := by
  have hs := cutSrc zs h
  have hlc : len ≤ cap := by rcases h with ⟨_, rfl, rfl, _⟩ | ⟨x, _, h1, _⟩ <;> omega
  obtain ⟨m, hm⟩ : ∃ m, min len 50 = m := ⟨_, rfl⟩
  have hmc : m ≤ cap := by omega
  have hm50 : (zs.take m).length ≤ 50 := by rw [List.length_take]; omega
  have hmi : min (len : Int) 50 = (m : Int) := by omega
  rw [hm] at hs
  generalize zs.take m = ds at hs hm50
  have Hs := Lib.hid hs
  clear hs h hm
  go_enter Try.func3, Try.ntmps3
  go_upto_region 2 with fail
  go_cut [8, 9] (fun s8 s9 wx => LawMid p t ds w s8 s9 wx)
  case first =>
    have hB0 : Below w.heap.size w (w.alloc (.cells #[.int .i64 p, .int .i64 t, .slice a m cap] 24)) := (Below.refl _ _).alloc (Nat.le_refl _) _
    have hX : (w.alloc (.cells #[.int .i64 p, .int .i64 t, .slice a m cap] 24)).heap[w.heap.size]? = some (.cells #[.int .i64 p, .int .i64 t, .slice a m cap] 24 (0, 0)) := heap_alloc_new w _
    have x0 := cellOf hX 0
    have x1 := cellOf hX 1
    have x2 := cellOf hX 2
    have hxl := lt_of_block hX
    have HX := Lib.hid (And.intro hB0 (And.intro x0 (And.intro x1 (And.intro x2 hxl))))
    clear hB0 hX x0 x1 x2 hxl
    by_cases hmay : may p t
    · by_cases hl : (len : Int) ≤ 50
      · obtain rfl : m = len := by omega
        clear hmi
        go_wp2_with fail
        all_goals
          obtain ⟨hB0, x0, x1, x2, hxl⟩ := HX.out
          generalize w.alloc _ = w1 at hB0 x0 x1 x2 hxl ⊢
          generalize hbx : w.heap.size = bx at x0 x1 x2 hxl ⊢
          have hSs := Lib.hid (Hs.out.below hB0)
          have hS0 : w1.drew.cell? ⟨bx, 0, none⟩ = some (.int .i64 p) ∧ w1.drew.cell? ⟨bx, 1, none⟩ = some (.int .i64 t) ∧ w1.drew.cell? ⟨bx, 2, none⟩ = some (.slice a m cap) := ⟨x0, x1, x2⟩
          have hl0 : bx < w1.drew.heap.size := hxl
          go_region_held3 (fun W => W.cell? ⟨bx, 0, none⟩ = some (.int .i64 p) ∧ W.cell? ⟨bx, 1, none⟩ = some (.int .i64 t) ∧ W.cell? ⟨bx, 2, none⟩ = some (.slice a m cap))
            (first
              | with_reducible exact hS0
              | with_reducible exact keep3 (keep3 hS0 hb2 hl0) hb3 (Nat.lt_of_lt_of_le hl0 hb2.size)
              | with_reducible exact keep3 hS0 hb2 hl0
              | go_keep)
            (first
              | (go_at_call 6; refine (arenaNew_any p t _ ds _ (hSs.out.below (Below.refl _ _).drew) hm50).mono ?_; rintro e w2 ⟨_, hy, hb2⟩; obtain ⟨a1, s1, g1, rs1, rfl, hA, r1, r2, r3, r4, r5, r6, _⟩ := hy hmay)
              | (go_at_call 7; refine (newMem_any p t _ ds _ ((hSs.out.below (Below.refl _ _).drew).below hb2) hm50).mono ?_; rintro e w3 ⟨_, hy3, hb3⟩; obtain ⟨b1, s2, g2, rs2, rfl, hM, q1, q2, _⟩ := hy3 hmay))
          have hLM : Hid (LawMid p t ds w (.pointer (some ⟨a1, 0, none⟩)) (.pointer (some ⟨b1, 0, none⟩)) w3) := ⟨(hB0.drew.trans (hb2.mono hB0.size)).trans (hb3.mono (Nat.le_trans hB0.size hb2.size)), .inr ⟨hmay, a1, s1, g1, rs1, b1, s2, g2, rs2, rfl, rfl, hA.below hb3, r4, r6, hM, q1, q2⟩⟩
          go_wp2_with fail
          subst hbx
          go_meet
          exact hLM.out
      · obtain rfl : m = 50 := by omega
        clear hmi
        go_wp2_with fail
        all_goals
          obtain ⟨hB0, x0, x1, x2, hxl⟩ := HX.out
          generalize w.alloc _ = w1 at hB0 x0 x1 x2 hxl ⊢
          generalize hbx : w.heap.size = bx at x0 x1 x2 hxl ⊢
          have hSs := Lib.hid (Hs.out.below hB0)
          have hS0 : w1.drew.cell? ⟨bx, 0, none⟩ = some (.int .i64 p) ∧ w1.drew.cell? ⟨bx, 1, none⟩ = some (.int .i64 t) ∧ w1.drew.cell? ⟨bx, 2, none⟩ = some (.slice a 50 cap) := ⟨x0, x1, x2⟩
          have hl0 : bx < w1.drew.heap.size := hxl
          go_region_held3 (fun W => W.cell? ⟨bx, 0, none⟩ = some (.int .i64 p) ∧ W.cell? ⟨bx, 1, none⟩ = some (.int .i64 t) ∧ W.cell? ⟨bx, 2, none⟩ = some (.slice a 50 cap))
            (first
              | with_reducible exact hS0
              | with_reducible exact keep3 (keep3 hS0 hb2 hl0) hb3 (Nat.lt_of_lt_of_le hl0 hb2.size)
              | with_reducible exact keep3 hS0 hb2 hl0
              | go_keep)
            (first
              | (go_at_call 6; refine (arenaNew_any p t _ ds _ (hSs.out.below (Below.refl _ _).drew) hm50).mono ?_; rintro e w2 ⟨_, hy, hb2⟩; obtain ⟨a1, s1, g1, rs1, rfl, hA, r1, r2, r3, r4, r5, r6, _⟩ := hy hmay)
              | (go_at_call 7; refine (newMem_any p t _ ds _ ((hSs.out.below (Below.refl _ _).drew).below hb2) hm50).mono ?_; rintro e w3 ⟨_, hy3, hb3⟩; obtain ⟨b1, s2, g2, rs2, rfl, hM, q1, q2, _⟩ := hy3 hmay))
          have hLM : Hid (LawMid p t ds w (.pointer (some ⟨a1, 0, none⟩)) (.pointer (some ⟨b1, 0, none⟩)) w3) := ⟨(hB0.drew.trans (hb2.mono hB0.size)).trans (hb3.mono (Nat.le_trans hB0.size hb2.size)), .inr ⟨hmay, a1, s1, g1, rs1, b1, s2, g2, rs2, rfl, rfl, hA.below hb3, r4, r6, hM, q1, q2⟩⟩
          go_wp2_with fail
          subst hbx
          go_meet
          exact hLM.out
    · by_cases hl : (len : Int) ≤ 50
      · obtain rfl : m = len := by omega
        clear hmi
        go_wp2_with fail
        all_goals
          obtain ⟨hB0, x0, x1, x2, hxl⟩ := HX.out
          generalize w.alloc _ = w1 at hB0 x0 x1 x2 hxl ⊢
          generalize hbx : w.heap.size = bx at x0 x1 x2 hxl ⊢
          have hSs := Lib.hid (Hs.out.below hB0)
          have hS0 : w1.drew.cell? ⟨bx, 0, none⟩ = some (.int .i64 p) ∧ w1.drew.cell? ⟨bx, 1, none⟩ = some (.int .i64 t) ∧ w1.drew.cell? ⟨bx, 2, none⟩ = some (.slice a m cap) := ⟨x0, x1, x2⟩
          have hl0 : bx < w1.drew.heap.size := hxl
          go_region_held3 (fun W => W.cell? ⟨bx, 0, none⟩ = some (.int .i64 p) ∧ W.cell? ⟨bx, 1, none⟩ = some (.int .i64 t) ∧ W.cell? ⟨bx, 2, none⟩ = some (.slice a m cap))
            (first
              | with_reducible exact hS0
              | with_reducible exact keep3 (keep3 hS0 hb2 hl0) hb3 (Nat.lt_of_lt_of_le hl0 hb2.size)
              | with_reducible exact keep3 hS0 hb2 hl0
              | go_keep)
            (first
              | (go_at_call 6; refine (arenaNew_any p t _ ds _ (hSs.out.below (Below.refl _ _).drew) hm50).mono ?_; rintro e w2 ⟨hy, _, hb2⟩; obtain rfl := hy hmay)
              | (go_at_call 7; refine (newMem_any p t _ ds _ ((hSs.out.below (Below.refl _ _).drew).below hb2) hm50).mono ?_; rintro e w3 ⟨hy3, _, hb3⟩; obtain rfl := hy3 hmay))
          have hLM : Hid (LawMid p t ds w (.pointer none) (.pointer none) w3) := ⟨(hB0.drew.trans (hb2.mono hB0.size)).trans (hb3.mono (Nat.le_trans hB0.size hb2.size)), .inl ⟨hmay, rfl, rfl⟩⟩
          go_wp2_with fail
          subst hbx
          go_meet
          exact hLM.out
      · obtain rfl : m = 50 := by omega
        clear hmi
        go_wp2_with fail
        all_goals
          obtain ⟨hB0, x0, x1, x2, hxl⟩ := HX.out
          generalize w.alloc _ = w1 at hB0 x0 x1 x2 hxl ⊢
          generalize hbx : w.heap.size = bx at x0 x1 x2 hxl ⊢
          have hSs := Lib.hid (Hs.out.below hB0)
          have hS0 : w1.drew.cell? ⟨bx, 0, none⟩ = some (.int .i64 p) ∧ w1.drew.cell? ⟨bx, 1, none⟩ = some (.int .i64 t) ∧ w1.drew.cell? ⟨bx, 2, none⟩ = some (.slice a 50 cap) := ⟨x0, x1, x2⟩
          have hl0 : bx < w1.drew.heap.size := hxl
          go_region_held3 (fun W => W.cell? ⟨bx, 0, none⟩ = some (.int .i64 p) ∧ W.cell? ⟨bx, 1, none⟩ = some (.int .i64 t) ∧ W.cell? ⟨bx, 2, none⟩ = some (.slice a 50 cap))
            (first
              | with_reducible exact hS0
              | with_reducible exact keep3 (keep3 hS0 hb2 hl0) hb3 (Nat.lt_of_lt_of_le hl0 hb2.size)
              | with_reducible exact keep3 hS0 hb2 hl0
              | go_keep)
            (first
              | (go_at_call 6; refine (arenaNew_any p t _ ds _ (hSs.out.below (Below.refl _ _).drew) hm50).mono ?_; rintro e w2 ⟨hy, _, hb2⟩; obtain rfl := hy hmay)
              | (go_at_call 7; refine (newMem_any p t _ ds _ ((hSs.out.below (Below.refl _ _).drew).below hb2) hm50).mono ?_; rintro e w3 ⟨hy3, _, hb3⟩; obtain rfl := hy3 hmay))
          have hLM : Hid (LawMid p t ds w (.pointer none) (.pointer none) w3) := ⟨(hB0.drew.trans (hb2.mono hB0.size)).trans (hb3.mono (Nat.le_trans hB0.size hb2.size)), .inl ⟨hmay, rfl, rfl⟩⟩
          go_wp2_with fail
          subst hbx
          go_meet
          exact hLM.out
  case rest =>
    obtain ⟨hB, ⟨hmay, rfl, rfl⟩ | ⟨hmay, a1, s1, g1, rs1, b1, s2, g2, rs2, rfl, rfl, hA, r4, r6, hM, q1, q2⟩⟩ := hcut
    · have HB := Lib.hid hB
      clear hB hmay
      go_wp2_with fail
      refine (awake_any wc).mono ?_
      rintro e w4 ⟨rfl, hb4⟩
      go_wp2
      go_ret
      exact ⟨rfl, HB.out.trans (hb4.mono HB.out.size)⟩
    · have HB := Lib.hid hB
      have m0 := cellOf hM.obj 0
      have m1 := cellOf hM.obj 1
      have m2 := cellOf hM.obj 2
      have m3 := cellOf hM.obj 3
      have hbl := lt_of_block hM.obj
      have k0 : wc.cell? ⟨s2, 0, none⟩ = some (.slice (some ⟨g2, 0, none⟩) (ws1 p t).length (ws1 p t).length) := cellOf hM.store.obj 0
      have hsl := lt_of_block hM.store.obj
      have HA := Lib.hid hA
      have HM := Lib.hid hM
      have HR := Lib.hid (And.intro hmay (And.intro r4 (And.intro r6 (And.intro q1 q2))))
      have hg1 : Hid ((ws1 p t)[0]? = some 1) := by
        obtain ⟨h1, h2, h3, h4⟩ := hmay
        have : 0 < (wordsOf p t).toNat := by unfold wordsOf; omega
        unfold Hid ws1
        rw [List.getElem?_set_self (by simpa using this)]
      clear hB hA hM hmay r4 r6 q1 q2
      have HL : Hid ((ws1 p t).length ≤ 100000) := by
        obtain ⟨⟨h1, h2, h3, h4⟩, _⟩ := HR.out
        unfold Hid ws1 wordsOf
        rw [List.length_set, List.length_replicate]; omega
      have HW2 : Hid (∀ W, Below wc.heap.size wc W → RowOf W (.slice (some ⟨g2, 0, none⟩) (ws1 p t).length (ws1 p t).length) (ws1 p t).length ((ws1 p t).map (Value.int .u64 ·))) := fun W hW =>
        RowOf.of_own ((HM.out.below hW).store.row_own (by have := HL.out; unfold maxLen; omega))
      have C17 : Hid (∀ W v, RowOf W v rs1.xs.length (runCells rs1.xs) → RowOf W v [((0 : Int), p)].length (runCells [((0 : Int), p)])) := fun W v h => by rw [HR.out.2.1] at h; exact h
      have C18 : Hid (∀ W v, RowOf W v (runsUp rs2.free rs2.free.length).length (runCells (runsUp rs2.free rs2.free.length)) → RowOf W v [((0 : Int), p)].length (runCells [((0 : Int), p)])) := fun W v h => by
        obtain ⟨⟨h1, h2, h3, h4⟩, _, _, q1, _⟩ := HR.out
        rw [q1, List.length_replicate] at h
        have e := runsUp_full p.toNat (p.toNat - 1) (by omega)
        rw [show p.toNat - 1 + 1 = p.toNat by omega, show ((p.toNat : Nat) : Int) = p by omega] at e
        rw [e] at h; exact h
      have C20 : Hid (∀ W v, RowOf W v rs1.t.high (runCells (pairs (preT 0 rs1.t))) → RowOf W v [(keyOf (0, p), (0 : Int))].length (runCells [(keyOf (0, p), (0 : Int))])) := fun W v h => by
        obtain ⟨_, _, ⟨B, hB⟩, _⟩ := HR.out
        rw [hB, (pre_one B (ndOf (0, p) (drawOf ds 0))).1, (pre_one B (ndOf (0, p) (drawOf ds 0))).2] at h; exact h
      have C21 : Hid (∀ W v, RowOf W v (shapeF rs2.its.length rs2.its 0).length (runCells (shapeF rs2.its.length rs2.its 0)) → RowOf W v [(keyOf (0, p), (0 : Int))].length (runCells [(keyOf (0, p), (0 : Int))])) := fun W v h => by
        obtain ⟨_, _, _, _, q2⟩ := HR.out
        rw [q2, show [itOf (0, p) (drawOf ds 0)].length = 1 from rfl, shape_one] at h; exact h
      have HH1 : Hid (rs1.t.high ≤ 1000000) := by
        obtain ⟨_, _, ⟨B, hB⟩, _⟩ := HR.out
        unfold Hid; rw [hB, (pre_one B (ndOf (0, p) (drawOf ds 0))).2]; omega
      have HW2' : Hid (∀ n, n = (ws1 p t).length → ∀ W, Below wc.heap.size wc W → RowOf W (.slice (some ⟨g2, 0, none⟩) n n) (ws1 p t).length ((ws1 p t).map (Value.int .u64 ·))) := fun n hn W hW => by rw [hn]; exact HW2.out W hW
      obtain ⟨nw, hnw⟩ : ∃ nw, nw = (ws1 p t).length := ⟨_, rfl⟩
      rw [← hnw] at k0
      have HNW := Lib.hid hnw
      clear hnw
      go_wp2_with fail
      have hS0 : Below wc.heap.size wc wc.drew ∧ wc.drew.cell? ⟨b1, 2, none⟩ = some (.int .i64 p) ∧ wc.drew.cell? ⟨b1, 3, none⟩ = some (.int .i64 t) := ⟨(Below.refl _ _).drew, m2, m3⟩
      go_region_held3 (fun W => Below wc.heap.size wc W ∧ W.cell? ⟨b1, 2, none⟩ = some (.int .i64 p) ∧ W.cell? ⟨b1, 3, none⟩ = some (.int .i64 t))
        (first
          | with_reducible exact hS0
          | with_reducible assumption
          | with_reducible exact keepA (by assumption) hbl hbl hb9
          | go_keep)
        (first
          | (go_at_call 9; refine (layout_any (HA.out.below (And.left (by assumption)))).mono ?_; rintro e w9 ⟨rfl, hb9⟩)
          | (go_at_call 10; refine (gen_any (HA.out.below (And.left (by assumption))) hg1.out).mono ?_; rintro e w10 ⟨rfl, rfl⟩))
      have hB9 : Below wc.heap.size wc w9 := (Below.refl wc.heap.size wc).drew.trans (hb9.mono (Nat.le_refl _))
      have hS9 : Below wc.heap.size wc w9.drew ∧ w9.drew.cell? ⟨b1, 0, none⟩ = some (.pointer (some ⟨s2, 0, none⟩)) ∧ w9.drew.cell? ⟨b1, 1, none⟩ = some (.pointer (some ⟨rs2.q, 0, none⟩)) ∧ w9.drew.cell? ⟨s2, 0, none⟩ = some (.slice (some ⟨g2, 0, none⟩) nw nw) :=
        ⟨hB9.drew, (hB9.cell (p := ⟨b1, 0, none⟩) hbl).trans m0, (hB9.cell (p := ⟨b1, 1, none⟩) hbl).trans m1, (hB9.cell (p := ⟨s2, 0, none⟩) hsl).trans k0⟩
      clear m0 m1 m2 m3 k0 hS0
      go_wp2_with fail
      go_region_held3 (fun W => Below wc.heap.size wc W ∧ W.cell? ⟨b1, 0, none⟩ = some (.pointer (some ⟨s2, 0, none⟩)) ∧ W.cell? ⟨b1, 1, none⟩ = some (.pointer (some ⟨rs2.q, 0, none⟩)) ∧ W.cell? ⟨s2, 0, none⟩ = some (.slice (some ⟨g2, 0, none⟩) nw nw))
        (first
          | with_reducible exact hS9
          | with_reducible assumption
          | with_reducible exact keepB (by assumption) hbl hbl hsl hb13
          | with_reducible exact keepB (by assumption) hbl hbl hsl hb11
          | with_reducible exact keepB (by assumption) hbl hbl hsl hb17
          | with_reducible exact keepB (by assumption) hbl hbl hsl hb18
          | with_reducible exact keepB (by assumption) hbl hbl hsl hb15
          | with_reducible exact keepB (by assumption) hbl hbl hsl hb20
          | with_reducible exact keepB (by assumption) hbl hbl hsl hb21
          | with_reducible exact keepB (by assumption) hbl hbl hsl hb19
          | with_reducible exact keepB (by assumption) hbl hbl hsl hb8
          | go_keep)
        (first
          | (go_at_call 12; refine (store_any (HA.out.below (And.left (by assumption)))).mono ?_; rintro e w12 ⟨rfl, rfl⟩)
          | (go_at_call 13; refine (wordsOut_any (HA.out.below (And.left (by assumption))).store HL.out).mono ?_; rintro e w13 ⟨v13, rfl, hv13, hb13⟩)
          | (go_at_call 11; refine (sameWords_any (ws1 p t) v13 _ _ hv13 (HW2'.out nw HNW.out _ (And.left (by assumption))) (by have := HL.out; omega)).mono ?_; rintro e w11 ⟨rfl, hb11⟩)
          | (go_at_call 14; refine (count_any (HA.out.below (And.left (by assumption))).store).mono ?_; rintro e w14 ⟨rfl, rfl⟩)
          | (go_at_call 16; refine (aruns_any (HA.out.below (And.left (by assumption)))).mono ?_; rintro e w16 ⟨rfl, rfl⟩)
          | (go_at_call 17; refine (runsList_any (HA.out.below (And.left (by assumption))).runs).mono ?_; rintro e w17 ⟨v17, rfl, hv17, hb17⟩)
          | (go_at_call 18; refine (refList_any rs2 _ (HM.out.below (And.left (by assumption))).runs).mono ?_; rintro e w18 ⟨v18, rfl, hv18, hb18⟩)
          | (go_at_call 15; refine (sameRuns_any [((0 : Int), p)] v17 v18 _ ((C17.out _ _ hv17).below hb18) (C18.out _ _ hv18) (by simp)).mono ?_; rintro e w15 ⟨rfl, hb15⟩)
          | (go_at_call 20; refine (runsShape_any (HA.out.below (And.left (by assumption))).runs HH1.out).mono ?_; rintro e w20 ⟨v20, rfl, hv20, hb20⟩)
          | (go_at_call 21; refine (refShape_any rs2 _ (HM.out.below (And.left (by assumption))).runs).mono ?_; rintro e w21 ⟨v21, rfl, hv21, hb21⟩)
          | (go_at_call 19; refine (sameNodes_any [(keyOf (0, p), (0 : Int))] v20 v21 _ ((C20.out _ _ hv20).below hb21) (C21.out _ _ hv21) (by simp)).mono ?_; rintro e w19 ⟨rfl, hb19⟩)
          | (go_at_call 8; refine (awake_any _).mono ?_; rintro e w8 ⟨rfl, hb8⟩))
      have hfin : Below wc.heap.size wc w8 := And.left (by assumption)
      go_wp2_with fail
      go_ret
      exact ⟨rfl, HB.out.trans (hfin.mono HB.out.size)⟩

end Go.Proofs.Ytdeebagjmhpocaa
