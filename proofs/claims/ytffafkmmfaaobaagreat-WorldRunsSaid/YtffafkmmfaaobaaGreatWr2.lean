/- Laws on copy and append at elements of more cells than one; slices.Insert. -/
import Derived.Test.YtffafkmmfaaobaaGreatWr1
import Derived.Laws.CopyOwn
import Derived.Lib.Overlaps
import Derived.Deep.RegionHeld3
import Derived.Laws.EntriesVeiled
namespace Go.Proofs.YtffafkmmfaaobaaGreat
set_option linter.unusedSimpArgs false
set_option linter.unusedVariables false
open Go.RowKit

section
variable {P : Program} (w : World)
theorem run_copy2 (dT sT ty elem : TypeId) (size : Nat) (i : TypeInfo) (hu : P.underlying dT = some (.slice elem)) (hi : P.info? elem = some i) (hs : i.size = size)
    (g o dLen dCap : Nat) (a : Addr) (sLen sCap : Nat) (cur : Array Value) (t : TypeId) (cs : List Value)
    (hg : w.heap[g]? = some (.cells cur t (0, 0))) (hn : cs.length = Nat.min sLen dLen * size)
    (hsrc : ∀ j v, cs[j]? = some v → w.cell? (a.add j) = some v) (hfit : o + cs.length ≤ cur.size) (h1 : ∀ v ∈ cs, v.oneCell' = true) :
    (Builtin.copy_ #[dT, sT] ty #[.slice (some ⟨g, o, none⟩) dLen dCap, .slice (some a) sLen sCap]).run P w =
      .ok (goInt (Nat.min sLen dLen)) (w.setRow g (splice cur.toList o cs).toArray) := by
  subst hs
  have hl := run_firstCells_some (P := P) w i.size (Nat.min sLen dLen) a sLen sCap cs hn hsrc
  have hst := run_storeCells_at P g o t cs 0 cur w hg (by simpa using hfit) h1
  simp only [Nat.add_zero] at hst
  simp [Builtin.copy_, run_underlying hu, Builtin.lenOf, sizeOf, typeInfo, hi, hl, hst, splice]

theorem run_append_zeros (t tn ty e : TypeId) (i : TypeInfo) (z : Value) (ht : P.underlying t = some (.slice e)) (htn : P.underlying tn = some (.int .i64)) (hi : P.info? e = some i) (hz : i.zero = some z)
    (b : Addr) (sLen sCap : Nat) (olds : List Value) (hlo : olds.length = sLen * i.size) (holds : ∀ j v, olds[j]? = some v → w.cell? (b.add j) = some v)
    (k : Nat) (hk : 0 < k * i.size) (hk2 : (k : Int) * i.bytes ≤ 281474976710656) (hk3 : (k : Int) < 9223372036854775807)
    (hg : sCap < sLen + k) (h63 : ((sLen + k : Nat) : Int) ≤ 9223372036854775807) (hfit : Builtin.nextslicecap (sLen + k) sCap * i.bytes ≤ 281474976710656) :
    (Builtin.append_ #[t, tn] ty #[.slice (some b) sLen sCap, .int .i64 k]).run P w =
      .ok (.slice (some ⟨w.heap.size, 0, none⟩) (sLen + k) (grownCap w (sLen + k) sCap e))
        (w.drew.alloc (.cells (olds.toArray ++ Builtin.zeroCells z.cells k ++ Builtin.zeroCells z.cells (grownCap w (sLen + k) sCap e - (sLen + k))) e)) := by
  have hn : ¬ (sLen + k ≤ sCap) := by omega
  have h63' : ¬ (9223372036854775807 < ((sLen : Int) + (k : Int))) := by omega
  have h48' : ¬ (281474976710656 < Builtin.nextslicecap (sLen + k) sCap * i.bytes) := by omega
  have hw : IntKind.i64.wrap (k : Int) = k := IntWalk.i64_in _ (by omega)
  have hk2' : ¬ (281474976710656 < (k : Int) * (i.bytes : Int)) := by omega
  have hk0 : ¬ ((k : Int) < 0) := by omega
  have hz0 : ¬ (k * i.size = 0) := by omega
  have hz0' : ¬ (k = 0 ∨ i.size = 0) := by rw [← Nat.mul_eq_zero]; exact hz0
  have hfo := run_firstCells_some (P := P) w.drew i.size sLen b sLen sCap olds hlo (by simpa using holds)
  simp [Builtin.append_, run_underlying ht, run_underlying htn, sizeOf, typeInfo, zeroValue, hi, hz, asInt, asIntOf, hw, hk0, hk2', hz0', hn, h63', h48', Question.forced, hfo, newRow, grownCap]
  intro h; exact absurd h hz0
end

theorem splice_get {α : Type} (L : List α) (off : Nat) (cs : List α) (h : off ≤ L.length) (j : Nat) :
    (splice L off cs)[j]? = if j < off then L[j]? else if j < off + cs.length then cs[j - off]? else L[j]? := by
  unfold splice
  rw [List.getElem?_append, List.length_take, Nat.min_eq_left h]
  split
  · rw [List.getElem?_take]; simp [*]
  · rw [List.getElem?_append]
    split
    · rw [if_pos (by omega)]
    · rw [if_neg (by omega), List.getElem?_drop]
      congr 1; omega

theorem insert_room {α : Type} (L A X B : List α) (a x b : Nat) (hA : A.length = a) (hX : X.length = x) (hB : B.length = b) (hL : L.take (a + b) = A ++ B) (hlen : a + x + b ≤ L.length) :
    (splice (splice L (a + x) B) a X).take (a + x + b) = A ++ (X ++ B) := by
  apply List.ext_getElem?
  intro j
  have hl1 : (splice L (a + x) B).length = L.length := length_splice _ _ _ (by omega)
  have hg : ∀ j, j < a → L[j]? = A[j]? := fun j hj => by
    have := congrArg (fun l => l[j]?) hL
    simp only [List.getElem?_take, List.getElem?_append] at this
    rw [if_pos (by omega), if_pos (by omega)] at this
    exact this
  rw [List.getElem?_take, List.getElem?_append, List.getElem?_append]
  subst hA hX hB
  by_cases h1 : j < A.length
  · rw [if_pos (by omega), if_pos h1, splice_get _ _ _ (by omega), if_pos h1, splice_get _ _ _ (by omega), if_pos (by omega), hg j h1]
  · rw [if_neg h1]
    by_cases h2 : j < A.length + X.length
    · rw [if_pos (by omega), if_pos (by omega), splice_get _ _ _ (by omega), if_neg h1, if_pos h2]
    · by_cases h3 : j < A.length + X.length + B.length
      · rw [if_pos h3, if_neg (by omega), splice_get _ _ _ (by omega), if_neg h1, if_neg h2, splice_get _ _ _ (by omega), if_neg h2, if_pos h3]
        congr 1; omega
      · rw [if_neg h3, if_neg (by omega), List.getElem?_eq_none (by omega)]

theorem insert_grow {α : Type} (Z A X B : List α) (a x b : Nat) (hA : A.length = a) (hX : X.length = x) (hB : B.length = b) (hZ : Z.take a = A) (hlen : a + x + b ≤ Z.length) :
    (splice (splice Z a X) (a + x) B).take (a + x + b) = A ++ (X ++ B) := by
  apply List.ext_getElem?
  intro j
  have hl1 : (splice Z a X).length = Z.length := length_splice _ _ _ (by omega)
  have hg : ∀ j, j < a → Z[j]? = A[j]? := fun j hj => by
    have := congrArg (fun l => l[j]?) hZ
    simp only [List.getElem?_take] at this
    rw [if_pos hj] at this
    exact this
  rw [List.getElem?_take, List.getElem?_append, List.getElem?_append]
  subst hA hX hB
  by_cases h1 : j < A.length
  · rw [if_pos (by omega), if_pos h1, splice_get _ _ _ (by omega), if_pos (by omega), splice_get _ _ _ (by omega), if_pos h1, hg j h1]
  · rw [if_neg h1]
    by_cases h2 : j < A.length + X.length
    · rw [if_pos (by omega), if_pos (by omega), splice_get _ _ _ (by omega), if_pos h2, splice_get _ _ _ (by omega), if_neg h1, if_pos h2]
    · by_cases h3 : j < A.length + X.length + B.length
      · rw [if_pos h3, if_neg (by omega), splice_get _ _ _ (by omega), if_neg h2, if_pos h3]
        congr 1; omega
      · rw [if_neg h3, if_neg (by omega), List.getElem?_eq_none (by omega)]

section
variable {P : Program} {w w' : World} {o : Oper} {a : Act} {Q : Exit → Act → World → Prop}
theorem wp_append_run' {K : Act → World → Prop} (s x : Operand) (t tx : TypeId)
    (ho : o.op = .call { callee := .builtin .append, args := #[s, x], argTypes := #[t, tx] }) {v u v' : Value} (hs : a.eval s = v) (hx : a.eval x = u)
    (hr : (Builtin.append_ #[t, tx] o.type #[v, u]).run P w = .ok v' w') (h : K (a.put o.dst v') w') : o.wp P a w K Q := by
  unfold Oper.wp execOp
  simp only [ho, resolve, invoke, builtin, Sem.run_bind, Sem.run_pure, Result.andThen_ok, List.map_toArray, List.map_cons, List.map_nil, hs, hx, hr]
  exact h
theorem wp_copy_run {K : Act → World → Prop} (s x : Operand) (t tx : TypeId)
    (ho : o.op = .call { callee := .builtin .copy, args := #[s, x], argTypes := #[t, tx] }) {v u v' : Value} (hs : a.eval s = v) (hx : a.eval x = u)
    (hr : (Builtin.copy_ #[t, tx] o.type #[v, u]).run P w = .ok v' w') (h : K (a.put o.dst v') w') : o.wp P a w K Q := by
  unfold Oper.wp execOp
  simp only [ho, resolve, invoke, builtin, Sem.run_bind, Sem.run_pure, Result.andThen_ok, List.map_toArray, List.map_cons, List.map_nil, hs, hx, hr]
  exact h
theorem wpList_append_run' {ops : Array Oper} {rest : List Oper} (hgd : o.guard = none) (s x : Operand) (t tx : TypeId)
    (ho : o.op = .call { callee := .builtin .append, args := #[s, x], argTypes := #[t, tx] }) {v u v' : Value} (hs : a.eval s = v) (hx : a.eval x = u)
    (hr : (Builtin.append_ #[t, tx] o.type #[v, u]).run P w = .ok v' w') (h : wpList P ops Q rest (a.put o.dst v') w') : wpList P ops Q (o :: rest) a w :=
  wpList_plain hgd fun _ hK => wp_append_run' s x t tx ho hs hx hr (hK _ _ h)
theorem wpList_copy_run {ops : Array Oper} {rest : List Oper} (hgd : o.guard = none) (s x : Operand) (t tx : TypeId)
    (ho : o.op = .call { callee := .builtin .copy, args := #[s, x], argTypes := #[t, tx] }) {v u v' : Value} (hs : a.eval s = v) (hx : a.eval x = u)
    (hr : (Builtin.copy_ #[t, tx] o.type #[v, u]).run P w = .ok v' w') (h : wpList P ops Q rest (a.put o.dst v') w') : wpList P ops Q (o :: rest) a w :=
  wpList_plain hgd fun _ hK => wp_copy_run s x t tx ho hs hx hr (hK _ _ h)
theorem step_copy_run {ops : Array Oper} {K : Act → World → Prop} {E : Prop} (hgd : o.guard = none) (s x : Operand) (t tx : TypeId)
    (ho : o.op = .call { callee := .builtin .copy, args := #[s, x], argTypes := #[t, tx] }) {v u v' : Value} (hs : a.eval s = v) (hx : a.eval x = u)
    (hr : (Builtin.copy_ #[t, tx] o.type #[v, u]).run P w = .ok v' w') (h : K (a.put o.dst v') w') : if Region.wanted o (yielded ops a.tmps) = true then Oper.wp P o a w K Q else E := by
  rw [if_pos (by simp [Region.wanted, hgd])]
  exact wp_copy_run s x t tx ho hs hx hr h
theorem step_append_run {ops : Array Oper} {K : Act → World → Prop} {E : Prop} (hgd : o.guard = none) (s x : Operand) (t tx : TypeId)
    (ho : o.op = .call { callee := .builtin .append, args := #[s, x], argTypes := #[t, tx] }) {v u v' : Value} (hs : a.eval s = v) (hx : a.eval x = u)
    (hr : (Builtin.append_ #[t, tx] o.type #[v, u]).run P w = .ok v' w') (h : K (a.put o.dst v') w') : if Region.wanted o (yielded ops a.tmps) = true then Oper.wp P o a w K Q else E := by
  rw [if_pos (by simp [Region.wanted, hgd])]
  exact wp_append_run' s x t tx ho hs hx hr h
end

end Go.Proofs.YtffafkmmfaaobaaGreat

namespace Go.Proofs.YtffafkmmfaaobaaGreat
set_option linter.unusedSimpArgs false
set_option linter.unusedVariables false
open Go.RowKit

/-- The reference's arena lies at b, its store at s. -/
def MemAt (w : World) (b : Nat) (p t : Int) (s : Nat) (qv : Value) : Prop := w.heap[b]? = some (.cells #[.pointer (some ⟨s, 0, none⟩), qv, .int .i64 p, .int .i64 t] 42 (0, 0))

theorem LogRow.kept {F : Nat → Prop} {w w' : World} {B : Nat} {lg : Value} {xs : List Int} (h : LogRow w B lg xs) (hk : Kept F w w') (hF : ∀ k cs, w.heap[k]? = some (.cells cs 33 (0, 0)) → lg.ownBlock = some k → ¬ F k) : LogRow w' B lg xs := by
  refine ⟨⟨h.1.1, ?_⟩, h.2⟩
  rcases h.1.2 with h0 | ⟨g, cap, cur, rfl, hbg, hgc, hnc, hcm, hcs, htake⟩
  · exact .inl h0
  · exact .inr ⟨g, cap, cur, rfl, hbg, hk.at hgc (hF g cur hgc (by simp [Value.ownBlock])), hnc, hcm, hcs, htake⟩

theorem slice_of {w : World} {B : Nat} {lg : Value} {xs : List Int} (h : LogRow w B lg xs) : ∃ a n c, lg = .slice a n c := by
  rcases h.1.2 with ⟨h, _⟩ | ⟨g, cap, cur, h, _⟩ <;> exact ⟨_, _, _, h⟩

section
variable {w : World} {m b s g : Nat} {c : MC} {v : MV} {p t : Int} {qv : Value} {ws : List Int} {k a o n ct : Int}

theorem m_did (h : MAt w m c v) (x0 x1 x2 x3 : Int) :
    MAt ((((w.setCell ⟨m, 19, none⟩ (.int .i64 x0)).setCell ⟨m, 20, none⟩ (.int .i64 x1)).setCell ⟨m, 21, none⟩ (.int .u64 x2)).setCell ⟨m, 22, none⟩ (.int .u64 x3)) m c { v with d0 := x0, d1 := x1, d2 := x2, d3 := x3 } := by
  have := block_set (block_set (block_set (block_set h 19 (.int .i64 x0)) 20 (.int .i64 x1)) 21 (.int .u64 x2)) 22 (.int .u64 x3)
  simpa [MAt] using this

set_option maxRecDepth 100000 in
set_option maxHeartbeats 2000000 in
theorem tell_any (h : MAt w m c v) (hv : v.mem = .pointer (some ⟨b, 0, none⟩)) (hm : MemAt w b p t s qv) (hs : StoreIs 110 w s g ws k a o n ct) {B : Nat} {xs : List Int} (hl : LogRow w B v.log xs) (hB : B ≤ w.heap.size) (hn : xs.length < 1000000)
    (hat : v.at' = xs.length) (u : Int) :
    Calls Tryz.prog 177 #[.pointer (some ⟨m, 0, none⟩), .int .u64 u] w fun e w' => e = .returned (.tuple #[.int .u64 u, .bool true]) ∧ ∃ lg', MAt w' m c { v with log := lg', at' := (xs.length : Int) + 1, d0 := k, d1 := a, d2 := o, d3 := n } ∧ LogRow w' B lg' (xs ++ [u]) ∧ NewOwn w v.log lg' ∧
      Kept (fun k => k = m ∨ LogOwn w v.log k) w w' := by
  have c18 : w.cell? ⟨m, 18, none⟩ = some (.pointer (some ⟨b, 0, none⟩)) := (cellOf h 18).trans (by rw [← hv]; rfl)
  have e19 : w.cell? ⟨m, 19, none⟩ = some (.int .i64 v.d0) := cellOf h 19
  have e20 : w.cell? ⟨m, 20, none⟩ = some (.int .i64 v.d1) := cellOf h 20
  have e21 : w.cell? ⟨m, 21, none⟩ = some (.int .u64 v.d2) := cellOf h 21
  have e22 : w.cell? ⟨m, 22, none⟩ = some (.int .u64 v.d3) := cellOf h 22
  have f19 : w.frozen? ⟨m, 19, none⟩ = false := freeOf h 19
  have f20 : w.frozen? ⟨m, 20, none⟩ = false := freeOf h 20
  have f21 : w.frozen? ⟨m, 21, none⟩ = false := freeOf h 21
  have f22 : w.frozen? ⟨m, 22, none⟩ = false := freeOf h 22
  have cb : w.cell? ⟨b, 0, none⟩ = some (.pointer (some ⟨s, 0, none⟩)) := cellOf hm 0
  have s1 : w.cell? ⟨s, 1, none⟩ = some (.int .i64 k) := cellOf hs.obj 1
  have s2 : w.cell? ⟨s, 2, none⟩ = some (.int .i64 a) := cellOf hs.obj 2
  have s3 : w.cell? ⟨s, 3, none⟩ = some (.int .u64 o) := cellOf hs.obj 3
  have s4 : w.cell? ⟨s, 4, none⟩ = some (.int .u64 n) := cellOf hs.obj 4
  have c14 : w.cell? ⟨m, 14, none⟩ = some v.log := cellOf h 14
  have c16 : w.cell? ⟨m, 16, none⟩ = some (.int .i64 (xs.length : Int)) := (cellOf h 16).trans (by rw [← hat]; rfl)
  have lm : m < w.heap.size := lt_of_block h
  have HM := Lib.hid h
  have HL := Lib.hid hl
  have hms : m ≠ s := type_ne' h hs.obj (by decide)
  have hms' : s ≠ m := hms.symm
  have hM1 := m_did h k a o n
  have hK1 : Kept (fun k => k = m) w ((((w.setCell ⟨m, 19, none⟩ (.int .i64 k)).setCell ⟨m, 20, none⟩ (.int .i64 a)).setCell ⟨m, 21, none⟩ (.int .u64 o)).setCell ⟨m, 22, none⟩ (.int .u64 n)) :=
    ((((Kept.refl (fun k => k = m) w).setCell (p := ⟨m, 19, none⟩) (.inl rfl) _).setCell (p := ⟨m, 20, none⟩) (.inl rfl) _).setCell (p := ⟨m, 21, none⟩) (.inl rfl) _).setCell (p := ⟨m, 22, none⟩) (.inl rfl) _
  have hK2 := hK1.alloc (.cells #[.int .u64 u] 33)
  have hM2 := block_alloc hM1 (.cells #[.int .u64 u] 33)
  have hq := heap_alloc_new ((((w.setCell ⟨m, 19, none⟩ (.int .i64 k)).setCell ⟨m, 20, none⟩ (.int .i64 a)).setCell ⟨m, 21, none⟩ (.int .u64 o)).setCell ⟨m, 22, none⟩ (.int .u64 n)) (.cells #[.int .u64 u] 33)
  have hL2 := hl.kept hK2 (fun k cs hc _ => type_ne' hc h (by decide))
  have hW2 : ∀ W2, W2 = ((((w.setCell ⟨m, 19, none⟩ (.int .i64 k)).setCell ⟨m, 20, none⟩ (.int .i64 a)).setCell ⟨m, 21, none⟩ (.int .u64 o)).setCell ⟨m, 22, none⟩ (.int .u64 n)).alloc (.cells #[.int .u64 u] 33) →
      ∀ ty, ∃ lg' W3, (Builtin.append_ #[56, 56] ty #[v.log, .slice (some ⟨w.heap.size, 0, none⟩) 1 1]).run Tryz.prog W2 = .ok lg' W3 ∧ MAt W3 m c { v with d0 := k, d1 := a, d2 := o, d3 := n } ∧ LogRow W3 B lg' (xs ++ [u]) ∧ NewOwn w v.log lg' ∧ Kept (fun k => k = m ∨ LogOwn w v.log k) w W3 := by
    rintro W2 rfl ty
    obtain ⟨lg', W3, h1, h2, hno, h3⟩ := append_log hL2 (Nat.le_trans hB hK2.size) hn ty w.heap.size u (by have := cellOf hq 0; simpa using this)
    refine ⟨lg', W3, h1, h3.at hM2 (fun ⟨_, cs, hc, _⟩ => type_ne' hc hM2 (by decide) rfl), h2, hno.imp id (fun h k hk => Nat.le_trans hK2.size (h k hk)), ?_⟩
    refine (hK2.mono (fun k h => .inl (.inl h))).trans h3 ?_
    rintro j ⟨ho, cs, hc, hz⟩
    by_cases hj : j < w.heap.size
    · refine .inl (.inr ⟨ho, cs, ?_, hz⟩)
      have hjm : j ≠ m := type_ne' hc hM2 (by decide)
      rw [← hK2.block j hj hjm]; exact hc
    · exact .inr (by omega)
  have HW := Lib.hid hW2
  have hw1 : IntKind.i64.wrap ((xs.length : Int) + 1) = xs.length + 1 := IntWalk.i64_in _ (by omega)
  clear hM1 hK1 hK2 hM2 hq hL2 hW2
  clear h hm hs hl
  generalize v.d0 = y0 at e19
  generalize v.d1 = y1 at e20
  generalize v.d2 = y2 at e21
  generalize v.d3 = y3 at e22
  go_enter Tryz.func177, Tryz.ntmps177
  go_wp2_with (at_builtin; obtain ⟨lg', W3, hr, hM3, hL3, hno, hK3⟩ := HW.out _ rfl 56; obtain ⟨ga, gn, gc, rfl⟩ := slice_of hL3; refine wpList_append_run' rfl (.tmp 23) (.tmp 25) 56 56 rfl rfl rfl hr ?_; clear hr; have g14 := cellOf hM3 14; have g16 : W3.cell? ⟨m, 16, none⟩ = some (.int .i64 (xs.length : Int)) := (cellOf hM3 16).trans (by rw [← hat]; rfl); have z14 := freeOf hM3 14; have z16 := freeOf hM3 16; replace g14 : W3.cell? ⟨m, 14, none⟩ = some v.log := g14; replace hM3 := Lib.hid hM3; replace hL3 := Lib.hid hL3; replace hK3 := Lib.hid hK3)
  go_ret2
  refine ⟨rfl, .slice ga gn gc, m_at (m_log hM3.out _) _, ?_, hno, ?_⟩
  · exact hL3.out.kept (((Kept.refl (fun k => k = m) W3).setCell (p := ⟨m, 14, none⟩) (.inl rfl) _).setCell (p := ⟨m, 16, none⟩) (.inl rfl) _) (fun k cs hc _ => type_ne' hc hM3.out (by decide))
  · exact (hK3.out.setCell (p := ⟨m, 14, none⟩) (.inl (.inl rfl)) _).setCell (p := ⟨m, 16, none⟩) (.inl (.inl rfl)) _
end
end Go.Proofs.YtffafkmmfaaobaaGreat

namespace Go.Proofs.YtffafkmmfaaobaaGreat
set_option linter.unusedSimpArgs false
set_option linter.unusedVariables false
open Go.RowKit

section
variable {w : World} {m : Nat} {c : MC} {v : MV}

/-- What is told ahead of a step. -/
def MV.fresh (v : MV) : MV := { v with at' := 0, used := false, d0 := 0, d1 := 0, d2 := 0, d3 := 0, got := -1, code := 2, n := 0, gens := 0, freed := 0, live := .slice none 0 0, marks := .slice none 0 0, full := 0 }

set_option maxRecDepth 100000 in
set_option maxHeartbeats 2000000 in
theorem idle_any (h : MAt w m c v) {la : Option Addr} {ln lc : Nat} (hl : v.live = .slice la ln lc) :
    Calls Tryz.prog 135 #[.pointer (some ⟨m, 0, none⟩)] w fun e w' => e = .returned (.tuple #[]) ∧ MAt w' m c { v with got := -1, code := 2, live := .slice none 0 0 } ∧ Kept (fun k => k = m) w w' := by
  have e23 : w.cell? ⟨m, 23, none⟩ = some (.int .i64 v.got) := cellOf h 23
  have e24 : w.cell? ⟨m, 24, none⟩ = some (.int .i64 v.code) := cellOf h 24
  have e28 : w.cell? ⟨m, 28, none⟩ = some (.slice la ln lc) := (cellOf h 28).trans (by rw [← hl]; rfl)
  have f23 : w.frozen? ⟨m, 23, none⟩ = false := freeOf h 23
  have f24 : w.frozen? ⟨m, 24, none⟩ = false := freeOf h 24
  have f28 : w.frozen? ⟨m, 28, none⟩ = false := freeOf h 28
  have hW : ∀ w', w' = ((w.setCell ⟨m, 23, none⟩ (.int .i64 (-1))).setCell ⟨m, 24, none⟩ (.int .i64 2)).setCell ⟨m, 28, none⟩ (.slice none 0 0) →
      MAt w' m c { v with got := -1, code := 2, live := .slice none 0 0 } ∧ Kept (fun k => k = m) w w' := by
    rintro w' rfl
    refine ⟨?_, (((Kept.refl (fun k => k = m) w).setCell (p := ⟨m, 23, none⟩) (.inl rfl) _).setCell (p := ⟨m, 24, none⟩) (.inl rfl) _).setCell (p := ⟨m, 28, none⟩) (.inl rfl) _⟩
    have := block_set (block_set (block_set h 23 (.int .i64 (-1))) 24 (.int .i64 2)) 28 (.slice none 0 0)
    simpa [MAt] using this
  have HW := Lib.hid hW
  clear h hW
  generalize v.got = y0 at e23
  generalize v.code = y1 at e24
  go_enter Tryz.func135, Tryz.ntmps135
  go_wp2
  go_end0
  exact ⟨rfl, HW.out _ rfl⟩

set_option maxRecDepth 100000 in
set_option maxHeartbeats 4000000 in
theorem fresh_any (h : MAt w m c v) {la ma : Option Addr} {ln lc mn mc : Nat} (hl : v.live = .slice la ln lc) (hm : v.marks = .slice ma mn mc) :
    Calls Tryz.prog 67 #[.pointer (some ⟨m, 0, none⟩)] w fun e w' => e = .returned (.tuple #[]) ∧ MAt w' m c v.fresh ∧ Kept (fun k => k = m) w w' := by
  have e16 : w.cell? ⟨m, 16, none⟩ = some (.int .i64 v.at') := cellOf h 16
  have f16 : w.frozen? ⟨m, 16, none⟩ = false := freeOf h 16
  have e17 : w.cell? ⟨m, 17, none⟩ = some (.bool v.used) := cellOf h 17
  have f17 : w.frozen? ⟨m, 17, none⟩ = false := freeOf h 17
  have e19 : w.cell? ⟨m, 19, none⟩ = some (.int .i64 v.d0) := cellOf h 19
  have f19 : w.frozen? ⟨m, 19, none⟩ = false := freeOf h 19
  have e20 : w.cell? ⟨m, 20, none⟩ = some (.int .i64 v.d1) := cellOf h 20
  have f20 : w.frozen? ⟨m, 20, none⟩ = false := freeOf h 20
  have e21 : w.cell? ⟨m, 21, none⟩ = some (.int .u64 v.d2) := cellOf h 21
  have f21 : w.frozen? ⟨m, 21, none⟩ = false := freeOf h 21
  have e22 : w.cell? ⟨m, 22, none⟩ = some (.int .u64 v.d3) := cellOf h 22
  have f22 : w.frozen? ⟨m, 22, none⟩ = false := freeOf h 22
  have e23 : w.cell? ⟨m, 23, none⟩ = some (.int .i64 v.got) := cellOf h 23
  have f23 : w.frozen? ⟨m, 23, none⟩ = false := freeOf h 23
  have e25 : w.cell? ⟨m, 25, none⟩ = some (.int .i64 v.n) := cellOf h 25
  have f25 : w.frozen? ⟨m, 25, none⟩ = false := freeOf h 25
  have e26 : w.cell? ⟨m, 26, none⟩ = some (.int .i64 v.gens) := cellOf h 26
  have f26 : w.frozen? ⟨m, 26, none⟩ = false := freeOf h 26
  have e27 : w.cell? ⟨m, 27, none⟩ = some (.int .u64 v.freed) := cellOf h 27
  have f27 : w.frozen? ⟨m, 27, none⟩ = false := freeOf h 27
  have e28 : w.cell? ⟨m, 28, none⟩ = some (.slice la ln lc) := (cellOf h 28).trans (by rw [← hl]; rfl)
  have f28 : w.frozen? ⟨m, 28, none⟩ = false := freeOf h 28
  have e29 : w.cell? ⟨m, 29, none⟩ = some (.slice ma mn mc) := (cellOf h 29).trans (by rw [← hm]; rfl)
  have f29 : w.frozen? ⟨m, 29, none⟩ = false := freeOf h 29
  have e30 : w.cell? ⟨m, 30, none⟩ = some (.int .i64 v.full) := cellOf h 30
  have f30 : w.frozen? ⟨m, 30, none⟩ = false := freeOf h 30
  have e24 : w.cell? ⟨m, 24, none⟩ = some (.int .i64 v.code) := cellOf h 24
  have f24 : w.frozen? ⟨m, 24, none⟩ = false := freeOf h 24
  have hW : ∀ w', w' = ((((((((((((((w.setCell ⟨m, 16, none⟩ (.int .i64 0)).setCell ⟨m, 17, none⟩ (.bool false)).setCell ⟨m, 19, none⟩ (.int .i64 0)).setCell ⟨m, 20, none⟩ (.int .i64 0)).setCell ⟨m, 21, none⟩ (.int .u64 0)).setCell ⟨m, 22, none⟩ (.int .u64 0)).setCell ⟨m, 23, none⟩ (.int .i64 (-1))).setCell ⟨m, 25, none⟩ (.int .i64 0)).setCell ⟨m, 26, none⟩ (.int .i64 0)).setCell ⟨m, 27, none⟩ (.int .u64 0)).setCell ⟨m, 28, none⟩ (.slice none 0 0)).setCell ⟨m, 29, none⟩ (.slice none 0 0)).setCell ⟨m, 30, none⟩ (.int .i64 0)).setCell ⟨m, 24, none⟩ (.int .i64 2)) → MAt w' m c v.fresh ∧ Kept (fun k => k = m) w w' := by
    rintro w' rfl
    refine ⟨?_, ((((((((((((((Kept.refl (fun k => k = m) w).setCell (p := ⟨m, 16, none⟩) (.inl rfl) _).setCell (p := ⟨m, 17, none⟩) (.inl rfl) _).setCell (p := ⟨m, 19, none⟩) (.inl rfl) _).setCell (p := ⟨m, 20, none⟩) (.inl rfl) _).setCell (p := ⟨m, 21, none⟩) (.inl rfl) _).setCell (p := ⟨m, 22, none⟩) (.inl rfl) _).setCell (p := ⟨m, 23, none⟩) (.inl rfl) _).setCell (p := ⟨m, 25, none⟩) (.inl rfl) _).setCell (p := ⟨m, 26, none⟩) (.inl rfl) _).setCell (p := ⟨m, 27, none⟩) (.inl rfl) _).setCell (p := ⟨m, 28, none⟩) (.inl rfl) _).setCell (p := ⟨m, 29, none⟩) (.inl rfl) _).setCell (p := ⟨m, 30, none⟩) (.inl rfl) _).setCell (p := ⟨m, 24, none⟩) (.inl rfl) _⟩
    have := block_set (block_set (block_set (block_set (block_set (block_set (block_set (block_set (block_set (block_set (block_set (block_set (block_set (block_set (h) 16 (.int .i64 0)) 17 (.bool false)) 19 (.int .i64 0)) 20 (.int .i64 0)) 21 (.int .u64 0)) 22 (.int .u64 0)) 23 (.int .i64 (-1))) 25 (.int .i64 0)) 26 (.int .i64 0)) 27 (.int .u64 0)) 28 (.slice none 0 0)) 29 (.slice none 0 0)) 30 (.int .i64 0)) 24 (.int .i64 2)
    simpa [MAt, MV.fresh] using this
  have HW := Lib.hid hW
  clear h hW
  generalize v.at' = y0 at e16
  generalize v.used = y1 at e17
  generalize v.d0 = y2 at e19
  generalize v.d1 = y3 at e20
  generalize v.d2 = y4 at e21
  generalize v.d3 = y5 at e22
  generalize v.got = y6 at e23
  generalize v.n = y7 at e25
  generalize v.gens = y8 at e26
  generalize v.freed = y9 at e27
  generalize v.full = y12 at e30
  generalize v.code = y13 at e24
  go_enter Tryz.func67, Tryz.ntmps67
  go_wp2
  go_end0
  exact ⟨rfl, HW.out _ rfl⟩
end
end Go.Proofs.YtffafkmmfaaobaaGreat

namespace Go.Proofs.YtffafkmmfaaobaaGreat
set_option linter.unusedSimpArgs false
set_option linter.unusedVariables false
open Go.RowKit

section
variable {w : World} {m : Nat} {c : MC} {v : MV}

set_option maxRecDepth 100000 in
set_option maxHeartbeats 1000000 in
theorem load_told (h : MAt w m c v) {B : Nat} {xs : List Int} (hl : LogRow w B v.log xs) (i : Nat) (hv : v.at' = i) (hi : i < xs.length) (hi2 : i < 1000000) (at' : Int) :
    Calls Tryz.prog 170 #[.pointer (some ⟨m, 0, none⟩), .int .i64 at'] w fun e w' => e = .returned (.tuple #[.int .u64 (xs.getD i 0), .bool true]) ∧ MAt w' m c { v with at' := (i : Int) + 1 } ∧ Kept (fun k => k = m) w w' := by
  have HT := Lib.hid (told_yes h hl i hv hi hi2)
  clear h hl hv
  generalize xs.getD i 0 = u at HT ⊢
  go_enter Tryz.func170, Tryz.ntmps170
  go_wp2_with (first | (go_at_call 175; refine HT.out.mono ?_; rintro e w1 ⟨rfl, hM, hK⟩; replace hM := Lib.hid hM))
  go_ret2
  exact ⟨rfl, hM.out, hK⟩

set_option maxRecDepth 100000 in
set_option maxHeartbeats 1000000 in
theorem put_told (h : MAt w m c v) {B : Nat} {xs : List Int} (hl : LogRow w B v.log xs) (i : Nat) (hv : v.at' = i) (hi : i < xs.length) (hi2 : i < 1000000) (at' d : Int) :
    Calls Tryz.prog 118 #[.pointer (some ⟨m, 0, none⟩), .int .i64 at', .int .u64 d] w fun e w' => e = .returned (.tuple #[.int .u64 (xs.getD i 0), .bool true]) ∧ MAt w' m c { v with at' := (i : Int) + 1 } ∧ Kept (fun k => k = m) w w' := by
  have HT := Lib.hid (told_yes h hl i hv hi hi2)
  clear h hl hv
  generalize xs.getD i 0 = u at HT ⊢
  go_enter Tryz.func118, Tryz.ntmps118
  go_wp2_with (first | (go_at_call 175; refine HT.out.mono ?_; rintro e w1 ⟨rfl, hM, hK⟩; replace hM := Lib.hid hM))
  go_ret2
  exact ⟨rfl, hM.out, hK⟩

set_option maxRecDepth 100000 in
set_option maxHeartbeats 1000000 in
theorem add_told (h : MAt w m c v) {B : Nat} {xs : List Int} (hl : LogRow w B v.log xs) (i : Nat) (hv : v.at' = i) (hi : i < xs.length) (hi2 : i < 1000000) (at' d : Int) :
    Calls Tryz.prog 184 #[.pointer (some ⟨m, 0, none⟩), .int .i64 at', .int .u64 d] w fun e w' => e = .returned (.tuple #[.int .u64 (xs.getD i 0), .bool true]) ∧ MAt w' m c { v with at' := (i : Int) + 1 } ∧ Kept (fun k => k = m) w w' := by
  have HT := Lib.hid (told_yes h hl i hv hi hi2)
  clear h hl hv
  generalize xs.getD i 0 = u at HT ⊢
  go_enter Tryz.func184, Tryz.ntmps184
  go_wp2_with (first | (go_at_call 175; refine HT.out.mono ?_; rintro e w1 ⟨rfl, hM, hK⟩; replace hM := Lib.hid hM))
  go_ret2
  exact ⟨rfl, hM.out, hK⟩

set_option maxRecDepth 100000 in
set_option maxHeartbeats 1000000 in
theorem load_used (h : MAt w m c v) {a : Option Addr} {n cap : Nat} (hl : v.log = .slice a n cap) (hat : ¬ v.at' < n) (hu : v.used = true) (at' : Int) :
    Calls Tryz.prog 170 #[.pointer (some ⟨m, 0, none⟩), .int .i64 at'] w fun e w' => e = .returned (.tuple #[.int .u64 0, .bool false]) ∧ MAt w' m c v ∧ Kept (fun k => k = m) w w' := by
  have HT := Lib.hid (told_no h hl hat)
  have HM := Lib.hid h
  clear h hl
  go_enter Tryz.func170, Tryz.ntmps170
  go_wp2_with (first
    | (go_at_call 175; refine HT.out.mono ?_; rintro e w1 ⟨rfl, hK⟩)
    | (go_at_call 176; refine (now_any (HM.out.kept hK (fun h => h))).mono ?_; rintro e w2 ⟨rfl, hM2, hK2⟩; rw [hu]; replace hM2 := Lib.hid hM2))
  go_ret2
  refine ⟨rfl, ?_, (hK.mono (fun _ h => h.elim)).trans hK2 (fun _ h => .inl h)⟩
  have := hM2.out
  rw [← hu] at this
  exact this

set_option maxRecDepth 100000 in
set_option maxHeartbeats 1000000 in
theorem put_used (h : MAt w m c v) {a : Option Addr} {n cap : Nat} (hl : v.log = .slice a n cap) (hat : ¬ v.at' < n) (hu : v.used = true) (at' d : Int) :
    Calls Tryz.prog 118 #[.pointer (some ⟨m, 0, none⟩), .int .i64 at', .int .u64 d] w fun e w' => e = .returned (.tuple #[.int .u64 0, .bool false]) ∧ MAt w' m c v ∧ Kept (fun k => k = m) w w' := by
  have HT := Lib.hid (told_no h hl hat)
  have HM := Lib.hid h
  clear h hl
  go_enter Tryz.func118, Tryz.ntmps118
  go_wp2_with (first
    | (go_at_call 175; refine HT.out.mono ?_; rintro e w1 ⟨rfl, hK⟩)
    | (go_at_call 176; refine (now_any (HM.out.kept hK (fun h => h))).mono ?_; rintro e w2 ⟨rfl, hM2, hK2⟩; rw [hu]; replace hM2 := Lib.hid hM2))
  go_ret2
  refine ⟨rfl, ?_, (hK.mono (fun _ h => h.elim)).trans hK2 (fun _ h => .inl h)⟩
  have := hM2.out
  rw [← hu] at this
  exact this

set_option maxRecDepth 100000 in
set_option maxHeartbeats 1000000 in
theorem add_used (h : MAt w m c v) {a : Option Addr} {n cap : Nat} (hl : v.log = .slice a n cap) (hat : ¬ v.at' < n) (hu : v.used = true) (at' d : Int) :
    Calls Tryz.prog 184 #[.pointer (some ⟨m, 0, none⟩), .int .i64 at', .int .u64 d] w fun e w' => e = .returned (.tuple #[.int .u64 0, .bool false]) ∧ MAt w' m c v ∧ Kept (fun k => k = m) w w' := by
  have HT := Lib.hid (told_no h hl hat)
  have HM := Lib.hid h
  clear h hl
  go_enter Tryz.func184, Tryz.ntmps184
  go_wp2_with (first
    | (go_at_call 175; refine HT.out.mono ?_; rintro e w1 ⟨rfl, hK⟩)
    | (go_at_call 176; refine (now_any (HM.out.kept hK (fun h => h))).mono ?_; rintro e w2 ⟨rfl, hM2, hK2⟩; rw [hu]; replace hM2 := Lib.hid hM2))
  go_ret2
  refine ⟨rfl, ?_, (hK.mono (fun _ h => h.elim)).trans hK2 (fun _ h => .inl h)⟩
  have := hM2.out
  rw [← hu] at this
  exact this

set_option maxRecDepth 100000 in
set_option maxHeartbeats 1000000 in
theorem cas_told (h : MAt w m c v) {B : Nat} {xs : List Int} (hl : LogRow w B v.log xs) (i : Nat) (hv : v.at' = i) (hi : i < xs.length) (hi2 : i < 1000000) (at' d1 d2 : Int) :
    Calls Tryz.prog 173 #[.pointer (some ⟨m, 0, none⟩), .int .i64 at', .int .u64 d1, .int .u64 d2] w fun e w' => e = .returned (.tuple #[.bool (decide (xs.getD i 0 = d1)), .bool true]) ∧ MAt w' m c { v with at' := (i : Int) + 1 } ∧ Kept (fun k => k = m) w w' := by
  have HT := Lib.hid (told_yes h hl i hv hi hi2)
  clear h hl hv
  generalize xs.getD i 0 = u at HT ⊢
  by_cases hu : u = d1
  · subst hu
    go_enter Tryz.func173, Tryz.ntmps173
    go_wp2_with (first | (go_at_call 175; refine HT.out.mono ?_; rintro e w1 ⟨rfl, hM, hK⟩; replace hM := Lib.hid hM))
    go_ret2
    exact ⟨by simp, hM.out, hK⟩
  · have hb : (u == d1) = false := by simpa using hu
    have hd : decide (u = d1) = false := by simpa using hu
    rw [hd]
    clear hd hu
    go_enter Tryz.func173, Tryz.ntmps173
    go_wp2_with (first | (go_at_call 175; refine HT.out.mono ?_; rintro e w1 ⟨rfl, hM, hK⟩; replace hM := Lib.hid hM))
    go_ret2
    exact ⟨rfl, hM.out, hK⟩

set_option maxRecDepth 100000 in
set_option maxHeartbeats 1000000 in
theorem cas_used (h : MAt w m c v) {a : Option Addr} {n cap : Nat} (hl : v.log = .slice a n cap) (hat : ¬ v.at' < n) (hu : v.used = true) (at' d1 d2 : Int) :
    Calls Tryz.prog 173 #[.pointer (some ⟨m, 0, none⟩), .int .i64 at', .int .u64 d1, .int .u64 d2] w fun e w' => e = .returned (.tuple #[.bool false, .bool false]) ∧ MAt w' m c v ∧ Kept (fun k => k = m) w w' := by
  have HT := Lib.hid (told_no h hl hat)
  have HM := Lib.hid h
  clear h hl
  go_enter Tryz.func173, Tryz.ntmps173
  go_wp2_with (first
    | (go_at_call 175; refine HT.out.mono ?_; rintro e w1 ⟨rfl, hK⟩)
    | (go_at_call 176; refine (now_any (HM.out.kept hK (fun h => h))).mono ?_; rintro e w2 ⟨rfl, hM2, hK2⟩; rw [hu]; replace hM2 := Lib.hid hM2))
  go_ret2
  refine ⟨rfl, ?_, (hK.mono (fun _ h => h.elim)).trans hK2 (fun _ h => .inl h)⟩
  have := hM2.out
  rw [← hu] at this
  exact this
end
end Go.Proofs.YtffafkmmfaaobaaGreat
