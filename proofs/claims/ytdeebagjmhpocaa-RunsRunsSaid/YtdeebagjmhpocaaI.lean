/- Laws on copy and append at elements of more cells than one; slices.Insert. -/
import Derived.Test.YtdeebagjmhpocaaB
import Derived.Laws.CopyOwn
import Derived.Lib.Overlaps
import Derived.Deep.RegionHeld3
namespace Go.Proofs.Ytdeebagjmhpocaa
set_option linter.unusedSimpArgs false
set_option linter.unusedVariables false
open Go.RowKit

section
variable {P : Program} (w : World)
theorem run_copy2 (dT sT ty elem : TypeId) (size : Nat) (i : TypeInfo) (hu : P.underlying dT = some (.slice elem)) (hi : P.info? elem = some i) (hs : i.size = size)
    (g o dLen dCap : Nat) (a : Addr) (sLen sCap : Nat) (cur : Array Value) (t : TypeId) (cs : List Value)
    (hg : w.heap[g]? = some (.cells cur t (0, 0))) (hn : cs.length = Nat.min sLen dLen * size)
    (hsrc : ∀ j v, cs[j]? = some v → w.cell? (a.add j) = some v) (hfit : o + cs.length ≤ cur.size) (h1 : ∀ v ∈ cs, v.oneCell' = true) :
    (Builtin.copy_ #[dT, sT] ty #[.slice (some ⟨g, o, none⟩) dLen dCap, .slice (some a) sLen sCap]).run P w =
      .ok (goInt (Nat.min sLen dLen)) (w.setRow g (splice cur.toList o cs).toArray) := by
  subst hs
  have hl := run_firstCells_some (P := P) w i.size (Nat.min sLen dLen) a sLen sCap cs hn hsrc
  have hst := run_storeCells_at P g o t cs 0 cur w hg (by simpa using hfit) h1
  simp only [Nat.add_zero] at hst
  simp [Builtin.copy_, run_underlying hu, Builtin.lenOf, sizeOf, typeInfo, hi, hl, hst, splice]

theorem run_append_zeros (t tn ty e : TypeId) (i : TypeInfo) (z : Value) (ht : P.underlying t = some (.slice e)) (htn : P.underlying tn = some (.int .i64)) (hi : P.info? e = some i) (hz : i.zero = some z)
    (b : Addr) (sLen sCap : Nat) (olds : List Value) (hlo : olds.length = sLen * i.size) (holds : ∀ j v, olds[j]? = some v → w.cell? (b.add j) = some v)
    (k : Nat) (hk : 0 < k * i.size) (hk2 : (k : Int) * i.bytes ≤ 281474976710656) (hk3 : (k : Int) < 9223372036854775807)
    (hg : sCap < sLen + k) (h63 : ((sLen + k : Nat) : Int) ≤ 9223372036854775807) (hfit : Builtin.nextslicecap (sLen + k) sCap * i.bytes ≤ 281474976710656) :
    (Builtin.append_ #[t, tn] ty #[.slice (some b) sLen sCap, .int .i64 k]).run P w =
      .ok (.slice (some ⟨w.heap.size, 0, none⟩) (sLen + k) (grownCap w (sLen + k) sCap e))
        (w.drew.alloc (.cells (olds.toArray ++ Builtin.zeroCells z.cells k ++ Builtin.zeroCells z.cells (grownCap w (sLen + k) sCap e - (sLen + k))) e)) := by
  have hn : ¬ (sLen + k ≤ sCap) := by omega
  have h63' : ¬ (9223372036854775807 < ((sLen : Int) + (k : Int))) := by omega
  have h48' : ¬ (281474976710656 < Builtin.nextslicecap (sLen + k) sCap * i.bytes) := by omega
  have hw : IntKind.i64.wrap (k : Int) = k := IntWalk.i64_in _ (by omega)
  have hk2' : ¬ (281474976710656 < (k : Int) * (i.bytes : Int)) := by omega
  have hk0 : ¬ ((k : Int) < 0) := by omega
  have hz0 : ¬ (k * i.size = 0) := by omega
  have hz0' : ¬ (k = 0 ∨ i.size = 0) := by rw [← Nat.mul_eq_zero]; exact hz0
  have hfo := run_firstCells_some (P := P) w.drew i.size sLen b sLen sCap olds hlo (by simpa using holds)
  simp [Builtin.append_, run_underlying ht, run_underlying htn, sizeOf, typeInfo, zeroValue, hi, hz, asInt, asIntOf, hw, hk0, hk2', hz0', hn, h63', h48', Question.forced, hfo, newRow, grownCap]
  intro h; exact absurd h hz0
end

theorem splice_get {α : Type} (L : List α) (off : Nat) (cs : List α) (h : off ≤ L.length) (j : Nat) :
    (splice L off cs)[j]? = if j < off then L[j]? else if j < off + cs.length then cs[j - off]? else L[j]? := by
  unfold splice
  rw [List.getElem?_append, List.length_take, Nat.min_eq_left h]
  split
  · rw [List.getElem?_take]; simp [*]
  · rw [List.getElem?_append]
    split
    · rw [if_pos (by omega)]
    · rw [if_neg (by omega), List.getElem?_drop]
      congr 1; omega

theorem insert_room {α : Type} (L A X B : List α) (a x b : Nat) (hA : A.length = a) (hX : X.length = x) (hB : B.length = b) (hL : L.take (a + b) = A ++ B) (hlen : a + x + b ≤ L.length) :
    (splice (splice L (a + x) B) a X).take (a + x + b) = A ++ (X ++ B) := by
  apply List.ext_getElem?
  intro j
  have hl1 : (splice L (a + x) B).length = L.length := length_splice _ _ _ (by omega)
  have hg : ∀ j, j < a → L[j]? = A[j]? := fun j hj => by
    have := congrArg (fun l => l[j]?) hL
    simp only [List.getElem?_take, List.getElem?_append] at this
    rw [if_pos (by omega), if_pos (by omega)] at this
    exact this
  rw [List.getElem?_take, List.getElem?_append, List.getElem?_append]
  subst hA hX hB
  by_cases h1 : j < A.length
  · rw [if_pos (by omega), if_pos h1, splice_get _ _ _ (by omega), if_pos h1, splice_get _ _ _ (by omega), if_pos (by omega), hg j h1]
  · rw [if_neg h1]
    by_cases h2 : j < A.length + X.length
    · rw [if_pos (by omega), if_pos (by omega), splice_get _ _ _ (by omega), if_neg h1, if_pos h2]
    · by_cases h3 : j < A.length + X.length + B.length
      · rw [if_pos h3, if_neg (by omega), splice_get _ _ _ (by omega), if_neg h1, if_neg h2, splice_get _ _ _ (by omega), if_neg h2, if_pos h3]
        congr 1; omega
      · rw [if_neg h3, if_neg (by omega), List.getElem?_eq_none (by omega)]

theorem insert_grow {α : Type} (Z A X B : List α) (a x b : Nat) (hA : A.length = a) (hX : X.length = x) (hB : B.length = b) (hZ : Z.take a = A) (hlen : a + x + b ≤ Z.length) :
    (splice (splice Z a X) (a + x) B).take (a + x + b) = A ++ (X ++ B) := by
  apply List.ext_getElem?
  intro j
  have hl1 : (splice Z a X).length = Z.length := length_splice _ _ _ (by omega)
  have hg : ∀ j, j < a → Z[j]? = A[j]? := fun j hj => by
    have := congrArg (fun l => l[j]?) hZ
    simp only [List.getElem?_take] at this
    rw [if_pos hj] at this
    exact this
  rw [List.getElem?_take, List.getElem?_append, List.getElem?_append]
  subst hA hX hB
  by_cases h1 : j < A.length
  · rw [if_pos (by omega), if_pos h1, splice_get _ _ _ (by omega), if_pos (by omega), splice_get _ _ _ (by omega), if_pos h1, hg j h1]
  · rw [if_neg h1]
    by_cases h2 : j < A.length + X.length
    · rw [if_pos (by omega), if_pos (by omega), splice_get _ _ _ (by omega), if_pos h2, splice_get _ _ _ (by omega), if_neg h1, if_pos h2]
    · by_cases h3 : j < A.length + X.length + B.length
      · rw [if_pos h3, if_neg (by omega), splice_get _ _ _ (by omega), if_neg h2, if_pos h3]
        congr 1; omega
      · rw [if_neg h3, if_neg (by omega), List.getElem?_eq_none (by omega)]

section
variable {P : Program} {w w' : World} {o : Oper} {a : Act} {Q : Exit → Act → World → Prop}
theorem wp_append_run' {K : Act → World → Prop} (s x : Operand) (t tx : TypeId)
    (ho : o.op = .call { callee := .builtin .append, args := #[s, x], argTypes := #[t, tx] }) {v u v' : Value} (hs : a.eval s = v) (hx : a.eval x = u)
    (hr : (Builtin.append_ #[t, tx] o.type #[v, u]).run P w = .ok v' w') (h : K (a.put o.dst v') w') : o.wp P a w K Q := by
  unfold Oper.wp execOp
  simp only [ho, resolve, invoke, builtin, Sem.run_bind, Sem.run_pure, Result.andThen_ok, List.map_toArray, List.map_cons, List.map_nil, hs, hx, hr]
  exact h
theorem wp_copy_run {K : Act → World → Prop} (s x : Operand) (t tx : TypeId)
    (ho : o.op = .call { callee := .builtin .copy, args := #[s, x], argTypes := #[t, tx] }) {v u v' : Value} (hs : a.eval s = v) (hx : a.eval x = u)
    (hr : (Builtin.copy_ #[t, tx] o.type #[v, u]).run P w = .ok v' w') (h : K (a.put o.dst v') w') : o.wp P a w K Q := by
  unfold Oper.wp execOp
  simp only [ho, resolve, invoke, builtin, Sem.run_bind, Sem.run_pure, Result.andThen_ok, List.map_toArray, List.map_cons, List.map_nil, hs, hx, hr]
  exact h
theorem wpList_append_run' {ops : Array Oper} {rest : List Oper} (hgd : o.guard = none) (s x : Operand) (t tx : TypeId)
    (ho : o.op = .call { callee := .builtin .append, args := #[s, x], argTypes := #[t, tx] }) {v u v' : Value} (hs : a.eval s = v) (hx : a.eval x = u)
    (hr : (Builtin.append_ #[t, tx] o.type #[v, u]).run P w = .ok v' w') (h : wpList P ops Q rest (a.put o.dst v') w') : wpList P ops Q (o :: rest) a w :=
  wpList_plain hgd fun _ hK => wp_append_run' s x t tx ho hs hx hr (hK _ _ h)
theorem wpList_copy_run {ops : Array Oper} {rest : List Oper} (hgd : o.guard = none) (s x : Operand) (t tx : TypeId)
    (ho : o.op = .call { callee := .builtin .copy, args := #[s, x], argTypes := #[t, tx] }) {v u v' : Value} (hs : a.eval s = v) (hx : a.eval x = u)
    (hr : (Builtin.copy_ #[t, tx] o.type #[v, u]).run P w = .ok v' w') (h : wpList P ops Q rest (a.put o.dst v') w') : wpList P ops Q (o :: rest) a w :=
  wpList_plain hgd fun _ hK => wp_copy_run s x t tx ho hs hx hr (hK _ _ h)
theorem step_copy_run {ops : Array Oper} {K : Act → World → Prop} {E : Prop} (hgd : o.guard = none) (s x : Operand) (t tx : TypeId)
    (ho : o.op = .call { callee := .builtin .copy, args := #[s, x], argTypes := #[t, tx] }) {v u v' : Value} (hs : a.eval s = v) (hx : a.eval x = u)
    (hr : (Builtin.copy_ #[t, tx] o.type #[v, u]).run P w = .ok v' w') (h : K (a.put o.dst v') w') : if Region.wanted o (yielded ops a.tmps) = true then Oper.wp P o a w K Q else E := by
  rw [if_pos (by simp [Region.wanted, hgd])]
  exact wp_copy_run s x t tx ho hs hx hr h
theorem step_append_run {ops : Array Oper} {K : Act → World → Prop} {E : Prop} (hgd : o.guard = none) (s x : Operand) (t tx : TypeId)
    (ho : o.op = .call { callee := .builtin .append, args := #[s, x], argTypes := #[t, tx] }) {v u v' : Value} (hs : a.eval s = v) (hx : a.eval x = u)
    (hr : (Builtin.append_ #[t, tx] o.type #[v, u]).run P w = .ok v' w') (h : K (a.put o.dst v') w') : if Region.wanted o (yielded ops a.tmps) = true then Oper.wp P o a w K Q else E := by
  rw [if_pos (by simp [Region.wanted, hgd])]
  exact wp_append_run' s x t tx ho hs hx hr h
end

end Go.Proofs.Ytdeebagjmhpocaa
