/- The tree's nodes from the root on: the iterator. -/
import Derived.Test.YtdeebagjmhpocaaT8
import Derived.RangeFuncNested
import Derived.RangeFuncBound
import Derived.RangeFuncCalls
import Derived.RangeFuncLeaves
import Derived.RangeFuncFrom
import Derived.RangeFuncBox
import Derived.Shelf.Abstract
import Derived.Shelf.RegionOpen
import Derived.OwnWalkIn
import Derived.TacticsInMore
import Derived.LoopNIn
import Derived.LoopIn
import Derived.Maps.AppendAt
namespace Go.Proofs.Ytdeebagjmhpocaa
set_option linter.unusedSimpArgs false
set_option linter.unusedVariables false
open Go.RowKit Go.Shelf
attribute [local go_sem] Oper.semAt_some

theorem room_of_none {F : Fence} (hd : F.depth = none) (k : Nat) : F.room k := fun d h => by rw [hd] at h; cases h
theorem roundAnyDepth {F : Fence} (hd : F.depth = none) {m m' : Nat} {P : Program} {l : Nat} {f : FuncId} {tmps : Array Value} {assign body : Code} {w : World} {R : Ending → World → Prop}
    (h : RoundIn F m P l f tmps assign body w R) : RoundIn F m' P l f tmps assign body w R := ⟨h.1, fun c cs _ => h.2 c cs (room_of_none hd _)⟩
theorem yieldAnyDepth {F : Fence} (hd : F.depth = none) {m : Nat} (m' : Nat) {P : Program} {l : Nat} {args : Array Value} {W : World} {R : Ending → World → Prop} (h : YieldAt F m P l args W R) : YieldAt F m' P l args W R := by
  obtain ⟨fn, tmps, assign, body, hy, hR⟩ := h
  exact ⟨fn, tmps, assign, body, hy, roundAnyDepth hd hR⟩

/-- The nodes from the root on: block, key, how many stand above. -/
def preT (d : Int) : T → List (Nat × Int × Int)
  | .nil => []
  | .node b x l r => (b, x.key, d) :: (preT (d + 1) l ++ preT (d + 1) r)
theorem preT_length : ∀ (t : T) (d : Int), (preT d t).length = t.high
  | .nil, _ => rfl
  | .node b x l r, d => by simp [preT, T.high, preT_length l, preT_length r]

/-- A node of the world w: its block, its key, a number. -/
abbrev At (w : World) := { x : Nat × Int × Int // w.cell? ⟨x.1, 0, none⟩ = some (.int .i64 x.2.1) ∧ x.1 < w.heap.size }
def encN {w : World} (x : At w) : Array Value := #[.pointer (some ⟨x.1.1, 0, none⟩), .int .i64 x.1.2.2]

theorem T.In.below {w W : World} {t : T} (h : t.In w) (hb : Below w.heap.size w W) : t.In W := h.congr fun k hk => hb.block k (h.lt k hk)

set_option maxRecDepth 100000 in
set_option maxHeartbeats 2000000 in
theorem below_in (F : Fence) (hd : F.depth = none) (h79 : F.fn 79) (hro : F.round = none) (w : World) (l N : Nat) (J Jx : List (At w) → World → Prop)
    (hY : ∀ m pre x W, J pre W → pre.length < N → YieldAt F m Try.prog l (encN x) W fun e W' =>
      (e = .returned (.bool true) ∧ J (pre ++ [x]) W' ∧ Below w.heap.size W W') ∨ (e = .returned (.bool false) ∧ Jx (pre ++ [x]) W')) (t : T) :
    ∀ (n : Nat) (d : Int) (pre : List (At w)) (W : World), t.In w → Below w.heap.size w W → J pre W → pre.length + t.high ≤ N → 0 ≤ d → d + t.high ≤ 1000000 →
      CallsIn F n Try.prog 79 #[t.ptr, .int .i64 d, .func (.yield l) #[] #[]] W fun e W' =>
        (e = .returned (.bool true) ∧ (∃ xs : List (At w), xs.map (·.1) = preT d t ∧ J (pre ++ xs) W') ∧ Below w.heap.size W W') ∨
        (e = .returned (.bool false) ∧ ∃ q : List (At w), Jx (pre ++ q) W') := by
  induction t with
  | nil =>
    intro n d pre W ht hb hJ _ _ _
    rw [T.ptr_nil]
    refine callsIn_of_wp Try.func79 rfl h79 ?_ hro
    simp only [Try.ntmps79, List.size_toArray, List.length_cons, List.length_nil, Nat.reduceAdd, Nat.reduceSub, Array.replicate_succ, Array.replicate_zero, List.push_toArray, List.append_toArray, List.nil_append, List.cons_append]
    gi_wp2_with fail
    refine ⟨fun _ h => (by cases h), ?_⟩
    gi_wp2_with fail
    · rename_i b hh hb; cases hh
    · rename_i b hh hb; cases hh
    · go_ret
      exact .inl ⟨rfl, ⟨[], rfl, by simpa using hJ⟩, Below.refl _ _⟩
  | node b x tl tr ihl ihr =>
    intro n d pre W ht hb hJ hN hd0 hd1
    have hdd : ∀ k : Nat, (F.depth.isSome = true → 1 ≤ k) := fun k h => by rw [hd] at h; cases h
    simp only [T.high] at hN hd1
    rw [T.ptr_node]
    have hblt := lt_of_block ht.1
    have c4 : w.cell? ⟨b, 4, none⟩ = some tl.ptr := cellOf ht.1 4
    have c5 : w.cell? ⟨b, 5, none⟩ = some tr.ptr := cellOf ht.1 5
    have ih2 : ∀ (xs : List (At w)) W2, xs.map (·.1) = preT (d + 1) tl → J (pre ++ [⟨(b, x.key, d), cellOf ht.1 0, hblt⟩] ++ xs) W2 → Below w.heap.size W W2 →
        CallsIn F (n - 1) Try.prog 79 #[tr.ptr, .int .i64 (d + 1), .func (.yield l) #[] #[]] W2 fun e W' =>
          (e = .returned (.bool true) ∧ (∃ xs : List (At w), xs.map (·.1) = preT d (.node b x tl tr) ∧ J (pre ++ xs) W') ∧ Below w.heap.size W W') ∨
          (e = .returned (.bool false) ∧ ∃ q : List (At w), Jx (pre ++ q) W') := fun xs W2 hxs hJ2 hb2 => by
      have hlen : xs.length = tl.high := by rw [← preT_length tl (d + 1), ← hxs, List.length_map]
      refine (ihr (n - 1) (d + 1) _ W2 ht.2.2 (hb.trans hb2) hJ2 (by simp [hlen]; omega) (by omega) (by omega)).mono ?_
      rintro e W' (⟨he, ⟨ys, hys, hJ'⟩, hb'⟩ | ⟨he, q, hq⟩)
      · exact .inl ⟨he, ⟨⟨(b, x.key, d), cellOf ht.1 0, hblt⟩ :: (xs ++ ys), by simp [preT, hxs, hys], by simpa [List.append_assoc] using hJ'⟩, hb2.trans hb'⟩
      · exact .inr ⟨he, _, by rw [List.append_assoc, List.append_assoc] at hq; exact hq⟩
    have ih1 : ∀ W1, J (pre ++ [⟨(b, x.key, d), cellOf ht.1 0, hblt⟩]) W1 → Below w.heap.size W W1 →
        CallsIn F (n - 1) Try.prog 79 #[tl.ptr, .int .i64 (d + 1), .func (.yield l) #[] #[]] W1 fun e W2 =>
          (e = .returned (.bool true) ∧ W2.cell? ⟨b, 5, none⟩ = some tr.ptr ∧ CallsIn F (n - 1) Try.prog 79 #[tr.ptr, .int .i64 (d + 1), .func (.yield l) #[] #[]] W2 fun e W' =>
            (e = .returned (.bool true) ∧ (∃ xs : List (At w), xs.map (·.1) = preT d (.node b x tl tr) ∧ J (pre ++ xs) W') ∧ Below w.heap.size W W') ∨
            (e = .returned (.bool false) ∧ ∃ q : List (At w), Jx (pre ++ q) W')) ∨
          (e = .returned (.bool false) ∧ ∃ q : List (At w), Jx (pre ++ q) W2) := fun W1 hJ1 hb1 => by
      refine (ihl (n - 1) (d + 1) _ W1 ht.2.1 (hb.trans hb1) hJ1 (by simp; omega) (by omega) (by omega)).mono ?_
      rintro e W2 (⟨he, ⟨xs, hxs, hJ2⟩, hb2⟩ | ⟨he, q, hq⟩)
      · exact .inl ⟨he, ((hb.trans (hb1.trans hb2)).cell (p := ⟨b, 5, none⟩) hblt).trans c5, ih2 xs W2 hxs hJ2 (hb1.trans hb2)⟩
      · exact .inr ⟨he, _, by rw [List.append_assoc] at hq; exact hq⟩
    have ih0 := YieldAt.mono (R' := fun e W1 => (e = .returned (.bool true) ∧ W1.cell? ⟨b, 4, none⟩ = some tl.ptr ∧
        CallsIn F (n - 1) Try.prog 79 #[tl.ptr, .int .i64 (d + 1), .func (.yield l) #[] #[]] W1 fun e W2 =>
          (e = .returned (.bool true) ∧ W2.cell? ⟨b, 5, none⟩ = some tr.ptr ∧ CallsIn F (n - 1) Try.prog 79 #[tr.ptr, .int .i64 (d + 1), .func (.yield l) #[] #[]] W2 fun e W' =>
            (e = .returned (.bool true) ∧ (∃ xs : List (At w), xs.map (·.1) = preT d (.node b x tl tr) ∧ J (pre ++ xs) W') ∧ Below w.heap.size W W') ∨
            (e = .returned (.bool false) ∧ ∃ q : List (At w), Jx (pre ++ q) W')) ∨
          (e = .returned (.bool false) ∧ ∃ q : List (At w), Jx (pre ++ q) W2)) ∨ (e = .returned (.bool false) ∧ ∃ q : List (At w), Jx (pre ++ q) W1))
      (hY (n - 1) pre ⟨(b, x.key, d), cellOf ht.1 0, hblt⟩ W hJ (by omega)) (fun e W1 h => h.elim
        (fun ⟨he, hj, hb1⟩ => .inl ⟨he, ((hb.trans hb1).cell (p := ⟨b, 4, none⟩) hblt).trans c4, ih1 W1 hj hb1⟩) (fun ⟨he, hj⟩ => .inr ⟨he, _, hj⟩))
    clear ih1 ih2 ihl ihr hY c4 c5
    obtain ⟨fn, tmps, assign, body, hy, hR⟩ := ih0
    dsimp only [encN] at hy
    have Hb := Lib.hid (And.intro hb ht)
    clear hb ht hJ
    refine callsIn_of_wp Try.func79 rfl h79 ?_ hro
    simp only [Try.ntmps79, List.size_toArray, List.length_cons, List.length_nil, Nat.reduceAdd, Nat.reduceSub, Array.replicate_succ, Array.replicate_zero, List.push_toArray, List.append_toArray, List.nil_append, List.cons_append]
    gi_wp2_with (first
      | ((try refine ⟨hdd _, ?_⟩); refine hR.mono ?_; clear hR; rintro e W1 (⟨rfl, c4', hA⟩ | ⟨rfl, hx1⟩))
      | ((try refine ⟨hdd _, ?_⟩); gi_at_call 79; refine hA.mono ?_; clear hA; rintro e W2 (⟨rfl, c5', hB⟩ | ⟨rfl, hx2⟩))
      | ((try refine ⟨hdd _, ?_⟩); gi_at_call 79; refine hB.mono ?_; clear hB; rintro e W3 (⟨rfl, hJ3, hb3⟩ | ⟨rfl, hx3⟩)))
    · go_ret
      obtain ⟨hb, ht⟩ := Hb.out
      exact .inl ⟨rfl, hJ3, hb3⟩
    all_goals go_ret
    all_goals first | exact .inr ⟨rfl, hx3⟩ | exact .inr ⟨rfl, hx2⟩ | exact .inr ⟨rfl, hx1⟩

set_option maxHeartbeats 1000000 in
theorem down1_in (F : Fence) (hd : F.depth = none) (n : Nat) (h78 : F.fn 78) (h79 : F.fn 79) (hro : F.round = none) (w : World) (l Bt : Nat) (t : T) (J Jx : List (At w) → World → Prop)
    (hY : ∀ pre x W, J pre W → pre.length < t.high → YieldAt F (n - 1) Try.prog l (encN x) W fun e W' =>
      (e = .returned (.bool true) ∧ J (pre ++ [x]) W' ∧ Below w.heap.size W W') ∨ (e = .returned (.bool false) ∧ Jx (pre ++ [x]) W'))
    (W : World) (hBt : W.cell? ⟨Bt, 0, none⟩ = some t.ptr) (ht : t.In w) (hb : Below w.heap.size w W) (hN : t.high ≤ 1000000) (h0 : J [] W) :
    CallsIn F n Try.prog 78 #[.func (.yield l) #[] #[], .pointer (some ⟨Bt, 0, none⟩)] W fun e W' => (∃ v, e = .returned v) ∧
      ((∃ xs : List (At w), xs.map (·.1) = preT 0 t ∧ J xs W') ∨ (∃ q : List (At w), True ∧ Jx q W')) := by
  have hdd : ∀ k : Nat, (F.depth.isSome = true → 1 ≤ k) := fun k h => by rw [hd] at h; cases h
  have hp := below_in F hd h79 hro w l t.high J Jx (fun m pre x W hj hl => yieldAnyDepth hd m (hY pre x W hj hl)) t (n - 1) 0 [] W ht hb h0 (by simp) (by omega) (by omega)
  obtain ⟨u, hu⟩ := T.ptr_pointer t
  rw [hu] at hp hBt
  clear hu hY
  refine callsIn_of_wp Try.func78 rfl h78 ?_ hro
  simp only [Try.ntmps78, List.size_toArray, List.length_cons, List.length_nil, Nat.reduceAdd, Nat.reduceSub, Array.replicate_succ, Array.replicate_zero, List.push_toArray, List.append_toArray, List.nil_append, List.cons_append]
  gi_wp2_with ((try refine ⟨hdd _, ?_⟩); gi_at_call 79; refine hp.mono ?_; clear hp; rintro e W1 (⟨rfl, ⟨xs, hxs, hJ1⟩, _⟩ | ⟨rfl, q, hq⟩))
  · go_end0
    exact ⟨⟨_, rfl⟩, .inl ⟨xs, hxs, by simpa using hJ1⟩⟩
  · go_end0
    exact ⟨⟨_, rfl⟩, .inr ⟨q, trivial, by simpa using hq⟩⟩

set_option maxHeartbeats 1000000 in
theorem down_in (F : Fence) (n : Nat) (h63 : F.fn 63) (hro : F.round = none) (p0 : Option Addr) (w : World) :
    CallsIn F n Try.prog 63 #[.pointer p0] w fun e w' => e = .returned (.func (.func 78) #[] #[.pointer (some ⟨w.heap.size, 0, none⟩)]) ∧ w' = w.alloc (.cells #[.pointer p0] 108) := by
  refine callsIn_of_wp Try.func63 rfl h63 ?_ hro
  simp only [Try.ntmps63, List.size_toArray, List.length_cons, List.length_nil, Nat.reduceAdd, Nat.reduceSub, Array.replicate_succ, Array.replicate_zero, List.push_toArray, List.append_toArray, List.nil_append, List.cons_append]
  gi_wp2
  go_ret
  exact ⟨rfl, rfl⟩

theorem T.In.at {w W : World} {t : T} (h : t.In w) (hb : Below w.heap.size w W) : t.In W := h.below hb

/-- What down hands back gives all nodes of the tree: w0: the world that holds it; the loop may begin later. -/
theorem down_stops (F : Fence) (hd : F.depth = none) (n : Nat) (h78 : F.fn 78) (h79 : F.fn 79) (hro : F.round = none) (Bt : Nat) (t : T) (w0 w : World) (hw : Below w0.heap.size w0 w) (hBt : Bt < w.heap.size)
    (hc : w.cell? ⟨Bt, 0, none⟩ = some t.ptr) (ht : t.In w0) (hN : t.high ≤ 1000000) :
    SeqStopsK F n Try.prog 78 #[.pointer (some ⟨Bt, 0, none⟩)] (encN (w := w0)) (Below w0.heap.size) (fun xs => xs.map (·.1) = preT 0 t) (fun _ => True) t.high w := fun l J Jx W hW _ _ hY h0 =>
  down1_in F hd n h78 h79 hro w0 l Bt t J Jx hY W ((hW.cell (p := ⟨Bt, 0, none⟩) hBt).trans hc) ht (hw.trans (hW.mono (hw.size))) hN h0

end Go.Proofs.Ytdeebagjmhpocaa
