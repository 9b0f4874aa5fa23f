/- The runs in memory; key, place. -/
import Derived.Test.YtdeebagjmhpocaaK
import Derived.Test.YtdeebagjmhpocaaT8
import Derived.Test.YtdeebagjmhpocaaD
namespace Go.Proofs.Ytdeebagjmhpocaa
set_option linter.unusedSimpArgs false
set_option linter.unusedVariables false
open Go.RowKit

/-- Free runs, as they lie in memory: where, and what they hold. -/
structure RSt where
  q : Nat
  p : Nat
  dv : Value
  lv : Value
  pages : Int
  ds : List Int
  drawn : Nat
  t : T
  xs : List R2
  total : Int

structure RunsIs (w : World) (s : RSt) : Prop where
  obj : w.heap[s.q]? = some (.cells #[.int .i64 s.pages, s.dv, .int .i64 s.drawn, .pointer (some ⟨s.p, 0, none⟩), s.lv, .int .i64 s.total] 85 (0, 0))
  draws : w.ownsRow 0 95 1 s.dv s.ds.length (s.ds.map (.int .u32 ·))
  tree : TreapAt w s.p s.t
  list : w.ownsRow 0 77 2 s.lv s.xs.length (runCells s.xs)
  fits : ∀ (p : Nat) (x : R2), s.xs[p]? = some x → 0 ≤ x.1 ∧ x.1 ≤ 10000 ∧ 0 ≤ x.2 ∧ x.2 ≤ 10000
  few : s.xs.length ≤ 5000
  manyDraws : s.ds.length ≤ 100000
  drawnFits : s.drawn ≤ 1000000
  totalFits : 0 ≤ s.total ∧ s.total ≤ 1000000

/-- The blocks that a call on them may turn. -/
def RSt.fp (s : RSt) (k : Nat) : Prop := k = s.q ∨ k = s.p ∨ k ∈ s.t.blocks ∨ s.lv.ownBlock = some k

theorem ownsRow_type {w : World} {base : Nat} {e : TypeId} {size : Nat} {v : Value} {n : Nat} {xs : List Value} (h : w.ownsRow base e size v n xs) {k : Nat} (hk : v.ownBlock = some k) :
    ∃ cur, w.heap[k]? = some (.cells cur e (0, 0)) := by
  rcases h.2 with ⟨rfl, _⟩ | ⟨g, cap, cur, rfl, _, hg, _⟩
  · simp [Value.ownBlock] at hk
  · simp [Value.ownBlock] at hk; subst hk; exact ⟨cur, hg⟩
theorem T.In.type {w : World} : ∀ {t : T}, t.In w → ∀ k ∈ t.blocks, ∃ cs, w.heap[k]? = some (.cells cs 113 (0, 0))
  | .nil, _, k, hk => by simp [T.blocks] at hk
  | .node b x l r, h, k, hk => by
    simp only [T.blocks, List.mem_cons, List.mem_append] at hk
    rcases hk with rfl | hk | hk
    · exact ⟨_, h.1⟩
    · exact h.2.1.type k hk
    · exact h.2.2.type k hk
theorem type_ne {w : World} {a b : Nat} {ca cb : Array Value} {ta tb : TypeId} (ha : w.heap[a]? = some (.cells ca ta (0, 0))) (hb : w.heap[b]? = some (.cells cb tb (0, 0))) (h : ta ≠ tb) : a ≠ b := by
  rintro rfl
  rw [ha] at hb; simp at hb; exact h hb.2

/-- What a call keeps of them where it turns none of their blocks. -/
theorem ownsRow_kept {w w' : World} {F : Nat → Prop} {base : Nat} {e : TypeId} {size : Nat} {v : Value} {n : Nat} {xs : List Value} (h : w.ownsRow base e size v n xs) (hk : Kept F w w') (hn : ∀ k, v.ownBlock = some k → ¬ F k) : w'.ownsRow base e size v n xs := by
  refine ⟨h.1, ?_⟩
  rcases h.2 with hn' | ⟨g, cap, cur, rfl, hb, hg, rest⟩
  · exact .inl hn'
  · exact .inr ⟨g, cap, cur, rfl, hb, hk.at hg (hn g rfl), rest⟩
theorem TreapAt.kept {w w' : World} {F : Nat → Prop} {p : Nat} {t : T} (h : TreapAt w p t) (hk : Kept F w w') (hp : ¬ F p) (ht : ∀ k ∈ t.blocks, ¬ F k) : TreapAt w' p t := by
  obtain ⟨m, h1, h2, h3⟩ := h
  exact ⟨m, hk.at h1 hp, h2.kept hk ht, h3⟩
theorem RunsIs.kept {w w' : World} {F : Nat → Prop} {s : RSt} (h : RunsIs w s) (hk : Kept F w w') (hn : ∀ k, s.fp k ∨ s.dv.ownBlock = some k → ¬ F k) : RunsIs w' s :=
  { h with
    obj := hk.at h.obj (hn _ (.inl (.inl rfl)))
    draws := ownsRow_kept h.draws hk (fun k e => hn k (.inr e))
    tree := h.tree.kept hk (hn _ (.inl (.inr (.inl rfl)))) (fun k m => hn k (.inl (.inr (.inr (.inl m)))))
    list := ownsRow_kept h.list hk (fun k e => hn k (.inl (.inr (.inr (.inr e))))) }
theorem RunsIs.lt {w : World} {s : RSt} (h : RunsIs w s) : ∀ k, s.fp k ∨ s.dv.ownBlock = some k → k < w.heap.size := by
  intro k hk
  obtain ⟨m, h1, h2, h3⟩ := h.tree
  rcases hk with (rfl | rfl | hk | hk) | hk
  · exact lt_of_block h.obj
  · exact lt_of_block h1
  · exact h2.lt k hk
  · exact (h.list.lt k hk).2
  · exact (h.draws.lt k hk).2
theorem RunsIs.below {w w' : World} {s : RSt} (h : RunsIs w s) (hb : Below w.heap.size w w') : RunsIs w' s :=
  h.kept (Kept.of_below_size hb) (fun _ _ h => h.elim)

def keyOf (x : R2) : Int := 8192 * x.2 + x.1

set_option maxHeartbeats 1000000 in
theorem key_any (x : R2) (w : World) (h0 : 0 ≤ x.1) (h1 : x.1 ≤ 10000) (h2 : 0 ≤ x.2) (h3 : x.2 ≤ 10000) :
    Calls Try.prog 66 #[.agg #[.int .i64 x.1, .int .i64 x.2]] w fun e w' => e = .returned (.int .i64 (keyOf x)) ∧ Below w.heap.size w w' := by
  obtain ⟨p, n⟩ := x
  dsimp only at *
  go_enter Try.func66, Try.ntmps66
  go_wp2
  go_ret
  exact ⟨rfl, (Below.refl _ _).alloc (Nat.le_refl _) _⟩

set_option maxRecDepth 100000 in
set_option maxHeartbeats 1000000 in
theorem place_any (s : RSt) (k : Int) (i : Nat) (w : World) (h : RunsIs w s) (hp : Parts s.xs k i) :
    Calls Try.prog 68 #[.pointer (some ⟨s.q, 0, none⟩), .int .i64 k] w fun e w' => e = .returned (.int .i64 i) ∧ Below w.heap.size w w' := by
  have c4 : w.cell? ⟨s.q, 4, none⟩ = some s.lv := cellOf h.obj 4
  have F := Lib.hid (bsf_any s.xs s.lv k i w 0 s.xs.length rfl h.list (by have := h.few; omega) hp h.fits)
  clear h hp
  go_enter Try.func68, Try.ntmps68
  go_wp2_with fail
  refine F.out.mono ?_
  rintro e w' ⟨b, rfl, hb⟩
  clear c4
  go_wp2
  go_ret
  exact ⟨rfl, hb⟩

end Go.Proofs.Ytdeebagjmhpocaa
