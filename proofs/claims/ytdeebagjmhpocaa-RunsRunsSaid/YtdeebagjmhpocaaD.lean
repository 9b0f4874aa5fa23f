/- A region that draws its order, and ends in a store that may turn what was read: what is held of the world need not hold behind that last operation. -/
import Derived.Test.YtdeebagjmhpocaaM
import Derived.StillTail
import Derived.Deep.RegionHeld
namespace Go.Proofs.Ytdeebagjmhpocaa
set_option linter.unusedSimpArgs false
set_option linter.unusedVariables false
open Go.RowKit

section
variable {P : Program} {ops : Array Oper} {Q : Exit → Act → World → Prop} {md : Region.Mode}

/-- Whatever order is picked: behind each operation but the k-th one S is shown anew. -/
def DrawnTo (P : Program) (md : Region.Mode) (ops : Array Oper) (Q : Exit → Act → World → Prop) (k : Nat) (S : World → Prop) : Nat → Array Bool → Act → World → Prop
  | 0, seen, a, w => Region.ready md ops seen = [] ∧ Q .normal a w
  | m + 1, seen, a, w => (Region.ready md ops seen = [] → Q .normal a w) ∧
      ∀ i ∈ Region.ready md ops seen, wpOp P ops Q i (fun a' w' => (i ≠ k → S w') ∧ DrawnTo P md ops Q k S m (seen.setIfInBounds i true) a' w') a w

theorem DrawnTo.any {k : Nat} {S : World → Prop} : ∀ (m : Nat) (seen : Array Bool) (a : Act) (w : World), DrawnTo P md ops Q k S m seen a w → wpAny P md ops Q m seen a w
  | 0, _, _, _, h => h
  | m + 1, _, _, _, h => ⟨h.1, fun i hi => wpOp_mono (fun a' w' h' => DrawnTo.any m _ a' w' h'.2) (h.2 i hi)⟩

theorem not_ready_of_waits {i k : Nat} {seen : Array Bool} (hw : Region.waitsFor md ops k i = true) (hi : i ∈ Region.ready md ops seen) : k ∉ Region.ready md ops seen := by
  intro hk
  obtain ⟨ok, hok, e, he, hb, heq⟩ := Region.waitsFor_spec hw
  obtain ⟨_, o, ho, hall⟩ := mem_ready.1 hk
  rw [hok] at ho; cases ho
  have h1 := hall e he hb
  have h0 := (mem_ready.1 hi).1
  rw [heq] at h1
  rcases Nat.lt_or_ge i seen.size with h' | h'
  · simp [h'] at h0 h1; rw [h0] at h1; cases h1
  · simp [Array.getElem?_eq_none h'] at h1

theorem DrawnTo.first {k i : Nat} {S : World → Prop} {oi : Oper} {v : Value} (hi : ops[i]? = some oi) (hsel : ∀ (j : Nat) (o : Oper) cs b, ops[j]? = some o → o.op ≠ .select cs b)
    (hQ : ∀ c a w, Q (.panic c) (a.put oi.dst v) w → Q (.panic c) a w) (hw : Region.waitsFor md ops k i = true) :
    ∀ (m : Nat) (seen : Array Bool) (a : Act) (w : World),
      (∀ j oj, ops[j]? = some oj → j ≠ i → seen.getD j true = false → (∀ e ∈ oj.after, Region.binds md e = true → e.on ≠ i) → oi.apart ops oj = true) →
      i ∈ Region.ready md ops seen → YieldsIf P ops S oi v a → S w →
      DrawnTo P md ops Q k S m (seen.setIfInBounds i true) (a.put oi.dst v) w → DrawnTo P md ops Q k S (m + 1) seen a w := by
  intro m
  induction m with
  | zero =>
    intro seen a w _ hr hy hS H
    refine ⟨fun h => (by rw [h] at hr; cases hr), fun j hj => ?_⟩
    by_cases hji : j = i
    · subst hji; exact hy.wpOp hi hS ⟨fun _ => hS, H⟩
    · have := ready_mono hj hji
      rw [H.1] at this
      cases this
  | succ m ih =>
    intro seen a w hfree hr hy hS H
    refine ⟨fun h => (by rw [h] at hr; cases hr), fun j hj => ?_⟩
    by_cases hji : j = i
    · subst hji; exact hy.wpOp hi hS ⟨fun _ => hS, H⟩
    · have hjk : j ≠ k := fun e => not_ready_of_waits hw hr (e ▸ hj)
      have h1 := H.2 j (ready_mono hj hji)
      obtain ⟨hjun, oj, hoj, hall⟩ := mem_ready.1 hj
      have hnot : ∀ e ∈ oj.after, Region.binds md e = true → e.on ≠ i := fun e he hb heq => by
        have h2 := hall e he hb
        have h0 := (mem_ready.1 hr).1
        rw [heq] at h2
        rcases Nat.lt_or_ge i seen.size with h' | h'
        · simp [h'] at h0 h2; rw [h0] at h2; cases h2
        · simp [Array.getElem?_eq_none h'] at h2
      have h2 := wpOp_putIf hoj (hfree j oj hoj hji hjun hnot) (fun cs b => hsel i oi cs b hi) (fun cs b => hsel j oj cs b hoj) hQ hy h1
      refine wpOp_mono (fun a' w' h3 => ⟨fun _ => h3.2.1 hjk, ih (seen.setIfInBounds j true) a' w' ?_ (ready_mono hr (Ne.symm hji)) h3.1 (h3.2.1 hjk) ?_⟩) h2
      · intro q oq hq hqi hun hno
        refine hfree q oq hq hqi ?_ hno
        by_cases hjq : j = q
        · subst hjq; exact hjun
        · rw [getD_set_ne true hjq] at hun; exact hun
      · rw [Array.setIfInBounds_comm _ _ hji]
        exact h3.2.2

theorem DrawnTo.take {k i : Nat} {oi : Oper} {v : Value} {m : Nat} {seen : Array Bool} {a : Act} {w : World} {S : World → Prop} (hi : ops[i]? = some oi)
    (hs : Region.noSelect ops = true) (hf : Region.free md ops seen i = true) (hr : (Region.ready md ops seen).contains i = true) (hw : Region.waitsFor md ops k i = true)
    (hQ : ∀ c a w, Q (.panic c) (a.put oi.dst v) w → Q (.panic c) a w) (hS : S w) (hy : YieldsIf P ops S oi v a)
    (h : DrawnTo P md ops Q k S m (seen.setIfInBounds i true) (a.put oi.dst v) w) : DrawnTo P md ops Q k S (m + 1) seen a w :=
  DrawnTo.first hi (Region.noSelect_spec hs) hQ hw m seen a w (Region.free_spec hi hf) (by simpa using hr) hy hS h

theorem DrawnTo.done {k : Nat} {seen : Array Bool} {a : Act} {w : World} {S : World → Prop} (hr : Region.ready md ops seen = []) (h : Q .normal a w) : ∀ m, DrawnTo P md ops Q k S m seen a w
  | 0 => ⟨hr, h⟩
  | _ + 1 => ⟨fun _ => h, by rw [hr]; simp⟩

/-- The one that may come up comes up. -/
theorem DrawnTo.one {k i : Nat} {o : Oper} {m : Nat} {seen : Array Bool} {a : Act} {w : World} {S : World → Prop} (hr : Region.ready md ops seen = [i]) (ho : ops[i]? = some o) (hwt : Region.wanted o (yielded ops a.tmps) = true)
    (h : ∀ K : Act → World → Prop, Shut (∀ a' w', (i ≠ k → S w') → ((i ≠ k → S w') → DrawnTo P md ops Q k S m (seen.setIfInBounds i true) a' w') → K a' w') → o.wp P a w K Q) : DrawnTo P md ops Q k S (m + 1) seen a w := by
  refine ⟨fun h0 => (by rw [hr] at h0; cases h0), fun j hj => ?_⟩
  rw [hr] at hj
  obtain rfl : j = i := by simpa using hj
  exact wpOp_step ho (fun K' hK => by rw [if_pos hwt]; exact h K' (fun a' w' hS hD => hK a' w' ⟨hS, hD hS⟩))
/-- Either of two. -/
theorem DrawnTo.two {k i j : Nat} {oi oj : Oper} {m : Nat} {seen : Array Bool} {a : Act} {w : World} {S : World → Prop} (hr : Region.ready md ops seen = [i, j]) (hoi : ops[i]? = some oi) (hoj : ops[j]? = some oj)
    (hwi : Region.wanted oi (yielded ops a.tmps) = true) (hwj : Region.wanted oj (yielded ops a.tmps) = true)
    (h1 : ∀ K : Act → World → Prop, Shut (∀ a' w', (i ≠ k → S w') → ((i ≠ k → S w') → DrawnTo P md ops Q k S m (seen.setIfInBounds i true) a' w') → K a' w') → oi.wp P a w K Q)
    (h2 : ∀ K : Act → World → Prop, Shut (∀ a' w', (j ≠ k → S w') → ((j ≠ k → S w') → DrawnTo P md ops Q k S m (seen.setIfInBounds j true) a' w') → K a' w') → oj.wp P a w K Q) : DrawnTo P md ops Q k S (m + 1) seen a w := by
  refine ⟨fun h0 => (by rw [hr] at h0; cases h0), fun q hq => ?_⟩
  rw [hr] at hq
  simp only [List.mem_cons, List.not_mem_nil, or_false] at hq
  rcases hq with rfl | rfl
  · exact wpOp_step hoi (fun K' hK => by rw [if_pos hwi]; exact h1 K' (fun a' w' hS hD => hK a' w' ⟨hS, hD hS⟩))
  · exact wpOp_step hoj (fun K' hK => by rw [if_pos hwj]; exact h2 K' (fun a' w' hS hD => hK a' w' ⟨hS, hD hS⟩))

/-- The beginning. -/
theorem wp_drawnTo {id : Nat} {a : Act} {w : World} (k : Nat) (S : World → Prop) (hm : P.follows .mixedOrders = true)
    (h : DrawnTo P .any ops Q k S ops.size (Array.replicate ops.size false) a w.drew) : (Code.region id ops true).wp P Q a w :=
  wp_region_any hm (DrawnTo.any _ _ _ _ h)
end

end Go.Proofs.Ytdeebagjmhpocaa
