/- The plain law of trees: what split, join, put, drop, ceil are on the list of a tree's nodes; a tree that is a heap has the reference's shape. -/
import Derived.Test.YtdeebagjmhpocaaY
namespace Go.Proofs.Ytdeebagjmhpocaa
set_option linter.unusedSimpArgs false
set_option linter.unusedVariables false

def inord : T → List Nd
  | .nil => []
  | .node _ x l r => inord l ++ x :: inord r
abbrev Srt (l : List Nd) : Prop := l.Pairwise (fun x y => x.key < y.key)

theorem srt_node {b : Nat} {x : Nd} {l r : T} (h : Srt (inord (.node b x l r))) : Srt (inord l) ∧ Srt (inord r) ∧ (∀ y ∈ inord l, y.key < x.key) ∧ (∀ y ∈ inord r, x.key < y.key) := by
  simp only [inord, Srt, List.pairwise_append, List.pairwise_cons, List.mem_cons] at h
  obtain ⟨h1, ⟨h2, h3⟩, h4⟩ := h
  exact ⟨h1, h3, fun y hy => h4 y hy x (.inl rfl), h2⟩

theorem inord_split (k : Int) : ∀ t : T, Srt (inord t) → inord (t.split k).1 = (inord t).filter (fun x => decide (x.key < k)) ∧ inord (t.split k).2 = (inord t).filter (fun x => decide (¬ x.key < k))
  | .nil, _ => by simp [T.split, inord]
  | .node b x l r, h => by
    obtain ⟨hl, hr, h1, h2⟩ := srt_node h
    obtain ⟨l1, l2⟩ := inord_split k l hl
    obtain ⟨r1, r2⟩ := inord_split k r hr
    by_cases hk : x.key < k
    · rw [split_lt hk]
      have e1 : (inord l).filter (fun x => decide (x.key < k)) = inord l := List.filter_eq_self.2 fun y hy => by have := h1 y hy; simp; omega
      have e2 : (inord l).filter (fun x => decide (¬ x.key < k)) = [] := List.filter_eq_nil_iff.2 fun y hy => by have := h1 y hy; simp; omega
      refine ⟨?_, ?_⟩
      · simp only [inord, List.filter_append, e1, List.filter_cons, r1]; simp [hk]
      · simp only [inord, List.filter_append, e2, List.filter_cons, r2]; simp [hk]
    · rw [split_ge hk]
      have e1 : (inord r).filter (fun x => decide (x.key < k)) = [] := List.filter_eq_nil_iff.2 fun y hy => by have := h2 y hy; simp; omega
      have e2 : (inord r).filter (fun x => decide (¬ x.key < k)) = inord r := List.filter_eq_self.2 fun y hy => by have := h2 y hy; simp; omega
      refine ⟨?_, ?_⟩
      · simp only [inord, List.filter_append, e1, List.filter_cons, l1]; simp [hk]
      · simp only [inord, List.filter_append, e2, List.filter_cons, l2]; simp [hk]

theorem inord_join : ∀ a b : T, inord (joinT a b) = inord a ++ inord b
  | .nil, b => by rw [join_nil]; rfl
  | .node i x l r, .nil => by rw [join_nil_right]; simp [inord]
  | .node i x l r, .node j y l' r' => by
    cases h : above x y with
    | true => rw [join_above h]; have := inord_join r (.node j y l' r'); simp only [inord] at *; rw [this]; simp
    | false => rw [join_below h]; have := inord_join (.node i x l r) l'; simp only [inord] at *; rw [this]; simp
  termination_by a b => SizeOf.sizeOf a + SizeOf.sizeOf b

/-- A sorted list with a node put in. -/
def insN (x : Nd) (l : List Nd) : List Nd := l.filter (fun y => decide (y.key < x.key)) ++ x :: l.filter (fun y => decide (¬ y.key < x.key))
def delN (k : Int) (l : List Nd) : List Nd := l.filter (fun y => decide (y.key ≠ k))

theorem inord_put (B : Nat) (x : Nd) (t : T) (h : Srt (inord t)) : inord (putT B x t) = insN x (inord t) := by
  obtain ⟨h1, h2⟩ := inord_split x.key t h
  unfold putT insN
  rw [inord_join, inord_join, h1, h2]
  simp [inord]

theorem inord_drop (k : Int) : ∀ t : T, Srt (inord t) → inord (dropT k t) = delN k (inord t)
  | .nil, _ => by simp [dropT, inord, delN]
  | .node b x l r, h => by
    obtain ⟨hl, hr, h1, h2⟩ := srt_node h
    unfold dropT delN
    by_cases hk : x.key = k
    · rw [if_pos hk, inord_join]
      have e1 : (inord l).filter (fun y => decide (y.key ≠ k)) = inord l := List.filter_eq_self.2 fun y hy => by have := h1 y hy; simp; omega
      have e2 : (inord r).filter (fun y => decide (y.key ≠ k)) = inord r := List.filter_eq_self.2 fun y hy => by have := h2 y hy; simp; omega
      simp only [inord, List.filter_append, List.filter_cons, e1, e2]; simp [hk]
    · rw [if_neg hk]
      by_cases hk2 : k < x.key
      · rw [if_pos hk2]
        have e2 : (inord r).filter (fun y => decide (y.key ≠ k)) = inord r := List.filter_eq_self.2 fun y hy => by have := h2 y hy; simp; omega
        simp only [inord, List.filter_append, List.filter_cons, e2]; rw [inord_drop k l hl]; simp [hk, delN]
      · rw [if_neg hk2]
        have e1 : (inord l).filter (fun y => decide (y.key ≠ k)) = inord l := List.filter_eq_self.2 fun y hy => by have := h1 y hy; simp; omega
        simp only [inord, List.filter_append, List.filter_cons, e1]; rw [inord_drop k r hr]; simp [hk, delN]

theorem seek_nil (k : Int) : ∀ t : T, (∀ y ∈ inord t, y.key ≠ k) → t.seek k = .nil
  | .nil, _ => rfl
  | .node b x l r, h => by
    unfold T.seek
    rw [if_neg (h x (by simp [inord]))]
    split
    · exact seek_nil k l fun y hy => h y (by simp [inord, hy])
    · exact seek_nil k r fun y hy => h y (by simp [inord, hy])
theorem seek_some (y : Nd) : ∀ t : T, Srt (inord t) → y ∈ inord t → ∃ c l r, t.seek y.key = .node c y l r
  | .nil, _, h => by simp [inord] at h
  | .node b x l r, h, hy => by
    obtain ⟨hl, hr, h1, h2⟩ := srt_node h
    simp only [inord, List.mem_append, List.mem_cons] at hy
    unfold T.seek
    rcases hy with hy | rfl | hy
    · have := h1 y hy
      rw [if_neg (by omega), if_pos this]; exact seek_some y l hl hy
    · rw [if_pos rfl]; exact ⟨_, _, _, rfl⟩
    · have := h2 y hy
      rw [if_neg (by omega), if_neg (by omega)]; exact seek_some y r hr hy

/-- The first node whose key is not below k. -/
def T.nd? : T → Option Nd
  | .nil => none
  | .node _ x _ _ => some x
theorem ceil_first (k : Int) : ∀ (t best : T), Srt (inord t) → (ceilT k best t).nd? = ((inord t).find? (fun y => decide (k ≤ y.key))).or best.nd?
  | .nil, best, _ => by simp [ceilT, inord]
  | .node b x l r, best, h => by
    obtain ⟨hl, hr, h1, h2⟩ := srt_node h
    unfold ceilT
    by_cases hk : x.key < k
    · rw [if_pos hk, ceil_first k r best hr]
      have e1 : (inord l).find? (fun y => decide (k ≤ y.key)) = none := List.find?_eq_none.2 fun y hy => by have := h1 y hy; simp; omega
      simp only [inord, List.find?_append, e1, List.find?_cons, Option.none_or]
      simp [show ¬ k ≤ x.key by omega]
    · rw [if_neg hk, ceil_first k l (.node b x l r) hl]
      simp only [inord, List.find?_append, List.find?_cons]
      have hk' : k ≤ x.key := by omega
      simp [hk', T.nd?]

/-! ### heaps -/
def Abv (x y : Nd) : Prop := y.draw < x.draw ∨ x.draw = y.draw ∧ x.key < y.key
theorem above_iff (x y : Nd) : above x y = true ↔ Abv x y := by simp [above, Abv]
theorem Abv.trans {x y z : Nd} (h1 : Abv x y) (h2 : Abv y z) : Abv x z := by unfold Abv at *; omega
def Heap : T → Prop
  | .nil => True
  | .node _ x l r => (∀ y ∈ inord l, Abv x y) ∧ (∀ y ∈ inord r, Abv x y) ∧ Heap l ∧ Heap r

theorem split_inord1 (k : Int) : ∀ (t : T) (y : Nd), y ∈ inord (t.split k).1 → y ∈ inord t
  | .nil, y, h => by simpa [T.split] using h
  | .node b x l r, y, h => by
    by_cases hk : x.key < k
    · rw [split_lt hk] at h
      simp only [inord, List.mem_append, List.mem_cons] at *
      rcases h with h | h | h
      · exact .inl h
      · exact .inr (.inl h)
      · exact .inr (.inr (split_inord1 k r y h))
    · rw [split_ge hk] at h
      simp only [inord, List.mem_append, List.mem_cons] at *
      exact .inl (split_inord1 k l y h)
theorem split_inord2 (k : Int) : ∀ (t : T) (y : Nd), y ∈ inord (t.split k).2 → y ∈ inord t
  | .nil, y, h => by simpa [T.split] using h
  | .node b x l r, y, h => by
    by_cases hk : x.key < k
    · rw [split_lt hk] at h
      simp only [inord, List.mem_append, List.mem_cons] at *
      exact .inr (.inr (split_inord2 k r y h))
    · rw [split_ge hk] at h
      simp only [inord, List.mem_append, List.mem_cons] at *
      rcases h with h | h | h
      · exact .inl (split_inord2 k l y h)
      · exact .inr (.inl h)
      · exact .inr (.inr h)

theorem heap_split (k : Int) : ∀ t : T, Heap t → Heap (t.split k).1 ∧ Heap (t.split k).2
  | .nil, _ => by simp [T.split, Heap]
  | .node b x l r, h => by
    obtain ⟨h1, h2, h3, h4⟩ := h
    by_cases hk : x.key < k
    · rw [split_lt hk]
      obtain ⟨a1, a2⟩ := heap_split k r h4
      exact ⟨⟨h1, fun y hy => h2 y (split_inord1 k r y hy), h3, a1⟩, a2⟩
    · rw [split_ge hk]
      obtain ⟨a1, a2⟩ := heap_split k l h3
      exact ⟨a1, ⟨fun y hy => h1 y (split_inord2 k l y hy), h2, a2, h4⟩⟩

theorem heap_join : ∀ a b : T, Heap a → Heap b → (∀ x ∈ inord a, ∀ y ∈ inord b, x.key < y.key) → Heap (joinT a b)
  | .nil, b, _, hb, _ => by rw [join_nil]; exact hb
  | .node i x l r, .nil, ha, _, _ => by rw [join_nil_right]; exact ha
  | .node i x l r, .node j y l' r', ha, hb, hab => by
    obtain ⟨a1, a2, a3, a4⟩ := ha
    obtain ⟨b1, b2, b3, b4⟩ := hb
    cases h : above x y with
    | true =>
      rw [join_above h]
      have hA := (above_iff x y).1 h
      refine ⟨a1, fun z hz => ?_, a3, heap_join r (.node j y l' r') a4 ⟨b1, b2, b3, b4⟩ fun u hu v hv => hab u (by simp [inord, hu]) v hv⟩
      rw [inord_join] at hz
      rcases List.mem_append.1 hz with hz | hz
      · exact a2 z hz
      · simp only [inord, List.mem_append, List.mem_cons] at hz
        rcases hz with hz | rfl | hz
        · exact hA.trans (b1 z hz)
        · exact hA
        · exact hA.trans (b2 z hz)
    | false =>
      rw [join_below h]
      have hxy : x.key < y.key := hab x (by simp [inord]) y (by simp [inord])
      have hA : Abv y x := by
        have : ¬ Abv x y := fun h' => by rw [(above_iff x y).2 h'] at h; cases h
        unfold Abv at *; omega
      refine ⟨fun z hz => ?_, b2, heap_join (.node i x l r) l' ⟨a1, a2, a3, a4⟩ b3 fun u hu v hv => hab u hu v (by simp [inord, hv]), b4⟩
      rw [inord_join] at hz
      rcases List.mem_append.1 hz with hz | hz
      · simp only [inord, List.mem_append, List.mem_cons] at hz
        rcases hz with hz | rfl | hz
        · exact hA.trans (a1 z hz)
        · exact hA
        · exact hA.trans (a2 z hz)
      · exact b1 z hz
  termination_by a b => SizeOf.sizeOf a + SizeOf.sizeOf b

theorem heap_put (B : Nat) (x : Nd) (t : T) (h : Srt (inord t)) (hh : Heap t) (hn : ∀ y ∈ inord t, y.key ≠ x.key) : Heap (putT B x t) := by
  obtain ⟨h1, h2⟩ := inord_split x.key t h
  obtain ⟨a1, a2⟩ := heap_split x.key t hh
  unfold putT
  have hl : ∀ u ∈ inord (t.split x.key).1, u.key < x.key := fun u hu => by rw [h1] at hu; simpa using (List.mem_filter.1 hu).2
  have hr : ∀ u ∈ inord (t.split x.key).2, x.key < u.key := fun u hu => by
    rw [h2] at hu
    have := hn u (List.mem_filter.1 hu).1
    have h' := (List.mem_filter.1 hu).2
    simp at h'; omega
  refine heap_join _ _ (heap_join _ _ a1 ⟨by simp [inord], by simp [inord], trivial, trivial⟩ fun u hu v hv => ?_) a2 fun u hu v hv => ?_
  · simp [inord] at hv; subst hv; exact hl u hu
  · rw [inord_join] at hu
    have hv' := hr v hv
    rcases List.mem_append.1 hu with hu | hu
    · have := hl u hu; omega
    · simp [inord] at hu; subst hu; exact hv'

theorem heap_drop (k : Int) : ∀ t : T, Srt (inord t) → Heap t → Heap (dropT k t)
  | .nil, _, _ => trivial
  | .node b x l r, h, hh => by
    obtain ⟨hl, hr, h1, h2⟩ := srt_node h
    obtain ⟨a1, a2, a3, a4⟩ := hh
    unfold dropT
    split
    · exact heap_join l r a3 a4 fun u hu v hv => by have := h1 u hu; have := h2 v hv; omega
    · split
      · refine ⟨fun y hy => a1 y ?_, a2, heap_drop k l hl a3, a4⟩
        rw [inord_drop k l hl] at hy; exact (List.mem_filter.1 hy).1
      · refine ⟨a1, fun y hy => a2 y ?_, a3, heap_drop k r hr a4⟩
        rw [inord_drop k r hr] at hy; exact (List.mem_filter.1 hy).1

theorem insN_mem {x y : Nd} {l : List Nd} : y ∈ insN x l ↔ y = x ∨ y ∈ l := by
  unfold insN
  simp only [List.mem_append, List.mem_cons, List.mem_filter]
  by_cases h : y.key < x.key
  · simp [h]; exact or_comm
  · simp [h]
theorem insN_srt {x : Nd} {l : List Nd} (h : Srt l) (hn : ∀ y ∈ l, y.key ≠ x.key) : Srt (insN x l) := by
  unfold insN Srt
  rw [List.pairwise_append, List.pairwise_cons]
  refine ⟨h.filter _, ⟨fun y hy => ?_, h.filter _⟩, fun y hy z hz => ?_⟩
  · have h1 := hn y (List.mem_filter.1 hy).1
    have h2 := (List.mem_filter.1 hy).2
    simp at h2; omega
  · have h1 := (List.mem_filter.1 hy).2
    simp at h1
    rcases List.mem_cons.1 hz with rfl | hz
    · exact h1
    · have h2 := (List.mem_filter.1 hz).2
      simp at h2; omega
theorem delN_mem {k : Int} {y : Nd} {l : List Nd} : y ∈ delN k l ↔ y ∈ l ∧ y.key ≠ k := by simp [delN, List.mem_filter]
theorem delN_srt {k : Int} {l : List Nd} (h : Srt l) : Srt (delN k l) := h.filter _

/-! ### the shape -/
def itN (y : Nd) : It := ⟨y.key, y.draw, y.pg⟩

/-- Where the first of the greatest draw is. -/
theorem bestUp_split (a : List It) (x : It) (b : List It) (ha : ∀ y ∈ a, y.draw < x.draw) (hb : ∀ y ∈ b, y.draw ≤ x.draw) : ∀ i, a.length < i → i ≤ (a ++ x :: b).length → bestUp (a ++ x :: b) i = a.length
  | 0, h, _ => by omega
  | i + 1, h, hi => by
    have hx : (a ++ x :: b)[a.length]? = some x := by simp
    rcases Nat.lt_or_ge a.length i with h1 | h1
    · have ih := bestUp_split a x b ha hb i h1 (by omega)
      unfold bestUp
      rw [ih, hx]
      obtain ⟨y, hy⟩ : ∃ y, (a ++ x :: b)[i]? = some y := ⟨_, List.getElem?_eq_getElem (by omega)⟩
      rw [hy]
      have hyb : y ∈ b := by
        rw [List.getElem?_append_right (by omega), show i - a.length = (i - a.length - 1) + 1 by omega, List.getElem?_cons_succ] at hy
        exact List.mem_of_getElem? hy
      have := hb y hyb
      simp only [Option.map_some, Option.getD_some]
      rw [if_neg (by omega)]
    · obtain rfl : i = a.length := by omega
      unfold bestUp
      rw [hx]
      rcases Nat.eq_zero_or_pos a.length with h0 | h0
      · have : a = [] := List.eq_nil_of_length_eq_zero h0
        subst this
        simp [bestUp]
      · have hl := bestUp_lt (a ++ x :: b) a.length (by omega)
        obtain ⟨y, hy⟩ : ∃ y, a[bestUp (a ++ x :: b) a.length]? = some y := ⟨_, List.getElem?_eq_getElem hl⟩
        have hy' : (a ++ x :: b)[bestUp (a ++ x :: b) a.length]? = some y := by rw [List.getElem?_append_left hl]; exact hy
        have := ha y (List.mem_of_getElem? hy)
        rw [hy']
        simp only [Option.map_some, Option.getD_some]
        rw [if_pos (by omega)]

theorem pairs_append (a b : List (Nat × Int × Int)) : pairs (a ++ b) = pairs a ++ pairs b := by simp [pairs]

theorem inord_length : ∀ t : T, (inord t).length = t.high
  | .nil => rfl
  | .node b x l r => by simp [inord, T.high, inord_length l, inord_length r]; omega

/-- A sorted heap has the reference's shape. -/
theorem shape_heap : ∀ (t : T) (f : Nat) (d : Int), Srt (inord t) → Heap t → t.high ≤ f → shapeF f ((inord t).map itN) d = pairs (preT d t)
  | .nil, f, d, _, _, _ => by cases f <;> simp [shapeF, inord, preT, pairs, bestUp]
  | .node b x l r, 0, d, _, _, h => by simp [T.high] at h
  | .node b x l r, f + 1, d, hs, hh, hf => by
    obtain ⟨hl, hr, h1, h2⟩ := srt_node hs
    obtain ⟨a1, a2, a3, a4⟩ := hh
    simp only [T.high] at hf
    have e : (inord (.node b x l r)).map itN = (inord l).map itN ++ itN x :: (inord r).map itN := by simp [inord]
    have hb : bestUp ((inord l).map itN ++ itN x :: (inord r).map itN) ((inord l).map itN ++ itN x :: (inord r).map itN).length = ((inord l).map itN).length := by
      refine bestUp_split _ _ _ (fun y hy => ?_) (fun y hy => ?_) _ (by simp) (Nat.le_refl _)
      · obtain ⟨z, hz, rfl⟩ := List.mem_map.1 hy
        have := a1 z hz; have := h1 z hz
        unfold Abv at *; simp only [itN]; omega
      · obtain ⟨z, hz, rfl⟩ := List.mem_map.1 hy
        have := a2 z hz
        unfold Abv at *; simp only [itN]; omega
    rw [e, shapeF, hb]
    simp only [List.getElem?_append_right (Nat.le_refl _), Nat.sub_self, List.getElem?_cons_zero]
    have e1 : ((inord l).map itN ++ itN x :: (inord r).map itN).take ((inord l).map itN).length = (inord l).map itN := by simp
    have e2 : ((inord l).map itN ++ itN x :: (inord r).map itN).drop (((inord l).map itN).length + 1) = (inord r).map itN := by
      rw [← List.drop_drop]; simp
    rw [e1, e2, shape_heap l f (d + 1) hl a3 (by omega), shape_heap r f (d + 1) hr a4 (by omega)]
    simp [preT, pairs, itN]

end Go.Proofs.Ytdeebagjmhpocaa
