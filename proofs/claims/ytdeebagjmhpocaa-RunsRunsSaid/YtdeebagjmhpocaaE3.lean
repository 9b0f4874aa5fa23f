/- The plain law of runs, on: what holds of the program's runs is kept by a drop and by a put; the reference's items go along. -/
import Derived.Test.YtdeebagjmhpocaaZ1
import Derived.Test.YtdeebagjmhpocaaZ2
namespace Go.Proofs.Ytdeebagjmhpocaa
set_option linter.unusedSimpArgs false
set_option linter.unusedVariables false

structure PInv (s : RSt) : Prop where
  gaps : Gaps s.xs
  inb : ∀ x ∈ s.xs, 0 ≤ x.1 ∧ x.1 + x.2 ≤ s.pages
  small : 1 ≤ s.pages ∧ s.pages ≤ 4096
  total : s.total = sumL s.xs
  srt : Srt (inord s.t)
  heap : Heap s.t
  nodes : ∀ x : R2, x ∈ s.xs ↔ ∃ y ∈ inord s.t, y.pg = x.1 ∧ y.ln = x.2
  keys : ∀ y ∈ inord s.t, y.key = keyOf (y.pg, y.ln)

theorem PInv.fit {s : RSt} (h : PInv s) : ∀ y ∈ s.xs, 0 ≤ y.1 ∧ y.1 < 8192 := fun y hy => by
  have h1 := h.inb y hy
  have h2 := h.gaps.pos y hy
  have h3 := h.small
  omega
theorem PInv.node {s : RSt} (h : PInv s) {x : R2} (hx : x ∈ s.xs) : ∃ y ∈ inord s.t, y.pg = x.1 ∧ y.ln = x.2 ∧ y.key = keyOf x := by
  obtain ⟨y, hy, h1, h2⟩ := (h.nodes x).1 hx
  exact ⟨y, hy, h1, h2, by rw [h.keys y hy, h1, h2]⟩

def bestR (k : Int) (l : List R2) : Option R2 := if k < 1 then none else bestF k l

theorem best_same {s : RSt} (h : PInv s) (k : Int) : bestT s k = bestR k s.xs := by
  unfold bestT bestR
  have hb := bestF_of (k := k) h.gaps h.fit
  by_cases h1 : k < 1
  · rw [if_pos (.inl h1), if_pos h1]
  · rw [if_neg h1]
    by_cases h2 : s.pages < k
    · rw [if_pos (.inr h2), hb.2 fun y hy => by have := h.inb y hy; have := h.gaps.pos y hy; omega]
    · rw [if_neg (by omega), ceil_first _ _ _ h.srt]
      cases hf : (inord s.t).find? (fun y => decide (8192 * k ≤ y.key)) with
      | none =>
        rw [hb.2 fun x hx => ?_]
        · rfl
        · obtain ⟨y, hy, e1, e2, e3⟩ := h.node hx
          have := List.find?_eq_none.1 hf y hy
          have hfx := h.fit x hx
          unfold keyOf at e3
          simp at this; omega
      | some y =>
        obtain ⟨hp, l1, l2, hl, has⟩ := List.find?_eq_some_iff_append.1 hf
        have hy : y ∈ inord s.t := by rw [hl]; simp
        have hky := h.keys y hy
        have hx : (y.pg, y.ln) ∈ s.xs := (h.nodes _).2 ⟨y, hy, rfl, rfl⟩
        have hfx := h.fit _ hx
        simp at hp
        unfold keyOf at hky
        dsimp only at hky hfx
        rw [hb.1 (y.pg, y.ln) hx (by dsimp only; omega) fun z hz hk => ?_]
        · rfl
        · obtain ⟨y', hy', e1, e2, e3⟩ := h.node hz
          have hfz := h.fit z hz
          rw [← h.keys y hy, ← e3]
          rw [hl] at hy'
          rcases List.mem_append.1 hy' with hy' | hy'
          · have := has y' hy'
            unfold keyOf at e3
            simp at this; omega
          · rcases List.mem_cons.1 hy' with rfl | hy'
            · exact Int.le_refl _
            · have hs := h.srt
              rw [hl] at hs
              have := (List.pairwise_cons.1 (List.pairwise_append.1 hs).2.1).1 y' hy'
              omega

/-! ### a drop -/
theorem delR_split {xs : List R2} {i : Nat} {x : R2} (h : xs[i]? = some x) : xs = xs.take i ++ x :: xs.drop (i + 1) := by
  obtain ⟨hi, rfl⟩ := List.getElem?_eq_some_iff.1 h
  rw [← List.drop_eq_getElem_cons hi, List.take_append_drop]
theorem gaps_nodup {xs : List R2} (h : Gaps xs) : xs.Nodup := by
  refine List.Pairwise.imp_of_mem (fun {a b} ha hb hab => ?_) h.gap
  rintro rfl
  have := h.pos a ha; omega
theorem delR_mem_iff {xs : List R2} {i : Nat} {x : R2} (hg : Gaps xs) (h : xs[i]? = some x) (y : R2) : y ∈ delR xs i ↔ y ∈ xs ∧ y ≠ x := by
  have hnd := gaps_nodup hg
  have hs := delR_split h
  unfold delR
  rw [hs] at hnd
  have h1 := List.nodup_append.1 hnd
  have h2 := List.nodup_cons.1 h1.2.1
  constructor
  · intro hy
    rcases List.mem_append.1 hy with hy | hy
    · exact ⟨List.mem_of_mem_take hy, fun e => h1.2.2 y hy x (by simp) e⟩
    · exact ⟨List.mem_of_mem_drop hy, fun e => h2.1 (e ▸ hy)⟩
  · rintro ⟨hy, hne⟩
    rw [hs] at hy
    simp only [List.mem_append, List.mem_cons] at hy ⊢
    rcases hy with hy | hy | hy
    · exact .inl hy
    · exact absurd hy hne
    · exact .inr hy
theorem delR_gaps {xs : List R2} {i : Nat} (hg : Gaps xs) : Gaps (delR xs i) := by
  have hsub : (delR xs i).Sublist xs := by
    unfold delR
    conv => rhs; rw [← List.take_append_drop i xs]
    exact (List.Sublist.refl _).append (List.drop_sublist_drop_left xs (Nat.le_succ i))
  exact ⟨hg.gap.sublist hsub, fun x hx => hg.pos x (hsub.subset hx)⟩
theorem sumL_delR {xs : List R2} {i : Nat} {x : R2} (h : xs[i]? = some x) : sumL (delR xs i) = sumL xs - x.2 := by
  conv => rhs; rw [delR_split h]
  rw [delR, sumL_append, sumL_append, sumL_cons]; omega
theorem sumL_ge {xs : List R2} (hp : ∀ x ∈ xs, 1 ≤ x.2) : 0 ≤ sumL xs ∧ ∀ x ∈ xs, x.2 ≤ sumL xs := by
  induction xs with
  | nil => simp [sumL]
  | cons y ys ih =>
    obtain ⟨h1, h2⟩ := ih (fun x hx => hp x (by simp [hx]))
    have hy := hp y (by simp)
    rw [sumL_cons]
    refine ⟨by omega, fun x hx => ?_⟩
    rcases List.mem_cons.1 hx with rfl | hx
    · omega
    · have := h2 x hx; omega

theorem parts_of {xs : List R2} {i : Nat} {x : R2} (hg : Gaps xs) (h : xs[i]? = some x) : Parts xs (x.1 + x.2) i := by
  refine ⟨Nat.le_of_lt (List.getElem?_eq_some_iff.1 h).1, fun p y hp hy => ?_, fun p y hp hy => ?_⟩
  · have := gaps_order hg hp hy h; have := hg.pos x (List.mem_of_getElem? h); omega
  · rcases Nat.eq_or_lt_of_le hp with rfl | hp
    · rw [h] at hy; cases hy; exact Int.le_refl _
    · have := gaps_order hg hp h hy; have := hg.pos y (List.mem_of_getElem? hy); omega

/-- What a drop leaves. -/
def RSt.dropped (s : RSt) (x : R2) (i : Nat) (lv' : Value) : RSt := { s with lv := lv', t := dropT (keyOf x) s.t, xs := delR s.xs i, total := s.total - x.2 }

theorem PInv.drop {s : RSt} (h : PInv s) {x : R2} {i : Nat} (hx : s.xs[i]? = some x) (lv' : Value) :
    PInv (s.dropped x i lv') ∧ (∀ y, y ∈ (s.dropped x i lv').xs ↔ y ∈ s.xs ∧ y ≠ x) ∧ inord (s.dropped x i lv').t = delN (keyOf x) (inord s.t) := by
  have hm := List.mem_of_getElem? hx
  have hmem := delR_mem_iff h.gaps hx
  have hin := inord_drop (keyOf x) s.t h.srt
  refine ⟨⟨delR_gaps h.gaps, fun y hy => h.inb y ((hmem y).1 hy).1, h.small, ?_, ?_, heap_drop _ _ h.srt h.heap, fun z => ?_, fun y hy => ?_⟩, hmem, hin⟩
  · show s.total - x.2 = sumL (delR s.xs i)
    rw [sumL_delR hx, h.total]
  · show Srt (inord (dropT (keyOf x) s.t)); rw [hin]; exact delN_srt h.srt
  · show z ∈ delR s.xs i ↔ ∃ y ∈ inord (dropT (keyOf x) s.t), _
    rw [hin, hmem]
    constructor
    · rintro ⟨h1, h2⟩
      obtain ⟨y, hy, e1, e2, e3⟩ := h.node h1
      exact ⟨y, delN_mem.2 ⟨hy, fun e => h2 (keyOf_inj (h.fit z h1) (h.fit x hm) (by rw [← e3, e]))⟩, e1, e2⟩
    · rintro ⟨y, hy, e1, e2⟩
      obtain ⟨hy, hne⟩ := delN_mem.1 hy
      refine ⟨(h.nodes z).2 ⟨y, hy, e1, e2⟩, fun e => hne ?_⟩
      rw [h.keys y hy, e1, e2, e]
  · have hy' : y ∈ inord (dropT (keyOf x) s.t) := hy
    rw [hin] at hy'
    exact h.keys y (delN_mem.1 hy').1
theorem PInv.seek {s : RSt} (h : PInv s) {x : R2} (hx : x ∈ s.xs) : ∃ c y l r, s.t.seek (keyOf x) = .node c y l r := by
  obtain ⟨y, hy, e1, e2, e3⟩ := h.node hx
  obtain ⟨c, l, r, hs⟩ := seek_some y s.t h.srt hy
  exact ⟨c, y, l, r, by rw [← e3]; exact hs⟩

/-! ### a put -/
theorem parts_exists (k : Int) : ∀ (xs : List R2), Gaps xs → ∃ i, Parts xs k i
  | [], _ => ⟨0, Nat.le_refl _, fun p x h => absurd h (Nat.not_lt_zero _), fun p x _ h => by simp at h⟩
  | x :: xs, h => by
    obtain ⟨i, h1, h2, h3⟩ := parts_exists k xs (gaps_tail h)
    by_cases hx : x.1 + x.2 < k
    · refine ⟨i + 1, by simpa using h1, fun p y hp hy => ?_, fun p y hp hy => ?_⟩
      · cases p with
        | zero => simp at hy; subst hy; exact hx
        | succ p => exact h2 p y (by omega) (by simpa using hy)
      · obtain ⟨p, rfl⟩ : ∃ p', p = p' + 1 := ⟨p - 1, by omega⟩
        exact h3 p y (by omega) (by simpa using hy)
    · refine ⟨0, Nat.zero_le _, fun p x h => absurd h (Nat.not_lt_zero _), fun p y hp hy => ?_⟩
      rcases Nat.eq_zero_or_pos p with rfl | hp
      · simp at hy; subst hy; omega
      · have := gaps_order h hp (i := 0) rfl hy
        have := h.pos y (List.mem_of_getElem? hy)
        omega
theorem parts_take {xs : List R2} {k : Int} {i : Nat} (h : Parts xs k i) : (∀ a ∈ xs.take i, a ∈ xs ∧ a.1 + a.2 < k) ∧ (∀ b ∈ xs.drop i, b ∈ xs ∧ k ≤ b.1 + b.2) := by
  refine ⟨fun a ha => ⟨List.mem_of_mem_take ha, ?_⟩, fun b hb => ⟨List.mem_of_mem_drop hb, ?_⟩⟩
  · obtain ⟨j, hj⟩ := List.getElem?_of_mem ha
    rw [List.getElem?_take] at hj
    split at hj
    · exact h.lo j a (by assumption) hj
    · cases hj
  · obtain ⟨j, hj⟩ := List.getElem?_of_mem hb
    rw [List.getElem?_drop] at hj
    exact h.hi _ b (by omega) hj
theorem insR_mem_iff {xs : List R2} {i : Nat} {x y : R2} : y ∈ insR xs i x ↔ y = x ∨ y ∈ xs := by
  unfold insR
  conv => rhs; rw [← List.take_append_drop i xs]
  simp only [List.mem_append, List.mem_cons]
  constructor
  · rintro (h | h | h)
    · exact .inr (.inl h)
    · exact .inl h
    · exact .inr (.inr h)
  · rintro (h | h | h)
    · exact .inr (.inl h)
    · exact .inl h
    · exact .inr (.inr h)
theorem sumL_insR {xs : List R2} {i : Nat} {x : R2} : sumL (insR xs i x) = sumL xs + x.2 := by
  conv => rhs; rw [← List.take_append_drop i xs]
  rw [insR, sumL_append, sumL_append, sumL_cons]; omega
theorem insR_gaps {xs : List R2} {i : Nat} {x : R2} (hg : Gaps xs) (hp : Parts xs x.1 i) (h1 : 1 ≤ x.2) (ha : ∀ y ∈ xs, y.1 + y.2 < x.1 ∨ x.1 + x.2 < y.1) : Gaps (insR xs i x) := by
  obtain ⟨t1, t2⟩ := parts_take hp
  have hgap := hg.gap
  rw [← List.take_append_drop i xs] at hgap
  obtain ⟨g1, g2, g3⟩ := List.pairwise_append.1 hgap
  have hd : ∀ b ∈ xs.drop i, x.1 + x.2 < b.1 := fun b hb => by
    obtain ⟨hm, hk⟩ := t2 b hb
    rcases ha b hm with h | h <;> omega
  refine ⟨?_, fun y hy => ?_⟩
  · unfold insR
    rw [List.pairwise_append, List.pairwise_cons]
    refine ⟨g1, ⟨hd, g2⟩, fun a hma b hb => ?_⟩
    rcases List.mem_cons.1 hb with rfl | hb
    · exact (t1 a hma).2
    · exact g3 a hma b hb
  · rcases insR_mem_iff.1 hy with rfl | hy
    · exact h1
    · exact hg.pos y hy

/-- What a put leaves. -/
def RSt.putted (s : RSt) (x : R2) (i B : Nat) (lv' : Value) : RSt := { s with lv := lv', drawn := s.drawn + 1, t := putT B (ndOf x (drawOf s.ds s.drawn)) s.t, xs := insR s.xs i x, total := s.total + x.2 }

theorem PInv.put {s : RSt} (h : PInv s) {x : R2} {i : Nat} (hp : Parts s.xs x.1 i) (h0 : 0 ≤ x.1) (h1 : 1 ≤ x.2) (h2 : x.1 + x.2 ≤ s.pages) (ha : ∀ y ∈ s.xs, y.1 + y.2 < x.1 ∨ x.1 + x.2 < y.1) (B : Nat) (lv' : Value) :
    PInv (s.putted x i B lv') ∧ (∀ y, y ∈ (s.putted x i B lv').xs ↔ y = x ∨ y ∈ s.xs) ∧ inord (s.putted x i B lv').t = insN (ndOf x (drawOf s.ds s.drawn)) (inord s.t) := by
  have hsm := h.small
  have hno : ∀ y ∈ inord s.t, y.key ≠ (ndOf x (drawOf s.ds s.drawn)).key := fun y hy e => by
    have hk := h.keys y hy
    have hm : (y.pg, y.ln) ∈ s.xs := (h.nodes _).2 ⟨y, hy, rfl, rfl⟩
    have := keyOf_inj (h.fit _ hm) (y := x) ⟨h0, by omega⟩ (by rw [← hk, e]; rfl)
    have h3 := ha _ hm
    rw [this] at h3
    omega
  have hin := inord_put B (ndOf x (drawOf s.ds s.drawn)) s.t h.srt
  refine ⟨⟨insR_gaps h.gaps hp h1 ha, fun y hy => ?_, hsm, ?_, ?_, heap_put _ _ _ h.srt h.heap hno, fun z => ?_, fun y hy => ?_⟩, fun y => insR_mem_iff, hin⟩
  · rcases insR_mem_iff.1 hy with rfl | hy
    · exact ⟨h0, h2⟩
    · exact h.inb y hy
  · show s.total + x.2 = sumL (insR s.xs i x)
    rw [sumL_insR, h.total]
  · show Srt (inord (putT B _ s.t)); rw [hin]; exact insN_srt h.srt hno
  · show z ∈ insR s.xs i x ↔ ∃ y ∈ inord (putT B _ s.t), _
    rw [hin, insR_mem_iff]
    constructor
    · rintro (rfl | hz)
      · exact ⟨_, insN_mem.2 (.inl rfl), rfl, rfl⟩
      · obtain ⟨y, hy, e1, e2⟩ := (h.nodes z).1 hz
        exact ⟨y, insN_mem.2 (.inr hy), e1, e2⟩
    · rintro ⟨y, hy, e1, e2⟩
      rcases insN_mem.1 hy with rfl | hy
      · exact .inl (Prod.ext e1.symm e2.symm)
      · exact .inr ((h.nodes z).2 ⟨y, hy, e1, e2⟩)
  · have hy' : y ∈ inord (putT B (ndOf x (drawOf s.ds s.drawn)) s.t) := hy
    rw [hin] at hy'
    rcases insN_mem.1 hy' with rfl | hy'
    · rfl
    · exact h.keys y hy'
theorem PInv.noSeek {s : RSt} (h : PInv s) {x : R2} (h0 : 0 ≤ x.1 ∧ x.1 < 8192) (hx : x ∉ s.xs) : s.t.seek (keyOf x) = .nil := by
  refine seek_nil _ _ fun y hy e => hx ?_
  have hm : (y.pg, y.ln) ∈ s.xs := (h.nodes _).2 ⟨y, hy, rfl, rfl⟩
  have := keyOf_inj (h.fit _ hm) (y := x) h0 (by rw [← h.keys y hy, e])
  rw [← this]; exact hm

/-! ### the reference's items -/
abbrev SrtI (l : List It) : Prop := l.Pairwise (fun x y => x.key < y.key)
def delI (k : Int) (l : List It) : List It := l.filter (fun y => decide (y.key ≠ k))
def insIt (x : It) (l : List It) : List It := l.filter (fun y => decide (y.key < x.key)) ++ x :: l.filter (fun y => decide (¬ y.key < x.key))
theorem srtI_map {l : List Nd} (h : Srt l) : SrtI (l.map itN) := List.pairwise_map.2 h
theorem delI_map (k : Int) (l : List Nd) : (delN k l).map itN = delI k (l.map itN) := by
  unfold delN delI
  rw [List.filter_map]; rfl
theorem insIt_map (x : Nd) (l : List Nd) : (insN x l).map itN = insIt (itN x) (l.map itN) := by
  unfold insN insIt
  rw [List.map_append, List.map_cons, List.filter_map, List.filter_map]; rfl
theorem delI_srt {k : Int} {l : List It} (h : SrtI l) : SrtI (delI k l) := h.filter _

theorem partsI_exists (k : Int) : ∀ (xs : List It), SrtI xs → ∃ i, PartsI xs k i ∧ xs.take i = xs.filter (fun y => decide (y.key < k)) ∧ xs.drop i = xs.filter (fun y => decide (¬ y.key < k))
  | [], _ => ⟨0, ⟨Nat.le_refl _, fun p x h => absurd h (Nat.not_lt_zero _), fun x h => by simp at h⟩, by simp, by simp⟩
  | x :: xs, h => by
    obtain ⟨hx, ht⟩ := List.pairwise_cons.1 h
    by_cases hk : x.key < k
    · obtain ⟨i, h1, h2, h3⟩ := partsI_exists k xs ht
      refine ⟨i + 1, ⟨by simpa using h1.le, fun p y hp hy => ?_, fun y hy => h1.hi y (by simpa using hy)⟩, ?_, ?_⟩
      · cases p with
        | zero => simp at hy; subst hy; exact hk
        | succ p => exact h1.lo p y (by omega) (by simpa using hy)
      · rw [List.take_succ_cons, h2]; simp [hk]
      · rw [List.drop_succ_cons, h3]; simp [hk]
    · have hall : ∀ y ∈ x :: xs, ¬ y.key < k := fun y hy => by
        rcases List.mem_cons.1 hy with rfl | hy
        · exact hk
        · have := hx y hy; omega
      refine ⟨0, ⟨Nat.zero_le _, fun p x h => absurd h (Nat.not_lt_zero _), fun y hy => by simp at hy; subst hy; omega⟩, ?_, ?_⟩
      · rw [List.take_zero]; exact (List.filter_eq_nil_iff.2 fun y hy => by simpa using hall y hy).symm
      · rw [List.drop_zero]; exact (List.filter_eq_self.2 fun y hy => by simpa using hall y hy).symm

end Go.Proofs.Ytdeebagjmhpocaa
