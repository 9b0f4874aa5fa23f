/- The plain law of runs: which pages they cover; the shortest that is long enough; what a take and a put leave. -/
import Derived.Test.YtdeebagjmhpocaaE1
namespace Go.Proofs.Ytdeebagjmhpocaa
set_option linter.unusedSimpArgs false
set_option linter.unusedVariables false

def Cov (xs : List R2) (p : Int) : Prop := ∃ x ∈ xs, x.1 ≤ p ∧ p < x.1 + x.2
structure Gaps (xs : List R2) : Prop where
  gap : xs.Pairwise (fun x y => x.1 + x.2 < y.1)
  pos : ∀ x ∈ xs, 1 ≤ x.2

theorem gaps_tail {x : R2} {xs : List R2} (h : Gaps (x :: xs)) : Gaps xs := ⟨(List.pairwise_cons.1 h.gap).2, fun z hz => h.pos z (by simp [hz])⟩

theorem gaps_unique : ∀ (xs ys : List R2), Gaps xs → Gaps ys → (∀ p, Cov xs p ↔ Cov ys p) → xs = ys
  | [], [], _, _, _ => rfl
  | [], y :: ys, _, hy, h => by
    obtain ⟨_, h', _⟩ := (h y.1).2 ⟨y, by simp, by omega, by have := hy.pos y (by simp); omega⟩
    cases h'
  | x :: xs, [], hx, _, h => by
    obtain ⟨_, h', _⟩ := (h x.1).1 ⟨x, by simp, by omega, by have := hx.pos x (by simp); omega⟩
    cases h'
  | x :: xs, y :: ys, hx, hy, h => by
    have hxp := hx.pos x (by simp)
    have hyp := hy.pos y (by simp)
    have gx := (List.pairwise_cons.1 hx.gap).1
    have gy := (List.pairwise_cons.1 hy.gap).1
    have s1 : y.1 ≤ x.1 := by
      obtain ⟨z, hz, h1, h2⟩ := (h x.1).1 ⟨x, by simp, by omega, by omega⟩
      rcases List.mem_cons.1 hz with rfl | hz
      · exact h1
      · have := gy z hz; omega
    have s2 : x.1 ≤ y.1 := by
      obtain ⟨z, hz, h1, h2⟩ := (h y.1).2 ⟨y, by simp, by omega, by omega⟩
      rcases List.mem_cons.1 hz with rfl | hz
      · exact h1
      · have := gx z hz; omega
    have t1 : y.1 + y.2 ≤ x.1 + x.2 := by
      rcases Int.lt_or_le (x.1 + x.2) (y.1 + y.2) with hlt | hle
      · obtain ⟨z, hz, h1, h2⟩ := (h (x.1 + x.2)).2 ⟨y, by simp, by omega, by omega⟩
        rcases List.mem_cons.1 hz with rfl | hz
        · omega
        · have := gx z hz; omega
      · exact hle
    have t2 : x.1 + x.2 ≤ y.1 + y.2 := by
      rcases Int.lt_or_le (y.1 + y.2) (x.1 + x.2) with hlt | hle
      · obtain ⟨z, hz, h1, h2⟩ := (h (y.1 + y.2)).1 ⟨x, by simp, by omega, by omega⟩
        rcases List.mem_cons.1 hz with rfl | hz
        · omega
        · have := gy z hz; omega
      · exact hle
    obtain rfl : x = y := Prod.ext (by omega) (by omega)
    congr 1
    refine gaps_unique xs ys (gaps_tail hx) (gaps_tail hy) fun p => ⟨?_, ?_⟩
    · rintro ⟨z, hz, h1, h2⟩
      have := gx z hz
      obtain ⟨u, hu, h3, h4⟩ := (h p).1 ⟨z, by simp [hz], h1, h2⟩
      rcases List.mem_cons.1 hu with rfl | hu
      · omega
      · exact ⟨u, hu, h3, h4⟩
    · rintro ⟨z, hz, h1, h2⟩
      have := gy z hz
      obtain ⟨u, hu, h3, h4⟩ := (h p).2 ⟨z, by simp [hz], h1, h2⟩
      rcases List.mem_cons.1 hu with rfl | hu
      · omega
      · exact ⟨u, hu, h3, h4⟩

theorem cov_append {xs ys : List R2} {p : Int} : Cov (xs ++ ys) p ↔ Cov xs p ∨ Cov ys p := by
  constructor
  · rintro ⟨x, hx, h⟩
    rcases List.mem_append.1 hx with hx | hx
    · exact .inl ⟨x, hx, h⟩
    · exact .inr ⟨x, hx, h⟩
  · rintro (⟨x, hx, h⟩ | ⟨x, hx, h⟩)
    · exact ⟨x, by simp [hx], h⟩
    · exact ⟨x, by simp [hx], h⟩
theorem cov_one {x : R2} {p : Int} : Cov [x] p ↔ x.1 ≤ p ∧ p < x.1 + x.2 := by simp [Cov]

def sumL (xs : List R2) : Int := (xs.map (·.2)).sum
theorem sumL_append (a b : List R2) : sumL (a ++ b) = sumL a + sumL b := by simp [sumL]
theorem sumL_one (x : R2) : sumL [x] = x.2 := by simp [sumL]
theorem sumL_cons (x : R2) (a : List R2) : sumL (x :: a) = x.2 + sumL a := by simp [sumL]
/-- How many of the first pages are free. -/
def cntUp (free : List Bool) : Nat → Nat
  | 0 => 0
  | i + 1 => cntUp free i + if free.getD i false then 1 else 0
theorem cntUp_le (free : List Bool) : ∀ i, cntUp free i ≤ i
  | 0 => Nat.le_refl _
  | i + 1 => by have := cntUp_le free i; rw [cntUp]; split <;> omega

structure RunsOf (free : List Bool) (i : Nat) (xs : List R2) : Prop where
  gaps : Gaps xs
  cov : ∀ p : Int, Cov xs p ↔ 0 ≤ p ∧ p < i ∧ free.getD p.toNat false = true

theorem runsOf_step {free : List Bool} {i : Nat} {xs : List R2} (h : RunsOf free i xs) (hg : Good xs i) : RunsOf free (i + 1) (stepR xs i (free.getD i false)) ∧ sumL (stepR xs i (free.getD i false)) = sumL xs + if free.getD i false then 1 else 0 := by
  have hp : ∀ p : Int, 0 ≤ p → p < ((i + 1 : Nat) : Int) → p < i ∨ p = i := fun p _ _ => by omega
  cases hb : free.getD i false with
  | false =>
    unfold stepR
    simp only [Bool.false_eq_true, if_false]
    refine ⟨⟨h.gaps, fun p => ?_⟩, by omega⟩
    rw [h.cov p]
    constructor
    · rintro ⟨h1, h2, h3⟩; exact ⟨h1, by omega, h3⟩
    · rintro ⟨h1, h2, h3⟩
      rcases hp p h1 h2 with h4 | rfl
      · exact ⟨h1, h4, h3⟩
      · rw [Int.toNat_natCast, hb] at h3; cases h3
  | true =>
    have hcov : ∀ ys : List R2, (∀ p, Cov ys p ↔ Cov xs p ∨ p = i) → ∀ p : Int, Cov ys p ↔ 0 ≤ p ∧ p < ((i + 1 : Nat) : Int) ∧ free.getD p.toNat false = true := fun ys hy p => by
      rw [hy p, h.cov p]
      constructor
      · rintro (⟨h1, h2, h3⟩ | rfl)
        · exact ⟨h1, by omega, h3⟩
        · exact ⟨by omega, by omega, by rw [Int.toNat_natCast]; exact hb⟩
      · rintro ⟨h1, h2, h3⟩
        rcases hp p h1 h2 with h4 | rfl
        · exact .inl ⟨h1, h4, h3⟩
        · exact .inr rfl
    have happ : (∀ x ∈ xs, x.1 + x.2 < (i : Int)) → RunsOf free (i + 1) (xs ++ [((i : Int), 1)]) ∧ sumL (xs ++ [((i : Int), 1)]) = sumL xs + 1 := fun hx => by
      refine ⟨⟨⟨?_, fun y hy => ?_⟩, hcov _ fun p => ?_⟩, by rw [sumL_append, sumL_one]⟩
      · rw [List.pairwise_append]
        exact ⟨h.gaps.gap, by simp, fun a ha b hb => by simp at hb; subst hb; exact hx a ha⟩
      · rcases List.mem_append.1 hy with hy | hy
        · exact h.gaps.pos y hy
        · simp at hy; subst hy; simp
      · rw [cov_append, cov_one]
        constructor
        · rintro (h1 | ⟨h1, h2⟩)
          · exact .inl h1
          · exact .inr (by simp only at h1 h2; omega)
        · rintro (h1 | rfl)
          · exact .inl h1
          · exact .inr (by simp only; omega)
    unfold stepR
    simp only [if_true]
    by_cases hnil : xs = []
    · subst hnil
      simpa using happ (fun x hx => by cases hx)
    · obtain ⟨pre, x, rfl⟩ := split_last hnil
      have hgl := List.pairwise_append.1 h.gaps.gap
      have hpx := h.gaps.pos x (by simp)
      rw [List.getLast?_concat]
      simp only
      by_cases he : x.1 + x.2 = i
      · rw [if_pos he, List.dropLast_concat]
        refine ⟨⟨⟨?_, fun y hy => ?_⟩, hcov _ fun p => ?_⟩, by rw [sumL_append, sumL_append, sumL_one, sumL_one]; simp only; omega⟩
        · rw [List.pairwise_append]
          exact ⟨hgl.1, by simp, fun a ha b hb => by simp at hb; subst hb; exact hgl.2.2 a ha x (by simp)⟩
        · rcases List.mem_append.1 hy with hy | hy
          · exact h.gaps.pos y (by simp [hy])
          · simp at hy; subst hy; simp only; omega
        · rw [cov_append, cov_append, cov_one, cov_one]
          simp only
          constructor
          · rintro (h1 | ⟨h1, h2⟩)
            · exact .inl (.inl h1)
            · by_cases h3 : p = i
              · exact .inr h3
              · exact .inl (.inr (by omega))
          · rintro ((h1 | h1) | rfl)
            · exact .inl h1
            · exact .inr (by omega)
            · exact .inr (by omega)
      · rw [if_neg he]
        have hgf := hg.fits x (by simp)
        refine happ fun y hy => ?_
        rcases List.mem_append.1 hy with hy | hy
        · have := hgl.2.2 y hy x (by simp); have := hg.fits y (by simp [hy]); omega
        · simp at hy; subst hy; omega

theorem runsUp_of (free : List Bool) : ∀ i, RunsOf free i (runsUp free i) ∧ sumL (runsUp free i) = cntUp free i
  | 0 => ⟨⟨⟨by simp [runsUp], fun x hx => by simp [runsUp] at hx⟩, fun p => by simp [Cov, runsUp]; omega⟩, by simp [runsUp, sumL, cntUp]⟩
  | i + 1 => by
    obtain ⟨h1, h2⟩ := runsUp_of free i
    obtain ⟨h3, h4⟩ := runsOf_step h1 (runsUp_good free i)
    refine ⟨h3, ?_⟩
    rw [runsUp, h4, h2, cntUp]
    split <;> simp

theorem runsOf_unique {free : List Bool} {i : Nat} {xs ys : List R2} (h : RunsOf free i xs) (k : RunsOf free i ys) : xs = ys :=
  gaps_unique xs ys h.gaps k.gaps fun p => by rw [h.cov, k.cov]

/-! ### the shortest that is long enough -/
def bestStep (k : Int) (acc : Option R2) (x : R2) : Option R2 := if k ≤ x.2 ∧ (acc = none ∨ ∃ y, acc = some y ∧ x.2 < y.2) then some x else acc
instance (k : Int) (acc : Option R2) (x : R2) : Decidable (k ≤ x.2 ∧ (acc = none ∨ ∃ y, acc = some y ∧ x.2 < y.2)) := by
  cases acc with
  | none => exact decidable_of_iff (k ≤ x.2) (by simp)
  | some y => exact decidable_of_iff (k ≤ x.2 ∧ x.2 < y.2) (by simp)
def bestUpR (k : Int) (l : List R2) : Nat → Option R2
  | 0 => none
  | i + 1 => match l[i]? with
    | some x => match bestUpR k l i with
      | none => if k ≤ x.2 then some x else none
      | some y => if k ≤ x.2 ∧ x.2 < y.2 then some x else some y
    | none => bestUpR k l i
def bestF (k : Int) (l : List R2) : Option R2 := bestUpR k l l.length

/-- The shortest of the first runs that is long enough, of these the first. -/
structure BestOf (k : Int) (l : List R2) (i : Nat) (x : R2) : Prop where
  mem : ∃ j : Nat, j < i ∧ l[j]? = some x ∧ ∀ (j' : Nat) (y : R2), j' < j → l[j']? = some y → k ≤ y.2 → x.2 < y.2
  long : k ≤ x.2
  least : ∀ (j : Nat) (y : R2), j < i → l[j]? = some y → k ≤ y.2 → x.2 ≤ y.2
theorem bestUpR_spec (k : Int) (l : List R2) : ∀ i, match bestUpR k l i with
    | none => ∀ (j : Nat) (y : R2), j < i → l[j]? = some y → y.2 < k
    | some x => BestOf k l i x
  | 0 => by simp [bestUpR]
  | i + 1 => by
    have ih := bestUpR_spec k l i
    unfold bestUpR
    cases hx : l[i]? with
    | none =>
      simp only
      cases hb : bestUpR k l i with
      | none =>
        rw [hb] at ih
        intro j y hj hy
        rcases Nat.lt_succ_iff_lt_or_eq.1 hj with h | rfl
        · exact ih j y h hy
        · rw [hx] at hy; cases hy
      | some z =>
        rw [hb] at ih
        obtain ⟨⟨j, h1, h2, h3⟩, h4, h5⟩ := ih
        refine ⟨⟨j, by omega, h2, h3⟩, h4, fun j' y hj hy hk => ?_⟩
        rcases Nat.lt_succ_iff_lt_or_eq.1 hj with h | rfl
        · exact h5 j' y h hy hk
        · rw [hx] at hy; cases hy
    | some x =>
      simp only
      cases hb : bestUpR k l i with
      | none =>
        rw [hb] at ih
        simp only at ih ⊢
        by_cases hk : k ≤ x.2
        · rw [if_pos hk]
          refine ⟨⟨i, by omega, hx, fun j' y hj hy hk' => by have := ih j' y hj hy; omega⟩, hk, fun j y hj hy hk' => ?_⟩
          rcases Nat.lt_succ_iff_lt_or_eq.1 hj with h | rfl
          · have := ih j y h hy; omega
          · rw [hx] at hy; cases hy; omega
        · rw [if_neg hk]
          intro j y hj hy
          rcases Nat.lt_succ_iff_lt_or_eq.1 hj with h | rfl
          · exact ih j y h hy
          · rw [hx] at hy; cases hy; omega
      | some z =>
        rw [hb] at ih
        simp only at ih ⊢
        obtain ⟨⟨j, h1, h2, h3⟩, h4, h5⟩ := ih
        by_cases hk : k ≤ x.2 ∧ x.2 < z.2
        · rw [if_pos hk]
          refine ⟨⟨i, by omega, hx, fun j' y hj hy hk' => by have := h5 j' y hj hy hk'; omega⟩, hk.1, fun j y hj hy hk' => ?_⟩
          rcases Nat.lt_succ_iff_lt_or_eq.1 hj with h | rfl
          · have := h5 j y h hy hk'; omega
          · rw [hx] at hy; cases hy; omega
        · rw [if_neg hk]
          refine ⟨⟨j, by omega, h2, h3⟩, h4, fun j' y hj hy hk' => ?_⟩
          rcases Nat.lt_succ_iff_lt_or_eq.1 hj with h | rfl
          · exact h5 j' y h hy hk'
          · rw [hx] at hy; cases hy; omega

theorem gaps_order {l : List R2} (h : Gaps l) {i j : Nat} {x y : R2} (hij : i < j) (hx : l[i]? = some x) (hy : l[j]? = some y) : x.1 + x.2 < y.1 := by
  obtain ⟨h1, rfl⟩ := List.getElem?_eq_some_iff.1 hx
  obtain ⟨h2, rfl⟩ := List.getElem?_eq_some_iff.1 hy
  exact List.pairwise_iff_getElem.1 h.gap i j h1 h2 hij

theorem bestF_none {k : Int} {l : List R2} (h : bestF k l = none) : ∀ y ∈ l, y.2 < k := by
  intro y hy
  obtain ⟨j, hj⟩ := List.getElem?_of_mem hy
  have := bestUpR_spec k l l.length
  unfold bestF at h
  rw [h] at this
  exact this j y (List.getElem?_eq_some_iff.1 hj).1 hj
theorem bestF_some {k : Int} {l : List R2} {x : R2} (hg : Gaps l) (hin : ∀ y ∈ l, 0 ≤ y.1 ∧ y.1 < 8192) (h : bestF k l = some x) : x ∈ l ∧ k ≤ x.2 ∧ ∀ y ∈ l, k ≤ y.2 → keyOf x ≤ keyOf y := by
  have := bestUpR_spec k l l.length
  unfold bestF at h
  rw [h] at this
  obtain ⟨⟨j, h1, h2, h3⟩, h4, h5⟩ := this
  have hx := List.mem_of_getElem? h2
  refine ⟨hx, h4, fun y hy hk => ?_⟩
  obtain ⟨j', hj'⟩ := List.getElem?_of_mem hy
  have hle := h5 j' y (List.getElem?_eq_some_iff.1 hj').1 hj' hk
  have i1 := hin x hx
  have i2 := hin y hy
  unfold keyOf
  rcases Nat.lt_trichotomy j' j with hjj | rfl | hjj
  · have := h3 j' y hjj hj' hk; omega
  · rw [h2] at hj'; cases hj'; omega
  · have := gaps_order hg hjj h2 hj'
    have := hg.pos x hx
    omega
theorem keyOf_inj {x y : R2} (hx : 0 ≤ x.1 ∧ x.1 < 8192) (hy : 0 ≤ y.1 ∧ y.1 < 8192) (h : keyOf x = keyOf y) : x = y := by
  unfold keyOf at h
  exact Prod.ext (by omega) (by omega)
theorem bestF_of {k : Int} {l : List R2} (hg : Gaps l) (hin : ∀ y ∈ l, 0 ≤ y.1 ∧ y.1 < 8192) :
    (∀ x, x ∈ l → k ≤ x.2 → (∀ y ∈ l, k ≤ y.2 → keyOf x ≤ keyOf y) → bestF k l = some x) ∧ ((∀ y ∈ l, y.2 < k) → bestF k l = none) := by
  refine ⟨fun x hx hk hle => ?_, fun hn => ?_⟩
  · cases hb : bestF k l with
    | none => have := bestF_none hb x hx; omega
    | some z =>
      obtain ⟨h1, h2, h3⟩ := bestF_some hg hin hb
      have := h3 x hx hk
      have := hle z h1 h2
      exact congrArg some (keyOf_inj (hin z h1) (hin x hx) (by omega))
  · cases hb : bestF k l with
    | none => rfl
    | some z =>
      obtain ⟨h1, h2, h3⟩ := bestF_some hg hin hb
      have := hn z h1; omega

end Go.Proofs.Ytdeebagjmhpocaa
