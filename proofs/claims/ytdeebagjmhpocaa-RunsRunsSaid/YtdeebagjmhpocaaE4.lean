/- The plain law of runs, at its end: the program's runs and the reference's go along in a take and in a put. -/
import Derived.Test.YtdeebagjmhpocaaE3
namespace Go.Proofs.Ytdeebagjmhpocaa
set_option linter.unusedSimpArgs false
set_option linter.unusedVariables false

def setR (free : List Bool) (a : Nat) (b : Bool) : Nat → List Bool
  | 0 => free
  | n + 1 => (setR free a b n).set (a + n) b
theorem setR_length (free : List Bool) (a : Nat) (b : Bool) : ∀ n, (setR free a b n).length = free.length
  | 0 => rfl
  | n + 1 => by rw [setR, List.length_set, setR_length]
theorem setR_getD (free : List Bool) (a : Nat) (b : Bool) (p : Nat) : ∀ n, (setR free a b n).getD p false = if a ≤ p ∧ p < a + n ∧ p < free.length then b else free.getD p false
  | 0 => by rw [setR, if_neg (by omega)]
  | n + 1 => by
    have ih := setR_getD free a b p n
    rw [setR, List.getD_eq_getElem?_getD, List.getElem?_set, setR_length]
    rw [List.getD_eq_getElem?_getD] at ih
    by_cases h1 : a + n = p
    · rw [if_pos h1]
      by_cases h2 : a + n < free.length
      · rw [if_pos h2, if_pos (by omega)]; rfl
      · rw [if_neg h2, if_neg (by omega), List.getD_eq_getElem?_getD, List.getElem?_eq_none (by omega)]
    · rw [if_neg h1, ih]
      by_cases h2 : a ≤ p ∧ p < a + n ∧ p < free.length
      · rw [if_pos h2, if_pos (by omega)]
      · rw [if_neg h2, if_neg (by omega)]

structure Coup (s : RSt) (f : FSt) : Prop where
  inv : PInv s
  pages : s.pages = f.free.length
  cov : ∀ p : Int, Cov s.xs p ↔ 0 ≤ p ∧ p < f.free.length ∧ f.free.getD p.toNat false = true
  drawn : s.drawn = f.n
  ds : s.ds = f.ds
  its : f.its = (inord s.t).map itN

theorem Coup.xs {s : RSt} {f : FSt} (h : Coup s f) : s.xs = runsUp f.free f.free.length :=
  runsOf_unique ⟨h.inv.gaps, h.cov⟩ (runsUp_of f.free f.free.length).1
theorem Coup.total {s : RSt} {f : FSt} (h : Coup s f) : s.total = cntUp f.free f.free.length := by
  rw [h.inv.total, h.xs, (runsUp_of f.free f.free.length).2]
theorem Coup.shape {s : RSt} {f : FSt} (h : Coup s f) : shapeF f.its.length f.its 0 = pairs (preT 0 s.t) := by
  rw [h.its]
  exact shape_heap s.t _ 0 h.inv.srt h.inv.heap (by rw [List.length_map, inord_length]; exact Nat.le_refl _)
theorem Coup.srt {s : RSt} {f : FSt} (h : Coup s f) : SrtI f.its := by rw [h.its]; exact srtI_map h.inv.srt

/-! ### take -/
structure TookBy (s s' : RSt) (x : R2) (k : Int) : Prop where
  inv : PInv s'
  q : s'.q = s.q
  pages : s'.pages = s.pages
  ds : s'.ds = s.ds
  drawn : s'.drawn = s.drawn + if k < x.2 then 1 else 0
  mem : ∀ y, y ∈ s'.xs ↔ (y ∈ s.xs ∧ y ≠ x) ∨ (k < x.2 ∧ y = (x.1 + k, x.2 - k))
  nodes : inord s'.t = if k < x.2 then insN (ndOf (x.1 + k, x.2 - k) (drawOf s.ds s.drawn)) (delN (keyOf x) (inord s.t)) else delN (keyOf x) (inord s.t)
structure TookRef (f f' : FSt) (x : R2) (k : Int) : Prop where
  q : f'.q = f.q
  ds : f'.ds = f.ds
  cnt : f'.n = f.n + if k < x.2 then 1 else 0
  free : f'.free = setR f.free x.1.toNat false k.toNat
  its : f'.its = if k < x.2 then insIt (itOf (x.1 + k, x.2 - k) (drawOf f.ds f.n)) (delI (keyOf x) f.its) else delI (keyOf x) f.its

theorem cov_other {xs : List R2} (hg : Gaps xs) {x y : R2} (hx : x ∈ xs) (hy : y ∈ xs) (hne : y ≠ x) : x.1 + x.2 < y.1 ∨ y.1 + y.2 < x.1 := by
  obtain ⟨i, hi⟩ := List.getElem?_of_mem hx
  obtain ⟨j, hj⟩ := List.getElem?_of_mem hy
  rcases Nat.lt_trichotomy i j with h | rfl | h
  · exact .inl (gaps_order hg h hi hj)
  · rw [hi] at hj; cases hj; exact absurd rfl hne
  · exact .inr (gaps_order hg h hj hi)

theorem Coup.took {s s' : RSt} {f f' : FSt} {x : R2} {k : Int} (h : Coup s f) (hx : x ∈ s.xs) (h1 : 1 ≤ k) (h2 : k ≤ x.2) (a : TookBy s s' x k) (b : TookRef f f' x k) : Coup s' f' := by
  have hin := h.inv.inb x hx
  have hlen : f'.free.length = f.free.length := by rw [b.free, setR_length]
  refine ⟨a.inv, by rw [a.pages, h.pages, hlen], fun p => ?_, by rw [a.drawn, b.cnt, h.drawn], by rw [a.ds, b.ds, h.ds], ?_⟩
  · have hc : Cov s'.xs p ↔ Cov s.xs p ∧ ¬ (x.1 ≤ p ∧ p < x.1 + k) := by
      constructor
      · rintro ⟨y, hy, e1, e2⟩
        rcases (a.mem y).1 hy with ⟨hy, hne⟩ | ⟨hk, rfl⟩
        · refine ⟨⟨y, hy, e1, e2⟩, fun hh => ?_⟩
          rcases cov_other h.inv.gaps hx hy hne with h | h <;> omega
        · dsimp only at e1 e2
          exact ⟨⟨x, hx, by omega, by omega⟩, by omega⟩
      · rintro ⟨⟨y, hy, e1, e2⟩, hn⟩
        by_cases hyx : y = x
        · subst hyx
          exact ⟨(y.1 + k, y.2 - k), (a.mem _).2 (.inr ⟨by omega, rfl⟩), by dsimp only; omega, by dsimp only; omega⟩
        · exact ⟨y, (a.mem y).2 (.inl ⟨hy, hyx⟩), e1, e2⟩
    rw [hc, h.cov, hlen, b.free, setR_getD]
    have hp := h.pages
    constructor
    · rintro ⟨⟨e1, e2, e3⟩, e4⟩
      exact ⟨e1, e2, by rw [if_neg (by omega)]; exact e3⟩
    · rintro ⟨e1, e2, e3⟩
      by_cases hh : x.1.toNat ≤ p.toNat ∧ p.toNat < x.1.toNat + k.toNat ∧ p.toNat < f.free.length
      · rw [if_pos hh] at e3; cases e3
      · rw [if_neg hh] at e3
        exact ⟨⟨e1, e2, e3⟩, by omega⟩
  · rw [a.nodes, b.its, h.its, ← h.drawn, ← h.ds]
    split
    · rw [insIt_map, delI_map]; rfl
    · rw [delI_map]

/-! ### put -/
def nearL (xs : List R2) (a e : Int) : List R2 := xs.filter (fun x => decide (a ≤ x.1 + x.2 ∧ x.1 ≤ e))
def mergeL : R2 → List R2 → R2
  | w, [] => w
  | w, x :: l => mergeL (min w.1 x.1, w.2 + x.2) l
theorem mergeL_append (x : R2) : ∀ (l : List R2) (w : R2), mergeL w (l ++ [x]) = (min (mergeL w l).1 x.1, (mergeL w l).2 + x.2)
  | [], w => rfl
  | y :: l, w => by rw [List.cons_append, mergeL, mergeL_append x l]; rfl
def delAllN (l : List R2) (ns : List Nd) : List Nd := l.foldl (fun a x => delN (keyOf x) a) ns
def delAllI (l : List R2) (ns : List It) : List It := l.foldl (fun a x => delI (keyOf x) a) ns
theorem delAll_map : ∀ (l : List R2) (ns : List Nd), (delAllN l ns).map itN = delAllI l (ns.map itN)
  | [], _ => rfl
  | x :: l, ns => by
    show (delAllN l (delN (keyOf x) ns)).map itN = delAllI l (delI (keyOf x) (ns.map itN))
    rw [delAll_map l, delI_map]
theorem delAllN_snoc (l : List R2) (x : R2) (ns : List Nd) : delAllN (l ++ [x]) ns = delN (keyOf x) (delAllN l ns) := by simp [delAllN]
theorem delAllI_snoc (l : List R2) (x : R2) (ns : List It) : delAllI (l ++ [x]) ns = delI (keyOf x) (delAllI l ns) := by simp [delAllI]
theorem delAllI_srt : ∀ (l : List R2) (ns : List It), SrtI ns → SrtI (delAllI l ns)
  | [], _, h => h
  | x :: l, ns, h => delAllI_srt l _ (delI_srt h)

/-- Has some run some of the pages? -/
def Over (xs : List R2) (a n : Int) : Prop := ∃ x ∈ xs, x.1 < a + n ∧ a < x.1 + x.2

theorem nearL_gaps {xs : List R2} (hg : Gaps xs) (a e : Int) : Gaps (nearL xs a e) := ⟨hg.gap.filter _, fun x hx => hg.pos x (List.mem_filter.1 hx).1⟩
theorem nearL_mem {xs : List R2} {a e : Int} {x : R2} : x ∈ nearL xs a e ↔ x ∈ xs ∧ a ≤ x.1 + x.2 ∧ x.1 ≤ e := by simp [nearL, List.mem_filter]

theorem near_cases {xs : List R2} (hg : Gaps xs) {a n : Int} (hn : 1 ≤ n) (ho : ¬ Over xs a n) :
    nearL xs a (a + n) = [] ∨ (∃ x, nearL xs a (a + n) = [x] ∧ (x.1 + x.2 = a ∨ x.1 = a + n)) ∨ (∃ x y, nearL xs a (a + n) = [x, y] ∧ x.1 + x.2 = a ∧ y.1 = a + n) := by
  have hng := nearL_gaps hg a (a + n)
  have hm : ∀ x ∈ nearL xs a (a + n), x.1 + x.2 = a ∨ x.1 = a + n := fun x hx => by
    obtain ⟨h1, h2, h3⟩ := nearL_mem.1 hx
    rcases Int.lt_or_le x.1 (a + n) with h4 | h4
    · rcases Int.lt_or_le a (x.1 + x.2) with h5 | h5
      · exact absurd ⟨x, h1, h4, h5⟩ ho
      · exact .inl (by omega)
    · exact .inr (by omega)
  match hnl : nearL xs a (a + n) with
  | [] => exact .inl rfl
  | [x] => exact .inr (.inl ⟨x, rfl, hm x (by simp [hnl])⟩)
  | x :: y :: l =>
    rw [hnl] at hm hng
    have g := List.pairwise_cons.1 hng.gap
    have gxy := g.1 y (by simp)
    have hx := hm x (by simp)
    have hy := hm y (by simp)
    have py := hng.pos y (by simp)
    have px := hng.pos x (by simp)
    cases l with
    | nil => exact .inr (.inr ⟨x, y, rfl, by omega, by omega⟩)
    | cons z l =>
      have gyz := (List.pairwise_cons.1 g.2).1 z (by simp)
      have hz := hm z (by simp)
      have pz := hng.pos z (by simp)
      omega

structure WholeOk (xs : List R2) (a n pages : Int) (whole : R2) : Prop where
  lo : 0 ≤ whole.1
  pos : 1 ≤ whole.2
  hi : whole.1 + whole.2 ≤ pages
  apart : ∀ y ∈ xs, y ∉ nearL xs a (a + n) → y.1 + y.2 < whole.1 ∨ whole.1 + whole.2 < y.1
  cov : ∀ p : Int, (whole.1 ≤ p ∧ p < whole.1 + whole.2) ↔ (a ≤ p ∧ p < a + n) ∨ Cov (nearL xs a (a + n)) p

theorem whole_ok {xs : List R2} (hg : Gaps xs) {a n pages : Int} (h0 : 0 ≤ a) (hn : 1 ≤ n) (hp : a + n ≤ pages) (hin : ∀ x ∈ xs, 0 ≤ x.1 ∧ x.1 + x.2 ≤ pages) (ho : ¬ Over xs a n) :
    WholeOk xs a n pages (mergeL (a, n) (nearL xs a (a + n))) := by
  have hnm : ∀ y ∈ xs, y ∉ nearL xs a (a + n) → y.1 + y.2 < a ∨ a + n < y.1 := fun y hy hny => by
    refine Decidable.byContradiction fun hc => hny (nearL_mem.2 ⟨hy, by omega, by omega⟩)
  have hmem : ∀ x, x ∈ nearL xs a (a + n) → x ∈ xs := fun x hx => (nearL_mem.1 hx).1
  rcases near_cases hg hn ho with h | ⟨x, h, hx⟩ | ⟨x, y, h, hx, hy⟩
  · rw [h]
    rw [h] at hnm
    exact ⟨h0, hn, hp, fun y hy hny => by rw [h] at hny; exact hnm y hy hny, fun p => by simp [Cov, mergeL]; rw [h]; simp [Cov, mergeL]⟩
  · have hxm := hmem x (by rw [h]; simp)
    have hxi := hin x hxm
    have hxp := hg.pos x hxm
    have hc : ∀ p, Cov (nearL xs a (a + n)) p ↔ x.1 ≤ p ∧ p < x.1 + x.2 := fun p => by rw [h, cov_one]
    have hap : ∀ y ∈ xs, y ∉ nearL xs a (a + n) → x.1 + x.2 < y.1 ∨ y.1 + y.2 < x.1 := fun y hy hny => cov_other hg hxm hy (fun e => hny (by rw [h, e]; simp))
    have hw : mergeL (a, n) (nearL xs a (a + n)) = (min a x.1, n + x.2) := by rw [h]; rfl
    rw [hw]
    refine ⟨?_, ?_, ?_, fun y hy hny => ?_, fun p => ?_⟩
    · dsimp only; omega
    · dsimp only; omega
    · dsimp only; omega
    · have := hnm y hy hny; have := hap y hy hny; have := hg.pos y hy
      dsimp only; omega
    · rw [hc]; dsimp only; omega
  · have hxm := hmem x (by rw [h]; simp)
    have hym := hmem y (by rw [h]; simp)
    have hxi := hin x hxm
    have hyi := hin y hym
    have hxp := hg.pos x hxm
    have hyp := hg.pos y hym
    have hc : ∀ p, Cov (nearL xs a (a + n)) p ↔ (x.1 ≤ p ∧ p < x.1 + x.2) ∨ (y.1 ≤ p ∧ p < y.1 + y.2) := fun p => by rw [h]; simp [Cov]
    have hap : ∀ z ∈ xs, z ∉ nearL xs a (a + n) → (x.1 + x.2 < z.1 ∨ z.1 + z.2 < x.1) ∧ (y.1 + y.2 < z.1 ∨ z.1 + z.2 < y.1) := fun z hz hnz =>
      ⟨cov_other hg hxm hz (fun e => hnz (by rw [h, e]; simp)), cov_other hg hym hz (fun e => hnz (by rw [h, e]; simp))⟩
    have hw : mergeL (a, n) (nearL xs a (a + n)) = (min (min a x.1) y.1, n + x.2 + y.2) := by rw [h]; rfl
    rw [hw]
    refine ⟨?_, ?_, ?_, fun z hz hnz => ?_, fun p => ?_⟩
    · dsimp only; omega
    · dsimp only; omega
    · dsimp only; omega
    · have := hnm z hz hnz; have := hap z hz hnz; have := hg.pos z hz
      dsimp only; omega
    · rw [hc]; dsimp only; omega

structure PutBy (s s' : RSt) (a n : Int) : Prop where
  inv : PInv s'
  q : s'.q = s.q
  pages : s'.pages = s.pages
  ds : s'.ds = s.ds
  drawn : s'.drawn = s.drawn + 1
  mem : ∀ y, y ∈ s'.xs ↔ y = mergeL (a, n) (nearL s.xs a (a + n)) ∨ (y ∈ s.xs ∧ y ∉ nearL s.xs a (a + n))
  nodes : inord s'.t = insN (ndOf (mergeL (a, n) (nearL s.xs a (a + n))) (drawOf s.ds s.drawn)) (delAllN (nearL s.xs a (a + n)) (inord s.t))
structure PutRef (f f' : FSt) (xs : List R2) (a n : Int) : Prop where
  q : f'.q = f.q
  ds : f'.ds = f.ds
  cnt : f'.n = f.n + 1
  free : f'.free = setR f.free a.toNat true n.toNat
  its : f'.its = insIt (itOf (mergeL (a, n) (nearL xs a (a + n))) (drawOf f.ds f.n)) (delAllI (nearL xs a (a + n)) f.its)

theorem Coup.put {s s' : RSt} {f f' : FSt} {a n : Int} (h : Coup s f) (h0 : 0 ≤ a) (hn : 1 ≤ n) (hp : a + n ≤ s.pages) (ho : ¬ Over s.xs a n) (k : PutBy s s' a n) (b : PutRef f f' s.xs a n) : Coup s' f' := by
  have hw := whole_ok h.inv.gaps h0 hn hp h.inv.inb ho
  have hlen : f'.free.length = f.free.length := by rw [b.free, setR_length]
  have hpg := h.pages
  refine ⟨k.inv, by rw [k.pages, h.pages, hlen], fun p => ?_, by rw [k.drawn, b.cnt, h.drawn], by rw [k.ds, b.ds, h.ds], ?_⟩
  · have hc : Cov s'.xs p ↔ Cov s.xs p ∨ (a ≤ p ∧ p < a + n) := by
      constructor
      · rintro ⟨y, hy, e1, e2⟩
        rcases (k.mem y).1 hy with rfl | ⟨hy, _⟩
        · rcases (hw.cov p).1 ⟨e1, e2⟩ with h | ⟨z, hz, h⟩
          · exact .inr h
          · exact .inl ⟨z, (nearL_mem.1 hz).1, h⟩
        · exact .inl ⟨y, hy, e1, e2⟩
      · rintro (⟨y, hy, e1, e2⟩ | hh)
        · by_cases hny : y ∈ nearL s.xs a (a + n)
          · obtain ⟨e3, e4⟩ := (hw.cov p).2 (.inr ⟨y, hny, e1, e2⟩)
            exact ⟨_, (k.mem _).2 (.inl rfl), e3, e4⟩
          · exact ⟨y, (k.mem y).2 (.inr ⟨hy, hny⟩), e1, e2⟩
        · obtain ⟨e3, e4⟩ := (hw.cov p).2 (.inl hh)
          exact ⟨_, (k.mem _).2 (.inl rfl), e3, e4⟩
    rw [hc, h.cov, hlen, b.free, setR_getD]
    by_cases hh : a.toNat ≤ p.toNat ∧ p.toNat < a.toNat + n.toNat ∧ p.toNat < f.free.length
    · rw [if_pos hh]
      constructor
      · rintro (⟨e1, e2, e3⟩ | e)
        · exact ⟨e1, e2, rfl⟩
        · exact ⟨by omega, by omega, rfl⟩
      · rintro ⟨e1, e2, _⟩
        exact .inr (by omega)
    · rw [if_neg hh]
      constructor
      · rintro (⟨e1, e2, e3⟩ | e)
        · exact ⟨e1, e2, e3⟩
        · omega
      · rintro ⟨e1, e2, e3⟩
        exact .inl ⟨e1, e2, e3⟩
  · rw [k.nodes, b.its, h.its, ← h.drawn, ← h.ds, insIt_map, delAll_map]; rfl

/-- Some page is free, as the reference asks. -/
theorem Coup.over {s : RSt} {f : FSt} {a n : Int} (h : Coup s f) (h0 : 0 ≤ a) (hn : 1 ≤ n) (hp : a + n ≤ s.pages) : Over s.xs a n ↔ ∃ p : Nat, a.toNat ≤ p ∧ p < a.toNat + n.toNat ∧ f.free.getD p false = true := by
  constructor
  · rintro ⟨x, hx, h1, h2⟩
    have hxp := h.inv.gaps.pos x hx
    have hxi := h.inv.inb x hx
    obtain ⟨e1, e2, e3⟩ := (h.cov (max a x.1)).1 ⟨x, hx, by omega, by omega⟩
    exact ⟨(max a x.1).toNat, by omega, by omega, e3⟩
  · rintro ⟨p, h1, h2, h3⟩
    have hpg := h.pages
    obtain ⟨x, hx, e1, e2⟩ := (h.cov p).2 ⟨by omega, by omega, by rw [Int.toNat_natCast]; exact h3⟩
    exact ⟨x, hx, by omega, by omega⟩

end Go.Proofs.Ytdeebagjmhpocaa
