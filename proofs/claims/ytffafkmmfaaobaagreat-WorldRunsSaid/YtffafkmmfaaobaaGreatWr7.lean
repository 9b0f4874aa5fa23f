/- The reference's machine: one step of it, by how much of it has been gone through. -/
import Derived.Test.YtffafkmmfaaobaaGreatWr6
import Derived.Test.YtffafkmmfaaobaaGreatWr5
namespace Go.Proofs.YtffafkmmfaaobaaGreat
set_option linter.unusedSimpArgs false
set_option linter.unusedVariables false
open Go.RowKit

/-- What a step is about: the machine, the arena, what was told ahead of it, the access that is done now. -/
structure RC where
  m : Nat
  b : Nat
  s : Nat
  g : Nat
  c : MC
  v : MV
  p : Int
  t : Int
  qv : Value
  B : Nat
  ws : List Int
  xs : List Int
  x : Nx
  ct : Int
def RC.u (R : RC) : Int := R.ws.getD R.x.at 0
/-- What is told, with that of now. -/
def RC.ys (R : RC) : List Int := R.xs ++ [R.u]
def RC.n (R : RC) : Nat := R.xs.length

structure RC.Ok (R : RC) (w0 : World) : Prop where
  hv : R.v.mem = .pointer (some ⟨R.b, 0, none⟩)
  hu : R.v.used = false
  hn : R.xs.length < 1000000
  hi : R.x.at < R.ws.length
  hc : 0 ≤ R.ct ∧ R.ct < 1000000
  hB : R.B ≤ w0.heap.size
  hg : R.v.log.ownBlock ≠ some R.g

/-- The marks that were made in this step. -/
def MarksOk (w0 w : World) (mk : Value) : Prop := ∃ nm ms, w.ownsRow w0.heap.size 249 6 mk nm ms ∧ nm < 1000

def RMut (w0 : World) (R : RC) : Nat → Prop := fun k => SG R.s R.g k ∨ k = R.m ∨ LogOwn w0 R.v.log k

/-- So much was gone through: j were told (that of now among them, if j is one more than the log had). -/
structure RefS (w0 : World) (R : RC) (j : Nat) (w : World) : Prop where
  mem : MemAt w R.b R.p R.t R.s R.qv
  kept : Kept (RMut w0 R) w0 w
  st : ∃ mk, MarksOk w0 w mk ∧
    ((j ≤ R.n ∧ MAt w R.m R.c { R.v with at' := (j : Int), marks := mk } ∧ LogRow w R.B R.v.log R.xs ∧ ∃ k a o n, StoreIs 110 w R.s R.g R.ws k a o n R.ct) ∨
     (j = R.n + 1 ∧ ∃ lg', MAt w R.m R.c { R.v with log := lg', at' := (R.n : Int) + 1, used := true, d0 := R.x.kind R.u, d1 := R.x.at, d2 := R.u, d3 := R.x.next R.u, marks := mk } ∧
        LogRow w R.B lg' R.ys ∧ NewOwn w0 R.v.log lg' ∧ StoreIs 110 w R.s R.g (R.ws.set R.x.at (R.x.next R.u)) (R.x.kind R.u) R.x.at R.u (R.x.next R.u) (R.ct + 1)))

theorem MarksOk.kept {w0 w w' : World} {F : Nat → Prop} {mk : Value} (h : MarksOk w0 w mk) (hk : Kept F w w') (hF : ∀ k cs, w.heap[k]? = some (.cells cs 249 (0, 0)) → ¬ F k) : MarksOk w0 w' mk := by
  obtain ⟨nm, ms, ⟨h1, h2⟩, h3⟩ := h
  refine ⟨nm, ms, ⟨h1, ?_⟩, h3⟩
  rcases h2 with h0 | ⟨g, cap, cur, rfl, hbg, hgc, hr⟩
  · exact .inl h0
  · exact .inr ⟨g, cap, cur, rfl, hbg, hk.at hgc (hF g cur hgc), hr⟩

section
variable {w0 w : World} {R : RC} {j : Nat}

theorem RC.ys_lt (h : j < R.n) : R.ys.getD j 0 = R.xs.getD j 0 := by
  unfold RC.ys RC.n at *
  rw [List.getD_eq_getElem?_getD, List.getElem?_append_left h, ← List.getD_eq_getElem?_getD]
theorem RC.ys_n : R.ys.getD R.n 0 = R.u := by
  unfold RC.ys RC.n
  simp [List.getD_eq_getElem?_getD]

theorem RefS.lt (h : RefS w0 R j w) (hj : j ≤ R.n) : ∃ mk, MarksOk w0 w mk ∧ MAt w R.m R.c { R.v with at' := (j : Int), marks := mk } ∧ LogRow w R.B R.v.log R.xs ∧ ∃ k a o n, StoreIs 110 w R.s R.g R.ws k a o n R.ct := by
  obtain ⟨mk, h1, (⟨_, h2⟩ | ⟨h2, _⟩)⟩ := h.st
  · exact ⟨mk, h1, h2⟩
  · omega
theorem RefS.end (h : RefS w0 R (R.n + 1) w) : ∃ mk, MarksOk w0 w mk ∧ ∃ lg', MAt w R.m R.c { R.v with log := lg', at' := (R.n : Int) + 1, used := true, d0 := R.x.kind R.u, d1 := R.x.at, d2 := R.u, d3 := R.x.next R.u, marks := mk } ∧
        LogRow w R.B lg' R.ys ∧ NewOwn w0 R.v.log lg' ∧ StoreIs 110 w R.s R.g (R.ws.set R.x.at (R.x.next R.u)) (R.x.kind R.u) R.x.at R.u (R.x.next R.u) (R.ct + 1) := by
  obtain ⟨mk, h1, (⟨h2, _⟩ | ⟨_, h2⟩)⟩ := h.st
  · omega
  · exact ⟨mk, h1, h2⟩

/-- Behind a step that was told ahead of now. -/
theorem RefS.told {w' : World} (h : RefS w0 R j w) (hj : j < R.n) {mk : Value} (hmk : MarksOk w0 w mk) (hl : LogRow w R.B R.v.log R.xs) {k a o n : Int} (hs : StoreIs 110 w R.s R.g R.ws k a o n R.ct)
    (hM0 : MAt w R.m R.c { R.v with at' := (j : Int), marks := mk })
    (hM : MAt w' R.m R.c { R.v with at' := (j : Int) + 1, marks := mk }) (hK : Kept (fun k => k = R.m) w w') : RefS w0 R (j + 1) w' := by
  have hmb : R.b ≠ R.m := type_ne' h.mem hM0 (by decide)
  refine ⟨hK.at h.mem hmb, h.kept.trans hK (fun k hk => .inl (.inr (.inl hk))), mk, hmk.kept hK (fun k cs hc => type_ne' hc hM0 (by decide)), .inl ⟨hj, ?_, ?_, k, a, o, n, ?_⟩⟩
  · have : ((j + 1 : Nat) : Int) = (j : Int) + 1 := by omega
    rw [this]; exact hM
  · exact hl.kept hK (fun k cs hc _ => type_ne' hc hM0 (by decide))
  · exact hs.kept hK (type_ne' hs.obj hM0 (by decide)) (type_ne' hs.row hM0 (by decide))

/-- Behind the step that was done now. -/
theorem RefS.now {w' : World} (h : RefS w0 R R.n w) (ok : R.Ok w0) {mk : Value} (hmk : MarksOk w0 w mk) (hM0 : MAt w R.m R.c { R.v with at' := (R.n : Int), marks := mk }) {k a o n : Int} (hs : StoreIs 110 w R.s R.g R.ws k a o n R.ct)
    (hA : AfterNow w R.m R.s R.g R.c { R.v with at' := (R.n : Int), marks := mk } R.ws R.B R.xs R.x R.ct w') : RefS w0 R (R.n + 1) w' := by
  obtain ⟨lg', hM, hL, hno, hS, hK⟩ := hA
  have hbs : R.b ≠ R.s := type_ne' h.mem hs.obj (by decide)
  have hbg : R.b ≠ R.g := type_ne' h.mem hs.row (by decide)
  have hbm : R.b ≠ R.m := type_ne' h.mem hM0 (by decide)
  have hmm : R.m < w0.heap.size ∨ w0.heap.size ≤ R.m := by omega
  refine ⟨hK.at h.mem ?_, h.kept.trans hK ?_, mk, hmk.kept hK ?_, .inr ⟨rfl, lg', hM, hL, hno.imp id (fun h' k hk => Nat.le_trans h.kept.size (h' k hk)), hS⟩⟩
  · rintro ((e | e) | e | ⟨_, cs, hc, _⟩)
    · exact hbs e
    · exact hbg e
    · exact hbm e
    · exact type_ne' h.mem hc (by decide) rfl
  · intro k hk
    by_cases hlt : k < w0.heap.size
    · rcases hk with hk | hk | ⟨ho, cs, hc, hz⟩
      · exact .inl (.inl hk)
      · exact .inl (.inr (.inl hk))
      · by_cases hF : RMut w0 R k
        · exact .inl hF
        · refine .inl (.inr (.inr ⟨ho, cs, ?_, hz⟩))
          rw [← h.kept.block k hlt hF]; exact hc
    · exact .inr (by omega)
  · rintro k cs hc ((e | e) | e | ⟨_, cs', hc', _⟩)
    · exact type_ne' hc hs.obj (by decide) e
    · exact type_ne' hc hs.row (by decide) e
    · exact type_ne' hc hM0 (by decide) e
    · exact type_ne' hc hc' (by decide) rfl

theorem load_ref (h : RefS w0 R j w) (ok : R.Ok w0) (hj : j ≤ R.n) (at' : Int) (hx : j = R.n → ∃ i : Nat, at' = i ∧ R.x = .load i) :
    Calls Tryz.prog 170 #[.pointer (some ⟨R.m, 0, none⟩), .int .i64 at'] w fun e w' => e = .returned (.tuple #[.int .u64 (R.ys.getD j 0), .bool true]) ∧ RefS w0 R (j + 1) w' := by
  obtain ⟨mk, hmk, hM, hl, k, a, o, n, hs⟩ := h.lt hj
  by_cases hlt : j < R.n
  · refine (load_told hM hl j rfl hlt (by have := ok.hn; unfold RC.n at hlt; omega) at').mono ?_
    rintro e w' ⟨rfl, hM', hK⟩
    exact ⟨by rw [RC.ys_lt hlt], h.told hlt hmk hl hs hM hM' hK⟩
  · have hjn : j = R.n := by omega
    subst hjn
    obtain ⟨i, rfl, hxi⟩ := hx rfl
    have hlen := ok.hi
    rw [hxi] at hlen
    refine (load_now hM ok.hv h.mem hs hl (Nat.le_trans ok.hB h.kept.size) ok.hn rfl ok.hu i hlen ok.hc ok.hg).mono ?_
    rintro e w' ⟨rfl, hA⟩
    refine ⟨?_, h.now ok hmk hM hs (by rw [hxi]; exact hA)⟩
    rw [RC.ys_n, RC.u, hxi]; rfl

theorem put_ref (h : RefS w0 R j w) (ok : R.Ok w0) (hj : j ≤ R.n) (at' d : Int) (hx : j = R.n → ∃ i : Nat, at' = i ∧ R.x = .put i d) :
    Calls Tryz.prog 118 #[.pointer (some ⟨R.m, 0, none⟩), .int .i64 at', .int .u64 d] w fun e w' => e = .returned (.tuple #[.int .u64 (R.ys.getD j 0), .bool true]) ∧ RefS w0 R (j + 1) w' := by
  obtain ⟨mk, hmk, hM, hl, k, a, o, n, hs⟩ := h.lt hj
  by_cases hlt : j < R.n
  · refine (put_told hM hl j rfl hlt (by have := ok.hn; unfold RC.n at hlt; omega) at' d).mono ?_
    rintro e w' ⟨rfl, hM', hK⟩
    exact ⟨by rw [RC.ys_lt hlt], h.told hlt hmk hl hs hM hM' hK⟩
  · have hjn : j = R.n := by omega
    subst hjn
    obtain ⟨i, rfl, hxi⟩ := hx rfl
    have hlen := ok.hi
    rw [hxi] at hlen
    refine (put_now hM ok.hv h.mem hs hl (Nat.le_trans ok.hB h.kept.size) ok.hn rfl ok.hu i d hlen ok.hc ok.hg).mono ?_
    rintro e w' ⟨rfl, hA⟩
    refine ⟨?_, h.now ok hmk hM hs (by rw [hxi]; exact hA)⟩
    rw [RC.ys_n, RC.u, hxi]; rfl

theorem add_ref (h : RefS w0 R j w) (ok : R.Ok w0) (hj : j ≤ R.n) (at' d : Int) (hx : j = R.n → ∃ i : Nat, at' = i ∧ R.x = .add i d) :
    Calls Tryz.prog 184 #[.pointer (some ⟨R.m, 0, none⟩), .int .i64 at', .int .u64 d] w fun e w' => e = .returned (.tuple #[.int .u64 (R.ys.getD j 0), .bool true]) ∧ RefS w0 R (j + 1) w' := by
  obtain ⟨mk, hmk, hM, hl, k, a, o, n, hs⟩ := h.lt hj
  by_cases hlt : j < R.n
  · refine (add_told hM hl j rfl hlt (by have := ok.hn; unfold RC.n at hlt; omega) at' d).mono ?_
    rintro e w' ⟨rfl, hM', hK⟩
    exact ⟨by rw [RC.ys_lt hlt], h.told hlt hmk hl hs hM hM' hK⟩
  · have hjn : j = R.n := by omega
    subst hjn
    obtain ⟨i, rfl, hxi⟩ := hx rfl
    have hlen := ok.hi
    rw [hxi] at hlen
    refine (add_now hM ok.hv h.mem hs hl (Nat.le_trans ok.hB h.kept.size) ok.hn rfl ok.hu i d hlen ok.hc ok.hg).mono ?_
    rintro e w' ⟨rfl, hA⟩
    refine ⟨?_, h.now ok hmk hM hs (by rw [hxi]; exact hA)⟩
    rw [RC.ys_n, RC.u, hxi]; rfl

theorem cas_ref (h : RefS w0 R j w) (ok : R.Ok w0) (hj : j ≤ R.n) (at' d1 d2 : Int) (hx : j = R.n → ∃ i : Nat, at' = i ∧ R.x = .cas i d1 d2) :
    Calls Tryz.prog 173 #[.pointer (some ⟨R.m, 0, none⟩), .int .i64 at', .int .u64 d1, .int .u64 d2] w fun e w' => e = .returned (.tuple #[.bool (decide (R.ys.getD j 0 = d1)), .bool true]) ∧ RefS w0 R (j + 1) w' := by
  obtain ⟨mk, hmk, hM, hl, k, a, o, n, hs⟩ := h.lt hj
  by_cases hlt : j < R.n
  · refine (cas_told hM hl j rfl hlt (by have := ok.hn; unfold RC.n at hlt; omega) at' d1 d2).mono ?_
    rintro e w' ⟨rfl, hM', hK⟩
    exact ⟨by rw [RC.ys_lt hlt], h.told hlt hmk hl hs hM hM' hK⟩
  · have hjn : j = R.n := by omega
    subst hjn
    obtain ⟨i, rfl, hxi⟩ := hx rfl
    have hlen := ok.hi
    rw [hxi] at hlen
    refine (cas_now hM ok.hv h.mem hs hl (Nat.le_trans ok.hB h.kept.size) ok.hn rfl ok.hu i d1 d2 hlen ok.hc ok.hg).mono ?_
    rintro e w' ⟨rfl, hA⟩
    refine ⟨?_, h.now ok hmk hM hs (by rw [hxi]; exact hA)⟩
    rw [RC.ys_n, RC.u, hxi]; rfl

/-- Behind a step of now nothing more is done. -/
theorem RefS.still {w' : World} (h : RefS w0 R (R.n + 1) w) {v' : MV} (hM0 : MAt w R.m R.c v') (hM : MAt w' R.m R.c v') (hK : Kept (fun k => k = R.m) w w') : RefS w0 R (R.n + 1) w' := by
  obtain ⟨mk, hmk, lg', h1, h2, h3, h4⟩ := h.end
  have hmb : R.b ≠ R.m := type_ne' h.mem hM0 (by decide)
  have he := hM0.symm.trans h1
  have hMM : MAt w' R.m R.c { R.v with log := lg', at' := (R.n : Int) + 1, used := true, d0 := R.x.kind R.u, d1 := R.x.at, d2 := R.u, d3 := R.x.next R.u, marks := mk } := hM.trans he
  refine ⟨hK.at h.mem hmb, h.kept.trans hK (fun k hk => .inl (.inr (.inl hk))), mk, hmk.kept hK (fun k cs hc => type_ne' hc hM0 (by decide)), .inr ⟨rfl, lg', hMM, ?_, h3, ?_⟩⟩
  · exact h2.kept hK (fun k cs hc _ => type_ne' hc hM0 (by decide))
  · exact h4.kept hK (type_ne' h4.obj hM0 (by decide)) (type_ne' h4.row hM0 (by decide))

theorem RefS.full (h : RefS w0 R (R.n + 1) w) : ∃ v a n cap, MAt w R.m R.c v ∧ v.log = .slice a n cap ∧ ¬ v.at' < n ∧ v.used = true := by
  obtain ⟨mk, hmk, lg', h1, h2, h3, h4⟩ := h.end
  obtain ⟨la, ln, lc, hlog⟩ := slice_of h2
  refine ⟨_, la, ln, lc, h1, hlog, ?_, rfl⟩
  have := log_len h2 hlog
  simp only [this, RC.ys, List.length_append, List.length_singleton, RC.n]
  omega

theorem load_end (h : RefS w0 R (R.n + 1) w) (at' : Int) :
    Calls Tryz.prog 170 #[.pointer (some ⟨R.m, 0, none⟩), .int .i64 at'] w fun e w' => e = .returned (.tuple #[.int .u64 0, .bool false]) ∧ RefS w0 R (R.n + 1) w' := by
  obtain ⟨v, a, n, cap, hM, hl, hat, hu⟩ := h.full
  exact (load_used hM hl hat hu at').mono fun e w' ⟨he, h1, h2⟩ => ⟨he, h.still hM h1 h2⟩
theorem put_end (h : RefS w0 R (R.n + 1) w) (at' d : Int) :
    Calls Tryz.prog 118 #[.pointer (some ⟨R.m, 0, none⟩), .int .i64 at', .int .u64 d] w fun e w' => e = .returned (.tuple #[.int .u64 0, .bool false]) ∧ RefS w0 R (R.n + 1) w' := by
  obtain ⟨v, a, n, cap, hM, hl, hat, hu⟩ := h.full
  exact (put_used hM hl hat hu at' d).mono fun e w' ⟨he, h1, h2⟩ => ⟨he, h.still hM h1 h2⟩
theorem add_end (h : RefS w0 R (R.n + 1) w) (at' d : Int) :
    Calls Tryz.prog 184 #[.pointer (some ⟨R.m, 0, none⟩), .int .i64 at', .int .u64 d] w fun e w' => e = .returned (.tuple #[.int .u64 0, .bool false]) ∧ RefS w0 R (R.n + 1) w' := by
  obtain ⟨v, a, n, cap, hM, hl, hat, hu⟩ := h.full
  exact (add_used hM hl hat hu at' d).mono fun e w' ⟨he, h1, h2⟩ => ⟨he, h.still hM h1 h2⟩
theorem cas_end (h : RefS w0 R (R.n + 1) w) (at' d1 d2 : Int) :
    Calls Tryz.prog 173 #[.pointer (some ⟨R.m, 0, none⟩), .int .i64 at', .int .u64 d1, .int .u64 d2] w fun e w' => e = .returned (.tuple #[.bool false, .bool false]) ∧ RefS w0 R (R.n + 1) w' := by
  obtain ⟨v, a, n, cap, hM, hl, hat, hu⟩ := h.full
  exact (cas_used hM hl hat hu at' d1 d2).mono fun e w' ⟨he, h1, h2⟩ => ⟨he, h.still hM h1 h2⟩

/-- An access, whatever was gone through: it is told; or it may not be done yet. -/
def AccOr (w0 : World) (R : RC) (j : Nat) (e : Ending) (w' : World) : Prop :=
  (∃ u : Int, Hid (R.ys.getD j 0 = u) ∧ Hid (j ≤ R.n) ∧ e = .returned (.tuple #[.int .u64 u, .bool true]) ∧ Hid (RefS w0 R (j + 1) w')) ∨
  (Hid (j = R.n + 1) ∧ e = .returned (.tuple #[.int .u64 0, .bool false]) ∧ Hid (RefS w0 R (R.n + 1) w'))
def CasOr (w0 : World) (R : RC) (j : Nat) (d : Int) (e : Ending) (w' : World) : Prop :=
  (∃ b : Bool, Hid (b = decide (R.ys.getD j 0 = d)) ∧ Hid (j ≤ R.n) ∧ e = .returned (.tuple #[.bool b, .bool true]) ∧ Hid (RefS w0 R (j + 1) w')) ∨
  (Hid (j = R.n + 1) ∧ e = .returned (.tuple #[.bool false, .bool false]) ∧ Hid (RefS w0 R (R.n + 1) w'))

theorem accOr (hj : j ≤ R.n + 1) (h : RefS w0 R j w) {f : FuncId} {args : Array Value}
    (h1 : j ≤ R.n → Calls Tryz.prog f args w fun e w' => e = .returned (.tuple #[.int .u64 (R.ys.getD j 0), .bool true]) ∧ RefS w0 R (j + 1) w')
    (h2 : RefS w0 R (R.n + 1) w → Calls Tryz.prog f args w fun e w' => e = .returned (.tuple #[.int .u64 0, .bool false]) ∧ RefS w0 R (R.n + 1) w') : Calls Tryz.prog f args w (AccOr w0 R j) := by
  by_cases e : j = R.n + 1
  · subst e
    exact (h2 h).mono fun e w' ⟨h1, h2⟩ => .inr ⟨Lib.hid rfl, h1, Lib.hid h2⟩
  · exact (h1 (by omega)).mono fun e w' ⟨h1, h2⟩ => .inl ⟨_, Lib.hid rfl, Lib.hid (by omega), h1, Lib.hid h2⟩
theorem mload_any (h : RefS w0 R j w) (ok : R.Ok w0) (hj : j ≤ R.n + 1) (at' : Int) (hx : j = R.n → ∃ i : Nat, at' = i ∧ R.x = .load i) :
    Calls Tryz.prog 170 #[.pointer (some ⟨R.m, 0, none⟩), .int .i64 at'] w (AccOr w0 R j) :=
  accOr hj h (fun hj => load_ref h ok hj at' hx) (fun h => load_end h at')
theorem mput_any (h : RefS w0 R j w) (ok : R.Ok w0) (hj : j ≤ R.n + 1) (at' d : Int) (hx : j = R.n → ∃ i : Nat, at' = i ∧ R.x = .put i d) :
    Calls Tryz.prog 118 #[.pointer (some ⟨R.m, 0, none⟩), .int .i64 at', .int .u64 d] w (AccOr w0 R j) :=
  accOr hj h (fun hj => put_ref h ok hj at' d hx) (fun h => put_end h at' d)
theorem madd_any (h : RefS w0 R j w) (ok : R.Ok w0) (hj : j ≤ R.n + 1) (at' d : Int) (hx : j = R.n → ∃ i : Nat, at' = i ∧ R.x = .add i d) :
    Calls Tryz.prog 184 #[.pointer (some ⟨R.m, 0, none⟩), .int .i64 at', .int .u64 d] w (AccOr w0 R j) :=
  accOr hj h (fun hj => add_ref h ok hj at' d hx) (fun h => add_end h at' d)
theorem mcas_any (h : RefS w0 R j w) (ok : R.Ok w0) (hj : j ≤ R.n + 1) (at' d1 d2 : Int) (hx : j = R.n → ∃ i : Nat, at' = i ∧ R.x = .cas i d1 d2) :
    Calls Tryz.prog 173 #[.pointer (some ⟨R.m, 0, none⟩), .int .i64 at', .int .u64 d1, .int .u64 d2] w (CasOr w0 R j d1) := by
  by_cases e : j = R.n + 1
  · subst e
    exact (cas_end h at' d1 d2).mono fun e w' ⟨h1, h2⟩ => .inr ⟨Lib.hid rfl, h1, Lib.hid h2⟩
  · exact (cas_ref h ok (by omega) at' d1 d2 hx).mono fun e w' ⟨h1, h2⟩ => .inl ⟨_, Lib.hid rfl, Lib.hid (by omega), h1, Lib.hid h2⟩
end
end Go.Proofs.YtffafkmmfaaobaaGreat

namespace Go.Proofs.YtffafkmmfaaobaaGreat
set_option linter.unusedSimpArgs false
set_option linter.unusedVariables false
open Go.RowKit

section
variable {w : World} {a s g : Nat} {p t : Int} {qv : Value} {ws : List Int} {k o n' o' c : Int} {T : World → Prop} {K : FuncId} {fs cap : Array Value}

theorem NextIs.sg {w' : World} {nv : Value} {x : Nx} (h : NextIs w nv K fs cap x) (hS : StoreIs 187 w s g ws k o n' o' c) (hlen : ws.length ≠ 1) (hk : Kept (SG s g) w w') : NextIs w' nv K fs cap x :=
  h.kept hk fun b v ty hb hty => by
    rintro (rfl | rfl)
    · exact type_ne' hb hS.obj (by rcases hty with rfl | rfl | rfl | rfl | rfl <;> decide) rfl
    · exact one_ne hb hS.row (by simpa using hlen) rfl

theorem mach_gen (x : Nx) (m : Nat) (nv : Value) (rest : List Value) (ty : TypeId) (hN : NextIs w nv K fs cap x) (hM : MachIs w m p t nv rest ty) (hA : ArenaAt w a p t s qv) (hS : StoreIs 187 w s g ws k o n' o' c)
    (hlen : ws.length ≠ 1) (hi : x.at < ws.length) (hc : 0 ≤ c ∧ c < 1000000) (hma : m ≠ a) (hms : m ≠ s) (hmg : m ≠ g) (hUp : TUp T)
    (hen : ∀ args W, (callFunc K args).run Tryz.prog W = .ok (.enter K args) W)
    (hcl : ∀ w1, Kept (SG s g) w w1 → Calls Tryz.prog K (fs ++ x.told (ws.getD x.at 0) ++ cap) w1 fun e w2 => e = .returned (.tuple #[]) ∧ Kept (fun k => k = m) w1 w2 ∧ T w2) :
    Does (fun k => SG s g k ∨ k = m) (fun w' => StoreIs 187 w' s g (ws.set x.at (x.next (ws.getD x.at 0))) (x.kind (ws.getD x.at 0)) x.at (ws.getD x.at 0) (x.next (ws.getD x.at 0)) (c + 1) ∧ T w')
      75 #[.pointer (some ⟨m, 0, none⟩), .pointer (some ⟨a, 0, none⟩)] (x.kind (ws.getD x.at 0)) x.at (ws.getD x.at 0) (x.next (ws.getD x.at 0)) w := by
  intro w0 h0
  have hno : ∀ {F : Nat → Prop} {a b : World}, Kept No a b → Kept F a b := fun h => h.mono (fun _ h => h.elim)
  exact (desk_mach x m nv rest ty (hN.no h0) (hM.no h0) (hA.kept h0 (fun h => h)) (hS.kept h0 (fun h => h) (fun h => h)) hlen hi hc hma hms hmg hUp hen
    (fun w00 h00 w1 hK _ => hcl w1 (((hno h0).trans (hno h00 : Kept No w0 w00) (fun _ h => h.elim)).trans hK (fun _ h => .inl h)))).mono fun e w' h => h

theorem TUp.enter {m : Nat} {pt : EP} {gen : Int} : TUp fun w => EnterAt w m p t pt gen :=
  TUp.ex fun nv => TUp.ex fun bm => TUp.and (TUp.block (by decide)) (TUp.and (TUp.block (by decide)) (by
    unfold NvAt
    cases pt.nx with
    | none => exact TUp.pure
    | some y => exact TUp.next))

/-- The cycle that it tells behind the step. -/
def EP.gens (pt : EP) (u gen : Int) : Int := match pt with | .gen => wrap64 u | _ => gen

/-- Behind a machine's step (of layer 20): what it told; the blocks that turned; the store; where the machine stands. -/
theorem enter_mach {m : Nat} {pt : EP} {gen : Int} (hE : EnterAt w m p t pt gen) (x : Nx) (hx : pt.nx = some (x, K)) (hA : ArenaAt w a p t s qv) (hS : StoreIs 187 w s g ws k o n' o' c)
    (hlen : 5 ≤ ws.length) (hc : 0 ≤ c ∧ c < 1000000) :
    Calls Tryz.prog 57 #[.pointer (some ⟨m, 0, none⟩), .pointer (some ⟨a, 0, none⟩)] w
      (MStep w s g m ws x c fun w' => EnterAt w' m p t (pt.step (ws.getD x.at 0)) (pt.gens (ws.getD x.at 0) gen)) := by
  obtain ⟨nv, bm, hM, hb, hN⟩ := hE
  have hma : m ≠ a := type_ne' hM hA (by decide)
  have hms : m ≠ s := type_ne' hM hS.obj (by decide)
  have hmg : m ≠ g := type_ne' hM hS.row (by decide)
  have hbs : bm ≠ s := type_ne' hb hS.obj (by decide)
  have hbg : bm ≠ g := type_ne' hb hS.row (by decide)
  rw [hx] at hN
  have hi : x.at < ws.length := by cases pt <;> simp [EP.nx] at hx <;> (obtain ⟨rfl, _⟩ := hx; simp [Nx.at]; omega)
  have hG : ∀ k, (SG s g k ∨ k = m) → k < w.heap.size := by
    rintro k ((rfl | rfl) | rfl)
    · exact lt_of_block hS.obj
    · exact lt_of_block hS.row
    · exact lt_of_block hM
  refine enterStep_any m (TUp.and TUp.store TUp.enter) hG (mach_gen x m nv _ 160 hN hM hA hS (by omega) hi hc hma hms hmg TUp.enter ?_ ?_)
  · cases pt <;> simp [EP.nx] at hx <;> obtain ⟨_, rfl⟩ := hx
    · exact enters Tryz.func156 (by kernel_rfl) rfl
    · exact enters Tryz.func157 (by kernel_rfl) rfl
    · exact enters Tryz.func160 (by kernel_rfl) rfl
    · exact enters Tryz.func158 (by kernel_rfl) rfl
    · exact enters Tryz.func222 (by kernel_rfl) rfl
  · intro w1 hk
    have hM1 : MachIs w1 m p t nv [.int .i64 gen] 160 := hk.at hM (by simp [SG, hms, hmg])
    have hb1 : OneAt w1 bm (.pointer (some ⟨m, 0, none⟩)) 48 := hb.kept hk (by simp [SG, hbs, hbg])
    have hN1 := hN.sg hS (by omega) hk
    cases pt <;> simp [EP.nx] at hx <;> obtain ⟨rfl, rfl⟩ := hx
    · exact c156_any hM1 hb1 _
    · exact c157_any hM1 hb1 _
    · exact c160_any hM1 hb1 _
    · exact c158_any hM1 hb1 _
    · exact c222_any hM1 hb1 hN1 _
end
end Go.Proofs.YtffafkmmfaaobaaGreat

namespace Go.Proofs.YtffafkmmfaaobaaGreat
set_option linter.unusedSimpArgs false
set_option linter.unusedVariables false
open Go.RowKit

def ExitAt (w : World) (m : Nat) (p t : Int) (dn : Bool) : Prop :=
  ∃ nv bm, MachIs w m p t nv [] 162 ∧ OneAt w bm (.pointer (some ⟨m, 0, none⟩)) 49 ∧ (if dn then nv = .nilFunc else NextIs w nv 107 #[] #[.pointer (some ⟨bm, 0, none⟩)] (.add 4 18446744073709551615))
def GoAt (w : World) (m : Nat) (p t : Int) (dn : Bool) : Prop :=
  ∃ nv, MachIs w m p t nv [] 169 ∧ (if dn then nv = .nilFunc else NextIs w nv 108 #[.pointer (some ⟨m, 0, none⟩)] #[] (.put 1 0))
inductive SP where
  | begin | busy | gen | done
def SP.nx (th : Int) : SP → Option Nx
  | .begin => some (.cas 1 0 (th + 1))
  | .busy => some (.load 4)
  | .gen => some (.load 0)
  | .done => none
def StopNv (w : World) (nv : Value) (m bm : Nat) (th : Int) : SP → Prop
  | .begin => NextIs w nv 111 #[] #[.pointer (some ⟨bm, 0, none⟩)] (.cas 1 0 (th + 1))
  | .busy => NextIs w nv 113 #[.pointer (some ⟨m, 0, none⟩)] #[] (.load 4)
  | .gen => NextIs w nv 168 #[] #[.pointer (some ⟨bm, 0, none⟩)] (.load 0)
  | .done => nv = .nilFunc
def StopAt (w : World) (m : Nat) (p t : Int) (th : Int) (pt : SP) (gen : Int) : Prop :=
  ∃ nv bm, MachIs w m p t nv [.int .i64 gen] 165 ∧ OneAt w bm (.pointer (some ⟨m, 0, none⟩)) 50 ∧ StopNv w nv m bm th pt
def SP.step (pt : SP) (u : Int) : SP :=
  match pt with
  | .begin => if u = 0 then .busy else .begin
  | .busy => if u = 0 then .gen else .busy
  | .gen => .done
  | .done => .done
def SP.gens (pt : SP) (u gen : Int) : Int := match pt with | .gen => wrap64 u | _ => gen

section
variable {w : World} {m bm : Nat} {p t : Int} {nv : Value} {rest : List Value} {gen th : Int} {ty : TypeId}

theorem endOf (hM : MachIs w m p t nv rest ty) : ∀ w', w' = w.setCell ⟨m, 2, none⟩ .nilFunc → Kept (fun k => k = m) w w' ∧ MachIs w' m p t .nilFunc rest ty := by
  rintro w' rfl
  exact ⟨(Kept.refl (fun k => k = m) w).setCell (p := ⟨m, 2, none⟩) (.inl rfl) _, mach_set hM _⟩

set_option maxRecDepth 100000 in
set_option maxHeartbeats 1000000 in
theorem c107_any (hM : MachIs w m p t nv [] 162) (hb : OneAt w bm (.pointer (some ⟨m, 0, none⟩)) 49) (u : Int) :
    Calls Tryz.prog 107 #[.int .u64 u, .pointer (some ⟨bm, 0, none⟩)] w fun e w' => e = .returned (.tuple #[]) ∧ Kept (fun k => k = m) w w' ∧ ExitAt w' m p t true := by
  have c0 := hb.cell
  have hbm : bm ≠ m := type_ne' hb hM (by decide)
  have c2 : w.cell? ⟨m, 2, none⟩ = some nv := (cellOf hM 2).trans (by simp)
  have f2 : w.frozen? ⟨m, 2, none⟩ = false := freeOf hM 2
  have HW := Lib.hid (endOf hM)
  have Hb := Lib.hid hb
  clear hM hb
  go_enter Tryz.func107, Tryz.ntmps107
  go_wp2
  go_end0
  go_wp2
  go_end0
  obtain ⟨h1, h2⟩ := HW.out _ rfl
  exact ⟨rfl, h1, .nilFunc, bm, h2, Hb.out.kept h1 hbm, rfl⟩

set_option maxRecDepth 100000 in
set_option maxHeartbeats 1000000 in
theorem c108_any (hM : MachIs w m p t nv [] 169) :
    Calls Tryz.prog 108 #[.pointer (some ⟨m, 0, none⟩)] w fun e w' => e = .returned (.tuple #[]) ∧ Kept (fun k => k = m) w w' ∧ GoAt w' m p t true := by
  have c2 : w.cell? ⟨m, 2, none⟩ = some nv := (cellOf hM 2).trans (by simp)
  have f2 : w.frozen? ⟨m, 2, none⟩ = false := freeOf hM 2
  have HW := Lib.hid (endOf hM)
  clear hM
  go_enter Tryz.func108, Tryz.ntmps108
  go_wp2
  go_end0
  obtain ⟨h1, h2⟩ := HW.out _ rfl
  exact ⟨rfl, h1, .nilFunc, h2, rfl⟩

set_option maxRecDepth 100000 in
set_option maxHeartbeats 1000000 in
theorem c111_any (hM : MachIs w m p t nv [.int .i64 gen] 165) (hb : OneAt w bm (.pointer (some ⟨m, 0, none⟩)) 50) (hN : NextIs w nv 111 #[] #[.pointer (some ⟨bm, 0, none⟩)] (.cas 1 0 (th + 1))) (b : Bool) :
    Calls Tryz.prog 111 #[.bool b, .pointer (some ⟨bm, 0, none⟩)] w fun e w' => e = .returned (.tuple #[]) ∧ Kept (fun k => k = m) w w' ∧ StopAt w' m p t th (if b then .busy else .begin) gen := by
  have c0 := hb.cell
  have hbm : bm ≠ m := type_ne' hb hM (by decide)
  have HL := Lib.hid (laid_load (w := w.drew) hM 4 113 #[.pointer (some ⟨m, 0, none⟩)] #[])
  have lb : bm < w.heap.size := lt_of_block hb
  have hS0 : w.drew.cell? ⟨bm, 0, none⟩ = some (.pointer (some ⟨m, 0, none⟩)) := c0
  have HM := Lib.hid hM
  have Hb := Lib.hid hb
  have HE : Hid (StopAt w m p t th .begin gen) := Lib.hid ⟨nv, bm, hM, hb, hN⟩
  clear hM hb hN
  cases b
  · go_enter Tryz.func111, Tryz.ntmps111
    go_wp2
    go_end0
    exact ⟨rfl, Kept.refl _ _, HE.out⟩
  · go_enter Tryz.func111, Tryz.ntmps111
    go_wp2_with fail
    go_region_held3 (fun W => W.cell? ⟨bm, 0, none⟩ = some (.pointer (some ⟨m, 0, none⟩))) (first | with_reducible exact hS0 | with_reducible exact hS2)
      (first
        | (go_at_call 112; refine HL.out.mono ?_; rintro e w2 ⟨rfl, nv2, hM2, hN2, hK2⟩; have hS2 : w2.cell? ⟨bm, 0, none⟩ = some (.pointer (some ⟨m, 0, none⟩)) := (hK2.cell lb hbm).trans c0))
    have hK : Kept (fun k => k = m) w w2 := (Kept.refl (fun k => k = m) w).drew.trans hK2 (fun _ h => .inl h)
    have hFin : Hid (Kept (fun k => k = m) w w2 ∧ StopAt w2 m p t th .busy gen) := Lib.hid ⟨hK, nv2, bm, hM2, Hb.out.kept hK hbm, hN2⟩
    clear hM2 hN2 hK2 hK
    go_wp2
    go_end0
    exact ⟨rfl, hFin.out⟩

set_option maxRecDepth 100000 in
set_option maxHeartbeats 1000000 in
theorem c168_any (hM : MachIs w m p t nv [.int .i64 gen] 165) (hb : OneAt w bm (.pointer (some ⟨m, 0, none⟩)) 50) (u : Int) :
    Calls Tryz.prog 168 #[.int .u64 u, .pointer (some ⟨bm, 0, none⟩)] w fun e w' => e = .returned (.tuple #[]) ∧ Kept (fun k => k = m) w w' ∧ StopAt w' m p t th .done (wrap64 u) := by
  have c0 := hb.cell
  have hbm : bm ≠ m := type_ne' hb hM (by decide)
  have c3 : w.cell? ⟨m, 3, none⟩ = some (.int .i64 gen) := (cellOf hM 3).trans (by simp)
  have c2 : w.cell? ⟨m, 2, none⟩ = some nv := (cellOf hM 2).trans (by simp)
  have f3 : w.frozen? ⟨m, 3, none⟩ = false := freeOf hM 3
  have f2 : w.frozen? ⟨m, 2, none⟩ = false := freeOf hM 2
  have hW : ∀ w', w' = (w.setCell ⟨m, 3, none⟩ (.int .i64 (wrap64 u))).setCell ⟨m, 2, none⟩ .nilFunc → Kept (fun k => k = m) w w' ∧ StopAt w' m p t th .done (wrap64 u) := by
    rintro w' rfl
    refine ⟨((Kept.refl (fun k => k = m) w).setCell (p := ⟨m, 3, none⟩) (.inl rfl) _).setCell (p := ⟨m, 2, none⟩) (.inl rfl) _, .nilFunc, bm, ?_, ?_, rfl⟩
    · have := block_set (block_set hM 3 (.int .i64 (wrap64 u))) 2 .nilFunc
      simpa [MachIs] using this
    · exact block_set_other (block_set_other hb _ _ hbm) _ _ hbm
  have HW := Lib.hid hW
  clear hW hM hb
  go_enter Tryz.func168, Tryz.ntmps168
  go_wp2
  go_end0
  go_wp2
  go_end0
  exact ⟨rfl, HW.out _ rfl⟩

set_option maxRecDepth 100000 in
set_option maxHeartbeats 1000000 in
theorem c113_any (hM : MachIs w m p t nv [.int .i64 gen] 165) (hb : OneAt w bm (.pointer (some ⟨m, 0, none⟩)) 50) (hN : NextIs w nv 113 #[.pointer (some ⟨m, 0, none⟩)] #[] (.load 4)) (u : Int) :
    Calls Tryz.prog 113 #[.pointer (some ⟨m, 0, none⟩), .int .u64 u] w fun e w' => e = .returned (.tuple #[]) ∧ Kept (fun k => k = m) w w' ∧ StopAt w' m p t th (SP.step .busy u) gen := by
  have lm : m < w.heap.size := lt_of_block hM
  have hM1 : MachIs (w.alloc (.cells #[.pointer (some ⟨m, 0, none⟩)] 50)) m p t nv [.int .i64 gen] 165 := block_alloc hM _
  have hb1 : OneAt (w.alloc (.cells #[.pointer (some ⟨m, 0, none⟩)] 50)) w.heap.size (.pointer (some ⟨m, 0, none⟩)) 50 := heap_alloc_new w _
  have hK1 : Kept (fun k => k = m) w (w.alloc (.cells #[.pointer (some ⟨m, 0, none⟩)] 50)) := (Kept.refl _ w).alloc _
  have HL := Lib.hid (laid_load hM1 0 168 #[] #[.pointer (some ⟨w.heap.size, 0, none⟩)])
  have HE : Hid (Kept (fun k => k = m) w (w.alloc (.cells #[.pointer (some ⟨m, 0, none⟩)] 50)) ∧ StopAt (w.alloc (.cells #[.pointer (some ⟨m, 0, none⟩)] 50)) m p t th .busy gen) :=
    Lib.hid ⟨hK1, nv, bm, hM1, block_alloc hb _, hN.no ((Kept.refl _ w).alloc _)⟩
  have Hb := Lib.hid hb1
  have HK := Lib.hid hK1
  clear hM hM1 hb hK1 hb1 hN
  by_cases hu : u = 0
  · subst hu
    go_enter Tryz.func113, Tryz.ntmps113
    go_wp2_with (go_at_call 112; refine HL.out.mono ?_; rintro e w2 ⟨rfl, nv2, hM2, hN2, hK2⟩)
    go_end0
    exact ⟨rfl, HK.out.trans hK2 (fun _ h => .inl h), nv2, w.heap.size, hM2, Hb.out.kept hK2 (by omega), hN2⟩
  · have hu' : (u != 0) = true := by simpa using hu
    rw [show SP.step .busy u = .busy from if_neg hu]
    clear hu
    go_enter Tryz.func113, Tryz.ntmps113
    go_wp2
    first
      | go_end0
      | refine bodyPost_ret (v := .tuple #[]) (by simp [results, Tryz.results113, go_sem]) rfl ?_
    exact ⟨rfl, HE.out⟩
end
end Go.Proofs.YtffafkmmfaaobaaGreat
