/- The reference's accesses. -/
import Derived.Test.YtffafkmmfaaobaaGreatWr0
import Derived.Maps.AppendAt
import Derived.Deep.LoopGhost
namespace Go.Proofs.YtffafkmmfaaobaaGreat
set_option linter.unusedSimpArgs false
set_option linter.unusedVariables false
open Go.RowKit

set_option maxRecDepth 100000 in
set_option maxHeartbeats 1000000 in
theorem there_ok {w : World} {s g : Nat} {ws : List Int} {k a o n m : Int} (h : StoreIs 110 w s g ws k a o n m) (at' : Int) (h0 : 0 ≤ at') (h1 : at' < ws.length) :
    Calls Tryz.prog 103 #[.pointer (some ⟨s, 0, none⟩), .int .i64 at'] w fun e w' => e = .returned (.bool true) ∧ w = w' := by
  have c0 : w.cell? ⟨s, 0, none⟩ = some (.slice (some ⟨g, 0, none⟩) ws.length ws.length) := cellOf h.obj 0
  clear h
  go_enter Tryz.func103, Tryz.ntmps103
  go_wp2
  go_ret
  exact ⟨rfl, rfl⟩

set_option maxRecDepth 100000 in
set_option maxHeartbeats 4000000 in
theorem raccess_any {w : World} {s g : Nat} {ws : List Int} {k a o n m : Int} (h : StoreIs 110 w s g ws k a o n m) (kd v : Int) (i : Nat) (h1 : i < ws.length) (hm : 0 ≤ m ∧ m < 1000000) :
    Calls Tryz.prog 104 #[.pointer (some ⟨s, 0, none⟩), .int .i64 kd, .int .i64 (i : Int), .int .u64 v] w fun e w' => e = .returned (.int .u64 (ws.getD i 0)) ∧ AccPost 110 w s g ws kd i v m w' := by
  have hne : s ≠ g := type_ne' h.obj h.row (by decide)
  have c0 : w.cell? ⟨s, 0, none⟩ = some (.slice (some ⟨g, 0, none⟩) ws.length ws.length) := cellOf h.obj 0
  have c1 : w.cell? ⟨s, 1, none⟩ = some (.int .i64 k) := cellOf h.obj 1
  have c2 : w.cell? ⟨s, 2, none⟩ = some (.int .i64 a) := cellOf h.obj 2
  have c3 : w.cell? ⟨s, 3, none⟩ = some (.int .u64 o) := cellOf h.obj 3
  have c4 : w.cell? ⟨s, 4, none⟩ = some (.int .u64 n) := cellOf h.obj 4
  have c5 : w.cell? ⟨s, 5, none⟩ = some (.int .i64 m) := cellOf h.obj 5
  have cg : w.cell? ⟨g, i, none⟩ = some (.int .u64 (ws.getD i 0)) := (cellOf h.row i).trans (cells_get h1)
  have f0 : w.frozen? ⟨g, i, none⟩ = false := freeOf h.row i
  have f1 : w.frozen? ⟨s, 1, none⟩ = false := freeOf h.obj 1
  have f2 : w.frozen? ⟨s, 2, none⟩ = false := freeOf h.obj 2
  have f3 : w.frozen? ⟨s, 3, none⟩ = false := freeOf h.obj 3
  have f4 : w.frozen? ⟨s, 4, none⟩ = false := freeOf h.obj 4
  have f5 : w.frozen? ⟨s, 5, none⟩ = false := freeOf h.obj 5
  have hne' : g ≠ s := hne.symm
  have hi : (0 : Int) ≤ i ∧ (i : Int) < ws.length := by omega
  have hE : ∀ w', w' = ((((((w.setCell ⟨g, i, none⟩ (.int .u64 v)).setCell ⟨s, 1, none⟩ (.int .i64 kd)).setCell ⟨s, 2, none⟩ (.int .i64 i)).setCell ⟨s, 3, none⟩ (.int .u64 (ws.getD i 0))).setCell ⟨s, 4, none⟩ (.int .u64 v)).setCell ⟨s, 5, none⟩ (.int .i64 (m + 1))) → AccPost 110 w s g ws kd i v m w' := by
    rintro w' rfl
    refine ⟨⟨?_, ?_⟩, ?_⟩
    · rw [block_set (block_set (block_set (block_set (block_set (block_set_other h.obj _ _ (by simpa using hne)) 1 _) 2 _) 3 _) 4 _) 5 _]
      simp
    · exact block_set_other (block_set_other (block_set_other (block_set_other (block_set_other (row_set h.row i v) _ _ (by simpa using hne')) _ _ (by simpa using hne')) _ _ (by simpa using hne')) _ _ (by simpa using hne')) _ _ (by simpa using hne')
    · exact ((((((Kept.refl _ w).setCell (.inl (.inr rfl)) _).setCell (.inl (.inl rfl)) _).setCell (.inl (.inl rfl)) _).setCell (.inl (.inl rfl)) _).setCell (.inl (.inl rfl)) _).setCell (.inl (.inl rfl)) _
  have HE := Lib.hid hE
  clear hE h
  have hmm : IntKind.i64.wrap (m + 1) = m + 1 := IntWalk.i64_in _ (by omega)
  generalize ws.getD i 0 = u at cg HE ⊢
  go_enter Tryz.func104, Tryz.ntmps104
  go_wp2
  go_ret
  exact ⟨rfl, HE.out _ rfl⟩

set_option maxRecDepth 100000 in
set_option maxHeartbeats 1000000 in
theorem rput_acc {w : World} {s g : Nat} {ws : List Int} {k a o n m : Int} (h : StoreIs 110 w s g ws k a o n m) (v : Int) (i : Nat) (h1 : i < ws.length) (hm : 0 ≤ m ∧ m < 1000000) :
    Calls Tryz.prog 52 #[.pointer (some ⟨s, 0, none⟩), .int .i64 (i : Int), .int .u64 v] w fun e w' => e = .returned (.int .i64 0) ∧ AccPost 110 w s g ws 2 i v m w' := by
  have H := Lib.hid h
  clear h
  go_enter Tryz.func52, Tryz.ntmps52
  go_wp2_with (first
    | (go_at_call 103; refine (there_ok H.out (i : Int) (by omega) (by omega)).mono ?_; rintro e w1 ⟨rfl, rfl⟩)
    | (go_at_call 104; refine (raccess_any H.out 2 v i h1 hm).mono ?_; rintro e w2 ⟨rfl, hA⟩; replace hA := Lib.hid hA))
  go_ret
  exact ⟨rfl, hA.out⟩

set_option maxRecDepth 100000 in
set_option maxHeartbeats 1000000 in
theorem rload_acc {w : World} {s g : Nat} {ws : List Int} {k a o n m : Int} (h : StoreIs 110 w s g ws k a o n m) (i : Nat) (h1 : i < ws.length) (hm : 0 ≤ m ∧ m < 1000000) :
    Calls Tryz.prog 223 #[.pointer (some ⟨s, 0, none⟩), .int .i64 (i : Int)] w fun e w' => e = .returned (.tuple #[.int .u64 (ws.getD i 0), .int .i64 0]) ∧ AccPost 110 w s g ws 1 i (ws.getD i 0) m w' := by
  have c0 : w.cell? ⟨s, 0, none⟩ = some (.slice (some ⟨g, 0, none⟩) ws.length ws.length) := cellOf h.obj 0
  have cg : w.cell? ⟨g, i, none⟩ = some (.int .u64 (ws.getD i 0)) := (cellOf h.row i).trans (cells_get h1)
  have hi : (0 : Int) ≤ i ∧ (i : Int) < ws.length := by omega
  have H := Lib.hid h
  have HA := fun u => Lib.hid (raccess_any h 1 u i h1 hm)
  clear h
  generalize ws.getD i 0 = u at cg HA ⊢
  go_enter Tryz.func223, Tryz.ntmps223
  go_wp2_with (first
    | (go_at_call 103; refine (there_ok H.out (i : Int) (by omega) (by omega)).mono ?_; rintro e w1 ⟨rfl, rfl⟩)
    | (go_at_call 104; refine (HA u).out.mono ?_; rintro e w2 ⟨rfl, hA⟩; replace hA := Lib.hid hA))
  go_ret2
  exact ⟨rfl, hA.out⟩

set_option maxRecDepth 100000 in
set_option maxHeartbeats 1000000 in
theorem radd_acc {w : World} {s g : Nat} {ws : List Int} {k a o n m : Int} (h : StoreIs 110 w s g ws k a o n m) (d : Int) (i : Nat) (h1 : i < ws.length) (hm : 0 ≤ m ∧ m < 1000000) :
    Calls Tryz.prog 231 #[.pointer (some ⟨s, 0, none⟩), .int .i64 (i : Int), .int .u64 d] w fun e w' => e = .returned (.tuple #[.int .u64 (ws.getD i 0), .int .i64 0]) ∧ AccPost 110 w s g ws 5 i (IntKind.u64.wrap (ws.getD i 0 + d)) m w' := by
  have c0 : w.cell? ⟨s, 0, none⟩ = some (.slice (some ⟨g, 0, none⟩) ws.length ws.length) := cellOf h.obj 0
  have cg : w.cell? ⟨g, i, none⟩ = some (.int .u64 (ws.getD i 0)) := (cellOf h.row i).trans (cells_get h1)
  have hi : (0 : Int) ≤ i ∧ (i : Int) < ws.length := by omega
  have H := Lib.hid h
  have HA := fun u => Lib.hid (raccess_any h 5 u i h1 hm)
  clear h
  generalize ws.getD i 0 = u at cg HA ⊢
  obtain ⟨z, hz⟩ : ∃ z, IntKind.u64.wrap (u + d) = z := ⟨_, rfl⟩
  rw [hz]
  go_enter Tryz.func231, Tryz.ntmps231
  go_wp2_with (first
    | (go_at_call 103; refine (there_ok H.out (i : Int) (by omega) (by omega)).mono ?_; rintro e w1 ⟨rfl, rfl⟩)
    | (go_at_call 104; refine (HA z).out.mono ?_; rintro e w2 ⟨rfl, hA⟩; replace hA := Lib.hid hA))
  go_ret2
  exact ⟨rfl, hA.out⟩

set_option maxRecDepth 100000 in
set_option maxHeartbeats 1000000 in
theorem rcas_won {w : World} {s g : Nat} {ws : List Int} {k a o n m : Int} (h : StoreIs 110 w s g ws k a o n m) (u v : Int) (i : Nat) (h1 : i < ws.length) (hm : 0 ≤ m ∧ m < 1000000) (hu : ws.getD i 0 = u) :
    Calls Tryz.prog 225 #[.pointer (some ⟨s, 0, none⟩), .int .i64 (i : Int), .int .u64 u, .int .u64 v] w fun e w' => e = .returned (.tuple #[.int .u64 u, .int .i64 0]) ∧ AccPost 110 w s g ws 3 i v m w' := by
  have c0 : w.cell? ⟨s, 0, none⟩ = some (.slice (some ⟨g, 0, none⟩) ws.length ws.length) := cellOf h.obj 0
  have cg : w.cell? ⟨g, i, none⟩ = some (.int .u64 u) := (cellOf h.row i).trans ((cells_get h1).trans (by rw [hu]))
  have hi : (0 : Int) ≤ i ∧ (i : Int) < ws.length := by omega
  have H := Lib.hid h
  have HA := Lib.hid (raccess_any h 3 v i h1 hm)
  rw [hu] at HA
  clear h hu
  go_enter Tryz.func225, Tryz.ntmps225
  go_wp2_with (first
    | (go_at_call 103; refine (there_ok H.out (i : Int) (by omega) (by omega)).mono ?_; rintro e w1 ⟨rfl, rfl⟩)
    | (go_at_call 104; refine HA.out.mono ?_; rintro e w2 ⟨rfl, hA⟩; replace hA := Lib.hid hA))
  go_ret2
  exact ⟨rfl, hA.out⟩

set_option maxRecDepth 100000 in
set_option maxHeartbeats 1000000 in
theorem rcas_lost {w : World} {s g : Nat} {ws : List Int} {k a o n m : Int} (h : StoreIs 110 w s g ws k a o n m) (u v : Int) (i : Nat) (h1 : i < ws.length) (hm : 0 ≤ m ∧ m < 1000000) (hu : ws.getD i 0 ≠ u) :
    Calls Tryz.prog 225 #[.pointer (some ⟨s, 0, none⟩), .int .i64 (i : Int), .int .u64 u, .int .u64 v] w fun e w' => e = .returned (.tuple #[.int .u64 (ws.getD i 0), .int .i64 5]) ∧ AccPost 110 w s g ws 4 i (ws.getD i 0) m w' := by
  have c0 : w.cell? ⟨s, 0, none⟩ = some (.slice (some ⟨g, 0, none⟩) ws.length ws.length) := cellOf h.obj 0
  have cg : w.cell? ⟨g, i, none⟩ = some (.int .u64 (ws.getD i 0)) := (cellOf h.row i).trans (cells_get h1)
  have hi : (0 : Int) ≤ i ∧ (i : Int) < ws.length := by omega
  have H := Lib.hid h
  have HA := fun z => Lib.hid (raccess_any h 4 z i h1 hm)
  clear h
  generalize ws.getD i 0 = z at cg HA hu ⊢
  have hz : (z != u) = true := by simpa using hu
  clear hu
  go_enter Tryz.func225, Tryz.ntmps225
  go_wp2_with (first
    | (go_at_call 103; refine (there_ok H.out (i : Int) (by omega) (by omega)).mono ?_; rintro e w1 ⟨rfl, rfl⟩)
    | (go_at_call 104; refine (HA z).out.mono ?_; rintro e w2 ⟨rfl, hA⟩; replace hA := Lib.hid hA))
  go_ret2
  exact ⟨rfl, hA.out⟩

end Go.Proofs.YtffafkmmfaaobaaGreat

namespace Go.Proofs.YtffafkmmfaaobaaGreat
set_option linter.unusedSimpArgs false
set_option linter.unusedVariables false
open Go.RowKit

/-- What a machine was made of. -/
structure MC where
  what : Int
  p : Int
  t : Int
  thread : Int
  page : Int
  cls : Int
  pages : Int
  gen : Int
  head : Int
  size : Int
  most : Int
  mask : Int
  drop : Bool
  list : Value
/-- What turns. -/
structure MV where
  log : Value
  done : Bool
  at' : Int
  used : Bool
  mem : Value
  d0 : Int
  d1 : Int
  d2 : Int
  d3 : Int
  got : Int
  code : Int
  n : Int
  gens : Int
  freed : Int
  live : Value
  marks : Value
  full : Int
  entry0 : Int

def MAt (w : World) (m : Nat) (c : MC) (v : MV) : Prop :=
  w.heap[m]? = some (.cells #[.int .i64 c.what, .int .i64 c.p, .int .i64 c.t, .int .i64 c.thread, .int .i64 c.page, .int .i64 c.cls, .int .i64 c.pages, .int .i64 c.gen, .int .i64 c.head, .int .i64 c.size, .int .i64 c.most,
    .int .u64 c.mask, .bool c.drop, c.list, v.log, .bool v.done, .int .i64 v.at', .bool v.used, v.mem, .int .i64 v.d0, .int .i64 v.d1, .int .u64 v.d2, .int .u64 v.d3, .int .i64 v.got, .int .i64 v.code, .int .i64 v.n, .int .i64 v.gens,
    .int .u64 v.freed, v.live, v.marks, .int .i64 v.full, .int .i64 v.entry0] 60 (0, 0))

theorem MAt.kept {F : Nat → Prop} {w w' : World} {m : Nat} {c : MC} {v : MV} (h : MAt w m c v) (hk : Kept F w w') (hn : ¬ F m) : MAt w' m c v := hk.at h hn

section
variable {w : World} {m : Nat} {c : MC} {v : MV}

theorem m_at (h : MAt w m c v) (x : Int) : MAt (w.setCell ⟨m, 16, none⟩ (.int .i64 x)) m c { v with at' := x } := by
  have := block_set h 16 (.int .i64 x); simpa [MAt] using this
theorem m_used (h : MAt w m c v) (x : Bool) : MAt (w.setCell ⟨m, 17, none⟩ (.bool x)) m c { v with used := x } := by
  have := block_set h 17 (.bool x); simpa [MAt] using this
theorem m_log (h : MAt w m c v) (x : Value) : MAt (w.setCell ⟨m, 14, none⟩ x) m c { v with log := x } := by
  have := block_set h 14 x; simpa [MAt] using this
theorem m_done (h : MAt w m c v) (x : Bool) : MAt (w.setCell ⟨m, 15, none⟩ (.bool x)) m c { v with done := x } := by
  have := block_set h 15 (.bool x); simpa [MAt] using this
theorem m_mem (h : MAt w m c v) (x : Value) : MAt (w.setCell ⟨m, 18, none⟩ x) m c { v with mem := x } := by
  have := block_set h 18 x; simpa [MAt] using this
theorem m_gens (h : MAt w m c v) (x : Int) : MAt (w.setCell ⟨m, 26, none⟩ (.int .i64 x)) m c { v with gens := x } := by
  have := block_set h 26 (.int .i64 x); simpa [MAt] using this

/-- May a step be done now? -/
def NowPost (w : World) (m : Nat) (c : MC) (v : MV) (e : Ending) (w' : World) : Prop :=
  e = .returned (.bool (!v.used)) ∧ MAt w' m c { v with used := true } ∧ Kept (fun k => k = m) w w'

set_option maxRecDepth 100000 in
set_option maxHeartbeats 1000000 in
theorem now_any (h : MAt w m c v) : Calls Tryz.prog 176 #[.pointer (some ⟨m, 0, none⟩)] w (NowPost w m c v) := by
  have c17 : w.cell? ⟨m, 17, none⟩ = some (.bool v.used) := cellOf h 17
  have f17 : w.frozen? ⟨m, 17, none⟩ = false := freeOf h 17
  have HU := Lib.hid (m_used h true)
  have HM := Lib.hid h
  clear h
  cases hu : v.used
  · rw [hu] at c17
    go_enter Tryz.func176, Tryz.ntmps176
    go_wp2
    go_ret
    exact ⟨by rw [hu]; rfl, HU.out, (Kept.refl (fun k => k = m) w).setCell (p := ⟨m, 17, none⟩) (.inl rfl) _⟩
  · rw [hu] at c17
    go_enter Tryz.func176, Tryz.ntmps176
    go_wp2
    go_ret
    exact ⟨by rw [hu]; rfl, by have := HM.out; rw [← hu]; exact this, Kept.refl _ _⟩

theorem Kept.drewN {F : Nat → Prop} {a w : World} (h : Kept F a w) (n : Nat) : Kept F a (w.drewN n) := ⟨h.os, h.tape, h.output, h.size, h.block⟩

/-- A log: a row from block B on; if there is none, nothing was told. -/
def LogRow (w : World) (B : Nat) (lg : Value) (xs : List Int) : Prop :=
  w.ownsRow B 33 1 lg xs.length (xs.map (Value.int .u64 ·)) ∧ (xs = [] → lg = .slice none 0 0)

set_option maxRecDepth 100000 in
set_option maxHeartbeats 1000000 in
theorem told_no (h : MAt w m c v) {a : Option Addr} {n cap : Nat} (hl : v.log = .slice a n cap) (hat : ¬ v.at' < n) :
    Calls Tryz.prog 175 #[.pointer (some ⟨m, 0, none⟩)] w fun e w' => e = .returned (.tuple #[.int .u64 0, .bool false]) ∧ Kept No w w' := by
  have c14 : w.cell? ⟨m, 14, none⟩ = some (.slice a n cap) := (cellOf h 14).trans (by rw [hl]; rfl)
  have c16 : w.cell? ⟨m, 16, none⟩ = some (.int .i64 v.at') := cellOf h 16
  clear h hl
  generalize v.at' = i at c16 hat
  go_enter Tryz.func175, Tryz.ntmps175
  go_wp2_with fail
  go_quiet (fail)
  go_wp2_with fail
  go_ret2
  exact ⟨rfl, (Kept.refl No w).drewN _⟩

theorem log_open {B : Nat} {xs : List Int} (h : LogRow w B v.log xs) : ∃ a n cap, v.log = .slice a n cap ∧ n = xs.length ∧
    ∀ i : Nat, i < xs.length → ∃ g, a = some ⟨g, 0, none⟩ ∧ w.cell? ⟨g, i, none⟩ = some (.int .u64 (xs.getD i 0)) ∧ (∃ cs, w.heap[g]? = some (.cells cs 33 (0, 0))) := by
  rcases h.1.2 with ⟨h0, h1⟩ | ⟨g, cap, cur, hv, _, hg, _, hsz, hs, ht⟩
  · have hx : xs = [] := by
      rcases xs with _ | ⟨x, xs⟩
      · rfl
      · simp at h1
    subst hx
    exact ⟨none, 0, 0, h0, rfl, fun i hi => absurd hi (by simp)⟩
  · refine ⟨some ⟨g, 0, none⟩, xs.length, cap, hv, rfl, fun i hi => ⟨g, rfl, ?_, ⟨cur, hg⟩⟩⟩
    have h2 : (cur.toList.take (xs.length * 1))[i]? = (xs.map (Value.int .u64 ·))[i]? := by rw [ht]
    rw [List.getElem?_take_of_lt (by omega)] at h2
    rw [cellOf hg i, ← Array.getElem?_toList, h2]
    simp [List.getElem?_eq_getElem hi, List.getD_eq_getElem?_getD]

set_option maxRecDepth 100000 in
set_option maxHeartbeats 2000000 in
theorem told_yes (h : MAt w m c v) {B : Nat} {xs : List Int} (hl : LogRow w B v.log xs) (i : Nat) (hv : v.at' = i) (hi : i < xs.length) (hi2 : i < 1000000) :
    Calls Tryz.prog 175 #[.pointer (some ⟨m, 0, none⟩)] w fun e w' => e = .returned (.tuple #[.int .u64 (xs.getD i 0), .bool true]) ∧ MAt w' m c { v with at' := (i : Int) + 1 } ∧ Kept (fun k => k = m) w w' := by
  obtain ⟨a, n, cap, hlog, rfl, hcell⟩ := log_open hl
  obtain ⟨g, rfl, hc, cs, hg⟩ := hcell i hi
  have hgm : g ≠ m := type_ne' hg h (by decide)
  have c14 : w.cell? ⟨m, 14, none⟩ = some (.slice (some ⟨g, 0, none⟩) xs.length cap) := (cellOf h 14).trans (by rw [hlog]; rfl)
  have c16 : w.cell? ⟨m, 16, none⟩ = some (.int .i64 i) := (cellOf h 16).trans (by rw [hv]; rfl)
  have f16 : w.frozen? ⟨m, 16, none⟩ = false := freeOf h 16
  have HM := Lib.hid (fun W (h : MAt W m c v) => m_at h ((i : Int) + 1))
  have H0 := Lib.hid h
  have lm : m < w.heap.size := lt_of_block h
  clear h hl hlog hcell hg hv
  generalize xs.getD i 0 = u at hc ⊢
  generalize xs.length = n at hi c14
  have hlt : (i : Int) < n := by omega
  have hw1 : IntKind.i64.wrap ((i : Int) + 1) = i + 1 := IntWalk.i64_in _ (by omega)
  have hw2 : IntKind.i64.wrap ((i : Int) + 1 - 1) = i := by rw [IntWalk.i64_in _ (by omega)]; omega
  have hbd : (0 : Int) ≤ i ∧ (i : Int) < n := by omega
  go_enter Tryz.func175, Tryz.ntmps175
  go_wp2_with fail
  go_quiet (fail)
  go_wp2_with fail
  go_quiet (fail)
  go_wp2_with fail
  go_ret2
  exact ⟨rfl, HM.out (w.drewN _) H0.out, (((Kept.refl (fun k => k = m) w).drewN _).setCell (p := ⟨m, 16, none⟩) (.inl rfl) _).drewN _⟩
end
end Go.Proofs.YtffafkmmfaaobaaGreat

namespace Go.Proofs.YtffafkmmfaaobaaGreat
set_option linter.unusedSimpArgs false
set_option linter.unusedVariables false
open Go.RowKit

/-- The row that an append may write: it has more than one place. -/
def LogOwn (w : World) (lg : Value) : Nat → Prop := fun k => lg.ownBlock = some k ∧ ∃ cs, w.heap[k]? = some (.cells cs 33 (0, 0)) ∧ 2 ≤ cs.size
/-- The row behind an append: the same, or a new one. -/
def NewOwn (w : World) (a b : Value) : Prop := b.ownBlock = a.ownBlock ∨ ∀ k, b.ownBlock = some k → w.heap.size ≤ k

set_option maxHeartbeats 1000000 in
theorem append_log {w : World} {B : Nat} {lg : Value} {xs : List Int} (h : LogRow w B lg xs) (hB : B ≤ w.heap.size) (hn : xs.length < 1000000) (ty : TypeId) (q : Nat) (u : Int) (hu : w.cell? ⟨q, 0, none⟩ = some (.int .u64 u)) :
    ∃ lg' w', (Builtin.append_ #[56, 56] ty #[lg, .slice (some ⟨q, 0, none⟩) 1 1]).run Tryz.prog w = .ok lg' w' ∧ LogRow w' B lg' (xs ++ [u]) ∧ NewOwn w lg lg' ∧ Kept (LogOwn w lg) w w' := by
  obtain ⟨i0, hi, hz0, hz1, hz2⟩ := info_parts Tryz.info33
  have hnews : ∀ j v, ([Value.int .u64 u])[j]? = some v → w.cell? ((⟨q, 0, none⟩ : Addr).add j) = some v := by
    intro j v hv
    cases j with
    | zero => simp at hv; subst hv; exact hu
    | succ j => simp at hv
  obtain ⟨lg', w', hr, hown, hg, _, hat⟩ := run_append_own_at (P := Tryz.prog) w B 56 ty 33 i0 _ 1 8 Tryz.underlying56 hi hz0 hz1 hz2 rfl (by decide) lg xs.length _ h.1 ⟨q, 0, none⟩ 1 1 [.int .u64 u] rfl hnews (by simp [Value.oneCell']) (by unfold maxLen; omega) (by omega) hB
  have hno : NewOwn w lg lg' := hat.imp id (fun h k hk => by rw [h] at hk; cases hk; exact Nat.le_refl _)
  refine ⟨lg', w', hr, ⟨by simpa using hown, fun h => by simp at h⟩, hno, ?_⟩
  rcases h.1.2 with ⟨rfl, h0⟩ | ⟨g, cap, cur, rfl, hbg, hgc, hnc, hcm, hcs, htake⟩
  · exact ((Kept.refl No w).grown hg (fun k hk => by simp [Value.ownBlock] at hk)).mono (fun _ h => h.elim)
  · by_cases hroom : xs.length + 1 ≤ cap
    · have hx : xs ≠ [] := fun hx => by have := h.2 hx; simp at this
      have hl : 1 ≤ xs.length := by cases xs with | nil => exact absurd rfl hx | cons _ _ => simp
      refine (Kept.refl _ w).grown hg (fun k hk => .inl ⟨hk, cur, ?_, by omega⟩)
      simp [Value.ownBlock] at hk
      subst hk
      exact hgc
    · have holds : ∀ j u, (xs.map (Value.int .u64 ·))[j]? = some u → w.cell? ((⟨g, 0, none⟩ : Addr).add j) = some u := h.1.cells (g := g) rfl
      have hr2 := run_append_grow (P := Tryz.prog) w 56 ty 33 i0 _ Tryz.underlying56 hi hz0 ⟨g, 0, none⟩ xs.length cap (xs.map (Value.int .u64 ·)) (by rw [hz1]; exact h.1.1) (by rw [hz1] at *; exact holds) ⟨q, 0, none⟩ 1 1 [.int .u64 u] (by rw [hz1]; rfl) hnews (by omega) (by omega) (growslice_fits (by omega) (by rw [hz2]; omega))
      rw [hr] at hr2
      injection hr2 with _ e2
      subst e2
      exact (Kept.refl No w).drew.alloc _ |>.mono (fun _ h => h.elim)
end Go.Proofs.YtffafkmmfaaobaaGreat

namespace Go.Proofs.YtffafkmmfaaobaaGreat
set_option linter.unusedSimpArgs false
set_option linter.unusedVariables false
open Go.RowKit

def cmpI (a b : Int) : Int := if a < b then -1 else if b < a then 1 else 0
theorem cmpI_lt {a b : Int} (h : a < b) : cmpI a b = -1 := by simp [cmpI, h]
theorem cmpI_gt {a b : Int} (h : b < a) : cmpI a b = 1 := by simp [cmpI, h]; omega
theorem cmpI_eq {a b : Int} (h : a = b) : cmpI a b = 0 := by simp [cmpI, h]

set_option maxHeartbeats 1000000 in
theorem cmp_any (a b : Int) (w : World) : Calls Tryz.prog 260 #[.int .i64 a, .int .i64 b] w fun e w' => e = .returned (.int .i64 (cmpI a b)) ∧ w = w' := by
  have ha : (a != a) = false := by simp
  have hb : (b != b) = false := by simp
  by_cases h1 : a < b
  · have hv := Lib.hid (cmpI_lt h1)
    go_enter Tryz.func260, Tryz.ntmps260
    go_wp2
    go_ret
    exact ⟨by rw [hv.out]; rfl, rfl⟩
  · by_cases h2 : b < a
    · have hv := Lib.hid (cmpI_gt h2)
      go_enter Tryz.func260, Tryz.ntmps260
      go_wp2
      go_ret
      exact ⟨by rw [hv.out]; rfl, rfl⟩
    · have hv := Lib.hid (cmpI_eq (show a = b by omega))
      go_enter Tryz.func260, Tryz.ntmps260
      go_wp2
      go_ret
      exact ⟨by rw [hv.out]; rfl, rfl⟩

/-- A run: its first page, its length. -/
abbrev R2 := Int × Int
def runCells : List R2 → List Value
  | [] => []
  | x :: r => .int .i64 x.1 :: .int .i64 x.2 :: runCells r
theorem runCells_length : ∀ (a : List R2), (runCells a).length = a.length * 2
  | [] => rfl
  | x :: r => by simp [runCells, runCells_length r]; omega
theorem runCells_append : ∀ (a b : List R2), runCells (a ++ b) = runCells a ++ runCells b
  | [], _ => rfl
  | x :: r, b => by simp [runCells, runCells_append r b]
theorem runCells_get : ∀ (a : List R2) (i : Nat) (x : R2), a[i]? = some x → (runCells a)[i * 2]? = some (.int .i64 x.1) ∧ (runCells a)[i * 2 + 1]? = some (.int .i64 x.2)
  | [], i, x, h => by simp at h
  | y :: r, 0, x, h => by simp at h; subst h; simp [runCells]
  | y :: r, i + 1, x, h => by
    have := runCells_get r i x (by simpa using h)
    rw [show (i + 1) * 2 = i * 2 + 1 + 1 by omega]
    simpa [runCells] using this
theorem runCells_one : ∀ (a : List R2), ∀ u ∈ runCells a, u.oneCell' = true
  | [], u, h => by simp [runCells] at h
  | x :: r, u, h => by
    simp only [runCells, List.mem_cons] at h
    rcases h with rfl | rfl | h
    · rfl
    · rfl
    · exact runCells_one r u h

set_option maxHeartbeats 1000000 in
theorem place1_any (x : R2) (k : Int) (w : World) (h0 : 0 ≤ x.1) (h1 : x.1 ≤ 10000) (h2 : 0 ≤ x.2) (h3 : x.2 ≤ 10000) :
    Calls Tryz.prog 259 #[.agg #[.int .i64 x.1, .int .i64 x.2], .int .i64 k] w fun e w' => e = .returned (.int .i64 (cmpI (x.1 + x.2) k)) ∧ Below w.heap.size w w' := by
  obtain ⟨p, n⟩ := x
  dsimp only at *
  go_enter Tryz.func259, Tryz.ntmps259
  go_wp2_with (go_at_call 260; refine (cmp_any _ _ _).mono ?_; rintro e w' ⟨rfl, rfl⟩)
  go_ret
  exact ⟨rfl, (Below.refl _ _).alloc (Nat.le_refl _) _⟩

/-- Where a list of runs parts: those ahead of it end ahead of k, no other one does. -/
structure Parts (xs : List R2) (k : Int) (i : Nat) : Prop where
  le : i ≤ xs.length
  lo : ∀ p x, p < i → xs[p]? = some x → x.1 + x.2 < k
  hi : ∀ p x, i ≤ p → xs[p]? = some x → k ≤ x.1 + x.2

theorem addAt (g j : Nat) : (⟨g, 0, none⟩ : Addr).add j = ⟨g, j, none⟩ := by
  cases j <;> simp [Addr.add]
theorem ownsRow_cell {w : World} {base : Nat} {g n cap : Nat} {xs : List R2} (h : w.ownsRow base 189 2 (.slice (some ⟨g, 0, none⟩) n cap) n (runCells xs)) {i : Nat} {x : R2} (hx : xs[i]? = some x) :
    w.cell? ⟨g, i * 2, none⟩ = some (.int .i64 x.1) ∧ w.cell? ⟨g, i * 2 + 1, none⟩ = some (.int .i64 x.2) := by
  obtain ⟨h1, h2⟩ := runCells_get xs i x hx
  have := h.cells (g := g) rfl
  exact ⟨by simpa only [addAt] using this _ _ h1, by simpa only [addAt] using this _ _ h2⟩

def BsfPost (i : Nat) (w : World) (e : Ending) (w' : World) : Prop := ∃ b, e = .returned (.tuple #[.int .i64 i, .bool b]) ∧ Below w.heap.size w w'

set_option maxRecDepth 100000 in
set_option maxHeartbeats 2000000 in
theorem bsf_any (xs : List R2) (v : Value) (k : Int) (i : Nat) (w : World) (base n : Nat) (hn : n = xs.length) (hrow : w.ownsRow base 189 2 v n (runCells xs)) (hl : n ≤ 100000) (hp : Parts xs k i)
    (hb : ∀ (p : Nat) (x : R2), xs[p]? = some x → 0 ≤ x.1 ∧ x.1 ≤ 10000 ∧ 0 ≤ x.2 ∧ x.2 ≤ 10000) :
    Calls Tryz.prog 258 #[v, .int .i64 k, .func (.func 259) #[] #[]] w (BsfPost i w) := by
  have hin : i ≤ n := by rw [hn]; exact hp.le
  rcases hrow.2 with ⟨rfl, h0⟩ | ⟨g, cap, cur, rfl, hbg, hg, _⟩
  · have hi : i = 0 := by omega
    subst hi
    clear hrow hp hb h0 hn hin hl
    go_enter Tryz.func258, Tryz.ntmps258
    go_wp2
    go_loopg [9, 10] 0 (fun n v u wr => w = wr ∧ v = .int .i64 0 ∧ u = .int .i64 0)
    case atStart => exact ⟨rfl, rfl, rfl⟩
    case round =>
      obtain ⟨rfl, rfl, rfl⟩ := hrel
      go_wp2
      go_ret2
      exact ⟨_, rfl, Below.refl _ _⟩
  · have hglt := lt_of_block hg
    have HH : Hid (w.ownsRow base 189 2 (.slice (some ⟨g, 0, none⟩) n cap) n (runCells xs) ∧ n = xs.length) := ⟨hrow, hn⟩
    have HP := Lib.hid hp
    have HB := Lib.hid hb
    clear hrow hp hb hg hn
    go_enter Tryz.func258, Tryz.ntmps258
    go_wp2
    go_loopg [9, 10] n (fun m lo hi wr => ∃ a b : Nat, lo = .int .i64 a ∧ hi = .int .i64 b ∧ a ≤ i ∧ i ≤ b ∧ b ≤ n ∧ b - a ≤ m ∧ Below w.heap.size w wr)
    case atStart => exact ⟨0, n, rfl, rfl, Nat.zero_le _, hin, Nat.le_refl _, Nat.le_refl _, Below.refl _ _⟩
    case round =>
      obtain ⟨a, b, rfl, rfl, ha, hib, hbn, hm, hB⟩ := hrel
      by_cases hab : a < b
      · have hab' : (a : Int) < b := by omega
        obtain ⟨h, hh⟩ : ∃ h, h = (a + b) / 2 := ⟨_, rfl⟩
        have hhb : a ≤ h ∧ h < b := by omega
        obtain ⟨x, hx⟩ : ∃ x, xs[h]? = some x := ⟨_, List.getElem?_eq_getElem (by have := HH.out.2; omega)⟩
        obtain ⟨c0, c1⟩ := ownsRow_cell HH.out.1 hx
        obtain ⟨b0, b1, b2, b3⟩ := HB.out h x hx
        have d0 : wr.cell? ⟨g, (a + b) / 2 * 2, none⟩ = some (.int .i64 x.1) := by rw [← hh]; exact (hB.cell (p := ⟨g, h * 2, none⟩) hglt).trans c0
        have d1 : wr.cell? ⟨g, (a + b) / 2 * 2 + 1, none⟩ = some (.int .i64 x.2) := by rw [← hh]; exact (hB.cell (p := ⟨g, h * 2 + 1, none⟩) hglt).trans c1
        have Hh := Lib.hid hh
        have hB' := Lib.hid hB
        have hx' := Lib.hid hx
        have hm' := Lib.hid hm
        clear c0 c1 hh hB hx hm
        by_cases hlt : x.1 + x.2 < k
        · have hc := Lib.hid (cmpI_lt hlt)
          go_wp2_with fail
          refine (place1_any x k wr b0 b1 b2 b3).mono ?_
          rintro e w1 ⟨rfl, hb1⟩
          rw [hc.out]
          go_wp2
          go_roundg (b - (h + 1))
          case measure => have := hm'.out; omega
          case rel => exact ⟨h + 1, b, by rw [Hh.out]; go_num, rfl, by
              rcases Nat.lt_or_ge h i with h1 | h1
              · exact h1
              · have := HP.out.hi h x h1 hx'.out; omega, hib, hbn, Nat.le_refl _, hB'.out.trans (hb1.mono hB'.out.size)⟩
        · have hc : 0 ≤ cmpI (x.1 + x.2) k := by unfold cmpI; rw [if_neg hlt]; split <;> omega
          go_wp2_with fail
          refine (place1_any x k wr b0 b1 b2 b3).mono ?_
          rintro e w1 ⟨rfl, hb1⟩
          generalize cmpI (x.1 + x.2) k = cv at hc ⊢
          go_wp2
          go_roundg (h - a)
          case measure => have := hm'.out; omega
          case rel => exact ⟨a, h, rfl, by rw [Hh.out]; go_num, ha, by
              rcases Nat.lt_or_ge h i with h1 | h1
              · have := HP.out.lo h x h1 hx'.out; omega
              · exact h1, by omega, Nat.le_refl _, hB'.out.trans (hb1.mono hB'.out.size)⟩
      · have hab' : ¬ (a : Int) < b := by omega
        obtain rfl : a = i := by omega
        by_cases hin' : a < n
        · have hin2 : (a : Int) < n := by omega
          obtain ⟨x, hx⟩ : ∃ x, xs[a]? = some x := ⟨_, List.getElem?_eq_getElem (by have := HH.out.2; omega)⟩
          obtain ⟨c0, c1⟩ := ownsRow_cell HH.out.1 hx
          obtain ⟨b0, b1, b2, b3⟩ := HB.out a x hx
          have d0 : wr.cell? ⟨g, a * 2, none⟩ = some (.int .i64 x.1) := (hB.cell (p := ⟨g, a * 2, none⟩) hglt).trans c0
          have d1 : wr.cell? ⟨g, a * 2 + 1, none⟩ = some (.int .i64 x.2) := (hB.cell (p := ⟨g, a * 2 + 1, none⟩) hglt).trans c1
          have hB' := Lib.hid hB
          clear c0 c1 hx hB
          go_wp2_with fail
          refine (place1_any x k wr b0 b1 b2 b3).mono ?_
          rintro e w1 ⟨rfl, hb1⟩
          generalize hcv : decide (cmpI (x.1 + x.2) k = 0) = cv
          go_wp2
          go_ret2
          exact ⟨_, rfl, hB'.out.trans (hb1.mono hB'.out.size)⟩
        · have hin2 : ¬ (a : Int) < n := by omega
          go_wp2
          go_ret2
          exact ⟨_, rfl, hB⟩

end Go.Proofs.YtffafkmmfaaobaaGreat
