/- The reference's machine: each access, done now. -/
import Derived.Test.YtffafkmmfaaobaaGreatWr2
import Derived.Test.YtffafkmmfaaobaaGreatWr5
namespace Go.Proofs.YtffafkmmfaaobaaGreat
set_option linter.unusedSimpArgs false
set_option linter.unusedVariables false
open Go.RowKit

/-- Behind an access that was done now. -/
def AfterNow (w : World) (m s g : Nat) (c : MC) (v : MV) (ws : List Int) (B : Nat) (xs : List Int) (x : Nx) (ct : Int) (w' : World) : Prop :=
  ∃ lg', MAt w' m c { v with log := lg', at' := (xs.length : Int) + 1, used := true, d0 := x.kind (ws.getD x.at 0), d1 := x.at, d2 := ws.getD x.at 0, d3 := x.next (ws.getD x.at 0) } ∧
    LogRow w' B lg' (xs ++ [ws.getD x.at 0]) ∧ NewOwn w v.log lg' ∧
    StoreIs 110 w' s g (ws.set x.at (x.next (ws.getD x.at 0))) (x.kind (ws.getD x.at 0)) x.at (ws.getD x.at 0) (x.next (ws.getD x.at 0)) (ct + 1) ∧
    Kept (fun k => SG s g k ∨ k = m ∨ LogOwn w v.log k) w w'

section
variable {w : World} {m b s g : Nat} {c : MC} {v : MV} {p t : Int} {qv : Value} {ws : List Int} {k a o n ct : Int}

theorem now_close {w1 w2 w3 w4 : World} {v' : MV} {ws' : List Int} {lg : Value} (hK : Kept No w w1) (hK2 : Kept (fun k => k = m) w1 w2) (hK3 : Kept (SG s g) w2 w3) (hK4 : Kept (fun k => k = m ∨ LogOwn w3 lg k) w3 w4)
    (hM3 : MAt w3 m c v') (hS3 : StoreIs 110 w3 s g ws' k a o n ct) (hg : lg.ownBlock ≠ some g) :
    StoreIs 110 w4 s g ws' k a o n ct ∧ Kept (fun k => SG s g k ∨ k = m ∨ LogOwn w lg k) w w4 ∧ w.heap.size ≤ w3.heap.size := by
  have hms : m ≠ s := type_ne' hM3 hS3.obj (by decide)
  have hmg : m ≠ g := type_ne' hM3 hS3.row (by decide)
  have hF : ∀ {k}, k = m ∨ LogOwn w3 lg k → k ≠ s ∧ k ≠ g := by
    rintro k (rfl | ⟨ho, cs, hc, _⟩)
    · exact ⟨hms, hmg⟩
    · exact ⟨type_ne' hc hS3.obj (by decide), fun e => hg (e ▸ ho)⟩
  have K03 : Kept (fun k => SG s g k ∨ k = m) w w3 := ((hK.mono (fun _ h => h.elim)).trans hK2 (fun _ h => .inl (.inr h))).trans hK3 (fun _ h => .inl (.inl h))
  refine ⟨⟨hK4.at hS3.obj (fun h => (hF h).1 rfl), hK4.at hS3.row (fun h => (hF h).2 rfl)⟩, ?_, K03.size⟩
  refine (K03.mono (fun k h => .inl (h.imp id .inl))).trans hK4 ?_
  intro j hj
  by_cases hlt : j < w.heap.size
  · rcases hj with rfl | ⟨ho, cs, hc, hz⟩
    · exact .inl (.inr (.inl rfl))
    · have h1 := hF (.inr ⟨ho, cs, hc, hz⟩ : j = m ∨ LogOwn w3 lg j)
      have h2 : j ≠ m := type_ne' hc hM3 (by decide)
      refine .inl (.inr (.inr ⟨ho, cs, ?_, hz⟩))
      rw [← K03.block j hlt (by simp [SG, h1.1, h1.2, h2])]
      exact hc
  · exact .inr (by omega)

theorem log_len {B : Nat} {lg : Value} {xs : List Int} (hl : LogRow w B lg xs) {la : Option Addr} {ln lc : Nat} (h : lg = .slice la ln lc) : ln = xs.length := by
  subst h
  rcases hl.1.2 with ⟨h1, h2⟩ | ⟨g', cap', cur', h1, _⟩
  · cases h1
    have : xs = [] := by simpa using h2
    rw [this]; rfl
  · cases h1; rfl

theorem LogRow.kept3 {w1 w2 w3 : World} {B : Nat} {lg : Value} {xs : List Int} (hl : LogRow w B lg xs) (hK : Kept No w w1) (hK2 : Kept (fun k => k = m) w1 w2) (hK3 : Kept (SG s g) w2 w3)
    (hM : MAt w m c v) (hS : StoreIs 110 w s g ws k a o n ct) (hg : lg.ownBlock ≠ some g) : LogRow w3 B lg xs := by
  have K03 : Kept (fun k => SG s g k ∨ k = m) w w3 := ((hK.mono (fun _ h => h.elim)).trans hK2 (fun _ h => .inl (.inr h))).trans hK3 (fun _ h => .inl (.inl h))
  refine hl.kept K03 ?_
  rintro j cs hc ho ((rfl | rfl) | rfl)
  · exact type_ne' hc hS.obj (by decide) rfl
  · exact hg ho
  · exact type_ne' hc hM (by decide) rfl

theorem tell_now (h : MAt w m c v) (hv : v.mem = .pointer (some ⟨b, 0, none⟩)) (hb : MemAt w b p t s qv) (hs : StoreIs 110 w s g ws k a o n ct) {B : Nat} {xs : List Int} (hl : LogRow w B v.log xs) (hB : B ≤ w.heap.size) (hn : xs.length < 1000000)
    (hat : v.at' = xs.length) (hg : v.log.ownBlock ≠ some g) (x : Nx) {w1 w2 w3 : World} (hK : Kept No w w1) (hK2 : Kept (fun k => k = m) w1 w2) (hM2 : MAt w2 m c { v with used := true })
    (hA : AccPost 110 w2 s g ws (x.kind (ws.getD x.at 0)) x.at (x.next (ws.getD x.at 0)) ct w3) :
    Calls Tryz.prog 177 #[.pointer (some ⟨m, 0, none⟩), .int .u64 (ws.getD x.at 0)] w3 fun e w4 => e = .returned (.tuple #[.int .u64 (ws.getD x.at 0), .bool true]) ∧ AfterNow w m s g c v ws B xs x ct w4 := by
  obtain ⟨hS3, hK3⟩ := hA
  have hmb : m ≠ b := type_ne' h hb (by decide)
  have hms : m ≠ s := type_ne' h hs.obj (by decide)
  have hmg : m ≠ g := type_ne' h hs.row (by decide)
  have hbs : b ≠ s := type_ne' hb hs.obj (by decide)
  have hbg : b ≠ g := type_ne' hb hs.row (by decide)
  have hb2 : MemAt w2 b p t s qv := hK2.at (hK.at hb (fun h => h)) hmb.symm
  have hM3 : MAt w3 m c { v with used := true } := hK3.at hM2 (by simp [SG, hms, hmg])
  have hb3 : MemAt w3 b p t s qv := hK3.at hb2 (by simp [SG, hbs, hbg])
  refine (tell_any hM3 hv hb3 hS3 (hl.kept3 hK hK2 hK3 h hs hg) (Nat.le_trans hB (Nat.le_trans hK.size (Nat.le_trans hK2.size hK3.size))) hn hat (ws.getD x.at 0)).mono ?_
  rintro e w4 ⟨rfl, lg', hM4, hL4, hno, hK4⟩
  obtain ⟨r1, r2, r3⟩ := now_close hK hK2 hK3 hK4 hM3 hS3 hg
  exact ⟨rfl, lg', hM4, hL4, hno.imp id (fun h k hk => Nat.le_trans r3 (h k hk)), r1, r2⟩

set_option maxRecDepth 100000 in
set_option maxHeartbeats 2000000 in
theorem load_now (h : MAt w m c v) (hv : v.mem = .pointer (some ⟨b, 0, none⟩)) (hb : MemAt w b p t s qv) (hs : StoreIs 110 w s g ws k a o n ct) {B : Nat} {xs : List Int} (hl : LogRow w B v.log xs) (hB : B ≤ w.heap.size) (hn : xs.length < 1000000)
    (hat : v.at' = xs.length) (hu : v.used = false) (i : Nat) (hi : i < ws.length) (hc : 0 ≤ ct ∧ ct < 1000000) (hg : v.log.ownBlock ≠ some g) :
    Calls Tryz.prog 170 #[.pointer (some ⟨m, 0, none⟩), .int .i64 (i : Int)] w fun e w' => e = .returned (.tuple #[.int .u64 (ws.getD i 0), .bool true]) ∧ AfterNow w m s g c v ws B xs (.load i) ct w' := by
  obtain ⟨la, ln, lc, hlog⟩ := slice_of hl
  have HT := Lib.hid (told_no h hlog (by rw [hat, log_len hl hlog]; omega))
  have hmb : m ≠ b := type_ne' h hb (by decide)
  have hms : m ≠ s := type_ne' h hs.obj (by decide)
  have hmg : m ≠ g := type_ne' h hs.row (by decide)
  have hbs : b ≠ s := type_ne' hb hs.obj (by decide)
  have hbg : b ≠ g := type_ne' hb hs.row (by decide)
  have HM := Lib.hid h
  have Hb := Lib.hid hb
  have HS := Lib.hid hs
  obtain ⟨u, hu0⟩ : ∃ u, ws.getD i 0 = u := ⟨_, rfl⟩
  have HTN : Hid (∀ (w1 w2 w3 : World), Kept No w w1 → Kept (fun k => k = m) w1 w2 → MAt w2 m c { v with used := true } → AccPost 110 w2 s g ws 1 i u ct w3 →
      Calls Tryz.prog 177 #[.pointer (some ⟨m, 0, none⟩), .int .u64 u] w3 fun e w4 => e = .returned (.tuple #[.int .u64 u, .bool true]) ∧ AfterNow w m s g c v ws B xs (.load i) ct w4) := Lib.hid (fun w1 w2 w3 a1 a2 a3 a4 => by
    have := tell_now h hv hb hs hl hB hn hat hg (.load i) a1 a2 a3 (by simpa [Nx.kind, Nx.next, Nx.at, ← hu0] using a4)
    simpa [Nx.at, ← hu0] using this)
  have HAC : Hid (∀ W, StoreIs 110 W s g ws k a o n ct → Calls Tryz.prog 223 #[.pointer (some ⟨s, 0, none⟩), .int .i64 (i : Int)] W fun e w' => e = .returned (.tuple #[.int .u64 u, .int .i64 0]) ∧ AccPost 110 W s g ws 1 i u ct w') :=
    Lib.hid (fun W hW => by have := rload_acc hW i hi hc; first | (rw [hu0] at this; exact this) | exact this)
  have HV := Lib.hid (And.intro hv hu)
  have HU := Lib.hid hu0
  rw [hu0]
  clear h hb hs hl hlog hv hat hu hu0 hi hc
  go_enter Tryz.func170, Tryz.ntmps170
  go_wp2_with (first
    | (go_at_call 175; refine HT.out.mono ?_; rintro e w1 ⟨rfl, hK⟩)
    | (go_at_call 176; refine (now_any (HM.out.kept hK (fun h => h))).mono ?_; rintro e w2 ⟨rfl, hM2, hK2⟩; rw [HV.out.2]; have m18 : w2.cell? ⟨m, 18, none⟩ = some (.pointer (some ⟨b, 0, none⟩)) := (cellOf hM2 18).trans (by rw [← HV.out.1]; rfl); have b0 : w2.cell? ⟨b, 0, none⟩ = some (.pointer (some ⟨s, 0, none⟩)) := cellOf (hK2.at (hK.at Hb.out (fun h => h)) hmb.symm : MemAt w2 b p t s qv) 0; replace hM2 := Lib.hid hM2)
    | (go_at_call 223; refine (HAC.out _ ((HS.out.kept hK (fun h => h) (fun h => h)).kept hK2 hms.symm hmg.symm)).mono ?_; rintro e w3 ⟨rfl, hA⟩; have HTL := Lib.hid (HTN.out w1 w2 w3 hK hK2 hM2.out hA); replace hA := Lib.hid hA)
    | (go_at_call 177; refine HTL.out.mono ?_; rintro e w4 ⟨rfl, hN⟩; replace hN := Lib.hid hN))
  go_ret2
  exact ⟨rfl, hN.out⟩

set_option maxRecDepth 100000 in
set_option maxHeartbeats 2000000 in
theorem put_now (h : MAt w m c v) (hv : v.mem = .pointer (some ⟨b, 0, none⟩)) (hb : MemAt w b p t s qv) (hs : StoreIs 110 w s g ws k a o n ct) {B : Nat} {xs : List Int} (hl : LogRow w B v.log xs) (hB : B ≤ w.heap.size) (hn : xs.length < 1000000)
    (hat : v.at' = xs.length) (hu : v.used = false) (i : Nat) (d : Int) (hi : i < ws.length) (hc : 0 ≤ ct ∧ ct < 1000000) (hg : v.log.ownBlock ≠ some g) :
    Calls Tryz.prog 118 #[.pointer (some ⟨m, 0, none⟩), .int .i64 (i : Int), .int .u64 d] w fun e w' => e = .returned (.tuple #[.int .u64 (ws.getD i 0), .bool true]) ∧ AfterNow w m s g c v ws B xs (.put i d) ct w' := by
  obtain ⟨la, ln, lc, hlog⟩ := slice_of hl
  have HT := Lib.hid (told_no h hlog (by rw [hat, log_len hl hlog]; omega))
  have hmb : m ≠ b := type_ne' h hb (by decide)
  have hms : m ≠ s := type_ne' h hs.obj (by decide)
  have hmg : m ≠ g := type_ne' h hs.row (by decide)
  have hbs : b ≠ s := type_ne' hb hs.obj (by decide)
  have hbg : b ≠ g := type_ne' hb hs.row (by decide)
  have HM := Lib.hid h
  have Hb := Lib.hid hb
  have HS := Lib.hid hs
  obtain ⟨u, hu0⟩ : ∃ u, ws.getD i 0 = u := ⟨_, rfl⟩
  have HTN : Hid (∀ (w1 w2 w3 : World), Kept No w w1 → Kept (fun k => k = m) w1 w2 → MAt w2 m c { v with used := true } → AccPost 110 w2 s g ws 2 i d ct w3 →
      Calls Tryz.prog 177 #[.pointer (some ⟨m, 0, none⟩), .int .u64 u] w3 fun e w4 => e = .returned (.tuple #[.int .u64 u, .bool true]) ∧ AfterNow w m s g c v ws B xs (.put i d) ct w4) := Lib.hid (fun w1 w2 w3 a1 a2 a3 a4 => by
    have := tell_now h hv hb hs hl hB hn hat hg (.put i d) a1 a2 a3 (by simpa [Nx.kind, Nx.next, Nx.at, ← hu0] using a4)
    simpa [Nx.at, ← hu0] using this)
  have HAC : Hid (∀ W, StoreIs 110 W s g ws k a o n ct → Calls Tryz.prog 52 #[.pointer (some ⟨s, 0, none⟩), .int .i64 (i : Int), .int .u64 d] W fun e w' => e = .returned (.int .i64 0) ∧ AccPost 110 W s g ws 2 i d ct w') :=
    Lib.hid (fun W hW => by have := rput_acc hW d i hi hc; first | (rw [hu0] at this; exact this) | exact this)
  have HV := Lib.hid (And.intro hv hu)
  have HU := Lib.hid hu0
  rw [hu0]
  clear h hb hs hl hlog hv hat hu hu0 hi hc
  go_enter Tryz.func118, Tryz.ntmps118
  go_wp2_with (first
    | (go_at_call 175; refine HT.out.mono ?_; rintro e w1 ⟨rfl, hK⟩)
    | (go_at_call 176; refine (now_any (HM.out.kept hK (fun h => h))).mono ?_; rintro e w2 ⟨rfl, hM2, hK2⟩; rw [HV.out.2]; have m18 : w2.cell? ⟨m, 18, none⟩ = some (.pointer (some ⟨b, 0, none⟩)) := (cellOf hM2 18).trans (by rw [← HV.out.1]; rfl); have b0 : w2.cell? ⟨b, 0, none⟩ = some (.pointer (some ⟨s, 0, none⟩)) := cellOf (hK2.at (hK.at Hb.out (fun h => h)) hmb.symm : MemAt w2 b p t s qv) 0; replace hM2 := Lib.hid hM2)
    | (go_at_call 52; refine (HAC.out _ ((HS.out.kept hK (fun h => h) (fun h => h)).kept hK2 hms.symm hmg.symm)).mono ?_; rintro e w3 ⟨rfl, hA⟩; have HTL := Lib.hid (HTN.out w1 w2 w3 hK hK2 hM2.out hA); have n18 : w3.cell? ⟨m, 18, none⟩ = some (.pointer (some ⟨b, 0, none⟩)) := (cellOf (hA.2.at hM2.out (by simp [SG, hms, hmg])) 18).trans (by rw [← HV.out.1]; rfl); have b3 : w3.cell? ⟨b, 0, none⟩ = some (.pointer (some ⟨s, 0, none⟩)) := cellOf (hA.2.at (hK2.at (hK.at Hb.out (fun h => h)) hmb.symm : MemAt w2 b p t s qv) (by simp [SG, hbs, hbg])) 0; have s3 : w3.cell? ⟨s, 3, none⟩ = some (.int .u64 u) := (cellOf hA.1.obj 3).trans (by rw [← HU.out]; rfl); replace hA := Lib.hid hA)
    | (go_at_call 177; refine HTL.out.mono ?_; rintro e w4 ⟨rfl, hN⟩; replace hN := Lib.hid hN))
  go_ret2
  exact ⟨rfl, hN.out⟩

set_option maxRecDepth 100000 in
set_option maxHeartbeats 2000000 in
theorem add_now (h : MAt w m c v) (hv : v.mem = .pointer (some ⟨b, 0, none⟩)) (hb : MemAt w b p t s qv) (hs : StoreIs 110 w s g ws k a o n ct) {B : Nat} {xs : List Int} (hl : LogRow w B v.log xs) (hB : B ≤ w.heap.size) (hn : xs.length < 1000000)
    (hat : v.at' = xs.length) (hu : v.used = false) (i : Nat) (d : Int) (hi : i < ws.length) (hc : 0 ≤ ct ∧ ct < 1000000) (hg : v.log.ownBlock ≠ some g) :
    Calls Tryz.prog 184 #[.pointer (some ⟨m, 0, none⟩), .int .i64 (i : Int), .int .u64 d] w fun e w' => e = .returned (.tuple #[.int .u64 (ws.getD i 0), .bool true]) ∧ AfterNow w m s g c v ws B xs (.add i d) ct w' := by
  obtain ⟨la, ln, lc, hlog⟩ := slice_of hl
  have HT := Lib.hid (told_no h hlog (by rw [hat, log_len hl hlog]; omega))
  have hmb : m ≠ b := type_ne' h hb (by decide)
  have hms : m ≠ s := type_ne' h hs.obj (by decide)
  have hmg : m ≠ g := type_ne' h hs.row (by decide)
  have hbs : b ≠ s := type_ne' hb hs.obj (by decide)
  have hbg : b ≠ g := type_ne' hb hs.row (by decide)
  have HM := Lib.hid h
  have Hb := Lib.hid hb
  have HS := Lib.hid hs
  obtain ⟨u, hu0⟩ : ∃ u, ws.getD i 0 = u := ⟨_, rfl⟩
  have HTN : Hid (∀ (w1 w2 w3 : World), Kept No w w1 → Kept (fun k => k = m) w1 w2 → MAt w2 m c { v with used := true } → AccPost 110 w2 s g ws 5 i (IntKind.u64.wrap (u + d)) ct w3 →
      Calls Tryz.prog 177 #[.pointer (some ⟨m, 0, none⟩), .int .u64 u] w3 fun e w4 => e = .returned (.tuple #[.int .u64 u, .bool true]) ∧ AfterNow w m s g c v ws B xs (.add i d) ct w4) := Lib.hid (fun w1 w2 w3 a1 a2 a3 a4 => by
    have := tell_now h hv hb hs hl hB hn hat hg (.add i d) a1 a2 a3 (by simpa [Nx.kind, Nx.next, Nx.at, ← hu0] using a4)
    simpa [Nx.at, ← hu0] using this)
  have HAC : Hid (∀ W, StoreIs 110 W s g ws k a o n ct → Calls Tryz.prog 231 #[.pointer (some ⟨s, 0, none⟩), .int .i64 (i : Int), .int .u64 d] W fun e w' => e = .returned (.tuple #[.int .u64 u, .int .i64 0]) ∧ AccPost 110 W s g ws 5 i (IntKind.u64.wrap (u + d)) ct w') :=
    Lib.hid (fun W hW => by have := radd_acc hW d i hi hc; first | (rw [hu0] at this; exact this) | exact this)
  have HV := Lib.hid (And.intro hv hu)
  have HU := Lib.hid hu0
  rw [hu0]
  clear h hb hs hl hlog hv hat hu hu0 hi hc
  go_enter Tryz.func184, Tryz.ntmps184
  go_wp2_with (first
    | (go_at_call 175; refine HT.out.mono ?_; rintro e w1 ⟨rfl, hK⟩)
    | (go_at_call 176; refine (now_any (HM.out.kept hK (fun h => h))).mono ?_; rintro e w2 ⟨rfl, hM2, hK2⟩; rw [HV.out.2]; have m18 : w2.cell? ⟨m, 18, none⟩ = some (.pointer (some ⟨b, 0, none⟩)) := (cellOf hM2 18).trans (by rw [← HV.out.1]; rfl); have b0 : w2.cell? ⟨b, 0, none⟩ = some (.pointer (some ⟨s, 0, none⟩)) := cellOf (hK2.at (hK.at Hb.out (fun h => h)) hmb.symm : MemAt w2 b p t s qv) 0; replace hM2 := Lib.hid hM2)
    | (go_at_call 231; refine (HAC.out _ ((HS.out.kept hK (fun h => h) (fun h => h)).kept hK2 hms.symm hmg.symm)).mono ?_; rintro e w3 ⟨rfl, hA⟩; have HTL := Lib.hid (HTN.out w1 w2 w3 hK hK2 hM2.out hA); replace hA := Lib.hid hA)
    | (go_at_call 177; refine HTL.out.mono ?_; rintro e w4 ⟨rfl, hN⟩; replace hN := Lib.hid hN))
  go_ret2
  exact ⟨rfl, hN.out⟩

set_option maxRecDepth 100000 in
set_option maxHeartbeats 2000000 in
theorem cas_now_won (h : MAt w m c v) (hv : v.mem = .pointer (some ⟨b, 0, none⟩)) (hb : MemAt w b p t s qv) (hs : StoreIs 110 w s g ws k a o n ct) {B : Nat} {xs : List Int} (hl : LogRow w B v.log xs) (hB : B ≤ w.heap.size) (hn : xs.length < 1000000)
    (hat : v.at' = xs.length) (hu : v.used = false) (i : Nat) (d1 d2 : Int) (hi : i < ws.length) (hc : 0 ≤ ct ∧ ct < 1000000) (hg : v.log.ownBlock ≠ some g) (hw : ws.getD i 0 = d1) :
    Calls Tryz.prog 173 #[.pointer (some ⟨m, 0, none⟩), .int .i64 (i : Int), .int .u64 d1, .int .u64 d2] w fun e w' => e = .returned (.tuple #[.bool true, .bool true]) ∧ AfterNow w m s g c v ws B xs (.cas i d1 d2) ct w' := by
  obtain ⟨la, ln, lc, hlog⟩ := slice_of hl
  have HT := Lib.hid (told_no h hlog (by rw [hat, log_len hl hlog]; omega))
  have hmb : m ≠ b := type_ne' h hb (by decide)
  have hms : m ≠ s := type_ne' h hs.obj (by decide)
  have hmg : m ≠ g := type_ne' h hs.row (by decide)
  have hbs : b ≠ s := type_ne' hb hs.obj (by decide)
  have hbg : b ≠ g := type_ne' hb hs.row (by decide)
  have HM := Lib.hid h
  have Hb := Lib.hid hb
  have HS := Lib.hid hs
  obtain ⟨u, hu0⟩ : ∃ u, ws.getD i 0 = u := ⟨_, rfl⟩
  have HTN : Hid (∀ (w1 w2 w3 : World), Kept No w w1 → Kept (fun k => k = m) w1 w2 → MAt w2 m c { v with used := true } → AccPost 110 w2 s g ws 3 i d2 ct w3 →
      Calls Tryz.prog 177 #[.pointer (some ⟨m, 0, none⟩), .int .u64 d1] w3 fun e w4 => e = .returned (.tuple #[.int .u64 d1, .bool true]) ∧ AfterNow w m s g c v ws B xs (.cas i d1 d2) ct w4) := Lib.hid (fun w1 w2 w3 a1 a2 a3 a4 => by
    have := tell_now h hv hb hs hl hB hn hat hg (.cas i d1 d2) a1 a2 a3 (by simp only [Nx.kind, Nx.next, Nx.at, hw, if_true]; exact a4)
    simp only [Nx.at, hw] at this
    exact this)
  have HAC : Hid (∀ W, StoreIs 110 W s g ws k a o n ct → Calls Tryz.prog 225 #[.pointer (some ⟨s, 0, none⟩), .int .i64 (i : Int), .int .u64 d1, .int .u64 d2] W fun e w' => e = .returned (.tuple #[.int .u64 d1, .int .i64 0]) ∧ AccPost 110 W s g ws 3 i d2 ct w') :=
    Lib.hid (fun W hW => by have := rcas_won hW d1 d2 i hi hc hw; exact this)
  have HV := Lib.hid (And.intro hv hu)
  have HU := Lib.hid hu0
  clear h hb hs hl hlog hv hat hu hu0 hi hc hw
  go_enter Tryz.func173, Tryz.ntmps173
  go_wp2_with (first
    | (go_at_call 175; refine HT.out.mono ?_; rintro e w1 ⟨rfl, hK⟩)
    | (go_at_call 176; refine (now_any (HM.out.kept hK (fun h => h))).mono ?_; rintro e w2 ⟨rfl, hM2, hK2⟩; rw [HV.out.2]; have m18 : w2.cell? ⟨m, 18, none⟩ = some (.pointer (some ⟨b, 0, none⟩)) := (cellOf hM2 18).trans (by rw [← HV.out.1]; rfl); have b0 : w2.cell? ⟨b, 0, none⟩ = some (.pointer (some ⟨s, 0, none⟩)) := cellOf (hK2.at (hK.at Hb.out (fun h => h)) hmb.symm : MemAt w2 b p t s qv) 0; replace hM2 := Lib.hid hM2)
    | (go_at_call 225; refine (HAC.out _ ((HS.out.kept hK (fun h => h) (fun h => h)).kept hK2 hms.symm hmg.symm)).mono ?_; rintro e w3 ⟨rfl, hA⟩; have HTL := Lib.hid (HTN.out w1 w2 w3 hK hK2 hM2.out hA); replace hA := Lib.hid hA)
    | (go_at_call 177; refine HTL.out.mono ?_; rintro e w4 ⟨rfl, hN⟩; replace hN := Lib.hid hN))
  go_ret2
  exact ⟨rfl, hN.out⟩

set_option maxRecDepth 100000 in
set_option maxHeartbeats 2000000 in
theorem cas_now_lost (h : MAt w m c v) (hv : v.mem = .pointer (some ⟨b, 0, none⟩)) (hb : MemAt w b p t s qv) (hs : StoreIs 110 w s g ws k a o n ct) {B : Nat} {xs : List Int} (hl : LogRow w B v.log xs) (hB : B ≤ w.heap.size) (hn : xs.length < 1000000)
    (hat : v.at' = xs.length) (hu : v.used = false) (i : Nat) (d1 d2 : Int) (hi : i < ws.length) (hc : 0 ≤ ct ∧ ct < 1000000) (hg : v.log.ownBlock ≠ some g) (hw : ws.getD i 0 ≠ d1) :
    Calls Tryz.prog 173 #[.pointer (some ⟨m, 0, none⟩), .int .i64 (i : Int), .int .u64 d1, .int .u64 d2] w fun e w' => e = .returned (.tuple #[.bool false, .bool true]) ∧ AfterNow w m s g c v ws B xs (.cas i d1 d2) ct w' := by
  obtain ⟨la, ln, lc, hlog⟩ := slice_of hl
  have HT := Lib.hid (told_no h hlog (by rw [hat, log_len hl hlog]; omega))
  have hmb : m ≠ b := type_ne' h hb (by decide)
  have hms : m ≠ s := type_ne' h hs.obj (by decide)
  have hmg : m ≠ g := type_ne' h hs.row (by decide)
  have hbs : b ≠ s := type_ne' hb hs.obj (by decide)
  have hbg : b ≠ g := type_ne' hb hs.row (by decide)
  have HM := Lib.hid h
  have Hb := Lib.hid hb
  have HS := Lib.hid hs
  obtain ⟨u, hu0⟩ : ∃ u, ws.getD i 0 = u := ⟨_, rfl⟩
  have HTN : Hid (∀ (w1 w2 w3 : World), Kept No w w1 → Kept (fun k => k = m) w1 w2 → MAt w2 m c { v with used := true } → AccPost 110 w2 s g ws 4 i u ct w3 →
      Calls Tryz.prog 177 #[.pointer (some ⟨m, 0, none⟩), .int .u64 u] w3 fun e w4 => e = .returned (.tuple #[.int .u64 u, .bool true]) ∧ AfterNow w m s g c v ws B xs (.cas i d1 d2) ct w4) := Lib.hid (fun w1 w2 w3 a1 a2 a3 a4 => by
    have := tell_now h hv hb hs hl hB hn hat hg (.cas i d1 d2) a1 a2 a3 (by simp only [Nx.kind, Nx.next, Nx.at, hw, if_false]; rw [hu0]; exact a4)
    simpa [Nx.at, ← hu0] using this)
  have HAC : Hid (∀ W, StoreIs 110 W s g ws k a o n ct → Calls Tryz.prog 225 #[.pointer (some ⟨s, 0, none⟩), .int .i64 (i : Int), .int .u64 d1, .int .u64 d2] W fun e w' => e = .returned (.tuple #[.int .u64 u, .int .i64 5]) ∧ AccPost 110 W s g ws 4 i u ct w') :=
    Lib.hid (fun W hW => by have := rcas_lost hW d1 d2 i hi hc hw; first | (rw [hu0] at this; exact this) | exact this)
  have HV := Lib.hid (And.intro hv hu)
  have HU := Lib.hid hu0
  rw [hu0] at hw
  have hwb : (u == d1) = false := by simpa using hw
  clear h hb hs hl hlog hv hat hu hu0 hi hc hw
  go_enter Tryz.func173, Tryz.ntmps173
  go_wp2_with (first
    | (go_at_call 175; refine HT.out.mono ?_; rintro e w1 ⟨rfl, hK⟩)
    | (go_at_call 176; refine (now_any (HM.out.kept hK (fun h => h))).mono ?_; rintro e w2 ⟨rfl, hM2, hK2⟩; rw [HV.out.2]; have m18 : w2.cell? ⟨m, 18, none⟩ = some (.pointer (some ⟨b, 0, none⟩)) := (cellOf hM2 18).trans (by rw [← HV.out.1]; rfl); have b0 : w2.cell? ⟨b, 0, none⟩ = some (.pointer (some ⟨s, 0, none⟩)) := cellOf (hK2.at (hK.at Hb.out (fun h => h)) hmb.symm : MemAt w2 b p t s qv) 0; replace hM2 := Lib.hid hM2)
    | (go_at_call 225; refine (HAC.out _ ((HS.out.kept hK (fun h => h) (fun h => h)).kept hK2 hms.symm hmg.symm)).mono ?_; rintro e w3 ⟨rfl, hA⟩; have HTL := Lib.hid (HTN.out w1 w2 w3 hK hK2 hM2.out hA); replace hA := Lib.hid hA)
    | (go_at_call 177; refine HTL.out.mono ?_; rintro e w4 ⟨rfl, hN⟩; replace hN := Lib.hid hN))
  go_ret2
  exact ⟨rfl, hN.out⟩

theorem cas_now (h : MAt w m c v) (hv : v.mem = .pointer (some ⟨b, 0, none⟩)) (hb : MemAt w b p t s qv) (hs : StoreIs 110 w s g ws k a o n ct) {B : Nat} {xs : List Int} (hl : LogRow w B v.log xs) (hB : B ≤ w.heap.size) (hn : xs.length < 1000000)
    (hat : v.at' = xs.length) (hu : v.used = false) (i : Nat) (d1 d2 : Int) (hi : i < ws.length) (hc : 0 ≤ ct ∧ ct < 1000000) (hg : v.log.ownBlock ≠ some g) :
    Calls Tryz.prog 173 #[.pointer (some ⟨m, 0, none⟩), .int .i64 (i : Int), .int .u64 d1, .int .u64 d2] w fun e w' => e = .returned (.tuple #[.bool (decide (ws.getD i 0 = d1)), .bool true]) ∧ AfterNow w m s g c v ws B xs (.cas i d1 d2) ct w' := by
  by_cases hw : ws.getD i 0 = d1
  · refine (cas_now_won h hv hb hs hl hB hn hat hu i d1 d2 hi hc hg hw).mono ?_
    rintro e w' ⟨rfl, hA⟩
    exact ⟨by rw [hw]; simp, hA⟩
  · refine (cas_now_lost h hv hb hs hl hB hn hat hu i d1 d2 hi hc hg hw).mono ?_
    rintro e w' ⟨rfl, hA⟩
    exact ⟨by rw [decide_eq_false hw], hA⟩
end
end Go.Proofs.YtffafkmmfaaobaaGreat
