/- RunsRuns: the walk. -/
import Derived.Test.YtdeebagjmhpocaaZ17
namespace Go.Proofs.Ytdeebagjmhpocaa
set_option linter.unusedSimpArgs false
set_option linter.unusedVariables false
open Go.RowKit

/-- What goes through the loop. -/
def Loop4 (w0 : World) (q fq : Nat) (j : Nat) (wr : World) : Prop := ∃ s f, Both w0 s f wr ∧ s.q = q ∧ f.q = fq ∧ s.drawn ≤ 1 + j

theorem loop4_take {w0 : World} {q fq j : Nat} {wr : World} (h : Loop4 w0 q fq j wr) (hj : j ≤ 1000) (k : Int) :
    Calls Try.prog 25 #[.pointer (some ⟨q, 0, none⟩), .int .i64 k] wr fun e w1 => ∃ a c : Int, e = .returned (.tuple #[.int .i64 a, .int .i64 c]) ∧ Calls Try.prog 26 #[.pointer (some ⟨fq, 0, none⟩), .int .i64 k] w1 fun e2 w2 => e2 = .returned (.tuple #[.int .i64 a, .int .i64 c]) ∧ Loop4 w0 q fq (j + 1) w2 := by
  obtain ⟨s, f, hB, rfl, rfl, hd⟩ := h
  refine (take_both hB k (by omega)).mono ?_
  rintro e w1 ⟨a, c, rfl, hn⟩
  refine ⟨a, c, rfl, hn.mono ?_⟩
  rintro e w2 ⟨rfl, s', f', hB', q1, q2, hd'⟩
  exact ⟨rfl, s', f', hB', q1, q2, by omega⟩
theorem loop4_put {w0 : World} {q fq j : Nat} {wr : World} (h : Loop4 w0 q fq j wr) (hj : j ≤ 1000) (a n : Int) :
    Calls Try.prog 27 #[.pointer (some ⟨q, 0, none⟩), .int .i64 a, .int .i64 n] wr fun e w1 => ∃ c : Int, e = .returned (.int .i64 c) ∧ Calls Try.prog 28 #[.pointer (some ⟨fq, 0, none⟩), .int .i64 a, .int .i64 n] w1 fun e2 w2 => e2 = .returned (.int .i64 c) ∧ Loop4 w0 q fq (j + 1) w2 := by
  obtain ⟨s, f, hB, rfl, rfl, hd⟩ := h
  refine (put_both hB a n (by omega)).mono ?_
  rintro e w1 ⟨c, rfl, hn⟩
  refine ⟨c, rfl, hn.mono ?_⟩
  rintro e w2 ⟨rfl, s', f', hB', q1, q2, hd'⟩
  exact ⟨rfl, s', f', hB', q1, q2, by omega⟩
theorem loop4_same {w0 : World} {q fq j : Nat} {wr : World} (h : Loop4 w0 q fq j wr) :
    Calls Try.prog 29 #[.pointer (some ⟨q, 0, none⟩), .pointer (some ⟨fq, 0, none⟩)] wr fun e w1 => e = .returned (.bool true) ∧ Loop4 w0 q fq j w1 := by
  obtain ⟨s, f, hB, rfl, rfl, hd⟩ := h
  refine (same_any hB).mono ?_
  rintro e w1 ⟨rfl, hB'⟩
  exact ⟨rfl, s, f, hB', rfl, rfl, hd⟩
theorem loop4_find {w0 : World} {q fq j : Nat} {wr : World} (h : Loop4 w0 q fq j wr) (k : Int) :
    Calls Try.prog 30 #[.pointer (some ⟨q, 0, none⟩), .int .i64 k] wr fun e w1 => ∃ (a : Int) (b : Bool), e = .returned (.tuple #[.int .i64 a, .bool b]) ∧ Calls Try.prog 31 #[.pointer (some ⟨fq, 0, none⟩), .int .i64 k] w1 fun e2 w2 => e2 = .returned (.tuple #[.int .i64 a, .bool b]) ∧ Loop4 w0 q fq j w2 := by
  obtain ⟨s, f, hB, rfl, rfl, hd⟩ := h
  refine (find_both hB k).mono ?_
  rintro e w1 ⟨a, b, rfl, _, hn⟩
  refine ⟨a, b, rfl, hn.mono ?_⟩
  rintro e w2 ⟨rfl, hB'⟩
  exact ⟨rfl, s, f, hB', rfl, rfl, hd⟩
theorem Loop4.below {w0 : World} {q fq j : Nat} {wr : World} (h : Loop4 w0 q fq j wr) : Below w0.heap.size w0 wr := by
  obtain ⟨s, f, hB, _⟩ := h
  exact hB.below
theorem Loop4.go {w0 : World} {q fq j : Nat} {wr w1 : World} (h : Loop4 w0 q fq j wr) (hb : Below wr.heap.size wr w1) : Loop4 w0 q fq j w1 := by
  obtain ⟨s, f, hB, h1⟩ := h
  exact ⟨s, f, hB.go hb, h1⟩

/-- The two makings. -/
theorem loop4_new (N : Nat) (ds : List Int) (v : Value) (w0 w : World) (h1 : 1 ≤ N) (h2 : N ≤ 4096) (hs : SrcOf w 1 v ds.length (ds.map (.int .u32 ·))) (hm : ds.length ≤ 100000) (hb : Below w0.heap.size w0 w) :
    Calls Try.prog 22 #[.int .i64 N, v] w fun e w1 => ∃ q, e = .returned (.pointer (some ⟨q, 0, none⟩)) ∧ Below w0.heap.size w0 w1 ∧ ∀ (v2 : Value) (w2 : World), Below w1.heap.size w1 w2 → SrcOf w2 1 v2 ds.length (ds.map (.int .u32 ·)) →
      Calls Try.prog 24 #[.int .i64 N, v2] w2 fun e2 w3 => ∃ fq, e2 = .returned (.pointer (some ⟨fq, 0, none⟩)) ∧ Loop4 w0 q fq 0 w3 := by
  refine (runsNew_any N ds v w (by omega) (by omega) hs hm).mono ?_
  rintro e w1 ⟨s, rfl, hR, a1, a2, a3, a4, a5, a6, a7, a8⟩
  refine ⟨s.q, rfl, hb.trans (a7.mono hb.size), fun v2 w2 hb2 hs2 => ?_⟩
  refine (refNew_any N v2 ds w2 h1 h2 hs2 hm).mono ?_
  rintro e w3 ⟨f, rfl, hF, b1, b2, b3, b4, b5, b6⟩
  have hsz := hb.size
  exact ⟨f.q, rfl, s, f, Both.made h1 h2 (Below.refl _ _) (hR.below hb2) a1 a2 a3 a4 a5 a6 ((hb.trans (a7.mono hb.size)).trans (hb2.mono (by have := a7.size; omega))) (fun k hk => Nat.le_trans hb.size (a8 k hk)) hF b1 b2 b3 b4 b5 b6, rfl, rfl, by omega⟩

set_option maxRecDepth 100000 in
set_option maxHeartbeats 8000000 in
theorem law4 (p : Int) (ad : Option Addr) (dl dc : Nat) (dz : List Int) (an : Option Addr) (nl nc : Nat) (nz : List Int) (w : World) (hp : 0 ≤ p ∧ p ≤ 255) (hd : Row8 w ad dl dc dz) (hn : Row8 w an nl nc nz) :
    Calls Try.prog 4 #[.int .u8 p, .slice ad dl dc, .slice an nl nc] w fun e w' => e = .returned (.bool true) ∧ Below w.heap.size w w' := by
  obtain ⟨hp0, hp1⟩ := hp
  have HD := Lib.hid hd
  have HN := Lib.hid hn
  clear hd hn
  go_enter Try.func4, Try.ntmps4
  go_wp2_with fail
  refine (draws_any ad dl dc dz w HD.out).mono ?_
  rintro e w1 ⟨v, rfl, ho, hb1⟩
  have HO := Lib.hid (And.intro ho hb1)
  have hdl : Hid ((drawsL dz dl).length ≤ 100000) := by unfold Hid drawsL; rw [List.length_map, List.length_take]; omega
  clear ho hb1
  obtain ⟨va, vn, vc, rfl⟩ : ∃ a n c, v = .slice a n c := by
    rcases HO.out.1.2 with ⟨rfl, _⟩ | ⟨g, cap, cur, rfl, _⟩ <;> exact ⟨_, _, _, rfl⟩
  obtain ⟨N, hN⟩ : ∃ N : Nat, 1 + p % 100 = (N : Int) := ⟨(1 + p % 100).toNat, by omega⟩
  have hN1 : 1 ≤ N := by omega
  have hN2 : N ≤ 100 := by omega
  go_wp2_with fail
  have HNN := Lib.hid hN
  clear hN
  refine (loop4_new N (drawsL dz dl) (.slice va vn vc) w w1 hN1 (by omega) (SrcOf.of_own HO.out.1) hdl.out HO.out.2).mono ?_
  rintro e w2 ⟨q, rfl, hb2, hnew⟩
  have F24 := Lib.hid hnew
  have HB2 := Lib.hid hb2
  clear hnew hb2
  go_wp2_with fail
  refine (draws_any ad dl dc dz w2 (HD.out.below HB2.out)).mono ?_
  rintro e w3 ⟨v3, rfl, ho3, hb3⟩
  have F24' := F24.out v3 w3 hb3 (SrcOf.of_own ho3)
  obtain ⟨va3, vn3, vc3, rfl⟩ : ∃ a n c, v3 = .slice a n c := by
    rcases ho3.2 with ⟨rfl, _⟩ | ⟨g, cap, cur, rfl, _⟩ <;> exact ⟨_, _, _, rfl⟩
  have F24' := Lib.hid F24'
  clear ho3 hb3
  go_wp2_with fail
  refine F24'.out.mono ?_
  rintro e w4 ⟨fq, rfl, hL4⟩
  have HL4 := Lib.hid hL4
  clear hL4
  go_wp2_with fail
  have hN0 : ((N : Int) == 0) = false := by simp; omega
  have hNp : (1 : Int) ≤ N := by omega
  clear F24 F24' HB2 HO hdl
  go_loopg [10] 121 (fun m v10 wr => ∃ i j : Nat, v10 = .int .i64 i ∧ i = 3 * j ∧ j ≤ 120 ∧ 121 - j ≤ m ∧ Loop4 w q fq j wr)
  case atStart => exact ⟨0, 0, rfl, rfl, by omega, by omega, HL4.out⟩
  case round =>
    obtain ⟨i, j, rfl, hij, hj, hm, hL⟩ := hrel
    have Hij := Lib.hid hij
    have hRow := HN.out.below hL.below
    have HL := Lib.hid hL
    have hi360 : i ≤ 360 := by omega
    have Hm := Lib.hid hm
    clear hij hL hm
    by_cases hlt : i + 2 < nl
    · have hlt' : (i : Int) + 2 < nl := by omega
      by_cases hlt3 : i < 360
      · have hlt3' : (i : Int) < 360 := by omega
        obtain ⟨x, rfl, hx1, hx2, hx3, hx4, hx5, hx6⟩ := hRow.resolve_left (by rintro ⟨_, h, _⟩; omega)
        obtain ⟨b0, hb0⟩ : ∃ b, nz.getD i 0 = b := ⟨_, rfl⟩
        obtain ⟨b1, hb1⟩ : ∃ b, nz.getD (i + 1) 0 = b := ⟨_, rfl⟩
        obtain ⟨b2, hb2⟩ : ∃ b, nz.getD (i + 2) 0 = b := ⟨_, rfl⟩
        have d0 := hx4 i (by omega)
        have d1 := hx4 (i + 1) (by omega)
        have d2 := hx4 (i + 2) (by omega)
        rw [hb0] at d0
        rw [hb1] at d1
        rw [hb2] at d2
        have hbd : ∀ k, k < nz.length → 0 ≤ nz.getD k 0 ∧ nz.getD k 0 ≤ 255 := fun k hk => by
          rw [List.getD_eq_getElem?_getD, List.getElem?_eq_getElem hk]
          exact hx5 _ (List.getElem_mem hk)
        have e0 := hbd i (by omega)
        have e1 := hbd (i + 1) (by omega)
        have e2 := hbd (i + 2) (by omega)
        rw [hb0] at e0
        rw [hb1] at e1
        rw [hb2] at e2
        obtain ⟨e00, e01⟩ := e0
        obtain ⟨e10, e11⟩ := e1
        obtain ⟨e20, e21⟩ := e2
        have hi0 : (0 : Int) ≤ i := by omega
        have hi1 : (i : Int) < nl := by omega
        have hi2 : (0 : Int) ≤ (i : Int) + 1 := by omega
        have hi3 : (i : Int) + 1 < nl := by omega
        have hi4 : (0 : Int) ≤ (i : Int) + 2 := by omega
        have ht1 : ((i : Int) + 1).toNat = i + 1 := by omega
        have ht2 : ((i : Int) + 2).toNat = i + 2 := by omega
        have hw1 : IntKind.i64.wrap ((i : Int) + 1) = (i : Int) + 1 := IntWalk.i64_in _ (by omega)
        have hw2 : IntKind.i64.wrap ((i : Int) + 2) = (i : Int) + 2 := IntWalk.i64_in _ (by omega)
        clear hb0 hb1 hb2 hbd hx2 hx3 hx4 hx5 hx6 hRow
        go_wp2_with fail
        have d1' : wr.cell? ⟨x.block, x.off + (i + 1), none⟩ = some (.int .u8 b1) := d1
        have d2' : wr.cell? ⟨x.block, x.off + (i + 1 + 1), none⟩ = some (.int .u8 b2) := d2
        clear d1 d2
        have hNz : ¬ N = 0 := by omega
        have hNz' : ¬ (N : Int) = 0 := by omega
        have htm : b2.tmod N = b2 % N := Int.tmod_eq_emod_of_nonneg e20
        have hwm : IntKind.i64.wrap (b2 % (N : Int)) = b2 % (N : Int) := IntWalk.i64_in _ (by have h1 := Int.emod_nonneg b2 hNz'; have h2 := Int.emod_lt_of_pos b2 (show (0 : Int) < N by omega); omega)
        go_region_held3 (fun W => W.cell? ⟨x.block, x.off + (i + 1), none⟩ = some (.int .u8 b1) ∧ W.cell? ⟨x.block, x.off + (i + 1 + 1), none⟩ = some (.int .u8 b2)) (first | go_keep) (fail)
        clear hw1 hw2 ht1 ht2 htm hwm hNz hNz'
        by_cases h2 : b0 % 2 = 0
        · have t2 : (b0 % 2 == 0) = true := by simpa using h2
          clear h2
          go_wp2_with fail
          refine (loop4_take (HL.out.go (Below.refl _ _).drew) (by omega) (1 + b1 % 12)).mono ?_
          rintro e w5 ⟨ra, rc, rfl, hnx⟩
          have Hnx := Lib.hid hnx
          clear hnx
          go_wp2_with fail
          refine Hnx.out.mono ?_
          rintro e w6 ⟨rfl, hL2⟩
          have HL2 := Lib.hid hL2
          clear hL2
          by_cases h12 : (i : Int) % 12 = 0
          · have t12 : ((i : Int) % 12 == 0) = true := by simpa using h12
            clear h12
            go_wp2_with fail
            refine (loop4_same HL2.out).mono ?_
            rintro e w7 ⟨rfl, hL7⟩
            have HL7 := Lib.hid hL7
            clear hL7
            go_wp2_with fail
            go_roundg (121 - (j + 1))
            case measure => have := Hm.out; have := Hij.out; omega
            case rel => exact ⟨i + 3, j + 1, by go_num, by have := Hij.out; omega, by have := Hij.out; omega, Nat.le_refl _, HL7.out⟩
          · have t12 : ((i : Int) % 12 == 0) = false := by simpa using h12
            clear h12
            go_wp2_with fail
            go_roundg (121 - (j + 1))
            case measure => have := Hm.out; have := Hij.out; omega
            case rel => exact ⟨i + 3, j + 1, by go_num, by have := Hij.out; omega, by have := Hij.out; omega, Nat.le_refl _, HL2.out⟩
        · have t2 : (b0 % 2 == 0) = false := by simpa using h2
          clear h2
          go_wp2_with fail
          refine (loop4_put (HL.out.go (Below.refl _ _).drew) (by omega) (b2 % N) (1 + b1 % 12)).mono ?_
          rintro e w5 ⟨rc, rfl, hnx⟩
          have Hnx := Lib.hid hnx
          clear hnx
          go_wp2_with fail
          refine Hnx.out.mono ?_
          rintro e w6 ⟨rfl, hL2⟩
          have HL2 := Lib.hid hL2
          clear hL2
          by_cases h12 : (i : Int) % 12 = 0
          · have t12 : ((i : Int) % 12 == 0) = true := by simpa using h12
            clear h12
            go_wp2_with fail
            refine (loop4_same HL2.out).mono ?_
            rintro e w7 ⟨rfl, hL7⟩
            have HL7 := Lib.hid hL7
            clear hL7
            go_wp2_with fail
            go_roundg (121 - (j + 1))
            case measure => have := Hm.out; have := Hij.out; omega
            case rel => exact ⟨i + 3, j + 1, by go_num, by have := Hij.out; omega, by have := Hij.out; omega, Nat.le_refl _, HL7.out⟩
          · have t12 : ((i : Int) % 12 == 0) = false := by simpa using h12
            clear h12
            go_wp2_with fail
            go_roundg (121 - (j + 1))
            case measure => have := Hm.out; have := Hij.out; omega
            case rel => exact ⟨i + 3, j + 1, by go_num, by have := Hij.out; omega, by have := Hij.out; omega, Nat.le_refl _, HL2.out⟩
      · have hlt3' : ¬ (i : Int) < 360 := by omega
        clear hRow
        go_wp2_with fail
        refine (loop4_find HL.out _).mono ?_
        rintro e w5 ⟨fa, fb, rfl, hnx⟩
        have Hnx := Lib.hid hnx
        clear hnx
        go_wp2_with fail
        refine Hnx.out.mono ?_
        rintro e w6 ⟨rfl, hL2⟩
        have HL2 := Lib.hid hL2
        clear hL2
        go_wp2_with fail
        refine (loop4_same HL2.out).mono ?_
        rintro e w7 ⟨rfl, hL7⟩
        have HB := Lib.hid hL7.below
        clear hL7
        go_wp2_with fail
        refine (awake10_any w7).mono ?_
        rintro e w8 ⟨rfl, hb⟩
        go_wp2_with fail
        go_ret
        exact ⟨rfl, HB.out.trans (hb.mono HB.out.size)⟩
    · have hlt' : ¬ (i : Int) + 2 < nl := by omega
      clear hRow
      go_wp2_with fail
      refine (loop4_find HL.out _).mono ?_
      rintro e w5 ⟨fa, fb, rfl, hnx⟩
      have Hnx := Lib.hid hnx
      clear hnx
      go_wp2_with fail
      refine Hnx.out.mono ?_
      rintro e w6 ⟨rfl, hL2⟩
      have HL2 := Lib.hid hL2
      clear hL2
      go_wp2_with fail
      refine (loop4_same HL2.out).mono ?_
      rintro e w7 ⟨rfl, hL7⟩
      have HB := Lib.hid hL7.below
      clear hL7
      go_wp2_with fail
      refine (awake10_any w7).mono ?_
      rintro e w8 ⟨rfl, hb⟩
      go_wp2_with fail
      go_ret
      exact ⟨rfl, HB.out.trans (hb.mono HB.out.size)⟩

end Go.Proofs.Ytdeebagjmhpocaa
