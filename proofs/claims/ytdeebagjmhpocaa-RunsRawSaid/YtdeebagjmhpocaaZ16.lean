/- RunsRaw: the walk. -/
import Derived.Test.YtdeebagjmhpocaaZ15
namespace Go.Proofs.Ytdeebagjmhpocaa
set_option linter.unusedSimpArgs false
set_option linter.unusedVariables false
open Go.RowKit

set_option maxRecDepth 100000 in
set_option maxHeartbeats 8000000 in
theorem law5_bad (pages k a n : Int) (w : World) (hbad : pages < 1 ∨ 4096 < pages) :
    Calls Try.prog 5 #[.int .i64 pages, .int .i64 k, .int .i64 a, .int .i64 n] w fun e w' => e = .returned (.bool true) ∧ Below w.heap.size w w' := by
  have Hbad := Lib.hid hbad
  clear hbad
  go_enter Try.func5, Try.ntmps5
  go_wp2_with fail
  refine (runsNew_nil pages _ w Hbad.out).mono ?_
  rintro e w1 ⟨rfl, rfl⟩
  go_wp2_with fail
  refine (refNew_nil pages _ w Hbad.out).mono ?_
  rintro e w1 ⟨rfl, rfl⟩
  go_wp2_with fail
  refine (awake10_any w).mono ?_
  rintro e w1 ⟨rfl, hb⟩
  go_wp2_with fail
  go_ret
  exact ⟨rfl, hb⟩

set_option maxRecDepth 100000 in
set_option maxHeartbeats 8000000 in
theorem law5_ok (N : Nat) (k a n : Int) (w : World) (h1 : 1 ≤ N) (h2 : N ≤ 4096) :
    Calls Try.prog 5 #[.int .i64 N, .int .i64 k, .int .i64 a, .int .i64 n] w fun e w' => e = .returned (.bool true) ∧ Below w.heap.size w w' := by
  go_enter Try.func5, Try.ntmps5
  go_wp2_with fail
  refine (runsNew_any N [] (.slice none 0 0) w (by omega) (by omega) (.inl ⟨rfl, rfl, rfl⟩) (by simp)).mono ?_
  rintro e w1 ⟨s, rfl, hR, a1, a2, a3, a4, a5, a6, a7, a8⟩
  have HR := Lib.hid (And.intro hR (And.intro a1 (And.intro a2 (And.intro a3 (And.intro a4 (And.intro a5 (And.intro a6 (And.intro a7 a8))))))))
  clear hR a1 a2 a3 a4 a5 a6 a7 a8
  go_wp2_with fail
  refine (refNew_any N (.slice none 0 0) [] w1 h1 h2 (.inl ⟨rfl, rfl, rfl⟩) (by simp)).mono ?_
  rintro e w2 ⟨f, rfl, hF, b1, b2, b3, b4, b5, b6⟩
  obtain ⟨hR, a1, a2, a3, a4, a5, a6, a7, a8⟩ := HR.out
  have B0 : Both w s f w2 := Both.made h1 h2 (Below.refl _ _) hR a1 a2 a3 a4 a5 a6 a7 a8 hF b1 b2 b3 b4 b5 b6
  have F1 := Lib.hid (take_both B0 k (by omega))
  have D0 : s.drawn ≤ 1 := by omega
  clear hR a1 a2 a3 a4 a5 a6 a7 a8 HR hF b1 b2 b3 b4 b5 b6 B0
  obtain ⟨q, hq⟩ : ∃ q, s.q = q := ⟨_, rfl⟩
  obtain ⟨fq, hfq⟩ : ∃ fq, f.q = fq := ⟨_, rfl⟩
  unfold TakeBoth at F1
  rw [hq, hfq] at F1
  rw [hq, hfq]
  clear hq hfq
  go_wp2_with fail
  refine F1.out.mono ?_
  rintro e w3 ⟨t1, c1, rfl, hn1⟩
  have Hn1 := Lib.hid hn1
  clear hn1 F1
  go_wp2_with fail
  refine Hn1.out.mono ?_
  rintro e w4 ⟨rfl, s1, f1, B1, q1, fq1, d1⟩
  have F2 := put_both B1 a n (by omega)
  unfold PutBoth at F2
  rw [q1, fq1] at F2
  have F2 := Lib.hid F2
  clear B1 q1 fq1 Hn1
  go_wp2_with fail
  refine F2.out.mono ?_
  rintro e w5 ⟨c2, rfl, hn2⟩
  have Hn2 := Lib.hid hn2
  clear hn2 F2
  go_wp2_with fail
  refine Hn2.out.mono ?_
  rintro e w6 ⟨rfl, s2, f2, B2, q2, fq2, d2⟩
  have F3 := find_both B2 n
  unfold FindBoth at F3
  rw [q2, fq2] at F3
  have F3 := Lib.hid F3
  have Q2 := Lib.hid (And.intro q2 fq2)
  clear B2 q2 fq2 Hn2
  go_wp2_with fail
  refine F3.out.mono ?_
  rintro e w7 ⟨t3, b3, rfl, _, hn3⟩
  have Hn3 := Lib.hid hn3
  clear hn3 F3
  go_wp2_with fail
  refine Hn3.out.mono ?_
  rintro e w8 ⟨rfl, B3⟩
  have F4 := same_any B3
  rw [Q2.out.1, Q2.out.2] at F4
  have F4 := Lib.hid F4
  clear B3 Hn3
  go_wp2_with fail
  refine F4.out.mono ?_
  rintro e w9 ⟨rfl, B4⟩
  have HB := Lib.hid B4.below
  clear B4 F4
  go_wp2_with fail
  refine (awake10_any w9).mono ?_
  rintro e w10 ⟨rfl, hb⟩
  go_wp2_with fail
  go_ret
  exact ⟨rfl, HB.out.trans (hb.mono HB.out.size)⟩

theorem law5 (pages k a n : Int) (w : World) :
    Calls Try.prog 5 #[.int .i64 pages, .int .i64 k, .int .i64 a, .int .i64 n] w fun e w' => e = .returned (.bool true) ∧ Below w.heap.size w w' := by
  by_cases h : pages < 1 ∨ 4096 < pages
  · exact law5_bad pages k a n w h
  · obtain ⟨N, rfl⟩ := Int.eq_ofNat_of_zero_le (show 0 ≤ pages by omega)
    exact law5_ok N k a n w (by omega) (by omega)

end Go.Proofs.Ytdeebagjmhpocaa
