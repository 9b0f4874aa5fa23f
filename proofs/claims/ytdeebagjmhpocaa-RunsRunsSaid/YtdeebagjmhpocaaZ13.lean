/- The program's runs and the reference's side by side. -/
import Derived.Test.YtdeebagjmhpocaaZ12
namespace Go.Proofs.Ytdeebagjmhpocaa
set_option linter.unusedSimpArgs false
set_option linter.unusedVariables false
open Go.RowKit

theorem nodup_len : ∀ (l m : List R2), l.Nodup → (∀ x ∈ l, x ∈ m) → l.length ≤ m.length
  | [], m, _, _ => Nat.zero_le _
  | a :: l, m, hn, hs => by
    obtain ⟨h1, h2⟩ := List.nodup_cons.1 hn
    have ha := hs a (by simp)
    have := nodup_len l (m.erase a) h2 (fun x hx => (List.mem_erase_of_ne (a := x) (b := a) (fun e => h1 (by rw [← e]; exact hx))).2 (hs x (by simp [hx])))
    rw [List.length_erase_of_mem ha] at this
    have := List.length_pos_of_mem ha
    simp only [List.length_cons]; omega

theorem Coup.small {s : RSt} {f : FSt} (h : Coup s f) : f.free.length ≤ 4096 := by have h1 := h.inv.small; have h2 := h.pages; omega
theorem Coup.xsLen {s : RSt} {f : FSt} (h : Coup s f) : s.xs.length ≤ 4096 := by
  rw [h.xs]; have := (runsUp_good f.free f.free.length).few; have := h.small; omega
theorem Coup.tot {s : RSt} {f : FSt} (h : Coup s f) : s.total ≤ 4096 := by
  rw [h.total]; have := cntUp_le f.free f.free.length; have := h.small; omega
theorem Coup.nodes {s : RSt} {f : FSt} (h : Coup s f) : (inord s.t).length ≤ 4096 := by
  have := nodup_len ((inord s.t).map (fun y => (y.pg, y.ln))) s.xs (by
    refine List.pairwise_map.2 (h.inv.srt.imp_of_mem fun {a b} ha hb hab e => ?_)
    have h1 := h.inv.keys a ha
    have h2 := h.inv.keys b hb
    rw [e] at h1; omega) (fun x hx => by
    obtain ⟨y, hy, rfl⟩ := List.mem_map.1 hx
    exact (h.inv.nodes _).2 ⟨y, hy, rfl, rfl⟩)
  rw [List.length_map] at this
  have := h.xsLen; omega
theorem Coup.rinv {s : RSt} {f : FSt} (h : Coup s f) (hd : s.drawn ≤ 900000) : RInv f := by
  refine ⟨h.srt, h.small, by rw [h.its, List.length_map]; exact h.nodes, by have := h.drawn; omega, fun z => ?_⟩
  rw [← h.xs, h.its]
  constructor
  · rintro ⟨y, hy, rfl⟩
    obtain ⟨d, hd, rfl⟩ := List.mem_map.1 hy
    exact ⟨(d.pg, d.ln), (h.inv.nodes _).2 ⟨d, hd, rfl, rfl⟩, (h.inv.keys d hd).symm⟩
  · rintro ⟨x, hx, rfl⟩
    obtain ⟨d, hd, _, _, e⟩ := h.inv.node hx
    exact ⟨itN d, List.mem_map.2 ⟨d, hd, rfl⟩, e⟩

structure Both (w0 : World) (s : RSt) (f : FSt) (w : World) : Prop where
  rs : RunsIs w s
  rf : RefIs w f
  coup : Coup s f
  apart : ∀ b, (s.fp b ∨ s.dv.ownBlock = some b) → ¬ f.fp b
  new : ∀ b, (s.fp b ∨ s.dv.ownBlock = some b) ∨ f.fp b → w0.heap.size ≤ b
  below : Below w0.heap.size w0 w
theorem Both.go {w0 : World} {s : RSt} {f : FSt} {w w1 : World} (h : Both w0 s f w) (hb : Below w.heap.size w w1) : Both w0 s f w1 :=
  ⟨h.rs.below hb, h.rf.below hb, h.coup, h.apart, h.new, h.below.trans (hb.mono h.below.size)⟩

theorem Both.step {w0 : World} {s s' : RSt} {f f' : FSt} {w w1 w2 : World} (h : Both w0 s f w) (hr : RunStep s s' w w1) (hf : RefIs w1 f → RefStep f f' w1 w2) (hc : Coup s' f') : Both w0 s' f' w2 := by
  have hf1 : RefIs w1 f := h.rf.kept hr.kept (fun k hk hs => h.apart k (.inl hs) hk)
  have hR := hf hf1
  have hap : ∀ b, (s'.fp b ∨ s'.dv.ownBlock = some b) → ¬ f.fp b := fun b hb hfb => by
    have hl := h.rf.lt b hfb
    rw [hr.dv] at hb
    rcases hb with hb | hb
    · rcases hr.new b hb with h1 | h1
      · exact h.apart b (.inl h1) hfb
      · omega
    · exact h.apart b (.inr hb) hfb
  have hsz := hr.kept.size
  have hsz0 := h.below.size
  refine ⟨hr.is.kept hR.kept (fun k hk hfk => hap k hk hfk), hR.is, hc, fun b hb hfb => ?_, fun b hb => ?_, ?_⟩
  · have hl := hr.is.lt b hb
    rcases hR.new b hfb with h1 | h1
    · exact hap b hb h1
    · omega
  · rcases hb with hb | hb
    · rw [hr.dv] at hb
      rcases hb with hb | hb
      · rcases hr.new b hb with h1 | h1
        · exact h.new b (.inl (.inl h1))
        · omega
      · exact h.new b (.inl (.inr hb))
    · rcases hR.new b hb with h1 | h1
      · exact h.new b (.inr h1)
      · omega
  · exact (h.below.trans (hr.kept.below hsz0 (fun k hk => h.new k (.inl (.inl hk))))).trans (hR.kept.below (by omega) (fun k hk => h.new k (.inr hk)))

def TakeBoth (w0 : World) (s : RSt) (f : FSt) (k : Int) (e : Ending) (w1 : World) : Prop :=
  ∃ a c : Int, e = .returned (.tuple #[.int .i64 a, .int .i64 c]) ∧ Calls Try.prog 26 #[.pointer (some ⟨f.q, 0, none⟩), .int .i64 k] w1 fun e2 w2 => e2 = .returned (.tuple #[.int .i64 a, .int .i64 c]) ∧
    ∃ s' f', Both w0 s' f' w2 ∧ s'.q = s.q ∧ f'.q = f.q ∧ s'.drawn ≤ s.drawn + 1

theorem take_both {w0 : World} {s : RSt} {f : FSt} {w : World} (h : Both w0 s f w) (k : Int) (hd : s.drawn < 900000) :
    Calls Try.prog 25 #[.pointer (some ⟨s.q, 0, none⟩), .int .i64 k] w (TakeBoth w0 s f k) := by
  have hxs := h.coup.xs
  have hri := h.coup.rinv (Nat.le_of_lt hd)
  refine (take_any s k w h.rs h.coup.inv hd).mono ?_
  rintro e w1 ⟨h1, h2, h3⟩
  by_cases hk : k < 1
  · obtain ⟨rfl, hb⟩ := h1 hk
    have h' := h.go hb
    refine ⟨0, 1, rfl, (refTake_any f k w1 h'.rf hri).mono ?_⟩
    rintro e2 w2 ⟨g1, _, _⟩
    obtain ⟨rfl, hb2⟩ := g1 hk
    exact ⟨rfl, s, f, h'.go hb2, rfl, rfl, Nat.le_succ _⟩
  · have hk1 : 1 ≤ k := by omega
    cases hbst : bestR k s.xs with
    | none =>
      obtain ⟨rfl, hb⟩ := h2 hk1 hbst
      have h' := h.go hb
      refine ⟨0, 3, rfl, (refTake_any f k w1 h'.rf hri).mono ?_⟩
      rintro e2 w2 ⟨_, g2, _⟩
      obtain ⟨rfl, hb2⟩ := g2 hk1 (by rw [← hxs]; exact hbst)
      exact ⟨rfl, s, f, h'.go hb2, rfl, rfl, Nat.le_succ _⟩
    | some x =>
      obtain ⟨rfl, s', hR, hT⟩ := h3 x hk1 hbst
      have hf1 : RefIs w1 f := h.rf.kept hR.kept (fun k hk hs => h.apart k (.inl hs) hk)
      refine ⟨x.1, 0, rfl, (refTake_any f k w1 hf1 hri).mono ?_⟩
      rintro e2 w2 ⟨_, _, g3⟩
      obtain ⟨rfl, f', hF, hTF⟩ := g3 x hk1 (by rw [← hxs]; exact hbst)
      obtain ⟨hx, hkx, _, _⟩ := h.coup.inv.best hk1 hbst
      exact ⟨rfl, s', f', h.step hR (fun _ => hF) (h.coup.took hx hk1 hkx hT hTF), hT.q, hTF.q, by rw [hT.drawn]; split <;> omega⟩

def PutBoth (w0 : World) (s : RSt) (f : FSt) (a n : Int) (e : Ending) (w1 : World) : Prop :=
  ∃ c : Int, e = .returned (.int .i64 c) ∧ Calls Try.prog 28 #[.pointer (some ⟨f.q, 0, none⟩), .int .i64 a, .int .i64 n] w1 fun e2 w2 => e2 = .returned (.int .i64 c) ∧
    ∃ s' f', Both w0 s' f' w2 ∧ s'.q = s.q ∧ f'.q = f.q ∧ s'.drawn ≤ s.drawn + 1

theorem put_both {w0 : World} {s : RSt} {f : FSt} {w : World} (h : Both w0 s f w) (a n : Int) (hd : s.drawn < 900000) :
    Calls Try.prog 27 #[.pointer (some ⟨s.q, 0, none⟩), .int .i64 a, .int .i64 n] w (PutBoth w0 s f a n) := by
  have hxs := h.coup.xs
  have hri := h.coup.rinv (Nat.le_of_lt hd)
  have hpg := h.coup.pages
  refine (put_any' s a n w h.rs h.coup.inv hd (by have := h.coup.xsLen; omega) (by have := h.coup.tot; omega)).mono ?_
  rintro e w1 ⟨h1, h2, h3⟩
  rw [hpg] at h1 h2 h3
  by_cases hok : OkArgs f.free.length a n
  · have hov : Over s.xs a n ↔ FreeIn f.free a.toNat n.toNat := by rw [hxs]; exact over_free hok.1 hok.2.1 hok.2.2
    by_cases ho : Over s.xs a n
    · obtain ⟨rfl, hb⟩ := h2 hok ho
      have h' := h.go hb
      refine ⟨4, rfl, (refPut_any f a n w1 h'.rf hri).mono ?_⟩
      rintro e2 w2 ⟨_, g2, _⟩
      obtain ⟨rfl, hb2⟩ := g2 hok (hov.1 ho)
      exact ⟨rfl, s, f, h'.go hb2, rfl, rfl, Nat.le_succ _⟩
    · obtain ⟨rfl, s', hR, hT⟩ := h3 hok ho
      have hf1 : RefIs w1 f := h.rf.kept hR.kept (fun k hk hs => h.apart k (.inl hs) hk)
      refine ⟨0, rfl, (refPut_any f a n w1 hf1 hri).mono ?_⟩
      rintro e2 w2 ⟨_, _, g3⟩
      obtain ⟨rfl, f', hF, hTF⟩ := g3 hok (fun h => ho (hov.2 h))
      rw [← hxs] at hTF
      exact ⟨rfl, s', f', h.step hR (fun _ => hF) (h.coup.put hok.1 hok.2.1 (by rw [hpg]; exact hok.2.2) ho hT hTF), hT.q, hTF.q, by rw [hT.drawn]; omega⟩
  · obtain ⟨rfl, hb⟩ := h1 hok
    have h' := h.go hb
    refine ⟨1, rfl, (refPut_any f a n w1 h'.rf hri).mono ?_⟩
    rintro e2 w2 ⟨g1, _, _⟩
    obtain ⟨rfl, hb2⟩ := g1 hok
    exact ⟨rfl, s, f, h'.go hb2, rfl, rfl, Nat.le_succ _⟩

def FindBoth (w0 : World) (s : RSt) (f : FSt) (k : Int) (e : Ending) (w1 : World) : Prop :=
  ∃ (a : Int) (b : Bool), e = .returned (.tuple #[.int .i64 a, .bool b]) ∧ Both w0 s f w1 ∧ Calls Try.prog 31 #[.pointer (some ⟨f.q, 0, none⟩), .int .i64 k] w1 fun e2 w2 => e2 = .returned (.tuple #[.int .i64 a, .bool b]) ∧ Both w0 s f w2

theorem find_both {w0 : World} {s : RSt} {f : FSt} {w : World} (h : Both w0 s f w) (k : Int) :
    Calls Try.prog 30 #[.pointer (some ⟨s.q, 0, none⟩), .int .i64 k] w (FindBoth w0 s f k) := by
  refine (find_any' s k w h.rs h.coup.inv.small.2).mono ?_
  rintro e w1 ⟨rfl, hb⟩
  have h' := h.go hb
  refine ⟨_, _, rfl, h', (refFind_any f k w1 h'.rf).mono ?_⟩
  rintro e2 w2 ⟨rfl, hb2⟩
  rw [best_same h.coup.inv, h.coup.xs]
  exact ⟨rfl, h'.go hb2⟩

end Go.Proofs.Ytdeebagjmhpocaa
