/- slices.Clone at three element types. -/
import Derived.Test.YtdeebagjmhpocaaM
import Derived.Deep.AppendLies
import Derived.OwnWalk
import Derived.WalkSpells
namespace Go.Proofs.Ytdeebagjmhpocaa
set_option linter.unusedSimpArgs false
set_option linter.unusedVariables false
open Go.RowKit

theorem Try.info95 : (Try.prog.info? 95).map (fun i => (i.zero, i.size, i.bytes)) = some (some (.int .u32 0), 1, 4) := by kernel_rfl
theorem Try.info43 : (Try.prog.info? 43).map (fun i => (i.zero, i.size, i.bytes)) = some (some (.int .u64 0), 1, 8) := by kernel_rfl
theorem Try.info77 : (Try.prog.info? 77).map (fun i => (i.zero, i.size, i.bytes)) = some (some (.agg #[.int .i64 0, .int .i64 0]), 2, 16) := by kernel_rfl

/-- What a slice reads as: its cells lie one behind the other. -/
def SrcOf (w : World) (size : Nat) (v : Value) (m : Nat) (news : List Value) : Prop :=
  (v = .slice none 0 0 ∧ m = 0 ∧ news = []) ∨ ∃ a c, v = .slice (some a) m c ∧ news.length = m * size ∧ (∀ j u, news[j]? = some u → w.cell? (a.add j) = some u) ∧ (news ≠ [] → a.block < w.heap.size)

theorem add_block (a : Addr) (j : Nat) : (a.add j).block = a.block := by unfold Addr.add; split <;> rfl
theorem src_alloc {w : World} {a : Addr} {news : List Value} (hnews : ∀ j u, news[j]? = some u → w.cell? (a.add j) = some u) (hlt : news ≠ [] → a.block < w.heap.size) (o : Obj) :
    ∀ j u, news[j]? = some u → (w.alloc o).cell? (a.add j) = some u := fun j u hu =>
  (World.cell?_of_block (w := w) (Below.heap_alloc w o (a.add j).block (by rw [add_block]; exact hlt (by rintro rfl; simp at hu)))).trans (hnews j u hu)

def ClonePost (E size : Nat) (v : Value) (m : Nat) (news : List Value) (w : World) (e : Ending) (w' : World) : Prop :=
  ∃ v', e = .returned v' ∧ w'.ownsRow w.heap.size E size v' m news ∧ (v' = .slice none 0 0 ↔ v = .slice none 0 0) ∧ Below w.heap.size w w'

set_option maxHeartbeats 1000000 in
theorem clone32_any (v : Value) (m : Nat) (news : List Value) (w : World) (hs : SrcOf w 1 v m news) (h1 : ∀ u ∈ news, u.oneCell' = true) (hm : m ≤ 1000000) :
    Calls Try.prog 45 #[v] w (ClonePost 95 1 v m news w) := by
  obtain ⟨i0, hi, hz0, hz1, hz2⟩ := info_parts Try.info95
  rcases hs with ⟨rfl, rfl, rfl⟩ | ⟨a, c, rfl, hl, hnews, hlt⟩
  · have hnil := Lib.run_eql_slice_nil (P := Try.prog)
    go_enter Try.func45, Try.ntmps45
    go_wp2
    go_ret
    exact ⟨_, rfl, World.ownsRow_nil _ _ _ _, Iff.rfl, Below.refl _ _⟩
  · have hnil := Lib.run_eql_slice_nil (P := Try.prog)
    have HH := Lib.hid (And.intro hl (And.intro hnews (And.intro h1 hlt)))
    clear hl hnews h1 hlt
    go_enter Try.func45, Try.ntmps45
    go_wp2_with (at_builtin; refine wpList_append_own _ rfl _ _ 22 rfl w.heap.size 95 i0 _ 1 4 Try.underlying22 hi hz0 hz1 hz2 rfl (by decide) (.slice (some ⟨w.heap.size, 0, none⟩) 0 0) 0 [] rfl (World.ownsRow_made w #[] 0 (Nat.le_refl _) (by decide) (by simp)) a m c news rfl HH.out.1 (src_alloc HH.out.2.1 HH.out.2.2.2 _) HH.out.2.2.1 (by unfold maxLen; omega) (by omega) (by simp) ?_; intro v' w1 hown hgrow hnl)
    go_ret
    refine ⟨v', rfl, by simpa using hown, ?_, ((Below.refl w.heap.size w).alloc (Nat.le_refl _) _).grown hgrow (by simp) (fun k hk => by simp [Value.ownBlock] at hk; omega)⟩
    rw [hnl]; simp

set_option maxHeartbeats 1000000 in
theorem clone64_any (v : Value) (m : Nat) (news : List Value) (w : World) (hs : SrcOf w 1 v m news) (h1 : ∀ u ∈ news, u.oneCell' = true) (hm : m ≤ 1000000) :
    Calls Try.prog 41 #[v] w (ClonePost 43 1 v m news w) := by
  obtain ⟨i0, hi, hz0, hz1, hz2⟩ := info_parts Try.info43
  rcases hs with ⟨rfl, rfl, rfl⟩ | ⟨a, c, rfl, hl, hnews, hlt⟩
  · have hnil := Lib.run_eql_slice_nil (P := Try.prog)
    go_enter Try.func41, Try.ntmps41
    go_wp2
    go_ret
    exact ⟨_, rfl, World.ownsRow_nil _ _ _ _, Iff.rfl, Below.refl _ _⟩
  · have hnil := Lib.run_eql_slice_nil (P := Try.prog)
    have HH := Lib.hid (And.intro hl (And.intro hnews (And.intro h1 hlt)))
    clear hl hnews h1 hlt
    go_enter Try.func41, Try.ntmps41
    go_wp2_with (at_builtin; refine wpList_append_own _ rfl _ _ 39 rfl w.heap.size 43 i0 _ 1 8 Try.underlying39 hi hz0 hz1 hz2 rfl (by decide) (.slice (some ⟨w.heap.size, 0, none⟩) 0 0) 0 [] rfl (World.ownsRow_made w #[] 0 (Nat.le_refl _) (by decide) (by simp)) a m c news rfl HH.out.1 (src_alloc HH.out.2.1 HH.out.2.2.2 _) HH.out.2.2.1 (by unfold maxLen; omega) (by omega) (by simp) ?_; intro v' w1 hown hgrow hnl)
    go_ret
    refine ⟨v', rfl, by simpa using hown, ?_, ((Below.refl w.heap.size w).alloc (Nat.le_refl _) _).grown hgrow (by simp) (fun k hk => by simp [Value.ownBlock] at hk; omega)⟩
    rw [hnl]; simp

set_option maxHeartbeats 1000000 in
theorem cloneRun_any (v : Value) (m : Nat) (news : List Value) (w : World) (hs : SrcOf w 2 v m news) (h1 : ∀ u ∈ news, u.oneCell' = true) (hm : m ≤ 1000000) :
    Calls Try.prog 42 #[v] w (ClonePost 77 2 v m news w) := by
  obtain ⟨i0, hi, hz0, hz1, hz2⟩ := info_parts Try.info77
  rcases hs with ⟨rfl, rfl, rfl⟩ | ⟨a, c, rfl, hl, hnews, hlt⟩
  · have hnil := Lib.run_eql_slice_nil (P := Try.prog)
    go_enter Try.func42, Try.ntmps42
    go_wp2
    go_ret
    exact ⟨_, rfl, World.ownsRow_nil _ _ _ _, Iff.rfl, Below.refl _ _⟩
  · have hnil := Lib.run_eql_slice_nil (P := Try.prog)
    have HH := Lib.hid (And.intro hl (And.intro hnews (And.intro h1 hlt)))
    clear hl hnews h1 hlt
    go_enter Try.func42, Try.ntmps42
    go_wp2_with (at_builtin; refine wpList_append_own _ rfl _ _ 49 rfl w.heap.size 77 i0 _ 2 16 Try.underlying49 hi hz0 hz1 hz2 rfl (by decide) (.slice (some ⟨w.heap.size, 0, none⟩) 0 0) 0 [] rfl (World.ownsRow_made w #[] 0 (Nat.le_refl _) (by decide) (by simp)) a m c news rfl HH.out.1 (src_alloc HH.out.2.1 HH.out.2.2.2 _) HH.out.2.2.1 (by unfold maxLen; omega) (by omega) (by simp) ?_; intro v' w1 hown hgrow hnl)
    go_ret
    refine ⟨v', rfl, by simpa using hown, ?_, ((Below.refl w.heap.size w).alloc (Nat.le_refl _) _).grown hgrow (by simp) (fun k hk => by simp [Value.ownBlock] at hk; omega)⟩
    rw [hnl]; simp

end Go.Proofs.Ytdeebagjmhpocaa
