/- slices.Insert of one run. -/
import Derived.Test.YtdeebagjmhpocaaI
namespace Go.Proofs.Ytdeebagjmhpocaa
set_option linter.unusedSimpArgs false
set_option linter.unusedVariables false
open Go.RowKit

def insR (xs : List R2) (i : Nat) (x : R2) : List R2 := xs.take i ++ x :: xs.drop i

def InsertPost (xs : List R2) (v : Value) (i : Nat) (x : R2) (base : Nat) (w : World) (e : Ending) (w' : World) : Prop :=
  ∃ v', e = .returned v' ∧ w'.ownsRow base 77 2 v' (xs.length + 1) (runCells (insR xs i x)) ∧ w.grownBy w' v.ownBlock ∧ (∀ k, v'.ownBlock = some k → v.ownBlock = some k ∨ w.heap.size ≤ k)

set_option maxRecDepth 100000 in
set_option maxHeartbeats 2000000 in
/-- At the end of the list. -/
theorem insert_end (xs : List R2) (v : Value) (x : R2) (B : Nat) (w : World) (base n : Nat) (hn : n = xs.length) (hrow : w.ownsRow base 77 2 v n (runCells xs)) (hl : n ≤ 100000)
    (hB : w.heap[B]? = some (.cells #[.int .i64 x.1, .int .i64 x.2] 77 (0, 0))) (hbase : base ≤ w.heap.size) :
    Calls Try.prog 67 #[v, .int .i64 n, .slice (some ⟨B, 0, none⟩) 1 1] w (InsertPost xs v n x base w) := by
  obtain ⟨i0, hi, hz0, hz1, hz2⟩ := info_parts Try.info77
  have hpost : ∀ g cap w', w'.ownsRow base 77 2 (.slice (some ⟨g, 0, none⟩) (n + 1) cap) (n + 1) (runCells xs ++ [.int .i64 x.1, .int .i64 x.2]) → w.grownBy w' v.ownBlock → (v.ownBlock = some g ∨ g = w.heap.size) → InsertPost xs v n x base w (.returned (.slice (some ⟨g, 0, none⟩) (n + 1) cap)) w' := fun g cap w' h1 h2 h3 => by
    refine ⟨_, rfl, ?_, h2, fun k hk => by simp [Value.ownBlock] at hk; subst hk; exact h3.imp id (fun h => by omega)⟩
    rw [← hn, insR, hn, List.take_of_length_le (Nat.le_refl _), List.drop_eq_nil_of_le (Nat.le_refl _), runCells_append, ← hn]
    exact h1
  have HH : Hid (w.ownsRow base 77 2 v n (runCells xs) ∧ n = xs.length) := ⟨hrow, hn⟩
  have hnews := Lib.hid (World.news_of_block (cs := #[.int .i64 x.1, .int .i64 x.2]) hB)
  have HP := Lib.hid hpost
  obtain ⟨sa, cap, rfl⟩ : ∃ a c, v = .slice a n c := by
    rcases hrow.2 with ⟨rfl, rfl⟩ | ⟨g, cap, cur, rfl, _⟩ <;> exact ⟨_, _, rfl⟩
  have hnc : n ≤ cap := by
    rcases hrow.2 with ⟨h, rfl⟩ | ⟨g, cap', cur, h, _, _, h4, _⟩
    · exact Nat.zero_le _
    · cases h; exact h4
  clear hrow hpost hn hB
  cases sa with
  | none =>
    have hn0 : n = 0 ∧ cap = 0 := by
      rcases HH.out.1.2 with ⟨h, h0⟩ | ⟨g, cap', cur, h, _⟩
      · cases h; exact ⟨rfl, rfl⟩
      · cases h
    obtain ⟨rfl, rfl⟩ := hn0
    go_enter Try.func67, Try.ntmps67
    go_wp2_with (at_builtin; refine wpList_append_lies _ rfl _ _ 49 rfl base 77 i0 _ 2 16 Try.underlying49 hi hz0 hz1 hz2 rfl (by decide) (.slice none 0 0) 0 (runCells xs) rfl HH.out.1 ⟨B, 0, none⟩ 1 1 [.int .i64 x.1, .int .i64 x.2] rfl rfl hnews.out (by simp [Value.oneCell']) (by decide) (by decide) (by omega) hbase w.heap.size rfl ?_; intro g1 cap1 w1 hown hgrow hat hlt1)
    go_ret
    exact HP.out _ _ _ hown hgrow hat
  | some ad =>
    obtain ⟨g, rfl⟩ : ∃ g, ad = ⟨g, 0, none⟩ := by
      rcases HH.out.1.2 with ⟨h, _⟩ | ⟨g, cap', cur, h, _⟩
      · cases h
      · cases h; exact ⟨g, rfl⟩
    go_enter Try.func67, Try.ntmps67
    go_wp2_with (at_builtin; refine wpList_append_lies _ rfl _ _ 49 rfl base 77 i0 _ 2 16 Try.underlying49 hi hz0 hz1 hz2 rfl (by decide) (.slice (some ⟨g, 0, none⟩) n cap) n (runCells xs) rfl HH.out.1 ⟨B, 0, none⟩ 1 1 [.int .i64 x.1, .int .i64 x.2] rfl rfl hnews.out (by simp [Value.oneCell']) (by decide) (by unfold maxLen; omega) (by omega) hbase w.heap.size rfl ?_; intro g1 cap1 w1 hown hgrow hat hlt1)
    all_goals
      go_ret
      exact HP.out _ _ _ hown hgrow hat

theorem runCells_take : ∀ (xs : List R2) (i : Nat), (runCells xs).take (i * 2) = runCells (xs.take i)
  | [], i => by simp [runCells]
  | x :: r, 0 => by simp [runCells]
  | x :: r, i + 1 => by
    rw [show (i + 1) * 2 = i * 2 + 1 + 1 by omega]
    simp [runCells, runCells_take r i]
theorem runCells_drop : ∀ (xs : List R2) (i : Nat), (runCells xs).drop (i * 2) = runCells (xs.drop i)
  | [], i => by simp [runCells]
  | x :: r, 0 => by simp [runCells]
  | x :: r, i + 1 => by
    rw [show (i + 1) * 2 = i * 2 + 1 + 1 by omega]
    simp [runCells, runCells_drop r i]

theorem Try.size77 : ∀ i, Try.prog.info? 77 = some i → i.size = 2 := by
  obtain ⟨i0, hi, _, h, _⟩ := info_parts Try.info77
  intro i h'
  rw [hi] at h'; cases h'; exact h

theorem Try.sizeOf77 (w : World) : (Go.sizeOf 77).run Try.prog w = .ok 2 w := by
  obtain ⟨i0, hi, _, h, _⟩ := info_parts Try.info77
  simp [Go.sizeOf, typeInfo, hi, h]

theorem overlaps_no (w : World) (B g o la ca lb cb : Nat) (x : R2) (cur : Array Value) (hB : w.heap[B]? = some (.cells #[.int .i64 x.1, .int .i64 x.2] 77 (0, 0))) (hg : w.heap[g]? = some (.cells cur 77 (0, 0))) (hne : B ≠ g) (hc : cur.size ≠ 0) :
    (callFunc 83 #[.slice (some ⟨B, 0, none⟩) la ca, .slice (some ⟨g, o, none⟩) lb cb]).run Try.prog w = .ok (.value (.bool false)) w := by
  rw [run_callFunc_extern Try.func83 (by kernel_rfl) (by kernel_rfl) (by kernel_rfl) (e := Extern.SlicesOverlaps.overlaps #[49, 49] #[4]) (by kernel_rfl),
    Lib.run_overlaps_apart w 49 4 77 Try.underlying49 2 Try.sizeOf77 ⟨B, 0, none⟩ ⟨g, o, none⟩ la ca lb cb hne 77 77 2 cur.size (by simp [World.shape?, hB]) (by simp [World.shape?, hg]) hc (freeOf hB 0) (freeOf hB 2)]
  rfl

theorem addAt' (g o j : Nat) : (⟨g, o, none⟩ : Addr).add j = ⟨g, o + j, none⟩ := by
  cases j <;> simp [Addr.add]

set_option maxRecDepth 100000 in
set_option maxHeartbeats 4000000 in
/-- In the list, where there is room. -/
theorem insert_room_any (xs : List R2) (i : Nat) (x : R2) (B : Nat) (w : World) (base n g cap : Nat) (hn : n = xs.length) (hrow : w.ownsRow base 77 2 (.slice (some ⟨g, 0, none⟩) n cap) n (runCells xs)) (hin : i < n) (hl : n ≤ 100000)
    (hB : w.heap[B]? = some (.cells #[.int .i64 x.1, .int .i64 x.2] 77 (0, 0))) (hBg : B ≠ g) (hroom : n < cap) :
    Calls Try.prog 67 #[.slice (some ⟨g, 0, none⟩) n cap, .int .i64 i, .slice (some ⟨B, 0, none⟩) 1 1] w (InsertPost xs (.slice (some ⟨g, 0, none⟩) n cap) i x base w) := by
  obtain ⟨i0, hi, hz0, hz1, hz2⟩ := info_parts Try.info77
  obtain ⟨hlen, h0 | ⟨g', cap', cur, hv, hbg, hg, hnc, hcm, hcs, htk⟩⟩ := hrow
  · cases h0.1
  cases hv
  have hmix : Try.prog.follows .mixedOrders = true := by kernel_rfl
  have hine : ((i : Int) == n) = false := by simp; omega
  have hcur : ∀ j u, (runCells (xs.drop i))[j]? = some u → cur[i * 2 + j]? = some u := fun j u hj => by
    rw [← runCells_drop, List.getElem?_drop] at hj
    have := congrArg (fun l => l[i * 2 + j]?) htk
    simp only [List.getElem?_take] at this
    rw [hj] at this
    split at this
    · simpa using this
    · cases this
  have hdl : (runCells (xs.drop i)).length = (n - i) * 2 := by rw [runCells_length, List.length_drop, ← hn]
  have hcl : cur.toList.length = cap * 2 := by simpa using hcs
  have hov : ∀ o la ca lb cb, (callFunc 83 #[.slice (some ⟨B, 0, none⟩) la ca, .slice (some ⟨g, o, none⟩) lb cb]).run Try.prog w = .ok (.value (.bool false)) w := fun o la ca lb cb => overlaps_no w B g o la ca lb cb x cur hB hg hBg (by omega)
  have hcp1 := fun (ty : TypeId) (dc sc : Nat) => run_copy2 (P := Try.prog) w.drew 49 49 ty 77 2 i0 Try.underlying49 hi hz1 g ((i + 1) * 2) (n - i) dc ⟨g, i * 2, none⟩ (n + 1 - i) sc cur 77 (runCells (xs.drop i)) hg
    (by show _ = min (n + 1 - i) (n - i) * 2; rw [hdl, Nat.min_eq_right (by omega)]) (fun j v hj => by rw [addAt', show w.drew.cell? ⟨g, i * 2 + j, none⟩ = cur[i * 2 + j]? from cellOf hg _]; exact hcur j v hj) (by rw [hdl]; omega) (runCells_one _)
  obtain ⟨L1, hL1⟩ : ∃ L1, splice cur.toList ((i + 1) * 2) (runCells (xs.drop i)) = L1 := ⟨_, rfl⟩
  rw [hL1] at hcp1
  have hL1l : L1.length = cap * 2 := by rw [← hL1, length_splice _ _ _ (by rw [hdl]; omega), hcl]
  have hg1 : (w.drew.setRow g L1.toArray).heap[g]? = some (.cells L1.toArray 77 (0, 0)) := setRow_heap w.drew g cur L1.toArray 77 (0, 0) hg
  have hB1 : (w.drew.setRow g L1.toArray).heap[B]? = some (.cells #[.int .i64 x.1, .int .i64 x.2] 77 (0, 0)) := (setRow_other w.drew g B _ hBg).trans hB
  obtain ⟨W1, hW1⟩ : ∃ W1, w.drew.setRow g L1.toArray = W1 := ⟨_, rfl⟩
  rw [hW1] at hcp1 hg1 hB1
  have hcp2 := fun (ty : TypeId) (dc : Nat) => run_copy2 (P := Try.prog) W1 49 49 ty 77 2 i0 Try.underlying49 hi hz1 g (i * 2) (n + 1 - i) dc ⟨B, 0, none⟩ 1 1 L1.toArray 77 [.int .i64 x.1, .int .i64 x.2] hg1
    (by show _ = min 1 (n + 1 - i) * 2; rw [Nat.min_eq_left (by omega)]; rfl) (World.news_of_block (cs := #[.int .i64 x.1, .int .i64 x.2]) hB1) (by simp; omega) (by simp [Value.oneCell'])
  have hfin : InsertPost xs (.slice (some ⟨g, 0, none⟩) n cap) i x base w (.returned (.slice (some ⟨g, 0, none⟩) (n + 1) cap)) (W1.setRow g (splice L1 (i * 2) [.int .i64 x.1, .int .i64 x.2]).toArray) := by
    refine ⟨_, rfl, ⟨?_, .inr ⟨g, cap, _, by rw [hn], hbg, setRow_heap W1 g _ _ _ _ hg1, by omega, hcm, ?_, ?_⟩⟩, ?_⟩
    · rw [runCells_length, insR, List.length_append, List.length_take, List.length_cons, List.length_drop]; omega
    · simp; rw [length_splice _ _ _ (by simp; omega)]; exact hL1l
    · rw [← hL1, insR, runCells_append, show runCells (x :: xs.drop i) = [.int .i64 x.1, .int .i64 x.2] ++ runCells (xs.drop i) from rfl]
      have := insert_room cur.toList (runCells (xs.take i)) [Value.int .i64 x.1, Value.int .i64 x.2] (runCells (xs.drop i)) (i * 2) 2 ((n - i) * 2) (by rw [runCells_length, List.length_take]; omega) rfl hdl
        (by rw [show i * 2 + (n - i) * 2 = n * 2 by omega, htk, ← runCells_append, List.take_append_drop]) (by omega)
      rw [show i * 2 + 2 + (n - i) * 2 = (xs.length + 1) * 2 by omega, show i * 2 + 2 = (i + 1) * 2 by omega] at this
      exact this
    · refine ⟨?_, fun k hk => .inl hk⟩
      have e1 : w.grownBy W1 (some g) := by rw [← hW1]; exact ⟨rfl, rfl, rfl, by simp [World.setRow], fun k _ hk => setRow_other w.drew g k _ (fun e => hk (by rw [e]))⟩
      exact ⟨e1.os, e1.tape, e1.output, by have := e1.size; simp [World.setRow]; omega, fun k hk hne => (setRow_other W1 g k _ (fun e => hne (by rw [e]; rfl))).trans (e1.block k hk hne)⟩
  have HF := Lib.hid hfin
  have HC := Lib.hid hcp1
  have HC2 := Lib.hid hcp2
  have hcapn : (n : Int) + 1 ≤ cap := by omega
  have hw1 : IntKind.i64.wrap ((i : Int) + 1) = (i : Int) + 1 := IntWalk.i64_in _ (by omega)
  have hb1 : (0 : Int) ≤ (i : Int) + 1 := by omega
  have hin' : i ≤ n := by omega
  have htn : ((i : Int) + 1).toNat = i + 1 := by omega
  have hb2 : ¬ (cap = i + 1) := by omega
  have hb3 : (i : Int) ≤ (n : Int) + 1 := by omega
  have hb4 : ¬ (cap = i) := by omega
  clear hfin hcp1 hcp2 hcur hdl hcl hL1 hL1l hg1 hB1 hW1 hlen htk hg hB hcs hcm hn
  go_enter Try.func67, Try.ntmps67
  go_wp2_with (simp only [hov])
  go_region_held3 (fun _ => True) (first | trivial) ((refine step_copy_run rfl (.tmp 73) (.tmp 76) 49 49 rfl rfl rfl (HC.out _ _ _) ?_))
  go_wp2_with (refine wpList_copy_run rfl (.tmp 80) (.tmp 81) 49 49 rfl rfl rfl (HC2.out _ _) ?_)
  go_ret
  exact HF.out

end Go.Proofs.Ytdeebagjmhpocaa
