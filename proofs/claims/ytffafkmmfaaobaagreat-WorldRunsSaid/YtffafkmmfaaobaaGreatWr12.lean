/- A step of the law's pair, on the reference's side. -/
import Derived.Test.YtffafkmmfaaobaaGreatWr11
import Derived.Test.YtffafkmmfaaobaaGreatWr2
namespace Go.Proofs.YtffafkmmfaaobaaGreat
set_option linter.unusedSimpArgs false
set_option linter.unusedVariables false
open Go.RowKit

/-- Where a machine of points stands, told so much. -/
def qF {α : Type} (step : α → Int → α) (s0 : α) (ys : List Int) (k : Nat) : α := (ys.take k).foldl step s0
theorem qF_step {α : Type} (step : α → Int → α) (s0 : α) (ys : List Int) (k : Nat) (h : k < ys.length) : qF step s0 ys (k + 1) = step (qF step s0 ys k) (ys.getD k 0) := by
  unfold qF
  rw [List.take_succ_eq_append_getElem h, List.foldl_append, List.getD_eq_getElem?_getD, List.getElem?_eq_getElem h]
  rfl
theorem RC.ys_len (R : RC) : R.ys.length = R.n + 1 := by unfold RC.ys RC.n; simp
theorem qF_n {α : Type} (step : α → Int → α) (s0 : α) (R : RC) : qF step s0 R.ys R.n = R.xs.foldl step s0 := by
  unfold qF RC.ys RC.n; rw [List.take_left]
theorem qF_end {α : Type} (step : α → Int → α) (s0 : α) (R : RC) : qF step s0 R.ys (R.n + 1) = step (R.xs.foldl step s0) R.u := by
  rw [qF_step _ _ _ _ (by rw [R.ys_len]; omega), qF_n, RC.ys_n]

theorem fold_enter (xs : List Int) : ∀ pt, xs.foldl WP.step (.enter pt) = .enter (xs.foldl EP.step pt) := by
  induction xs with
  | nil => intro _; rfl
  | cons x xs ih => intro pt; exact ih _
theorem fold_stop (xs : List Int) : ∀ pt, xs.foldl WP.step (.stop pt) = .stop (xs.foldl SP.step pt) := by
  induction xs with
  | nil => intro _; rfl
  | cons x xs ih => intro pt; exact ih _
theorem fold_exit (xs : List Int) : xs.foldl WP.step (.exit true) = .exit true := by
  induction xs with
  | nil => rfl
  | cons x xs ih => exact ih
theorem fold_go (xs : List Int) : xs.foldl WP.step (.go true) = .go true := by
  induction xs with
  | nil => rfl
  | cons x xs ih => exact ih
theorem EP.isDone_iff {pt : EP} : pt.isDone = true ↔ pt = .done := by cases pt <;> simp [EP.isDone]
theorem SP.isDone_iff {pt : SP} : pt.isDone = true ↔ pt = .done := by cases pt <;> simp [SP.isDone]

section
variable {w : World} {p t th : Int} {r b s g B : Nat} {v : MV} {ws xs : List Int} {qv : Value} {k' a o n ct : Int}

theorem refstep_any {k : Int} (hk : k = 13 ∨ k = 14 ∨ k = 15 ∨ k = 16) (hth : 0 ≤ th ∧ th < 100) (x : Nx) (hM : RefM w r (wmc k p t th) B v xs) (hd : v.done = false) (hx : (xs.foldl WP.step (wp0 k)).nx th = some x)
    (hb : MemAt w b p t s qv) (hs : StoreIs 110 w s g ws k' a o n ct) (hB : B ≤ w.heap.size) (hg : v.log.ownBlock ≠ some g) (hxs : xs.length < 1000000) (hlen : 5 ≤ ws.length) (hc : 0 ≤ ct ∧ ct < 1000000) :
    Calls Tryz.prog 15 #[.pointer (some ⟨r, 0, none⟩), .pointer (some ⟨b, 0, none⟩)] w
      (RStep w r s g (wmc k p t th) v B ws xs x ct ((xs.foldl WP.step (wp0 k)).step (ws.getD x.at 0)).done (fun gn o => gn = (xs.foldl WP.step (wp0 k)).gens (ws.getD x.at 0) 0 ∧ o = -1)) := by
  rcases hk with rfl | rfl | rfl | rfl
  · have hpt : xs.foldl WP.step (wp0 13) = .enter (xs.foldl EP.step .begin) := fold_enter xs .begin
    rw [hpt] at hx ⊢
    have hi : x.at < ws.length := by
      simp only [WP.nx] at hx
      cases hp : xs.foldl EP.step .begin <;> rw [hp] at hx <;> simp [EP.nx] at hx <;> subst hx <;> simp only [Nx.at] <;> omega
    refine step_ref x hM hd hb hs rfl rfl hB hg hxs hi hc _ _ (fun w1 ok hF hR => ?_)
    refine (body_enter (qF EP.step .begin (stepRC r b s g (wmc 13 p t th) v p t qv B ws xs x ct).ys) hR ok hF rfl ⟨fun k _ hk => qF_step _ _ _ _ (by rw [RC.ys_len]; omega), ?_⟩ rfl (((xs.foldl EP.step .begin).step (ws.getD x.at 0)).isDone) ?_).mono ?_
    · rw [qF_n]
      show ∃ K, (xs.foldl EP.step .begin).nx = some (x, K)
      simp only [WP.nx] at hx
      cases e : (xs.foldl EP.step .begin).nx with
      | none => rw [e] at hx; cases hx
      | some y => rw [e] at hx; obtain ⟨y1, y2⟩ := y; simp at hx; subst hx; exact ⟨y2, rfl⟩
    · rw [qF_end]; exact EP.isDone_iff
    · rintro e w2 ⟨rfl, v2, hE, hg', ho⟩
      refine ⟨rfl, v2, hE, ?_, ho⟩
      rw [hg']
      show _ = (xs.foldl EP.step .begin).gens (ws.getD x.at 0) 0
      show (if ((xs.foldl EP.step .begin).step (ws.getD x.at 0)).isDone = true then wrap64 (ws.getD x.at 0) else 0) = _
      generalize ws.getD x.at 0 = u
      simp only [WP.nx] at hx
      cases hp : xs.foldl EP.step .begin <;> rw [hp] at hx <;> simp [EP.nx] at hx <;> simp [EP.step, EP.isDone, EP.gens]
      · split <;> simp
      · split <;> simp
  · have hxs0 : xs = [] := by
      cases xs with
      | nil => rfl
      | cons y ys => simp [wp0, WP.step, fold_exit, WP.nx] at hx
    subst hxs0
    simp [wp0, WP.nx] at hx
    subst hx
    refine step_ref _ hM hd hb hs rfl rfl hB hg hxs (by simp only [Nx.at]; omega) hc _ _ (fun w1 ok hF hR => ?_)
    exact body_exit hR ok hF rfl rfl rfl
  · have hpt : xs.foldl WP.step (wp0 15) = .stop (xs.foldl SP.step .begin) := fold_stop xs .begin
    rw [hpt] at hx ⊢
    have hi : x.at < ws.length := by
      simp only [WP.nx] at hx
      cases hp : xs.foldl SP.step .begin <;> rw [hp] at hx <;> simp [SP.nx] at hx <;> subst hx <;> simp only [Nx.at] <;> omega
    refine step_ref x hM hd hb hs rfl rfl hB hg hxs hi hc _ _ (fun w1 ok hF hR => ?_)
    refine (body_stop (qF SP.step .begin (stepRC r b s g (wmc 15 p t th) v p t qv B ws xs x ct).ys) hR ok hF rfl hth ⟨fun k _ hk => qF_step _ _ _ _ (by rw [RC.ys_len]; omega), ?_⟩ rfl (((xs.foldl SP.step .begin).step (ws.getD x.at 0)).isDone) ?_).mono ?_
    · rw [qF_n]; exact hx
    · rw [qF_end]; exact SP.isDone_iff
    · rintro e w2 ⟨rfl, v2, hE, hg', ho⟩
      refine ⟨rfl, v2, hE, ?_, ho⟩
      rw [hg']
      show _ = (xs.foldl SP.step .begin).gens (ws.getD x.at 0) 0
      show (if ((xs.foldl SP.step .begin).step (ws.getD x.at 0)).isDone = true then wrap64 (ws.getD x.at 0) else 0) = _
      generalize ws.getD x.at 0 = u
      simp only [WP.nx] at hx
      cases hp : xs.foldl SP.step .begin <;> rw [hp] at hx <;> simp [SP.nx] at hx <;> simp [SP.step, SP.isDone, SP.gens]
      · split <;> simp
      · split <;> simp
  · have hxs0 : xs = [] := by
      cases xs with
      | nil => rfl
      | cons y ys => simp [wp0, WP.step, fold_go, WP.nx] at hx
    subst hxs0
    simp [wp0, WP.nx] at hx
    subst hx
    refine step_ref _ hM hd hb hs rfl rfl hB hg hxs (by simp only [Nx.at]; omega) hc _ _ (fun w1 ok hF hR => ?_)
    exact body_go hR ok hF rfl rfl rfl
end
end Go.Proofs.YtffafkmmfaaobaaGreat

namespace Go.Proofs.YtffafkmmfaaobaaGreat
set_option linter.unusedSimpArgs false
set_option linter.unusedVariables false
open Go.RowKit

def insR (xs : List R2) (i : Nat) (x : R2) : List R2 := xs.take i ++ x :: xs.drop i

def InsertPost (xs : List R2) (v : Value) (i : Nat) (x : R2) (base : Nat) (w : World) (e : Ending) (w' : World) : Prop :=
  ∃ v', e = .returned v' ∧ w'.ownsRow base 189 2 v' (xs.length + 1) (runCells (insR xs i x)) ∧ w.grownBy w' v.ownBlock ∧ (∀ k, v'.ownBlock = some k → v.ownBlock = some k ∨ w.heap.size ≤ k)

set_option maxRecDepth 100000 in
set_option maxHeartbeats 2000000 in
/-- At the end of the list. -/
theorem insert_end (xs : List R2) (v : Value) (x : R2) (B : Nat) (w : World) (base n : Nat) (hn : n = xs.length) (hrow : w.ownsRow base 189 2 v n (runCells xs)) (hl : n ≤ 100000)
    (hB : w.heap[B]? = some (.cells #[.int .i64 x.1, .int .i64 x.2] 189 (0, 0))) (hbase : base ≤ w.heap.size) :
    Calls Tryz.prog 219 #[v, .int .i64 n, .slice (some ⟨B, 0, none⟩) 1 1] w (InsertPost xs v n x base w) := by
  obtain ⟨i0, hi, hz0, hz1, hz2⟩ := info_parts Tryz.info189
  have hpost : ∀ g cap w', w'.ownsRow base 189 2 (.slice (some ⟨g, 0, none⟩) (n + 1) cap) (n + 1) (runCells xs ++ [.int .i64 x.1, .int .i64 x.2]) → w.grownBy w' v.ownBlock → (v.ownBlock = some g ∨ g = w.heap.size) → InsertPost xs v n x base w (.returned (.slice (some ⟨g, 0, none⟩) (n + 1) cap)) w' := fun g cap w' h1 h2 h3 => by
    refine ⟨_, rfl, ?_, h2, fun k hk => by simp [Value.ownBlock] at hk; subst hk; exact h3.imp id (fun h => by omega)⟩
    rw [← hn, insR, hn, List.take_of_length_le (Nat.le_refl _), List.drop_eq_nil_of_le (Nat.le_refl _), runCells_append, ← hn]
    exact h1
  have HH : Hid (w.ownsRow base 189 2 v n (runCells xs) ∧ n = xs.length) := ⟨hrow, hn⟩
  have hnews := Lib.hid (World.news_of_block (cs := #[.int .i64 x.1, .int .i64 x.2]) hB)
  have HP := Lib.hid hpost
  obtain ⟨sa, cap, rfl⟩ : ∃ a c, v = .slice a n c := by
    rcases hrow.2 with ⟨rfl, rfl⟩ | ⟨g, cap, cur, rfl, _⟩ <;> exact ⟨_, _, rfl⟩
  have hnc : n ≤ cap := by
    rcases hrow.2 with ⟨h, rfl⟩ | ⟨g, cap', cur, h, _, _, h4, _⟩
    · exact Nat.zero_le _
    · cases h; exact h4
  clear hrow hpost hn hB
  cases sa with
  | none =>
    have hn0 : n = 0 ∧ cap = 0 := by
      rcases HH.out.1.2 with ⟨h, h0⟩ | ⟨g, cap', cur, h, _⟩
      · cases h; exact ⟨rfl, rfl⟩
      · cases h
    obtain ⟨rfl, rfl⟩ := hn0
    go_enter Tryz.func219, Tryz.ntmps219
    go_wp2_with (at_builtin; refine wpList_append_lies _ rfl _ _ 119 rfl base 189 i0 _ 2 16 Tryz.underlying119 hi hz0 hz1 hz2 rfl (by decide) (.slice none 0 0) 0 (runCells xs) rfl HH.out.1 ⟨B, 0, none⟩ 1 1 [.int .i64 x.1, .int .i64 x.2] rfl rfl hnews.out (by simp [Value.oneCell']) (by decide) (by decide) (by omega) hbase w.heap.size rfl ?_; intro g1 cap1 w1 hown hgrow hat hlt1)
    go_ret
    exact HP.out _ _ _ hown hgrow hat
  | some ad =>
    obtain ⟨g, rfl⟩ : ∃ g, ad = ⟨g, 0, none⟩ := by
      rcases HH.out.1.2 with ⟨h, _⟩ | ⟨g, cap', cur, h, _⟩
      · cases h
      · cases h; exact ⟨g, rfl⟩
    go_enter Tryz.func219, Tryz.ntmps219
    go_wp2_with (at_builtin; refine wpList_append_lies _ rfl _ _ 119 rfl base 189 i0 _ 2 16 Tryz.underlying119 hi hz0 hz1 hz2 rfl (by decide) (.slice (some ⟨g, 0, none⟩) n cap) n (runCells xs) rfl HH.out.1 ⟨B, 0, none⟩ 1 1 [.int .i64 x.1, .int .i64 x.2] rfl rfl hnews.out (by simp [Value.oneCell']) (by decide) (by unfold maxLen; omega) (by omega) hbase w.heap.size rfl ?_; intro g1 cap1 w1 hown hgrow hat hlt1)
    all_goals
      go_ret
      exact HP.out _ _ _ hown hgrow hat

theorem runCells_take : ∀ (xs : List R2) (i : Nat), (runCells xs).take (i * 2) = runCells (xs.take i)
  | [], i => by simp [runCells]
  | x :: r, 0 => by simp [runCells]
  | x :: r, i + 1 => by
    rw [show (i + 1) * 2 = i * 2 + 1 + 1 by omega]
    simp [runCells, runCells_take r i]
theorem runCells_drop : ∀ (xs : List R2) (i : Nat), (runCells xs).drop (i * 2) = runCells (xs.drop i)
  | [], i => by simp [runCells]
  | x :: r, 0 => by simp [runCells]
  | x :: r, i + 1 => by
    rw [show (i + 1) * 2 = i * 2 + 1 + 1 by omega]
    simp [runCells, runCells_drop r i]

theorem Tryz.size189 : ∀ i, Tryz.prog.info? 189 = some i → i.size = 2 := by
  obtain ⟨i0, hi, _, h, _⟩ := info_parts Tryz.info189
  intro i h'
  rw [hi] at h'; cases h'; exact h

theorem Tryz.sizeOf189 (w : World) : (Go.sizeOf 189).run Tryz.prog w = .ok 2 w := by
  obtain ⟨i0, hi, _, h, _⟩ := info_parts Tryz.info189
  simp [Go.sizeOf, typeInfo, hi, h]

theorem overlaps_no (w : World) (B g o la ca lb cb : Nat) (x : R2) (cur : Array Value) (hB : w.heap[B]? = some (.cells #[.int .i64 x.1, .int .i64 x.2] 189 (0, 0))) (hg : w.heap[g]? = some (.cells cur 189 (0, 0))) (hne : B ≠ g) (hc : cur.size ≠ 0) :
    (callFunc 256 #[.slice (some ⟨B, 0, none⟩) la ca, .slice (some ⟨g, o, none⟩) lb cb]).run Tryz.prog w = .ok (.value (.bool false)) w := by
  rw [run_callFunc_extern Tryz.func256 (by kernel_rfl) (by kernel_rfl) (by kernel_rfl) (e := Extern.SlicesOverlaps.overlaps #[119, 119] #[4]) (by kernel_rfl),
    Lib.run_overlaps_apart w 119 4 189 Tryz.underlying119 2 Tryz.sizeOf189 ⟨B, 0, none⟩ ⟨g, o, none⟩ la ca lb cb hne 189 189 2 cur.size (by simp [World.shape?, hB]) (by simp [World.shape?, hg]) hc (freeOf hB 0) (freeOf hB 2)]
  rfl

theorem addAt' (g o j : Nat) : (⟨g, o, none⟩ : Addr).add j = ⟨g, o + j, none⟩ := by
  cases j <;> simp [Addr.add]

set_option maxRecDepth 100000 in
set_option maxHeartbeats 4000000 in
/-- In the list, where there is room. -/
theorem insert_room_any (xs : List R2) (i : Nat) (x : R2) (B : Nat) (w : World) (base n g cap : Nat) (hn : n = xs.length) (hrow : w.ownsRow base 189 2 (.slice (some ⟨g, 0, none⟩) n cap) n (runCells xs)) (hin : i < n) (hl : n ≤ 100000)
    (hB : w.heap[B]? = some (.cells #[.int .i64 x.1, .int .i64 x.2] 189 (0, 0))) (hBg : B ≠ g) (hroom : n < cap) :
    Calls Tryz.prog 219 #[.slice (some ⟨g, 0, none⟩) n cap, .int .i64 i, .slice (some ⟨B, 0, none⟩) 1 1] w (InsertPost xs (.slice (some ⟨g, 0, none⟩) n cap) i x base w) := by
  obtain ⟨i0, hi, hz0, hz1, hz2⟩ := info_parts Tryz.info189
  obtain ⟨hlen, h0 | ⟨g', cap', cur, hv, hbg, hg, hnc, hcm, hcs, htk⟩⟩ := hrow
  · cases h0.1
  cases hv
  have hmix : Tryz.prog.follows .mixedOrders = true := by kernel_rfl
  have hine : ((i : Int) == n) = false := by simp; omega
  have hcur : ∀ j u, (runCells (xs.drop i))[j]? = some u → cur[i * 2 + j]? = some u := fun j u hj => by
    rw [← runCells_drop, List.getElem?_drop] at hj
    have := congrArg (fun l => l[i * 2 + j]?) htk
    simp only [List.getElem?_take] at this
    rw [hj] at this
    split at this
    · simpa using this
    · cases this
  have hdl : (runCells (xs.drop i)).length = (n - i) * 2 := by rw [runCells_length, List.length_drop, ← hn]
  have hcl : cur.toList.length = cap * 2 := by simpa using hcs
  have hov : ∀ o la ca lb cb, (callFunc 256 #[.slice (some ⟨B, 0, none⟩) la ca, .slice (some ⟨g, o, none⟩) lb cb]).run Tryz.prog w = .ok (.value (.bool false)) w := fun o la ca lb cb => overlaps_no w B g o la ca lb cb x cur hB hg hBg (by omega)
  have hcp1 := fun (ty : TypeId) (dc sc : Nat) => run_copy2 (P := Tryz.prog) w.drew 119 119 ty 189 2 i0 Tryz.underlying119 hi hz1 g ((i + 1) * 2) (n - i) dc ⟨g, i * 2, none⟩ (n + 1 - i) sc cur 189 (runCells (xs.drop i)) hg
    (by show _ = min (n + 1 - i) (n - i) * 2; rw [hdl, Nat.min_eq_right (by omega)]) (fun j v hj => by rw [addAt', show w.drew.cell? ⟨g, i * 2 + j, none⟩ = cur[i * 2 + j]? from cellOf hg _]; exact hcur j v hj) (by rw [hdl]; omega) (runCells_one _)
  obtain ⟨L1, hL1⟩ : ∃ L1, splice cur.toList ((i + 1) * 2) (runCells (xs.drop i)) = L1 := ⟨_, rfl⟩
  rw [hL1] at hcp1
  have hL1l : L1.length = cap * 2 := by rw [← hL1, length_splice _ _ _ (by rw [hdl]; omega), hcl]
  have hg1 : (w.drew.setRow g L1.toArray).heap[g]? = some (.cells L1.toArray 189 (0, 0)) := setRow_heap w.drew g cur L1.toArray 189 (0, 0) hg
  have hB1 : (w.drew.setRow g L1.toArray).heap[B]? = some (.cells #[.int .i64 x.1, .int .i64 x.2] 189 (0, 0)) := (setRow_other w.drew g B _ hBg).trans hB
  obtain ⟨W1, hW1⟩ : ∃ W1, w.drew.setRow g L1.toArray = W1 := ⟨_, rfl⟩
  rw [hW1] at hcp1 hg1 hB1
  have hcp2 := fun (ty : TypeId) (dc : Nat) => run_copy2 (P := Tryz.prog) W1 119 119 ty 189 2 i0 Tryz.underlying119 hi hz1 g (i * 2) (n + 1 - i) dc ⟨B, 0, none⟩ 1 1 L1.toArray 189 [.int .i64 x.1, .int .i64 x.2] hg1
    (by show _ = min 1 (n + 1 - i) * 2; rw [Nat.min_eq_left (by omega)]; rfl) (World.news_of_block (cs := #[.int .i64 x.1, .int .i64 x.2]) hB1) (by simp; omega) (by simp [Value.oneCell'])
  have hfin : InsertPost xs (.slice (some ⟨g, 0, none⟩) n cap) i x base w (.returned (.slice (some ⟨g, 0, none⟩) (n + 1) cap)) (W1.setRow g (splice L1 (i * 2) [.int .i64 x.1, .int .i64 x.2]).toArray) := by
    refine ⟨_, rfl, ⟨?_, .inr ⟨g, cap, _, by rw [hn], hbg, setRow_heap W1 g _ _ _ _ hg1, by omega, hcm, ?_, ?_⟩⟩, ?_⟩
    · rw [runCells_length, insR, List.length_append, List.length_take, List.length_cons, List.length_drop]; omega
    · simp; rw [length_splice _ _ _ (by simp; omega)]; exact hL1l
    · rw [← hL1, insR, runCells_append, show runCells (x :: xs.drop i) = [.int .i64 x.1, .int .i64 x.2] ++ runCells (xs.drop i) from rfl]
      have := insert_room cur.toList (runCells (xs.take i)) [Value.int .i64 x.1, Value.int .i64 x.2] (runCells (xs.drop i)) (i * 2) 2 ((n - i) * 2) (by rw [runCells_length, List.length_take]; omega) rfl hdl
        (by rw [show i * 2 + (n - i) * 2 = n * 2 by omega, htk, ← runCells_append, List.take_append_drop]) (by omega)
      rw [show i * 2 + 2 + (n - i) * 2 = (xs.length + 1) * 2 by omega, show i * 2 + 2 = (i + 1) * 2 by omega] at this
      exact this
    · refine ⟨?_, fun k hk => .inl hk⟩
      have e1 : w.grownBy W1 (some g) := by rw [← hW1]; exact ⟨rfl, rfl, rfl, by simp [World.setRow], fun k _ hk => setRow_other w.drew g k _ (fun e => hk (by rw [e]))⟩
      exact ⟨e1.os, e1.tape, e1.output, by have := e1.size; simp [World.setRow]; omega, fun k hk hne => (setRow_other W1 g k _ (fun e => hne (by rw [e]; rfl))).trans (e1.block k hk hne)⟩
  have HF := Lib.hid hfin
  have HC := Lib.hid hcp1
  have HC2 := Lib.hid hcp2
  have hcapn : (n : Int) + 1 ≤ cap := by omega
  have hw1 : IntKind.i64.wrap ((i : Int) + 1) = (i : Int) + 1 := IntWalk.i64_in _ (by omega)
  have hb1 : (0 : Int) ≤ (i : Int) + 1 := by omega
  have hin' : i ≤ n := by omega
  have htn : ((i : Int) + 1).toNat = i + 1 := by omega
  have hb2 : ¬ (cap = i + 1) := by omega
  have hb3 : (i : Int) ≤ (n : Int) + 1 := by omega
  have hb4 : ¬ (cap = i) := by omega
  clear hfin hcp1 hcp2 hcur hdl hcl hL1 hL1l hg1 hB1 hW1 hlen htk hg hB hcs hcm hn
  go_enter Tryz.func219, Tryz.ntmps219
  go_wp2_with (simp only [hov])
  go_region_held3 (fun _ => True) (first | trivial) ((refine step_copy_run rfl (.tmp 73) (.tmp 76) 119 119 rfl rfl rfl (HC.out _ _ _) ?_))
  go_wp2_with (refine wpList_copy_run rfl (.tmp 80) (.tmp 81) 119 119 rfl rfl rfl (HC2.out _ _) ?_)
  go_ret
  exact HF.out

end Go.Proofs.YtffafkmmfaaobaaGreat

namespace Go.Proofs.YtffafkmmfaaobaaGreat
set_option linter.unusedSimpArgs false
set_option linter.unusedVariables false
open Go.RowKit

theorem zeroCells_size (z : Array Value) (n : Nat) : (Builtin.zeroCells z n).size = n * z.size := by simp [Builtin.zeroCells]

set_option maxRecDepth 100000 in
set_option maxHeartbeats 4000000 in
theorem insert_grow_any (xs : List R2) (i : Nat) (x : R2) (B : Nat) (w : World) (base n g cap : Nat) (hn : n = xs.length) (hrow : w.ownsRow base 189 2 (.slice (some ⟨g, 0, none⟩) n cap) n (runCells xs)) (hin : i < n) (hl : n ≤ 100000)
    (hB : w.heap[B]? = some (.cells #[.int .i64 x.1, .int .i64 x.2] 189 (0, 0))) (hbase : base ≤ w.heap.size) (hroom : cap = n) :
    Calls Tryz.prog 219 #[.slice (some ⟨g, 0, none⟩) n cap, .int .i64 i, .slice (some ⟨B, 0, none⟩) 1 1] w (InsertPost xs (.slice (some ⟨g, 0, none⟩) n cap) i x base w) := by
  subst hroom
  obtain ⟨i0, hi, hz0, hz1, hz2⟩ := info_parts Tryz.info189
  obtain ⟨hlen, h0 | ⟨g', cap', cur, hv, hbg, hg, hnc, hcm, hcs, htk⟩⟩ := hrow
  · cases h0.1
  cases hv
  have hmix : Tryz.prog.follows .mixedOrders = true := by kernel_rfl
  have hine : ((i : Int) == cap) = false := by simp; omega
  have hglt := lt_of_block hg
  have hBlt := lt_of_block hB
  have hall : ∀ j u, (runCells xs)[j]? = some u → w.cell? ⟨g, j, none⟩ = some u := fun j u hj => by
    rw [cellOf hg]
    have := congrArg (fun l => l[j]?) htk
    simp only [List.getElem?_take] at this
    rw [hj] at this
    split at this
    · simpa using this
    · cases this
  have hdl : (runCells (xs.drop i)).length = (cap - i) * 2 := by rw [runCells_length, List.length_drop, ← hn]
  have htl : (runCells (xs.take i)).length = i * 2 := by rw [runCells_length, List.length_take, ← hn, Nat.min_eq_left (by omega)]
  have hz := fun ty => run_append_zeros (P := Tryz.prog) w 119 3 ty 189 i0 _ Tryz.underlying119 Tryz.underlying3 hi hz0 ⟨g, 0, none⟩ i cap (runCells (xs.take i)) (by rw [hz1, htl])
    (fun j u hj => by rw [addAt]; exact hall j u (by rw [← runCells_take, List.getElem?_take] at hj; split at hj <;> first | exact hj | cases hj)) (cap + 1 - i) (by rw [hz1]; omega) (by rw [hz2]; omega) (by omega) (by omega) (by omega)
    (by rw [hz2]; exact growslice_fits (by omega) (by omega))
  rw [show i + (cap + 1 - i) = cap + 1 by omega] at hz
  have hNC := grownCap_ge w (cap + 1) cap 189
  have hNC2 := grownCap_le_maxLen w (cap + 1) cap 189 (by unfold maxLen; omega)
  generalize grownCap w (cap + 1) cap 189 = NC at hz hNC hNC2
  obtain ⟨Z, hZ⟩ : ∃ Z, (runCells (xs.take i)).toArray ++ Builtin.zeroCells (Value.agg #[.int .i64 0, .int .i64 0]).cells (cap + 1 - i) ++ Builtin.zeroCells (Value.agg #[.int .i64 0, .int .i64 0]).cells (NC - (cap + 1)) = Z := ⟨_, rfl⟩
  rw [hZ] at hz
  have hZl : Z.toList.length = NC * 2 := by
    rw [← hZ]
    simp only [Array.length_toList, Array.size_append, zeroCells_size, List.size_toArray, htl]
    show i * 2 + (cap + 1 - i) * 2 + (NC - (cap + 1)) * 2 = NC * 2
    omega
  have hZt : Z.toList.take (i * 2) = runCells (xs.take i) := by
    rw [← hZ]
    simp only [Array.toList_append, List.append_assoc]
    rw [List.take_append_of_le_length (by simp [htl]), List.take_of_length_le (by simp [htl])]
  have hG0 : (w.drew.alloc (.cells Z 189)).heap[w.heap.size]? = some (.cells Z 189 (0, 0)) := heap_alloc_new w.drew _
  have hB0 : (w.drew.alloc (.cells Z 189)).heap[B]? = some (.cells #[.int .i64 x.1, .int .i64 x.2] 189 (0, 0)) := block_alloc (w := w.drew) hB _
  have hg0 : (w.drew.alloc (.cells Z 189)).heap[g]? = some (.cells cur 189 (0, 0)) := block_alloc (w := w.drew) hg _
  have hgr0 : w.grownBy (w.drew.alloc (.cells Z 189)) (some g) := ⟨rfl, rfl, rfl, by simp, fun k hk _ => Below.heap_alloc w.drew _ k hk⟩
  generalize hW0 : w.drew.alloc (.cells Z 189) = W0 at hz hG0 hB0 hg0 hgr0
  have hcp1 := fun (ty : TypeId) (dc : Nat) => run_copy2 (P := Tryz.prog) W0 119 119 ty 189 2 i0 Tryz.underlying119 hi hz1 w.heap.size (i * 2) (cap + 1 - i) dc ⟨B, 0, none⟩ 1 1 Z 189 [.int .i64 x.1, .int .i64 x.2] hG0
    (by show _ = min 1 (cap + 1 - i) * 2; rw [Nat.min_eq_left (by omega)]; rfl) (World.news_of_block (cs := #[.int .i64 x.1, .int .i64 x.2]) hB0) (by simp at hZl ⊢; omega) (by simp [Value.oneCell'])
  obtain ⟨L1, hL1⟩ : ∃ L1, splice Z.toList (i * 2) [Value.int .i64 x.1, Value.int .i64 x.2] = L1 := ⟨_, rfl⟩
  rw [hL1] at hcp1
  have hL1l : L1.length = NC * 2 := by rw [← hL1, length_splice _ _ _ (by simp at hZl ⊢; omega), hZl]
  have hG1 : (W0.setRow w.heap.size L1.toArray).heap[w.heap.size]? = some (.cells L1.toArray 189 (0, 0)) := setRow_heap W0 w.heap.size Z L1.toArray 189 (0, 0) hG0
  have hg1 : (W0.setRow w.heap.size L1.toArray).heap[g]? = some (.cells cur 189 (0, 0)) := (setRow_other W0 w.heap.size g _ (by omega)).trans hg0
  have hgr1 : w.grownBy (W0.setRow w.heap.size L1.toArray) (some g) := ⟨hgr0.os, hgr0.tape, hgr0.output, by have := hgr0.size; simp [World.setRow]; omega, fun k hk hne => (setRow_other W0 w.heap.size k _ (by omega)).trans (hgr0.block k hk hne)⟩
  generalize hW1 : W0.setRow w.heap.size L1.toArray = W1 at hcp1 hG1 hg1 hgr1
  have hcp2 := fun (ty : TypeId) (dc sc : Nat) => run_copy2 (P := Tryz.prog) W1.drew 119 119 ty 189 2 i0 Tryz.underlying119 hi hz1 w.heap.size ((i + 1) * 2) (cap - i) dc ⟨g, i * 2, none⟩ (cap - i) sc L1.toArray 189 (runCells (xs.drop i)) hG1
    (by show _ = min (cap - i) (cap - i) * 2; rw [hdl, Nat.min_self]) (fun j v hj => by
      rw [addAt', show W1.drew.cell? ⟨g, i * 2 + j, none⟩ = cur[i * 2 + j]? from cellOf hg1 _, ← cellOf hg (i * 2 + j)]
      exact hall _ _ (by rw [← runCells_drop, List.getElem?_drop] at hj; exact hj)) (by rw [hdl]; simp; omega) (runCells_one _)
  have hfin : InsertPost xs (.slice (some ⟨g, 0, none⟩) cap cap) i x base w (.returned (.slice (some ⟨w.heap.size, 0, none⟩) (cap + 1) NC)) (W1.drew.setRow w.heap.size (splice L1 ((i + 1) * 2) (runCells (xs.drop i))).toArray) := by
    refine ⟨_, rfl, ⟨?_, .inr ⟨w.heap.size, NC, _, by rw [hn], hbase, setRow_heap W1.drew w.heap.size _ _ _ _ hG1, by omega, hNC2, ?_, ?_⟩⟩, ?_⟩
    · rw [runCells_length, insR, List.length_append, List.length_take, List.length_cons, List.length_drop]; omega
    · simp; rw [length_splice _ _ _ (by rw [hdl]; omega)]; exact hL1l
    · rw [← hL1, insR, runCells_append, show runCells (x :: xs.drop i) = [.int .i64 x.1, .int .i64 x.2] ++ runCells (xs.drop i) from rfl]
      have := insert_grow Z.toList (runCells (xs.take i)) [Value.int .i64 x.1, Value.int .i64 x.2] (runCells (xs.drop i)) (i * 2) 2 ((cap - i) * 2) htl rfl hdl hZt (by omega)
      rw [show i * 2 + 2 + (cap - i) * 2 = (xs.length + 1) * 2 by omega, show i * 2 + 2 = (i + 1) * 2 by omega] at this
      exact this
    · refine ⟨?_, fun k hk => .inr (by simp [Value.ownBlock] at hk; omega)⟩
      exact ⟨hgr1.os, hgr1.tape, hgr1.output, by have := hgr1.size; simp [World.setRow]; omega, fun k hk hne => (setRow_other W1.drew w.heap.size k _ (by omega)).trans (hgr1.block k hk hne)⟩
  have HF := Lib.hid hfin
  have HZ := Lib.hid hz
  have HC := Lib.hid hcp1
  have HC2 := Lib.hid hcp2
  have hw1 : IntKind.i64.wrap ((i : Int) + 1) = (i : Int) + 1 := IntWalk.i64_in _ (by omega)
  have hb1 : (0 : Int) ≤ (i : Int) + 1 := by omega
  have hin' : i ≤ cap := by omega
  have htn : ((i : Int) + 1).toNat = i + 1 := by omega
  have hb2 : ¬ (NC = i + 1) := by omega
  have hb3 : (i : Int) ≤ (cap : Int) + 1 := by omega
  have hb4 : ¬ (cap = i) := by omega
  have hb5 : ¬ (NC = i) := by omega
  have hk : Hid (Value.int .i64 ((cap : Int) + 1 - i) = .int .i64 ((cap + 1 - i : Nat) : Int)) := by unfold Hid; congr 1; omega
  clear hfin hz hcp1 hcp2 hall hdl htl hn hZ hZl hZt hG0 hB0 hg0 hgr0 hW0 hL1 hL1l hG1 hg1 hgr1 hW1 hlen htk hg hB hcs hcm
  go_enter Tryz.func219, Tryz.ntmps219
  go_wp2_with (first
    | (refine wpList_append_run' rfl (.tmp 34) (.tmp 39) 119 3 rfl rfl hk.out (HZ.out _) ?_)
    | (refine wpList_copy_run rfl (.tmp 43) (.tmp 44) 119 119 rfl rfl rfl (HC.out _ _) ?_))
  go_region_held3 (fun _ => True) (first | trivial) ((refine step_copy_run rfl (.tmp 50) (.tmp 53) 119 119 rfl rfl rfl (HC2.out _ _ _) ?_))
  go_wp2
  go_ret
  exact HF.out

/-- slices.Insert of one run, at every place. -/
theorem insert_any (xs : List R2) (v : Value) (i : Nat) (x : R2) (B : Nat) (w : World) (base : Nat) (hrow : w.ownsRow base 189 2 v xs.length (runCells xs)) (hi : i ≤ xs.length) (hl : xs.length ≤ 100000)
    (hB : w.heap[B]? = some (.cells #[.int .i64 x.1, .int .i64 x.2] 189 (0, 0))) (hBv : v.ownBlock ≠ some B) (hbase : base ≤ w.heap.size) :
    Calls Tryz.prog 219 #[v, .int .i64 i, .slice (some ⟨B, 0, none⟩) 1 1] w (InsertPost xs v i x base w) := by
  rcases Nat.lt_or_ge i xs.length with h | h
  · rcases hrow.2 with ⟨_, h0⟩ | ⟨g, cap, cur, rfl, _, _, hnc, _⟩
    · omega
    · have hBg : B ≠ g := fun e => hBv (by rw [e]; rfl)
      rcases Nat.lt_or_ge xs.length cap with h2 | h2
      · exact insert_room_any xs i x B w base xs.length g cap rfl hrow h hl hB hBg h2
      · obtain rfl : cap = xs.length := by omega
        exact insert_grow_any xs i x B w base xs.length g xs.length rfl hrow h hl hB hbase rfl
  · obtain rfl : i = xs.length := by omega
    exact insert_end xs v x B w base xs.length rfl hrow hl hB hbase

end Go.Proofs.YtffafkmmfaaobaaGreat
