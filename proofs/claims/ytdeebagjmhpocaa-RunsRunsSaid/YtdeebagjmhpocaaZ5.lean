/- The reference: Find, the tree's Drop. -/
import Derived.Test.YtdeebagjmhpocaaZ4
namespace Go.Proofs.Ytdeebagjmhpocaa
set_option linter.unusedSimpArgs false
set_option linter.unusedVariables false
open Go.RowKit

set_option maxRecDepth 100000 in
set_option maxHeartbeats 2000000 in
theorem refFind_any (s : FSt) (k : Int) (w : World) (h : RefIs w s) :
    Calls Try.prog 31 #[.pointer (some ⟨s.q, 0, none⟩), .int .i64 k] w fun e w' => e = .returned (.tuple #[.int .i64 (runV (bestR k (runsUp s.free s.free.length))).1, .bool (bestR k (runsUp s.free s.free.length)).isSome]) ∧ Below w.heap.size w w' := by
  have F := refBest_any s k w h
  clear h
  generalize bestR k (runsUp s.free s.free.length) = o at F ⊢
  have F := Lib.hid F
  obtain ⟨q, fg, tv, dv, free, its, ds, n⟩ := s
  dsimp only at *
  go_enter Try.func31, Try.ntmps31
  go_wp2_with fail
  refine F.out.mono ?_
  rintro e w1 ⟨rfl, hb1⟩
  rw [bestV_lit]
  go_wp2_with fail
  go_ret2
  exact ⟨rfl, hb1.alloc hb1.size _⟩

def delAt (xs : List It) (i : Nat) : List It := xs.take i ++ xs.drop (i + 1)

def DropTPost (q : Nat) (xs : List It) (i : Nat) (y : It) (w : World) (e : Ending) (w' : World) : Prop :=
  e = .returned (.tuple #[.int .i64 y.v, .bool true]) ∧ ∃ W v', w' = W.setCell ⟨q, 1, none⟩ v' ∧ Kept No w W ∧ W.ownsRow w.heap.size 126 3 v' (xs.length - 1) (itCells (delAt xs i))

theorem midD_16 {w W : World} {base : Nat} {v v1 : Value} {xs : List It} {i : Nat} (ty : TypeId) (h : w.ownsRow base 126 3 v xs.length (itCells xs)) (hi : i < xs.length) (hl : xs.length ≤ 100000) (hk : Kept No w W) (h0 : W.ownsRow w.heap.size 126 3 v1 i (itCells (xs.take i))) :
    ∃ a n c W', (Builtin.append_ #[87, 87] ty #[v1, tailV v (i + 1)]).run Try.prog W = .ok (.slice a n c) W' ∧ Kept No w W' ∧ W'.ownsRow w.heap.size 126 3 (.slice a n c) (xs.length - 1) (itCells (delAt xs i)) := by
  obtain ⟨i0, hi0, hz0, hz1, hz2⟩ := info_parts Try.info126
  obtain ⟨v3, W', h2, h3, h4, h6⟩ := run_append_src (P := Try.prog) W w.heap.size 87 ty 126 i0 _ 3 24 Try.underlying87 hi0 hz0 hz1 hz2 rfl (by decide) v1 i _ h0 (tailV v (i + 1)) (xs.length - (i + 1)) _ (tailV_src h hi hk) (itCells_one _) (by unfold maxLen; omega) (by omega) hk.size
  rw [show i + (xs.length - (i + 1)) = xs.length - 1 by omega, ← itCells_append] at h3
  obtain ⟨a, n, c, rfl⟩ : ∃ a n c, v3 = .slice a n c := by
    rcases h3.2 with ⟨rfl, _⟩ | ⟨g, cap, cur, rfl, _⟩ <;> exact ⟨_, _, _, rfl⟩
  exact ⟨a, n, c, W', h2, own_new (v' := .slice a n c) h0 (Nat.le_refl _) hk h4, h3⟩

set_option maxRecDepth 100000 in
set_option maxHeartbeats 4000000 in
theorem tdrop_any (xs : List It) (v : Value) (q : Nat) (k : Int) (y : It) (i : Nat) (w : World) (base : Nat) (cs : Array Value) (ty : TypeId) (hobj : w.heap[q]? = some (.cells cs ty (0, 0))) (hcs : cs[1]? = some v) (hrow : w.ownsRow base 126 3 v xs.length (itCells xs)) (hl : xs.length ≤ 100000) (hp : PartsI xs k i)
    (hy : xs[i]? = some y) (hyk : y.key = k) :
    Calls Try.prog 52 #[.pointer (some ⟨q, 1, none⟩), .int .i64 k] w (DropTPost q xs i y w) := by
  have hc : w.cell? ⟨q, 1, none⟩ = some v := (cellOf hobj 1).trans hcs
  have hf : w.frozen? ⟨q, 1, none⟩ = false := freeOf hobj 1
  have hq := lt_of_block hobj
  have FH := Lib.hid (thas_any xs v q k i w base true hc hrow hl hp (by rw [hy]; simp [hyk]))
  have FP := Lib.hid (tplace_any xs v q k i w base hc hrow hl hp)
  have hi : i < xs.length := (List.getElem?_eq_some_iff.1 hy).1
  obtain ⟨g, cap, rfl, hncap⟩ : ∃ g cap, v = .slice (some ⟨g, 0, none⟩) xs.length cap ∧ xs.length ≤ cap := by
    rcases hrow.2 with ⟨rfl, h0⟩ | ⟨g, cap, cur, rfl, _, _, h, _⟩
    · omega
    · exact ⟨g, cap, rfl, h⟩
  have d2 := (ownsRow_it hrow hy).2.2
  have HROW := Lib.hid hrow
  obtain ⟨yk, yd, yv⟩ := y
  dsimp only at *
  obtain ⟨n, hn⟩ : ∃ n, n = xs.length := ⟨_, rfl⟩
  rw [← hn] at hl hi hncap hc
  have HN := Lib.hid hn
  have hiI : (i : Int) < n := by omega
  have hic : i ≤ cap := by omega
  have hicI : (i : Int) + 1 ≤ cap := by omega
  have hnI : (n : Int) ≤ 100000 := by omega
  have hix : Hid (i ≤ xs.length ∧ i < xs.length ∧ xs.length ≤ 100000) := by rw [← hn]; exact ⟨by omega, hi, hl⟩
  clear hobj hcs hrow hp hy hyk hn
  go_enter Try.func52, Try.ntmps52
  go_wp2_with fail
  refine FH.out.mono ?_
  rintro e w1 ⟨rfl, rfl⟩
  go_wp2_with fail
  refine FP.out.mono ?_
  rintro e w1 ⟨rfl, rfl⟩
  go_wp2_with fail
  refine wp_drawnTo 19 (fun W => Kept No w W) (by kernel_rfl) ?_
  have hS : (fun W : World => Kept No w W) w.drew := (Kept.refl No w).drew
  refine DrawnTo.take (i := 0) (v := .pointer (some ⟨q, 1, none⟩)) rfl (by kernel_rfl) (by kernel_rfl) (by kernel_rfl) (by kernel_rfl) (fun _ _ _ h => h) hS (Or.inl ⟨by rfl, fun W' hS => ?_⟩) ?_
  · go_simp
  refine DrawnTo.take (i := 2) (v := .pointer (some ⟨q, 1, none⟩)) rfl (by kernel_rfl) (by kernel_rfl) (by kernel_rfl) (by kernel_rfl) (fun _ _ _ h => h) hS (Or.inl ⟨by rfl, fun W' hS => ?_⟩) ?_
  · go_simp
  refine DrawnTo.take (i := 3) (v := .pointer (some ⟨q, 1, none⟩)) rfl (by kernel_rfl) (by kernel_rfl) (by kernel_rfl) (by kernel_rfl) (fun _ _ _ h => h) hS (Or.inl ⟨by rfl, fun W' hS => ?_⟩) ?_
  · go_simp
  refine DrawnTo.take (i := 4) (v := .pointer (some ⟨q, 1, none⟩)) rfl (by kernel_rfl) (by kernel_rfl) (by kernel_rfl) (by kernel_rfl) (fun _ _ _ h => h) hS (Or.inl ⟨by rfl, fun W' hS => ?_⟩) ?_
  · go_simp
  refine DrawnTo.take (i := 5) (v := .slice (some ⟨g, 0, none⟩) n cap) rfl (by kernel_rfl) (by kernel_rfl) (by kernel_rfl) (by kernel_rfl) (fun _ _ _ h => h) hS (Or.inl ⟨by rfl, fun W' hS => ?_⟩) ?_
  · have hcW := (Kept.cell hS hq (fun h => h)).trans hc; go_simp
  refine DrawnTo.take (i := 6) (v := .int .i64 i) rfl (by kernel_rfl) (by kernel_rfl) (by kernel_rfl) (by kernel_rfl) (fun _ _ _ h => h) hS (Or.inl ⟨by rfl, fun W' hS => ?_⟩) ?_
  · go_simp
  refine DrawnTo.take (i := 7) (v := headV (.slice (some ⟨g, 0, none⟩) n cap) i) rfl (by kernel_rfl) (by kernel_rfl) (by kernel_rfl) (by kernel_rfl) (fun _ _ _ h => h) hS (Or.inl ⟨by rfl, fun W' hS => ?_⟩) ?_
  · go_simp; simp [headV]
  refine DrawnTo.take (i := 9) (v := .pointer (some ⟨q, 1, none⟩)) rfl (by kernel_rfl) (by kernel_rfl) (by kernel_rfl) (by kernel_rfl) (fun _ _ _ h => h) hS (Or.inl ⟨by rfl, fun W' hS => ?_⟩) ?_
  · go_simp
  refine DrawnTo.take (i := 10) (v := .pointer (some ⟨q, 1, none⟩)) rfl (by kernel_rfl) (by kernel_rfl) (by kernel_rfl) (by kernel_rfl) (fun _ _ _ h => h) hS (Or.inl ⟨by rfl, fun W' hS => ?_⟩) ?_
  · go_simp
  refine DrawnTo.take (i := 11) (v := .pointer (some ⟨q, 1, none⟩)) rfl (by kernel_rfl) (by kernel_rfl) (by kernel_rfl) (by kernel_rfl) (fun _ _ _ h => h) hS (Or.inl ⟨by rfl, fun W' hS => ?_⟩) ?_
  · go_simp
  refine DrawnTo.take (i := 12) (v := .slice (some ⟨g, 0, none⟩) n cap) rfl (by kernel_rfl) (by kernel_rfl) (by kernel_rfl) (by kernel_rfl) (fun _ _ _ h => h) hS (Or.inl ⟨by rfl, fun W' hS => ?_⟩) ?_
  · have hcW := (Kept.cell hS hq (fun h => h)).trans hc; go_simp
  refine DrawnTo.take (i := 13) (v := .int .i64 i) rfl (by kernel_rfl) (by kernel_rfl) (by kernel_rfl) (by kernel_rfl) (fun _ _ _ h => h) hS (Or.inl ⟨by rfl, fun W' hS => ?_⟩) ?_
  · go_simp
  refine DrawnTo.take (i := 14) (v := .int .i64 ((i : Int) + 1)) rfl (by kernel_rfl) (by kernel_rfl) (by kernel_rfl) (by kernel_rfl) (fun _ _ _ h => h) hS (Or.inl ⟨by rfl, fun W' hS => ?_⟩) ?_
  · go_simp; exact IntWalk.i64_in _ (by omega)
  refine DrawnTo.take (i := 15) (v := tailV (.slice (some ⟨g, 0, none⟩) n cap) (i + 1)) rfl (by kernel_rfl) (by kernel_rfl) (by kernel_rfl) (by kernel_rfl) (fun _ _ _ h => h) hS (Or.inl ⟨by rfl, fun W' hS => ?_⟩) ?_
  · go_simp; by_cases hci : cap = i + 1 <;> simp [tailV, addAt, hci] <;> (intro h; omega)
  refine DrawnTo.one (i := 1) (by kernel_rfl) rfl (by rfl) (fun K hK => ?_)
  unfold Oper.wp
  go_simp
  have hkE : Kept No w (w.alloc (.cells #[] 126)).drew := Kept.alloc hS (.cells #[] 126)
  have hE : (w.alloc (.cells #[] 126)).drew.ownsRow w.heap.size 126 3 (.slice (some ⟨w.heap.size, 0, none⟩) 0 0) 0 [] := World.ownsRow_made w.drew #[] 0 (Kept.size hS) (by decide) (by simp)
  refine hK.out _ _ (fun _ => hkE) (fun hS => ?_)
  have hS := hS (by decide)
  obtain ⟨v1, W1, hr1, hk1, ho1, hg1, hat1⟩ := midT_8 (v0 := .slice (some ⟨_, 0, none⟩) 0 0) 87 HROW.out hix.out.1 hix.out.2.2 hS hE
  rw [← HN.out] at hr1
  refine DrawnTo.one (i := 8) (by kernel_rfl) rfl (by rfl) (fun K hK => ?_)
  refine wp_append_run' (.tmp 24) (.tmp 30) 87 87 rfl rfl rfl hr1 ?_
  refine hK.out _ _ (fun _ => hk1) (fun hS => ?_)
  have hS := hS (by decide)
  obtain ⟨a3, n3, c3', W3, hr3, hk3, ho3⟩ := midD_16 87 HROW.out hix.out.2.1 hix.out.2.2 hk1 ho1
  rw [← HN.out] at hr3
  have Ho3 := Lib.hid ho3
  clear ho3
  have c3 := (hk3.cell hq (fun h => h)).trans hc
  have f3 : W3.frozen? ⟨q, 1, none⟩ = false := (World.frozen?_of_block (w := w) (hk3.block q hq (fun h => h))).trans hf
  refine DrawnTo.one (i := 16) (by kernel_rfl) rfl (by rfl) (fun K hK => ?_)
  refine wp_append_run' (.tmp 31) (.tmp 38) 87 87 rfl rfl rfl hr3 ?_
  refine hK.out _ _ (fun _ => hk3) (fun hS => ?_)
  have hS := hS (by decide)
  refine DrawnTo.one (i := 17) (by kernel_rfl) rfl (by rfl) (fun K hK => ?_)
  unfold Oper.wp
  go_simp
  refine hK.out _ _ (fun _ => hk3) (fun hS => ?_)
  have hS := hS (by decide)
  refine DrawnTo.one (i := 18) (by kernel_rfl) rfl (by rfl) (fun K hK => ?_)
  unfold Oper.wp
  go_simp
  refine hK.out _ _ (fun _ => hk3) (fun hS => ?_)
  have hS := hS (by decide)
  refine DrawnTo.one (i := 19) (by kernel_rfl) rfl (by rfl) (fun K hK => ?_)
  unfold Oper.wp
  go_simp
  refine hK.out _ _ (fun h => absurd rfl h) (fun _ => ?_)
  refine DrawnTo.done (by kernel_rfl) ?_ _
  have HF : Hid (DropTPost q xs i ⟨yk, yd, yv⟩ w (.returned (.tuple #[.int .i64 yv, .bool true])) (W3.setCell ⟨q, 1, none⟩ (.slice a3 n3 c3'))) := ⟨rfl, W3, _, rfl, hk3, Ho3.out⟩
  go_wp2_with fail
  go_ret2
  exact HF.out

end Go.Proofs.Ytdeebagjmhpocaa
