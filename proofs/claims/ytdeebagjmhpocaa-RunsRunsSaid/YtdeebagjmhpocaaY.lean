/- The reference's shape. -/
import Derived.Test.YtdeebagjmhpocaaX
namespace Go.Proofs.Ytdeebagjmhpocaa
set_option linter.unusedSimpArgs false
set_option linter.unusedVariables false
open Go.RowKit

/-- Of the first items the first of the greatest draw. -/
def bestUp (l : List It) : Nat → Nat
  | 0 => 0
  | i + 1 => if (l[i]?.map (·.draw)).getD 0 > (l[bestUp l i]?.map (·.draw)).getD 0 then i else bestUp l i
theorem bestUp_lt (l : List It) : ∀ i, 1 ≤ i → bestUp l i < i
  | 0, h => by omega
  | 1, _ => by simp [bestUp]
  | i + 2, _ => by
    have := bestUp_lt l (i + 1) (by omega)
    rw [bestUp]; split <;> omega

def shapeF : Nat → List It → Int → List R2
  | 0, _, _ => []
  | f + 1, l, d => match l[bestUp l l.length]? with
    | none => []
    | some x => (x.key, d) :: (shapeF f (l.take (bestUp l l.length)) (d + 1) ++ shapeF f (l.drop (bestUp l l.length + 1)) (d + 1))

def ItAt (w : World) (v : Value) (l : List It) : Prop :=
  (v = .slice none 0 0 ∧ l = []) ∨ ∃ g o c, v = .slice (some ⟨g, o, none⟩) l.length c ∧ l.length ≤ c ∧ g < w.heap.size ∧ ∀ j u, (itCells l)[j]? = some u → w.cell? ⟨g, o + j, none⟩ = some u

theorem ItAt.below {w w' : World} {v : Value} {l : List It} (h : ItAt w v l) (hb : Below w.heap.size w w') : ItAt w' v l := by
  rcases h with h | ⟨g, o, c, h1, h2, h3, h4⟩
  · exact .inl h
  · exact .inr ⟨g, o, c, h1, h2, Nat.lt_of_lt_of_le h3 hb.size, fun j u hu => (hb.cell (p := ⟨g, o + j, none⟩) h3).trans (h4 j u hu)⟩

def ShapeFPost (f : Nat) (l : List It) (d : Int) (w : World) (e : Ending) (w' : World) : Prop :=
  ∃ v n, e = .returned v ∧ w'.ownsRow w.heap.size 93 2 v n (runCells (shapeF f l d)) ∧ n = (shapeF f l d).length ∧ Below w.heap.size w w'

theorem app93 (ty : TypeId) (w W W2 : World) (v0 u : Value) (n m : Nat) (xs ys : List R2) (hk : Below w.heap.size w W) (h0 : W.ownsRow w.heap.size 93 2 v0 n (runCells xs)) (hs : W.ownsRow W2.heap.size 93 2 u m (runCells ys)) (hn : n + m ≤ 3000000) :
    ∃ v1 W', (Builtin.append_ #[54, 54] ty #[v0, u]).run Try.prog W = .ok v1 W' ∧ W'.ownsRow w.heap.size 93 2 v1 (n + m) (runCells (xs ++ ys)) ∧ Below w.heap.size w W' := by
  obtain ⟨i0, hi, hz0, hz1, hz2⟩ := info_parts Try.info93
  obtain ⟨v1, W', h2, h3, h4, h6⟩ := run_append_src (P := Try.prog) W w.heap.size 54 ty 93 i0 _ 2 16 Try.underlying54 hi hz0 hz1 hz2 rfl (by decide) v0 n _ h0 u m _ (SrcOf.of_own hs) (runCells_one _) (by unfold maxLen; omega) (by omega) hk.size
  refine ⟨v1, W', h2, by rw [runCells_append]; exact h3, hk.grown h4 hk.size (fun k hk' => (h0.lt k hk').1)⟩

theorem shapeF_len : ∀ (f : Nat) (l : List It) (d : Int), (shapeF f l d).length ≤ l.length
  | 0, l, d => by simp [shapeF]
  | f + 1, l, d => by
    rw [shapeF]
    split
    · simp
    · rename_i x hx
      have hlt : bestUp l l.length < l.length := (List.getElem?_eq_some_iff.1 hx).1
      have h1 := shapeF_len f (l.take (bestUp l l.length)) (d + 1)
      have h2 := shapeF_len f (l.drop (bestUp l l.length + 1)) (d + 1)
      simp only [List.length_cons, List.length_append]
      rw [List.length_take] at h1
      rw [List.length_drop] at h2
      omega

set_option maxRecDepth 100000 in
set_option maxHeartbeats 4000000 in
theorem shapeF_any : ∀ (f : Nat) (l : List It) (d : Int) (v : Value) (w : World), l.length ≤ f → ItAt w v l → 0 ≤ d → d + f ≤ 1000000 →
    Calls Try.prog 64 #[v, .int .i64 d] w (ShapeFPost f l d w) := by
  intro f
  induction f with
  | zero =>
    intro l d v w hl hv hd0 hd1
    obtain rfl : l = [] := List.eq_nil_of_length_eq_zero (by omega)
    obtain ⟨a, c, rfl⟩ : ∃ a c, v = .slice a 0 c := by
      rcases hv with ⟨rfl, _⟩ | ⟨g, o, c, rfl, _⟩ <;> exact ⟨_, _, rfl⟩
    clear hv hl
    go_enter Try.func64, Try.ntmps64
    go_wp2
    go_ret
    exact ⟨_, _, rfl, World.ownsRow_nil _ _ _ _, rfl, Below.refl _ _⟩
  | succ f ih =>
    intro l d v w hl hv hd0 hd1
    have IH := Lib.hid ih
    clear ih
    by_cases hnil : l = []
    · subst hnil
      obtain ⟨a, c, rfl⟩ : ∃ a c, v = .slice a 0 c := by
        rcases hv with ⟨rfl, _⟩ | ⟨g, o, c, rfl, _⟩ <;> exact ⟨_, _, rfl⟩
      clear hv hl
      go_enter Try.func64, Try.ntmps64
      go_wp2
      go_ret
      exact ⟨_, _, rfl, World.ownsRow_nil _ _ _ _, rfl, Below.refl _ _⟩
    · obtain ⟨n, hn⟩ : ∃ n, n = l.length := ⟨_, rfl⟩
      have hn1 : 1 ≤ n := by rw [hn]; exact List.length_pos_iff.2 hnil
      obtain ⟨g, o, c, rfl, hlc, hg, hcells⟩ := hv.resolve_left (fun h => hnil h.2)
      have HC : Hid (∀ i x, l[i]? = some x → w.cell? ⟨g, o + i * 3, none⟩ = some (.int .i64 x.key) ∧ w.cell? ⟨g, o + i * 3 + 1, none⟩ = some (.int .u32 x.draw)) := fun i x hx => by
        obtain ⟨h1, h2, _⟩ := itCells_get l i x hx
        exact ⟨hcells _ _ h1, by rw [Nat.add_assoc]; exact hcells _ _ h2⟩
      have HCC := Lib.hid hcells
      have HN := Lib.hid hn
      rw [← hn] at hlc hl ⊢
      have hn0 : ((n : Int) == 0) = false := by simp; omega
      have hn0' : ¬ n = 0 := by omega
      clear hv hcells hn hnil
      go_enter Try.func64, Try.ntmps64
      go_wp2
      go_loopg [5, 6] n (fun m v5 v6 wr => ∃ (i : Nat), v5 = .int .i64 (bestUp l i : Nat) ∧ v6 = .int .i64 i ∧ 1 ≤ i ∧ i ≤ n ∧ n - i ≤ m ∧ Kept No w wr)
      case atStart => exact ⟨1, by simp [bestUp], rfl, Nat.le_refl _, hn1, by omega, Kept.refl No w⟩
      case round =>
        obtain ⟨i, rfl, rfl, hi1, hin, hm, hk⟩ := hrel
        have hbl := bestUp_lt l i hi1
        obtain ⟨k, hkk⟩ : ∃ k, bestUp l i = k := ⟨_, rfl⟩
        rw [hkk] at hbl ⊢
        obtain ⟨y, hy⟩ : ∃ y, l[k]? = some y := ⟨_, List.getElem?_eq_getElem (by have := HN.out; omega)⟩
        have ky := HC.out k y hy
        have b0 := (hk.cell hg (fun h => h)).trans ky.1
        have b1 := (hk.cell hg (fun h => h)).trans ky.2
        have hkn : (k : Int) < n := by omega
        by_cases hlt : i < n
        · have hlt' : (i : Int) < n := by omega
          obtain ⟨x, hx⟩ : ∃ x, l[i]? = some x := ⟨_, List.getElem?_eq_getElem (by have := HN.out; omega)⟩
          have kx := HC.out i x hx
          have a1 := (hk.cell hg (fun h => h)).trans kx.2
          have hnext : Hid (bestUp l (i + 1) = if x.draw > y.draw then i else k) := by unfold Hid; rw [bestUp, hkk, hx, hy]; rfl
          have Hk := Lib.hid hk
          have Hm := Lib.hid hm
          clear hk hm hx hy kx ky hkk
          by_cases hgt : x.draw > y.draw
          · have hst : Hid (bestUp l (i + 1) = i) := by unfold Hid; rw [hnext.out, if_pos hgt]
            have hgt' : decide (y.draw < x.draw) = true := by simpa using hgt
            go_wp2_with fail
            go_quiet (fail)
            go_wp2_with fail
            go_roundg (n - (i + 1))
            case measure => have := Hm.out; omega
            case rel => exact ⟨i + 1, by rw [hst.out], by go_num, by omega, by omega, Nat.le_refl _, Hk.out.drewN _⟩
          · have hst : Hid (bestUp l (i + 1) = k) := by unfold Hid; rw [hnext.out, if_neg hgt]
            have hgt' : decide (y.draw < x.draw) = false := by simpa using hgt
            go_wp2_with fail
            go_quiet (fail)
            go_wp2_with fail
            go_roundg (n - (i + 1))
            case measure => have := Hm.out; omega
            case rel => exact ⟨i + 1, by rw [hst.out], by go_num, by omega, by omega, Nat.le_refl _, Hk.out.drewN _⟩
        · have hlt' : ¬ (i : Int) < n := by omega
          obtain rfl : i = n := by omega
          have hB := hk.no_below
          have Hk := Lib.hid hk
          have HkK : Hid (bestUp l l.length = k) := by unfold Hid; rw [← HN.out]; exact hkk
          have Hy := Lib.hid hy
          clear hk hm hy ky hkk b1
          have hil : i = l.length := HN.out
          have HCC2 : Hid (∀ W, Below w.heap.size w W → ∀ j u, (itCells l)[j]? = some u → W.cell? ⟨g, o + j, none⟩ = some u) := fun W hW j u hu => (hW.cell (p := ⟨g, o + j, none⟩) hg).trans (HCC.out j u hu)
          have HS1 : Hid (∀ W, Below w.heap.size w W → ItAt W (.slice (some ⟨g, o, none⟩) k c) (l.take k)) := fun W hW => by
            have hlen : (l.take k).length = k := by rw [List.length_take]; omega
            refine .inr ⟨g, o, c, by rw [hlen], by omega, Nat.lt_of_lt_of_le hg hW.size, fun j u hu => ?_⟩
            rw [← itCells_take, List.getElem?_take] at hu
            split at hu
            · exact HCC2.out W hW j u hu
            · cases hu
          have HS2 : Hid (∀ W, Below w.heap.size w W → ∀ a, (c = k + 1 → a = ⟨g, o, none⟩) → (c ≠ k + 1 → a = ⟨g, o + (k + 1) * 3, none⟩) → ItAt W (.slice (some a) (i - (k + 1)) (c - (k + 1))) (l.drop (k + 1))) := fun W hW a ha1 ha2 => by
            have hlen : (l.drop (k + 1)).length = i - (k + 1) := by rw [List.length_drop]; omega
            by_cases hc : c = k + 1
            · rw [ha1 hc]
              refine .inr ⟨g, o, c - (k + 1), by rw [hlen], by omega, Nat.lt_of_lt_of_le hg hW.size, fun j u hu => ?_⟩
              rw [List.drop_eq_nil_of_le (by omega)] at hu
              simp [itCells] at hu
            · rw [ha2 hc]
              refine .inr ⟨g, o + (k + 1) * 3, c - (k + 1), by rw [hlen], by omega, Nat.lt_of_lt_of_le hg hW.size, fun j u hu => ?_⟩
              rw [← itCells_drop, List.getElem?_drop] at hu
              rw [Nat.add_assoc]; exact HCC2.out W hW _ u hu
          have HL1 : Hid ((shapeF f (l.take k) (d + 1)).length ≤ k ∧ (shapeF f (l.drop (k + 1)) (d + 1)).length ≤ i) := by
            have h1 := shapeF_len f (l.take k) (d + 1)
            have h2 := shapeF_len f (l.drop (k + 1)) (d + 1)
            rw [List.length_take] at h1
            rw [List.length_drop] at h2
            exact ⟨by omega, by omega⟩
          have Hfin : Hid (shapeF (f + 1) l d = (y.key, d) :: (shapeF f (l.take k) (d + 1) ++ shapeF f (l.drop (k + 1)) (d + 1))) := by
            unfold Hid; rw [shapeF, HkK.out, Hy.out]
          have HT : Hid ((l.take k).length ≤ f ∧ (l.drop (k + 1)).length ≤ f) := ⟨by rw [List.length_take]; omega, by rw [List.length_drop]; omega⟩
          have hf1 : d + 1 + (f : Int) ≤ 1000000 := by omega
          have hd3 : 0 ≤ d + 1 := by omega
          clear hil
          go_wp2_with fail
          have hBa : Below w.heap.size w (wr.alloc (Obj.cells #[Value.int IntKind.i64 y.key, Value.int IntKind.i64 d] 93)) := hB.alloc hB.size _
          have hO : (wr.alloc (Obj.cells #[Value.int IntKind.i64 y.key, Value.int IntKind.i64 d] 93)).ownsRow w.heap.size 93 2 (.slice (some ⟨wr.heap.size, 0, none⟩) 1 1) 1 (runCells [(y.key, d)]) := World.ownsRow_lit wr #[.int .i64 y.key, .int .i64 d] 1 hB.size (by decide) rfl
          generalize (wr.alloc (Obj.cells #[Value.int IntKind.i64 y.key, Value.int IntKind.i64 d] 93)) = Wa at hBa hO ⊢
          refine (IH.out (l.take k) (d + 1) _ Wa HT.out.1 (HS1.out Wa hBa) hd3 hf1).mono ?_
          rintro e w2 ⟨v2, n2, rfl, ho2, hn2, hb2⟩
          have hB2 : Below w.heap.size w w2 := hBa.trans (hb2.mono hBa.size)
          obtain ⟨v3, w3, hr3, ho3, hB3⟩ := app93 54 w w2 Wa _ v2 1 n2 [(y.key, d)] _ hB2 (ownsRow_kept hO (Kept.of_below_size hb2) (fun _ _ h => h)) ho2 (by rw [hn2]; have := HL1.out.1; omega)
          have Ho3 := Lib.hid ho3
          have Hn2 := Lib.hid hn2
          clear ho2 hO ho3 hn2 hb2
          obtain ⟨a3, l3, c3, rfl⟩ : ∃ a n c, v3 = .slice a n c := by
            rcases Ho3.out.2 with ⟨rfl, _⟩ | ⟨g, cap, cur, rfl, _⟩ <;> exact ⟨_, _, _, rfl⟩
          go_wp2_with (at_builtin; refine wpList_append_run' rfl (.tmp 37) (.tmp 43) 54 54 rfl rfl rfl hr3 ?_)
          all_goals
            refine (IH.out (l.drop (k + 1)) (d + 1) _ w3 HT.out.2 (by first | exact HS2.out w3 hB3 _ (fun h => absurd h (by assumption)) (fun _ => rfl) | (have hce : c = k + 1 := (by first | assumption | omega); have := HS2.out w3 hB3 ⟨g, o, none⟩ (fun _ => rfl) (fun h => absurd hce h); simpa [hce] using this)) hd3 hf1).mono ?_
            rintro e w4 ⟨v4, n4, rfl, ho4, hn4, hb4⟩
            obtain ⟨v5, w5, hr5, ho5, hB5⟩ := app93 54 w w4 w3 (.slice a3 l3 c3) v4 (1 + n2) n4 _ _ (hB3.trans (hb4.mono hB3.size)) (ownsRow_kept Ho3.out (Kept.of_below_size hb4) (fun _ _ h => h)) ho4 (by rw [hn4, Hn2.out]; have := HL1.out; omega)
            have HF : Hid (ShapeFPost (f + 1) l d w (.returned v5) w5) := ⟨v5, _, rfl, by rw [Hfin.out]; exact ho5, by rw [Hfin.out, hn4, Hn2.out]; simp only [List.length_cons, List.length_append]; omega, hB5⟩
            clear ho4 ho5 hn4
            go_wp2_with (at_builtin; refine wpList_append_run' rfl (.tmp 45) (.tmp 52) 54 54 rfl rfl rfl hr5 ?_)
            go_ret
            exact HF.out

set_option maxRecDepth 100000 in
set_option maxHeartbeats 1000000 in
theorem refShape_any (s : FSt) (w : World) (h : RefIs w s) : Calls Try.prog 21 #[.pointer (some ⟨s.q, 0, none⟩)] w (RowPost 0 (shapeF s.its.length s.its 0).length (runCells (shapeF s.its.length s.its 0)) w) := by
  obtain ⟨q, fg, tv, dv, free, its, ds, n⟩ := s
  have hc : w.cell? ⟨q, 1, none⟩ = some tv := cellOf h.obj 1
  have hi := h.items
  have hfew := h.few
  dsimp only at *
  have hv : ItAt w tv its := by
    rcases hi.2 with ⟨rfl, h0⟩ | ⟨g, cap, cur, rfl, _, h2, h3, _⟩
    · exact .inl ⟨rfl, List.eq_nil_of_length_eq_zero h0⟩
    · exact .inr ⟨g, 0, cap, rfl, h3, lt_of_block h2, fun j u hu => by have := hi.cells (g := g) rfl j u hu; rw [addAt] at this; rw [Nat.zero_add]; exact this⟩
  have F := Lib.hid (shapeF_any its.length its 0 tv w (Nat.le_refl _) hv (by omega) (by omega))
  have F44 : Hid (Calls Try.prog 44 #[.pointer (some ⟨q, 1, none⟩)] w (ShapeFPost its.length its 0 w)) := by
    clear h hi hfew hv
    unfold Hid
    go_enter Try.func44, Try.ntmps44
    go_wp2_with fail
    refine F.out.mono ?_
    rintro e w1 ⟨v, m, rfl, h1, h2, h3⟩
    have HF : Hid (ShapeFPost its.length its 0 w (.returned v) w1) := ⟨v, m, rfl, h1, h2, h3⟩
    clear h1 h2 h3
    go_wp2
    go_ret
    exact HF.out
  clear h hi hfew hv F hc
  go_enter Try.func21, Try.ntmps21
  go_wp2_with fail
  refine F44.out.mono ?_
  rintro e w1 ⟨v, m, rfl, h1, h2, h3⟩
  have HF : Hid (RowPost 0 (shapeF its.length its 0).length (runCells (shapeF its.length its 0)) w (.returned v) w1) := ⟨v, rfl, by rw [← h2]; exact RowOf.of_own h1, h3⟩
  clear h1 h2 h3
  go_wp2
  go_ret
  exact HF.out

end Go.Proofs.Ytdeebagjmhpocaa
