/- The law's draws, by numbers. -/
import Derived.Test.YtdeebagjmhpocaaZ15
namespace Go.Proofs.Ytdeebagjmhpocaa
set_option linter.unusedSimpArgs false
set_option linter.unusedVariables false
open Go.RowKit

def drw (b : Int) : Int := IntKind.u32.wrap (IntKind.u32.wrap (b.tmod 9) * 2 ^ (b.tmod 25).toNat)
theorem drw_run (b : Int) (h0 : 0 ≤ b) (w : World) : (Op.shift .shl .u32 (IntKind.u32.wrap (b.tmod 9)) .u8 (b.tmod 25)).run Try.prog w = .ok (.int .u32 (drw b)) w := by
  have h1 : 0 ≤ b.tmod 25 := Int.tmod_nonneg _ h0
  have h2 : b.tmod 25 < 25 := Int.tmod_lt_of_pos _ (by decide)
  have h3 : min (b.tmod 25).toNat IntKind.u32.bits = (b.tmod 25).toNat := by show min _ 32 = _; omega
  unfold Op.shift
  rw [if_neg (by omega)]
  simp only [h3]
  rfl

/-- A row of small numbers that came in. -/
def Row8 (w : World) (a : Option Addr) (len cap : Nat) (zs : List Int) : Prop :=
  (a = none ∧ len = 0 ∧ cap = 0 ∧ zs = []) ∨ ∃ x, a = some x ∧ len ≤ cap ∧ cap ≤ maxLen ∧ zs.length = cap ∧ (∀ i, i < zs.length → w.cell? (x.add i) = some (.int .u8 (zs.getD i 0))) ∧ (∀ z ∈ zs, 0 ≤ z ∧ z ≤ 255) ∧ (0 < cap → x.block < w.heap.size)

theorem Row8.below {w w' : World} {a : Option Addr} {len cap : Nat} {zs : List Int} (h : Row8 w a len cap zs) (hb : Below w.heap.size w w') : Row8 w' a len cap zs := by
  rcases h with h | ⟨x, h1, h2, h3, h4, h5, h6, h7⟩
  · exact .inl h
  · refine .inr ⟨x, h1, h2, h3, h4, fun i hi => ?_, h6, fun h => Nat.lt_of_lt_of_le (h7 h) hb.size⟩
    rw [← h5 i hi]
    exact World.cell?_of_block (w := w) (hb.block _ (by rw [add_block]; exact h7 (by omega)))

def drawsL (zs : List Int) (len : Nat) : List Int := (zs.take (min len 60)).map drw

def DrawsPost (zs : List Int) (len : Nat) (w : World) (e : Ending) (w' : World) : Prop :=
  ∃ v, e = .returned v ∧ w'.ownsRow w.heap.size 95 1 v (drawsL zs len).length ((drawsL zs len).map (.int .u32 ·)) ∧ Below w.heap.size w w'

set_option maxRecDepth 100000 in
set_option maxHeartbeats 4000000 in
theorem draws_any (a : Option Addr) (len cap : Nat) (zs : List Int) (w : World) (h : Row8 w a len cap zs) :
    Calls Try.prog 23 #[.slice a len cap] w (DrawsPost zs len w) := by
  obtain ⟨i0, hi, hz0, hz1, hz2⟩ := info_parts Try.info95
  rcases h with ⟨rfl, rfl, rfl, rfl⟩ | ⟨x, rfl, hlc, hcm, hzl, hcell, hfit, hblk⟩
  · go_enter Try.func23, Try.ntmps23
    go_wp2
    go_loopg [3, 4] 0 (fun m v3 v4 wr => v3 = .slice none 0 0 ∧ v4 = .int .i64 0 ∧ w = wr)
    case atStart => exact ⟨rfl, rfl, rfl⟩
    case round =>
      obtain ⟨rfl, rfl, rfl⟩ := hrel
      go_wp2
      go_ret
      exact ⟨_, rfl, World.ownsRow_nil _ _ _ _, Below.refl _ _⟩
  · have hl63 : (len : Int) ≤ 9223372036854775807 := by unfold maxLen at hcm; omega
    have HC := Lib.hid hcell
    have HFt := Lib.hid hfit
    have HZ := Lib.hid hzl
    have HB := Lib.hid hblk
    clear hcell hfit hzl hblk hcm
    go_enter Try.func23, Try.ntmps23
    go_wp2
    go_loopg [3, 4] 60 (fun m v3 v4 wr => ∃ (i : Nat) (sa : Option Addr) (sc : Nat), v3 = .slice sa i sc ∧ v4 = .int .i64 i ∧ i ≤ len ∧ i ≤ 60 ∧ 60 - i ≤ m ∧ wr.ownsRow w.heap.size 95 1 (.slice sa i sc) i (((zs.take i).map drw).map (.int .u32 ·)) ∧ Kept No w wr)
    case atStart => exact ⟨0, none, 0, rfl, rfl, Nat.zero_le _, Nat.zero_le _, Nat.le_refl _, World.ownsRow_nil _ _ _ _, Kept.refl No w⟩
    case round =>
      obtain ⟨i, sa, sc, rfl, rfl, hil, hi60, hm, hrow, hk⟩ := hrel
      by_cases hlt : i < len
      · by_cases hlt60 : i < 60
        · have hlt' : (i : Int) < len := by omega
          have hlt60' : (i : Int) < 60 := by omega
          obtain ⟨b, hb⟩ : ∃ b, zs[i]? = some b := ⟨_, List.getElem?_eq_getElem (by have := HZ.out; omega)⟩
          have hbf := HFt.out b (List.mem_of_getElem? hb)
          have hxb : (x.add i).block < w.heap.size := by rw [add_block]; exact HB.out (by omega)
          have cb : wr.cell? (x.add i) = some (.int .u8 b) := by
            have := HC.out i (by have := HZ.out; omega)
            rw [List.getD_eq_getElem?_getD, hb] at this
            rw [World.cell?_of_block (w := w) (hk.block _ hxb (fun h => h))]; exact this
          have cw : w.cell? (x.add i) = some (.int .u8 b) := by
            have := HC.out i (by have := HZ.out; omega)
            rw [List.getD_eq_getElem?_getD, hb] at this; exact this
          have hxw := hxb
          have htk : zs.take (i + 1) = zs.take i ++ [b] := by rw [List.take_add_one, hb]; rfl
          have hi0 : (0 : Int) ≤ i := by omega
          obtain ⟨b0, b1⟩ := hbf
          have H := Lib.hid (And.intro hrow (And.intro hk htk))
          have Hm := Lib.hid hm
          clear hrow hk htk hm hb hxb
          go_wp2_with fail
          have hS0 : wr.drew.cell? (x.add i) = some (.int .u8 b) := cb
          have hsh := drw_run b b0
          go_region_held3 (fun W => W.cell? (x.add i) = some (.int .u8 b)) (first | go_keep | with_reducible exact s1)
            ((refine step_append_lies _ (by rfl) _ _ _ (by rfl) w.heap.size 95 i0 _ 1 4 Try.underlying22 hi hz0 hz1 hz2 rfl (by decide) (.slice sa i sc) i (((zs.take i).map drw).map (.int .u32 ·)) (by rfl) ((H.out.1.alloc _).drew) ⟨wr.heap.size, 0, none⟩ 1 1 [.int .u32 (drw b)] (by rfl) rfl (World.news_of_block (cs := #[.int .u32 (drw b)]) (heap_alloc_new wr _)) (by simp [Value.oneCell']) (by decide) (by unfold maxLen; omega) (by omega) (by have := H.out.2.1.size; simp; omega) _ rfl ?_; intro g1 cap1 w1 hown hgrow hat hlt1; have hkg := (((H.out.2.1.alloc (.cells #[.int .u32 (drw b)] 95)).drew).grown hgrow (fun k hk' => .inr (H.out.1.lt k hk').1)); have s1 : w1.cell? (x.add i) = some (.int .u8 b) := (World.cell?_of_block (w := w) (hkg.block _ hxw (fun h => h))).trans cw))
          clear hsh
          have HN : Hid (w1.ownsRow w.heap.size 95 1 (.slice (some ⟨g1, 0, none⟩) (i + 1) cap1) (i + 1) (((zs.take (i + 1)).map drw).map (.int .u32 ·)) ∧ Kept No w w1) := by
            refine ⟨?_, hkg⟩
            rw [H.out.2.2, List.map_append, List.map_append]; exact hown
          clear hown hgrow hat hlt1 hkg s1 cb cw
          go_wp2_with fail
          go_roundg (60 - (i + 1))
          case measure => have := Hm.out; omega
          case rel => exact ⟨i + 1, some ⟨g1, 0, none⟩, cap1, rfl, by go_num, by omega, by omega, Nat.le_refl _, HN.out.1, HN.out.2⟩
        · have hlt' : (i : Int) < len := by omega
          have hlt60' : ¬ (i : Int) < 60 := by omega
          obtain rfl : i = 60 := by omega
          have hmin : min len 60 = 60 := by omega
          have HF : Hid (DrawsPost zs len w (.returned (.slice sa 60 sc)) wr) := ⟨_, rfl, by unfold drawsL; rw [hmin, List.length_map, List.length_take, Nat.min_eq_left (by have := HZ.out; omega)]; exact hrow, hk.no_below⟩
          clear hrow hk hm hmin
          go_wp2_with fail
          go_ret
          exact HF.out
      · have hlt' : ¬ (i : Int) < len := by omega
        obtain rfl : i = len := by omega
        have hmin : min i 60 = i := by omega
        have HF : Hid (DrawsPost zs i w (.returned (.slice sa i sc)) wr) := ⟨_, rfl, by unfold drawsL; rw [hmin, List.length_map, List.length_take, Nat.min_eq_left (by have := HZ.out; omega)]; exact hrow, hk.no_below⟩
        clear hrow hk hm hmin
        go_wp2_with fail
        go_ret
        exact HF.out

end Go.Proofs.Ytdeebagjmhpocaa
