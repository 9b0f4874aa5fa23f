/- WorldRuns: the walk. -/
import Derived.Test.YtffafkmmfaaobaaGreatWr22
import Derived.Deep.RegionWith
import Derived.Deep.CutRange
namespace Go.Proofs.YtffafkmmfaaobaaGreat
set_option linter.unusedSimpArgs false
set_option linter.unusedVariables false
open Go.RowKit

theorem Tryz.info35 : (Tryz.prog.info? 35).map (fun i => (i.zero, i.size, i.bytes)) = some (some (.pointer none), 1, 8) := by kernel_rfl

theorem madeCells_ptr (n : Nat) : (madeCells (Value.pointer none).cells (n * 1)).toList = (List.range n).map fun _ => Value.pointer none := by
  unfold madeCells
  apply List.ext_getElem?
  intro i
  simp [Value.cells]
  by_cases h : i < n
  · simp [h, Nat.mod_one]
  · simp [h]

/-- What goes through the loop. -/
def Loop20 (wA w1 : World) (a s g b s' g' : Nat) (p : Int) (n : Nat) (rs : RSt) (rs' : FSt) (ob : Nat) (i : Nat) (w : World) : Prop :=
  ∃ th, Law20 wA w1 a s g b s' g' p n rs rs' ob (fun j => thV (th j)) th i (2 * i) w

theorem Loop20.init {wA w1 w2 : World} {a s g b s' g' : Nat} {p : Int} {n : Nat} {rs : RSt} {rs' : FSt} {ob : Nat} (hS : Start wA w1 a s g b s' g' p n rs rs') (hm : may p n) (hb : Below w1.heap.size w1 w2) (ho : w1.heap.size ≤ ob)
    (hr : w2.heap[ob]? = some (.cells ((List.range n).map fun _ => Value.pointer none).toArray 35 (0, 0))) : Loop20 wA w1 a s g b s' g' p n rs rs' ob 0 w2 := by
  have K : Kept No w1 w2 := Kept.of_below_size hb
  obtain ⟨l1, l2⟩ := words0_len hm
  exact ⟨fun _ => none, hS, hm, K.mono (fun _ h => h.elim), ⟨_, l1, l2, hS.twin.kept K (fun h => h) (fun h => h) (fun h => h) (fun h => h) (fun h => h) (fun h => h)⟩, hr, ho, (fun i T _ h => by cases h), (fun i j T U _ _ _ h => by cases h)⟩
theorem Loop20.same {wA w1 w : World} {a s g b s' g' : Nat} {p : Int} {n : Nat} {rs : RSt} {rs' : FSt} {ob i : Nat} (h : Loop20 wA w1 a s g b s' g' p n rs rs' ob i w) :
    Calls Tryz.prog 16 #[.pointer (some ⟨a, 0, none⟩), .pointer (some ⟨b, 0, none⟩)] w fun e w' => e = .returned (.bool true) ∧ Below wA.heap.size wA w' := by
  obtain ⟨th, hL⟩ := h
  obtain ⟨ws, l1, l2, hT⟩ := hL.twin
  have hm := hL.may
  refine (same_any hL.start ⟨hm.1, hm.2.1⟩ hL.kept hT l2).mono ?_
  rintro e w' ⟨rfl, hb⟩
  exact ⟨rfl, hL.below.trans (hb.mono (by have := hL.below.size; exact this))⟩
theorem Loop20.below {wA w1 w : World} {a s g b s' g' : Nat} {p : Int} {n : Nat} {rs : RSt} {rs' : FSt} {ob i : Nat} (h : Loop20 wA w1 a s g b s' g' p n rs rs' ob i w) : Below wA.heap.size wA w := by
  obtain ⟨th, hL⟩ := h
  exact hL.below

/-- A pair that is made, ahead of its place in the row. -/
def MadeRow (wA w1 : World) (a s g b s' g' : Nat) (p : Int) (n : Nat) (rs : RSt) (rs' : FSt) (ob i : Nat) (th : Nat → Option Th) (t : Nat) (w0 : World) (e : Ending) (w : World) : Prop :=
  ∃ T : Th, e = .returned (.pointer (some ⟨T.μ, 0, none⟩)) ∧ w.cell? ⟨ob, t, none⟩ = some (thV (th t)) ∧ w.frozen? ⟨ob, t, none⟩ = false ∧ Below w0.heap.size w0 w ∧
    ∃ th' T', th' t = some T' ∧ Law20 wA w1 a s g b s' g' p n rs rs' ob (fun j => thV (th' j)) th' i (2 * i + 1) (w.setCell ⟨ob, t, none⟩ (.pointer (some ⟨T.μ, 0, none⟩)))
theorem made_row {wA w1 w : World} {a s g b s' g' : Nat} {p : Int} {n : Nat} {rs : RSt} {rs' : FSt} {ob i : Nat} {th : Nat → Option Th} {t : Nat} (h : Law20 wA w1 a s g b s' g' p n rs rs' ob (fun j => thV (th j)) th i (2 * i + 1) w) (ht : t < n)
    {k : Int} (hk : k = 13 ∨ k = 14 ∨ k = 15 ∨ k = 16) : Calls Tryz.prog 13 #[.agg #[.int .i64 p, .int .i64 n], .int .i64 k, .int .i64 t] w (MadeRow wA w1 a s g b s' g' p n rs rs' ob i th t w) := by
  refine (h.made t ht k hk).mono ?_
  rintro e w5 ⟨T, rfl, hL, hT, hA, hb⟩
  refine ⟨T, rfl, (cellOf hL.row t).trans (row_get _ ht), freeOf hL.row t, hb, updT th t (some T), T, updT_at _ _ _, ?_⟩
  have := hL.set t (.pointer (some ⟨T.μ, 0, none⟩)) (some T) (fun T' e => by cases e; exact ⟨hT, hA⟩)
  have e : updT (fun j => thV (th j)) t (.pointer (some ⟨T.μ, 0, none⟩)) = fun j => thV (updT th t (some T) j) := by
    funext j
    unfold updT
    split <;> rfl
  rw [e] at this
  exact this

set_option maxRecDepth 100000 in
set_option maxHeartbeats 8000000 in
theorem law20 (p8 t8 : Int) (ak : Option Addr) (kl kc : Nat) (kz : List Int) (ap : Option Addr) (pl pc : Nat) (pz : List Int) (w : World) (hp : 0 ≤ p8 ∧ p8 ≤ 255) (ht : 0 ≤ t8 ∧ t8 ≤ 255) (hk : Row8 w ak kl kc kz) (hps : Row8 w ap pl pc pz) :
    Calls Tryz.prog 3 #[.int .u8 p8, .int .u8 t8, .slice ak kl kc, .slice ap pl pc] w fun e w' => e = .returned (.bool true) ∧ Below w.heap.size w w' := by
  obtain ⟨i0, hi, hz0, hz1, hz2⟩ := info_parts Tryz.info35
  have HK := Lib.hid hk
  have HPS := Lib.hid hps
  clear hk hps
  go_enter Tryz.func3, Tryz.ntmps3
  go_wp2_with fail
  refine (setup9_any p8 t8 w hp ht).mono ?_
  rintro e w1 ⟨rfl, hb1⟩
  obtain ⟨P, hP⟩ : ∃ P, 1 + p8 % 9 = P := ⟨_, rfl⟩
  obtain ⟨n, hn⟩ : ∃ n : Nat, 1 + t8 % 6 = n := ⟨(1 + t8 % 6).toNat, by omega⟩
  rw [hP, hn]
  have hmay : may P n := by unfold may; omega
  have hn1 : 1 ≤ n := by omega
  have hn6 : n ≤ 6 := by omega
  have hB0 : Below w.heap.size w (w1.alloc (.cells #[.int .i64 P, .int .i64 (n : Int), .slice none 0 0] 25)) := hb1.alloc hb1.size _
  have hq := heap_alloc_new w1 (.cells #[.int .i64 P, .int .i64 (n : Int), .slice none 0 0] 25)
  clear hP hn hb1 hp ht
  go_wp2_with fail
  generalize w1.alloc (.cells #[.int .i64 P, .int .i64 (n : Int), .slice none 0 0] 25) = wA at hB0 hq ⊢
  generalize w1.heap.size = q at hq ⊢
  have HM := Lib.hid hmay
  have HB0 := Lib.hid hB0
  have Hq := Lib.hid hq
  clear hmay hB0 hq
  refine (arenas_any P n wA HM.out).mono ?_
  rintro e w1 ⟨a, s, g, b, s', g', rs, rs', rfl, hSt⟩
  have lq : q < wA.heap.size := lt_of_block Hq.out
  have q1 : w1.cell? ⟨q, 1, none⟩ = some (.int .i64 n) := (hSt.below.cell (p := ⟨q, 1, none⟩) lq).trans (cellOf Hq.out 1)
  have HSt := Lib.hid hSt
  clear hSt
  have hn0 : (0 : Int) ≤ n := by omega
  go_wp2_with (at_make; refine wpList_make_full _ rfl _ _ 31 rfl w1.heap.size 35 i0 _ 1 Tryz.underlying31 hi hz0 hz1 .i64 .i64 _ _ n rfl rfl rfl rfl (by rw [hz2]; omega) (by unfold maxLen; omega) (Nat.le_refl _) ?_; intro w2 hown hgrow; have hrow := ownsRow_full hown; rw [madeCells_ptr] at hrow; have hb2 : Below w1.heap.size w1 w2 := ((Kept.refl No w1).grown hgrow (fun k hk => by cases hk)).no_below; replace hrow := Lib.hid hrow; clear hown hgrow)
  obtain ⟨ob, hob⟩ : ∃ ob, w1.heap.size = ob := ⟨_, rfl⟩
  rw [hob] at hrow ⊢
  have HL := Lib.hid (Loop20.init HSt.out HM.out hb2 (by rw [hob]; exact Nat.le_refl _) hrow.out)
  clear hob hb2 hrow q1 hi hz0 hz1 hz2
  go_loopg [13] 400 (fun m v13 wr => ∃ i : Nat, v13 = .int .i64 i ∧ i ≤ 400 ∧ 400 - i ≤ m ∧ Hid (Loop20 wA w1 a s g b s' g' P n rs rs' ob i wr))
  case atStart => exact ⟨0, rfl, by omega, by omega, HL⟩
  case round =>
    obtain ⟨i, rfl, hi4, hm, hL⟩ := hrel
    have hBw : Hid (Below w.heap.size w wr) := Lib.hid (HB0.out.trans (hL.out.below.mono HB0.out.size))
    by_cases hgo : i < kl ∧ i < 400
    · obtain ⟨hlt, hlt4⟩ := hgo
      obtain ⟨x, rfl, hc, z0, z1, hmx, _⟩ := (HK.out.below hBw.out (Nat.le_refl _)).get hlt
      obtain ⟨z, hz⟩ : ∃ z, kz.getD i 0 = z := ⟨_, rfl⟩
      rw [hz] at hc z0 z1
      have hlt' : (i : Int) < kl := by omega
      have hlt4' : (i : Int) < 400 := by omega
      have hi0 : (0 : Int) ≤ i := by omega
      have hl63 : (kl : Int) ≤ 9223372036854775807 := by unfold maxLen at hmx; omega
      clear hz hmx
      go_upto_region 9 with fail
      go_cut [54] from 41 to 54 (fun s54 wx => s54 = .bool false ∧ Hid (∃ th, Law20 wA w1 a s g b s' g' P n rs rs' ob (fun j => thV (th j)) th i (2 * i + 1) wx))
      case first =>
        obtain ⟨th, hLaw⟩ := hL.out
        by_cases hb : 250 < z
        · have HPut := fun v => Lib.hid (hLaw.put v (by omega))
          clear hLaw
          go_wp2_with (go_at_call 11; refine (HPut _).out.mono ?_; rintro e w3 ⟨rfl, h3⟩; replace h3 := Lib.hid h3)
          go_meet
          exact ⟨rfl, Lib.hid ⟨th, h3.out⟩⟩
        · have hF := Lib.hid (hLaw.moreC (show (2 * i : Int) ≤ 2 * i + 1 by omega))
          clear hLaw
          go_wp2_with fail
          go_meet
          exact ⟨rfl, Lib.hid ⟨th, hF.out⟩⟩
      case rest =>
      obtain ⟨rfl, hL3⟩ := hcut
      obtain ⟨th, hLaw⟩ := hL3.out
      have q1 : wc.cell? ⟨q, 1, none⟩ = some (.int .i64 n) := (hLaw.below.cell (p := ⟨q, 1, none⟩) lq).trans (cellOf Hq.out 1)
      have HL3 := Lib.hid hLaw
      have hBx : Hid (Below w.heap.size w wc) := Lib.hid (HB0.out.trans (hLaw.below.mono HB0.out.size))
      have HW := Lib.hid (who_any wc (HPS.out.below hBx.out (Nat.le_refl _)) i (by omega) n (by omega) (by omega))
      have hrow := hLaw.row
      have HRow := Lib.hid hrow
      clear hc hLaw hL3 hL hrow z0 z1
      go_wp2_with fail
      refine HW.out.mono ?_
      rintro e w3 ⟨tt, rfl, t0, t1, rfl⟩
      obtain ⟨t, rfl⟩ := Int.eq_ofNat_of_zero_le t0
      have ht : t < n := by omega
      have r1 : wc.cell? ⟨ob, t, none⟩ = some (thV (th t)) := (cellOf HRow.out t).trans (row_get _ ht)
      clear t0
      go_upto_region 12 with fail
      go_cut [64] from 60 to 64 (fun s64 wx => s64 = .bool (th t).isNone ∧ wc = wx)
      case first =>
        cases hth : th t with
        | none =>
          rw [hth] at r1
          replace r1 : wc.cell? ⟨ob, t, none⟩ = some (.pointer none) := r1
          have hth' := Lib.hid hth
          clear hth
          go_wp2_with fail
          go_meet
          exact ⟨by rw [hth'.out]; rfl, rfl⟩
        | some T =>
          rw [hth] at r1
          replace r1 : wc.cell? ⟨ob, t, none⟩ = some (.pointer (some ⟨T.μ, 0, none⟩)) := r1
          have hth' := Lib.hid hth
          clear hth
          go_wp2_with fail
          go_meet
          exact ⟨by rw [hth'.out]; rfl, rfl⟩
      case rest =>
      obtain ⟨rfl, rfl⟩ := hcut
      clear r1
      go_upto_if 64 with fail
      go_cut [] from 64 to 81 (fun wx => Hid (∃ th' T, th' t = some T ∧ Law20 wA w1 a s g b s' g' P n rs rs' ob (fun j => thV (th' j)) th' i (2 * i + 1) wx))
      case first =>
        cases hth : th t with
        | some T =>
          have hF : Hid (∃ th' T, th' t = some T ∧ Law20 wA w1 a s g b s' g' P n rs rs' ob (fun j => thV (th' j)) th' i (2 * i + 1) wc) := Lib.hid ⟨th, T, hth, HL3.out⟩
          clear hth
          go_wp2_with fail
          go_meet
          exact hF
        | none =>
          have HTh := Lib.hid hth
          obtain ⟨x', hx', hc, z0, z1, _, lx⟩ := (HK.out.below hBx.out (Nat.le_refl _)).get hlt
          cases hx'
          obtain ⟨z, hz⟩ : ∃ z, kz.getD i 0 = z := ⟨_, rfl⟩
          rw [hz] at hc z0 z1
          have hme : ∃ ws, Twin wc a s g b s' g' P n (.pointer (some ⟨rs.q, 0, none⟩)) (.pointer (some ⟨rs'.q, 0, none⟩)) ws (2 * i + 1) := by obtain ⟨ws, _, _, h⟩ := HL3.out.twin; exact ⟨ws, h⟩
          obtain ⟨ws, hTw⟩ := hme
          have b2 : wc.cell? ⟨b, 2, none⟩ = some (.int .i64 P) := cellOf hTw.me 2
          have b3 : wc.cell? ⟨b, 3, none⟩ = some (.int .i64 n) := cellOf hTw.me 3
          have htm : z.tmod 4 = 0 ∨ z.tmod 4 = 1 ∨ z.tmod 4 = 2 ∨ z.tmod 4 = 3 := by
            rw [Int.tmod_eq_emod_of_nonneg z0]; omega
          have lb : b < wc.heap.size := lt_of_block hTw.me
          have ht0 : (0 : Int) ≤ t := by omega
          have htn : (t : Int) < n := by omega
          have HMd : ∀ W, Below wc.heap.size wc W → ∀ k, (k = 13 ∨ k = 14 ∨ k = 15 ∨ k = 16) → Hid (Calls Tryz.prog 13 #[.agg #[.int .i64 P, .int .i64 n], .int .i64 k, .int .i64 t] W (MadeRow wA w1 a s g b s' g' P n rs rs' ob i th t W)) :=
            fun W hb k hk => Lib.hid (made_row (HL3.out.go hb) ht hk)
          have HMd := Lib.hid HMd
          have hcA : ∀ o, (wc.alloc o).cell? (x.add i) = some (.int .u8 z) := fun o => (World.cell?_of_block (w := wc) (Below.heap_alloc wc o _ (by rw [add_block]; exact lx))).trans hc
          clear hth hz hTw ws z0 z1
          obtain ⟨j, kk, hj, hk4, hjk⟩ : ∃ (j : Nat) (kk : Int), z.tmod 4 = j ∧ j < 4 ∧ ((#[.int .i64 13, .int .i64 14, .int .i64 15, .int .i64 16] : Array Value)[j]? = some (.int .i64 kk) ∧ (kk = 13 ∨ kk = 14 ∨ kk = 15 ∨ kk = 16)) := by
            rcases htm with h | h | h | h
            · exact ⟨0, 13, h, by omega, rfl, by simp⟩
            · exact ⟨1, 14, h, by omega, rfl, by simp⟩
            · exact ⟨2, 15, h, by omega, rfl, by simp⟩
            · exact ⟨3, 16, h, by omega, rfl, by simp⟩
          have hj0 : (0 : Int) ≤ z.tmod 4 ∧ z.tmod 4 < 4 := by omega
          have hjn : (z.tmod 4).toNat = j := by omega
          have hwz : IntKind.u8.wrap (z.tmod 4) = z.tmod 4 := IntWalk.u8_in _ (by omega)
          have hbob : b ≠ ob := by have := lt_of_block HSt.out.me.obj; have := HL3.out.lob; omega
          have hxob : x.block ≠ ob := by
            rcases HK.out with ⟨h, _⟩ | ⟨x2, h, _, _, _, _, _, h7⟩
            · cases h
            · cases h
              have h1 := h7 (by omega)
              have h2 := HB0.out.size
              have h3 := HSt.out.below.size
              have h4 := HL3.out.lob
              omega
          have hob1 : ob < wc.heap.size := lt_of_block HRow.out
          have KC : Hid (∀ W : World, Kept (fun k => k = ob) wc W → W.cell? ⟨b, 2, none⟩ = some (.int .i64 P) ∧ W.cell? ⟨b, 3, none⟩ = some (.int .i64 n) ∧ W.cell? (x.add i) = some (.int .u8 z)) := Lib.hid (fun W h =>
            ⟨(h.cell lb hbob).trans b2, (h.cell lb hbob).trans b3, (World.cell?_of_block (w := wc) (h.block _ (by rw [add_block]; exact lx) (by rw [add_block]; exact hxob))).trans hc⟩)
          have Hj := Lib.hid (And.intro hj (And.intro hk4 hjk))
          clear hj hk4 hjk htm hcA hc b2 b3
          go_wp2_with fail
          have hS : (fun W : World => Kept (fun k => k = ob) wc W) wc.drew := (Kept.refl _ wc).drew
          refine wp_region_held_drew (S := (fun W : World => Kept (fun k => k = ob) wc W)) (by kernel_rfl) hS (fun _ => ?_)
          refine wpAnyH_takeD (i := 0) (some 65) (v := .slice (some ⟨ob, 0, none⟩) n n) rfl rfl (by kernel_rfl) (by kernel_rfl) (by kernel_rfl) (fun _ _ _ h => h) (Or.inl ⟨by rfl, fun W' hW => ?_⟩) hS ?_
          · go_simp
          try simp only [Act.put, List.setIfInBounds_toArray, List.set_cons_zero, List.set_cons_succ]
          refine wpAnyH_takeD (i := 1) (some 66) (v := .int .i64 (t : Int)) rfl rfl (by kernel_rfl) (by kernel_rfl) (by kernel_rfl) (fun _ _ _ h => h) (Or.inl ⟨by rfl, fun W' hW => ?_⟩) hS ?_
          · go_simp
          try simp only [Act.put, List.setIfInBounds_toArray, List.set_cons_zero, List.set_cons_succ]
          refine wpAnyH_takeD (i := 2) (some 67) (v := .pointer (some ⟨b, 0, none⟩)) rfl rfl (by kernel_rfl) (by kernel_rfl) (by kernel_rfl) (fun _ _ _ h => h) (Or.inl ⟨by rfl, fun W' hW => ?_⟩) hS ?_
          · go_simp
          try simp only [Act.put, List.setIfInBounds_toArray, List.set_cons_zero, List.set_cons_succ]
          refine wpAnyH_takeD (i := 3) (some 68) (v := .pointer (some ⟨b, 0, none⟩)) rfl rfl (by kernel_rfl) (by kernel_rfl) (by kernel_rfl) (fun _ _ _ h => h) (Or.inl ⟨by rfl, fun W' hW => ?_⟩) hS ?_
          · go_simp
          try simp only [Act.put, List.setIfInBounds_toArray, List.set_cons_zero, List.set_cons_succ]
          refine wpAnyH_takeD (i := 4) (some 69) (v := .pointer (some ⟨b, 2, none⟩)) rfl rfl (by kernel_rfl) (by kernel_rfl) (by kernel_rfl) (fun _ _ _ h => h) (Or.inl ⟨by rfl, fun W' hW => ?_⟩) hS ?_
          · go_simp
          try simp only [Act.put, List.setIfInBounds_toArray, List.set_cons_zero, List.set_cons_succ]
          refine wpAnyH_takeD (i := 5) (some 70) (v := .agg #[.int .i64 P, .int .i64 n]) rfl rfl (by kernel_rfl) (by kernel_rfl) (by kernel_rfl) (fun _ _ _ h => h) (Or.inl ⟨by rfl, fun W' hW => ?_⟩) hS ?_
          · obtain ⟨y0, y1, y2⟩ := KC.out _ hW; go_simp
          try simp only [Act.put, List.setIfInBounds_toArray, List.set_cons_zero, List.set_cons_succ]
          refine wpAnyH_takeD (i := 7) (some 72) (v := .slice (some x) kl kc) rfl rfl (by kernel_rfl) (by kernel_rfl) (by kernel_rfl) (fun _ _ _ h => h) (Or.inl ⟨by rfl, fun W' hW => ?_⟩) hS ?_
          · go_simp
          try simp only [Act.put, List.setIfInBounds_toArray, List.set_cons_zero, List.set_cons_succ]
          refine wpAnyH_takeD (i := 8) (some 73) (v := .int .i64 (i : Int)) rfl rfl (by kernel_rfl) (by kernel_rfl) (by kernel_rfl) (fun _ _ _ h => h) (Or.inl ⟨by rfl, fun W' hW => ?_⟩) hS ?_
          · go_simp
          try simp only [Act.put, List.setIfInBounds_toArray, List.set_cons_zero, List.set_cons_succ]
          refine wpAnyH_takeD (i := 9) (some 74) (v := .pointer (some (x.add i))) rfl rfl (by kernel_rfl) (by kernel_rfl) (by kernel_rfl) (fun _ _ _ h => h) (Or.inl ⟨by rfl, fun W' hW => ?_⟩) hS ?_
          · go_simp
          try simp only [Act.put, List.setIfInBounds_toArray, List.set_cons_zero, List.set_cons_succ]
          refine wpAnyH_takeD (i := 10) (some 75) (v := .int .u8 z) rfl rfl (by kernel_rfl) (by kernel_rfl) (by kernel_rfl) (fun _ _ _ h => h) (Or.inl ⟨by rfl, fun W' hW => ?_⟩) hS ?_
          · obtain ⟨y0, y1, y2⟩ := KC.out _ hW; go_simp
          try simp only [Act.put, List.setIfInBounds_toArray, List.set_cons_zero, List.set_cons_succ]
          refine wpAnyH_takeD (i := 11) (some 76) (v := .int .u8 (z.tmod 4)) rfl rfl (by kernel_rfl) (by kernel_rfl) (by kernel_rfl) (fun _ _ _ h => h) (Or.inl ⟨by rfl, fun W' hW => ?_⟩) hS ?_
          · go_simp
          try simp only [Act.put, List.setIfInBounds_toArray, List.set_cons_zero, List.set_cons_succ]
          refine wpAnyH_takeD (i := 14) (some 79) (v := .int .i64 (t : Int)) rfl rfl (by kernel_rfl) (by kernel_rfl) (by kernel_rfl) (fun _ _ _ h => h) (Or.inl ⟨by rfl, fun W' hW => ?_⟩) hS ?_
          · go_simp
          try simp only [Act.put, List.setIfInBounds_toArray, List.set_cons_zero, List.set_cons_succ]
          refine wpAnyH_one (i := 6) (by kernel_rfl) rfl (by rfl) (fun K hK => ?_)
          unfold Oper.wp
          go_simp
          have hS6 : (fun W : World => Kept (fun k => k = ob) wc W) (wc.alloc (.cells #[.int .i64 13, .int .i64 14, .int .i64 15, .int .i64 16] 3)).drew := ((Kept.refl _ wc).alloc _).drew
          have hn6 := heap_alloc_new wc (.cells #[.int .i64 13, .int .i64 14, .int .i64 15, .int .i64 16] 3)
          have hS' : (fun W : World => Kept (fun k => k = ob) wc W ∧ W.cell? ⟨wc.heap.size, j, none⟩ = some (.int .i64 kk)) (wc.alloc (.cells #[.int .i64 13, .int .i64 14, .int .i64 15, .int .i64 16] 3)).drew := ⟨hS6, (cellOf hn6 j).trans Hj.out.2.2.1⟩
          refine hK.out _ _ hS6 ?_
          clear hK hS hS6 hn6
          refine wpAnyH_more (S' := (fun W : World => Kept (fun k => k = ob) wc W ∧ W.cell? ⟨wc.heap.size, j, none⟩ = some (.int .i64 kk))) (fun W h => h.1) _ _ _ _ ?_
          refine wpAnyH_takeD (i := 12) (some 77) (v := .pointer (some ⟨wc.heap.size, j, none⟩)) rfl rfl (by kernel_rfl) (by kernel_rfl) (by kernel_rfl) (fun _ _ _ h => h) (Or.inl ⟨by rfl, fun W' hW => ?_⟩) hS' ?_
          · go_simp
          try simp only [Act.put, List.setIfInBounds_toArray, List.set_cons_zero, List.set_cons_succ]
          refine wpAnyH_takeD (i := 13) (some 78) (v := .int .i64 kk) rfl rfl (by kernel_rfl) (by kernel_rfl) (by kernel_rfl) (fun _ _ _ h => h) (Or.inl ⟨by rfl, fun W' hW => ?_⟩) hS' ?_
          · obtain ⟨y0, y1⟩ := hW; go_simp
          try simp only [Act.put, List.setIfInBounds_toArray, List.set_cons_zero, List.set_cons_succ]
          refine wpAnyH_one (i := 15) (by kernel_rfl) rfl (by rfl) (fun K hK => ?_)
          unfold Oper.wp
          go_simp
          refine ((HMd.out _ (((Below.refl _ wc).alloc (Nat.le_refl _) _).drew) kk Hj.out.2.2.2).out).mono ?_
          rintro e w5 ⟨T5, rfl, hc5, hf5, hb5, hF5⟩
          have hK5 : Kept (fun k => k = ob) wc w5 := hS'.1.trans (Kept.of_below_size hb5) (fun _ h => h.elim)
          have hS5 : (fun W : World => Kept (fun k => k = ob) wc W ∧ W.cell? ⟨wc.heap.size, j, none⟩ = some (.int .i64 kk)) w5 := ⟨hK5, (hb5.cell (p := ⟨wc.heap.size, j, none⟩) (by simp)).trans hS'.2⟩
          replace hF5 := Lib.hid hF5
          go_wp2_with fail
          refine hK.out _ _ hS5 ?_
          clear hK hS' hb5
          refine wpAnyH_takeD (i := 16) (some 81) (v := .pointer (some ⟨ob, t, none⟩)) rfl rfl (by kernel_rfl) (by kernel_rfl) (by kernel_rfl) (fun _ _ _ h => h) (Or.inl ⟨by rfl, fun W' hW => ?_⟩) hS5 ?_
          · go_simp
          try simp only [Act.put, List.setIfInBounds_toArray, List.set_cons_zero, List.set_cons_succ]
          refine wpAnyH_one (i := 17) (by kernel_rfl) rfl (by rfl) (fun K hK => ?_)
          unfold Oper.wp
          go_simp
          refine hK.out _ _ ⟨hK5.setCell (p := ⟨ob, t, none⟩) (.inl rfl) _, (World.cell?_of_block (w := w5) (Below.heap_setCell _ _ _ _ (show wc.heap.size ≠ ob by omega))).trans hS5.2⟩ ?_
          refine wpAnyH_done (by kernel_rfl) ?_ _
          go_wp2_with fail
          go_meet
          exact hF5
      case rest =>
      obtain ⟨th2, T, hT, hL2⟩ := hcut.out
      have r1 : wc.cell? ⟨ob, t, none⟩ = some (.pointer (some ⟨T.μ, 0, none⟩)) := (cellOf hL2.row t).trans ((row_get _ ht).trans (by rw [hT]; rfl))
      have HS := Lib.hid (hL2.step t ht T hT (by omega) (by omega))
      have hBc : Hid (Below wA.heap.size wA wc) := Lib.hid hL2.below
      have HT := Lib.hid hT
      have ht0 : (0 : Int) ≤ t := by omega
      have htn : (t : Int) < n := by omega
      clear hL2 hT HL3 hBx HRow
      go_wp2_with fail
      refine HS.out.mono ?_
      rintro e w5 ⟨d0, d1, d2, d3, dn, gn, rfl, hb5, row5, mu5, lμ5, K5, hnext⟩
      have hq5 := heap_alloc_new w5 (.cells #[.int .i64 d0, .int .i64 d1, .int .u64 d2, .int .u64 d3] 45)
      have row6 := block_alloc row5 (.cells #[.int .i64 d0, .int .i64 d1, .int .u64 d2, .int .u64 d3] 45)
      have mu6 : (w5.alloc (.cells #[.int .i64 d0, .int .i64 d1, .int .u64 d2, .int .u64 d3] 45)).cell? ⟨T.μ, 4, none⟩ = some (.pointer (some ⟨T.r, 0, none⟩)) :=
        (World.cell?_of_block (w := w5) (Below.heap_alloc w5 _ _ lμ5)).trans mu5
      have HN : Hid (Calls Tryz.prog 15 #[.pointer (some ⟨T.r, 0, none⟩), .pointer (some ⟨b, 0, none⟩)] (w5.alloc (.cells #[.int .i64 d0, .int .i64 d1, .int .u64 d2, .int .u64 d3] 45)).drew
        (RefPost (w5.alloc (.cells #[.int .i64 d0, .int .i64 d1, .int .u64 d2, .int .u64 d3] 45)).drew wA w1 a s g b s' g' P n rs rs' ob (fun j => thV (th2 j)) th2 i (2 * i + 1) t T d0 d1 d2 d3 dn gn)) :=
        Lib.hid (hnext _ (((Below.refl _ w5).alloc (Nat.le_refl _) _).drew))
      clear hnext hb5 row5 mu5 lμ5 K5 HS r1
      go_upto_region 17 with fail
      generalize w5.alloc (.cells #[.int .i64 d0, .int .i64 d1, .int .u64 d2, .int .u64 d3] 45) = w6 at hq5 row6 mu6 HN ⊢
      generalize w5.heap.size = qd at hq5 ⊢
      have HG : Hid (∀ W : World, W.heap[ob]? = some (.cells ((List.range n).map fun j => thV (th2 j)).toArray 35 (0, 0)) → W.cell? ⟨ob, t, none⟩ = some (.pointer (some ⟨T.μ, 0, none⟩))) :=
        Lib.hid (fun W h => (cellOf h t).trans ((row_get _ ht).trans (by rw [HT.out]; rfl)))
      have HD : Hid (∀ W : World, W.heap[qd]? = some (.cells #[.int .i64 d0, .int .i64 d1, .int .u64 d2, .int .u64 d3] 45 (0, 0)) → W.cell? ⟨qd, 0, none⟩ = some (.int .i64 d0) ∧ W.cell? ⟨qd, 1, none⟩ = some (.int .i64 d1) ∧ W.cell? ⟨qd, 2, none⟩ = some (.int .u64 d2) ∧ W.cell? ⟨qd, 3, none⟩ = some (.int .u64 d3)) :=
        Lib.hid (fun W h => ⟨cellOf h 0, cellOf h 1, cellOf h 2, cellOf h 3⟩)
      have r6 := HG.out _ row6
      obtain ⟨e0, e1, e2, e3⟩ := HD.out _ hq5
      have Hq5 := Lib.hid hq5
      clear hq5 row6
      go_cut [135] from 97 to 135 (fun s135 wx => s135 = .bool false ∧ Hid (∃ T' : Th, T'.μ = T.μ ∧ Law20 wA w1 a s g b s' g' P n rs rs' ob (fun j => thV (th2 j)) (updT th2 t (if dn then none else some T')) (i + 1) (2 * i + 1 + 1) wx))
      case first =>
        have hS : (fun W : World => W.cell? ⟨qd, 0, none⟩ = some (.int .i64 d0) ∧ W.cell? ⟨qd, 1, none⟩ = some (.int .i64 d1) ∧ W.cell? ⟨qd, 2, none⟩ = some (.int .u64 d2) ∧ W.cell? ⟨qd, 3, none⟩ = some (.int .u64 d3) ∧ W.cell? ⟨ob, t, none⟩ = some (.pointer (some ⟨T.μ, 0, none⟩)) ∧ W.cell? ⟨T.μ, 4, none⟩ = some (.pointer (some ⟨T.r, 0, none⟩))) w6.drew := ⟨e0, e1, e2, e3, r6, mu6⟩
        refine wp_region_held_drew (S := (fun W : World => W.cell? ⟨qd, 0, none⟩ = some (.int .i64 d0) ∧ W.cell? ⟨qd, 1, none⟩ = some (.int .i64 d1) ∧ W.cell? ⟨qd, 2, none⟩ = some (.int .u64 d2) ∧ W.cell? ⟨qd, 3, none⟩ = some (.int .u64 d3) ∧ W.cell? ⟨ob, t, none⟩ = some (.pointer (some ⟨T.μ, 0, none⟩)) ∧ W.cell? ⟨T.μ, 4, none⟩ = some (.pointer (some ⟨T.r, 0, none⟩)))) (by kernel_rfl) hS (fun _ => ?_)
        refine wpAnyH_takeD (i := 0) (some 97) (v := .agg #[.int .i64 d0, .int .i64 d1, .int .u64 d2, .int .u64 d3]) rfl rfl (by kernel_rfl) (by kernel_rfl) (by kernel_rfl) (fun _ _ _ h => h) (Or.inl ⟨by rfl, fun W' hW => ?_⟩) hS ?_
        · obtain ⟨y0, y1, y2, y3, y4, y5⟩ := hW; go_simp
        try simp only [Act.put, List.setIfInBounds_toArray, List.set_cons_zero, List.set_cons_succ]
        refine wpAnyH_takeD (i := 1) (some 98) (v := .slice (some ⟨ob, 0, none⟩) n n) rfl rfl (by kernel_rfl) (by kernel_rfl) (by kernel_rfl) (fun _ _ _ h => h) (Or.inl ⟨by rfl, fun W' hW => ?_⟩) hS ?_
        · obtain ⟨y0, y1, y2, y3, y4, y5⟩ := hW; go_simp
        try simp only [Act.put, List.setIfInBounds_toArray, List.set_cons_zero, List.set_cons_succ]
        refine wpAnyH_takeD (i := 2) (some 99) (v := .int .i64 (t : Int)) rfl rfl (by kernel_rfl) (by kernel_rfl) (by kernel_rfl) (fun _ _ _ h => h) (Or.inl ⟨by rfl, fun W' hW => ?_⟩) hS ?_
        · obtain ⟨y0, y1, y2, y3, y4, y5⟩ := hW; go_simp
        try simp only [Act.put, List.setIfInBounds_toArray, List.set_cons_zero, List.set_cons_succ]
        refine wpAnyH_takeD (i := 3) (some 100) (v := .pointer (some ⟨ob, t, none⟩)) rfl rfl (by kernel_rfl) (by kernel_rfl) (by kernel_rfl) (fun _ _ _ h => h) (Or.inl ⟨by rfl, fun W' hW => ?_⟩) hS ?_
        · obtain ⟨y0, y1, y2, y3, y4, y5⟩ := hW; go_simp
        try simp only [Act.put, List.setIfInBounds_toArray, List.set_cons_zero, List.set_cons_succ]
        refine wpAnyH_takeD (i := 4) (some 101) (v := .pointer (some ⟨T.μ, 0, none⟩)) rfl rfl (by kernel_rfl) (by kernel_rfl) (by kernel_rfl) (fun _ _ _ h => h) (Or.inl ⟨by rfl, fun W' hW => ?_⟩) hS ?_
        · obtain ⟨y0, y1, y2, y3, y4, y5⟩ := hW; go_simp
        try simp only [Act.put, List.setIfInBounds_toArray, List.set_cons_zero, List.set_cons_succ]
        refine wpAnyH_takeD (i := 5) (some 102) (v := .pointer (some ⟨T.μ, 0, none⟩)) rfl rfl (by kernel_rfl) (by kernel_rfl) (by kernel_rfl) (fun _ _ _ h => h) (Or.inl ⟨by rfl, fun W' hW => ?_⟩) hS ?_
        · obtain ⟨y0, y1, y2, y3, y4, y5⟩ := hW; go_simp
        try simp only [Act.put, List.setIfInBounds_toArray, List.set_cons_zero, List.set_cons_succ]
        refine wpAnyH_takeD (i := 6) (some 103) (v := .pointer (some ⟨T.μ, 4, none⟩)) rfl rfl (by kernel_rfl) (by kernel_rfl) (by kernel_rfl) (fun _ _ _ h => h) (Or.inl ⟨by rfl, fun W' hW => ?_⟩) hS ?_
        · obtain ⟨y0, y1, y2, y3, y4, y5⟩ := hW; go_simp
        try simp only [Act.put, List.setIfInBounds_toArray, List.set_cons_zero, List.set_cons_succ]
        refine wpAnyH_takeD (i := 7) (some 104) (v := .pointer (some ⟨T.r, 0, none⟩)) rfl rfl (by kernel_rfl) (by kernel_rfl) (by kernel_rfl) (fun _ _ _ h => h) (Or.inl ⟨by rfl, fun W' hW => ?_⟩) hS ?_
        · obtain ⟨y0, y1, y2, y3, y4, y5⟩ := hW; go_simp
        try simp only [Act.put, List.setIfInBounds_toArray, List.set_cons_zero, List.set_cons_succ]
        refine wpAnyH_takeD (i := 8) (some 105) (v := .pointer (some ⟨b, 0, none⟩)) rfl rfl (by kernel_rfl) (by kernel_rfl) (by kernel_rfl) (fun _ _ _ h => h) (Or.inl ⟨by rfl, fun W' hW => ?_⟩) hS ?_
        · obtain ⟨y0, y1, y2, y3, y4, y5⟩ := hW; go_simp
        try simp only [Act.put, List.setIfInBounds_toArray, List.set_cons_zero, List.set_cons_succ]
        refine wpAnyH_one (i := 9) (by kernel_rfl) rfl (by rfl) (fun K hK => ?_)
        unfold Oper.wp
        go_simp
        refine HN.out.mono ?_
        rintro e w7 ⟨rfl, c15, c26, m4, row7, k45, hL7⟩
        have r7 := HG.out _ row7
        obtain ⟨f0, f1, f2, f3⟩ := HD.out _ (k45 _ _ Hq5.out)
        have hS7 : (fun W : World => W.cell? ⟨qd, 0, none⟩ = some (.int .i64 d0) ∧ W.cell? ⟨qd, 1, none⟩ = some (.int .i64 d1) ∧ W.cell? ⟨qd, 2, none⟩ = some (.int .u64 d2) ∧ W.cell? ⟨qd, 3, none⟩ = some (.int .u64 d3) ∧ W.cell? ⟨ob, t, none⟩ = some (.pointer (some ⟨T.μ, 0, none⟩)) ∧ W.cell? ⟨T.μ, 4, none⟩ = some (.pointer (some ⟨T.r, 0, none⟩))) w7 := ⟨f0, f1, f2, f3, r7, m4⟩
        have hS' : (fun W : World => W.cell? ⟨qd, 0, none⟩ = some (.int .i64 d0) ∧ W.cell? ⟨qd, 1, none⟩ = some (.int .i64 d1) ∧ W.cell? ⟨qd, 2, none⟩ = some (.int .u64 d2) ∧ W.cell? ⟨qd, 3, none⟩ = some (.int .u64 d3) ∧ W.cell? ⟨ob, t, none⟩ = some (.pointer (some ⟨T.μ, 0, none⟩)) ∧ W.cell? ⟨T.μ, 4, none⟩ = some (.pointer (some ⟨T.r, 0, none⟩)) ∧ W.cell? ⟨T.r, 15, none⟩ = some (.bool dn) ∧ W.cell? ⟨T.r, 26, none⟩ = some (.int .i64 gn)) w7 := ⟨f0, f1, f2, f3, r7, m4, c15, c26⟩
        replace hL7 := Lib.hid hL7
        clear c15 c26 m4 row7 k45 r7 f0 f1 f2 f3
        go_wp2_with fail
        refine hK.out _ _ hS7 ?_
        clear hK hS hS7
        refine wpAnyH_more (S' := (fun W : World => W.cell? ⟨qd, 0, none⟩ = some (.int .i64 d0) ∧ W.cell? ⟨qd, 1, none⟩ = some (.int .i64 d1) ∧ W.cell? ⟨qd, 2, none⟩ = some (.int .u64 d2) ∧ W.cell? ⟨qd, 3, none⟩ = some (.int .u64 d3) ∧ W.cell? ⟨ob, t, none⟩ = some (.pointer (some ⟨T.μ, 0, none⟩)) ∧ W.cell? ⟨T.μ, 4, none⟩ = some (.pointer (some ⟨T.r, 0, none⟩)) ∧ W.cell? ⟨T.r, 15, none⟩ = some (.bool dn) ∧ W.cell? ⟨T.r, 26, none⟩ = some (.int .i64 gn))) (fun W h => ⟨h.1, h.2.1, h.2.2.1, h.2.2.2.1, h.2.2.2.2.1, h.2.2.2.2.2.1⟩) _ _ _ _ ?_
        refine wpAnyH_takeD (i := 10) (some 107) (v := .bool false) rfl rfl (by kernel_rfl) (by kernel_rfl) (by kernel_rfl) (fun _ _ _ h => h) (Or.inl ⟨by rfl, fun W' hW => ?_⟩) hS' ?_
        · obtain ⟨y0, y1, y2, y3, y4, y5, y6, y7⟩ := hW; go_simp
        try simp only [Act.put, List.setIfInBounds_toArray, List.set_cons_zero, List.set_cons_succ]
        refine wpAnyH_takeD (i := 11) (some 108) (v := .bool false) rfl rfl (by kernel_rfl) (by kernel_rfl) (by kernel_rfl) (fun _ _ _ h => h) (Or.inl ⟨by rfl, fun W' hW => ?_⟩) hS' ?_
        · obtain ⟨y0, y1, y2, y3, y4, y5, y6, y7⟩ := hW; go_simp
        try simp only [Act.put, List.setIfInBounds_toArray, List.set_cons_zero, List.set_cons_succ]
        refine wpAnyH_takeD (i := 12) (some 109) (v := .bool dn) rfl rfl (by kernel_rfl) (by kernel_rfl) (by kernel_rfl) (fun _ _ _ h => h) (Or.inl ⟨by rfl, fun W' hW => ?_⟩) hS' ?_
        · obtain ⟨y0, y1, y2, y3, y4, y5, y6, y7⟩ := hW; go_simp
        try simp only [Act.put, List.setIfInBounds_toArray, List.set_cons_zero, List.set_cons_succ]
        refine wpAnyH_takeD (i := 13) (some 110) (v := .slice (some ⟨ob, 0, none⟩) n n) rfl rfl (by kernel_rfl) (by kernel_rfl) (by kernel_rfl) (fun _ _ _ h => h) (Or.inl ⟨by rfl, fun W' hW => ?_⟩) hS' ?_
        · obtain ⟨y0, y1, y2, y3, y4, y5, y6, y7⟩ := hW; go_simp
        try simp only [Act.put, List.setIfInBounds_toArray, List.set_cons_zero, List.set_cons_succ]
        refine wpAnyH_takeD (i := 14) (some 111) (v := .int .i64 (t : Int)) rfl rfl (by kernel_rfl) (by kernel_rfl) (by kernel_rfl) (fun _ _ _ h => h) (Or.inl ⟨by rfl, fun W' hW => ?_⟩) hS' ?_
        · obtain ⟨y0, y1, y2, y3, y4, y5, y6, y7⟩ := hW; go_simp
        try simp only [Act.put, List.setIfInBounds_toArray, List.set_cons_zero, List.set_cons_succ]
        refine wpAnyH_takeD (i := 15) (some 112) (v := .pointer (some ⟨ob, t, none⟩)) rfl rfl (by kernel_rfl) (by kernel_rfl) (by kernel_rfl) (fun _ _ _ h => h) (Or.inl ⟨by rfl, fun W' hW => ?_⟩) hS' ?_
        · obtain ⟨y0, y1, y2, y3, y4, y5, y6, y7⟩ := hW; go_simp
        try simp only [Act.put, List.setIfInBounds_toArray, List.set_cons_zero, List.set_cons_succ]
        refine wpAnyH_takeD (i := 16) (some 113) (v := .pointer (some ⟨T.μ, 0, none⟩)) rfl rfl (by kernel_rfl) (by kernel_rfl) (by kernel_rfl) (fun _ _ _ h => h) (Or.inl ⟨by rfl, fun W' hW => ?_⟩) hS' ?_
        · obtain ⟨y0, y1, y2, y3, y4, y5, y6, y7⟩ := hW; go_simp
        try simp only [Act.put, List.setIfInBounds_toArray, List.set_cons_zero, List.set_cons_succ]
        refine wpAnyH_takeD (i := 17) (some 114) (v := .pointer (some ⟨T.μ, 0, none⟩)) rfl rfl (by kernel_rfl) (by kernel_rfl) (by kernel_rfl) (fun _ _ _ h => h) (Or.inl ⟨by rfl, fun W' hW => ?_⟩) hS' ?_
        · obtain ⟨y0, y1, y2, y3, y4, y5, y6, y7⟩ := hW; go_simp
        try simp only [Act.put, List.setIfInBounds_toArray, List.set_cons_zero, List.set_cons_succ]
        refine wpAnyH_takeD (i := 18) (some 115) (v := .pointer (some ⟨T.μ, 4, none⟩)) rfl rfl (by kernel_rfl) (by kernel_rfl) (by kernel_rfl) (fun _ _ _ h => h) (Or.inl ⟨by rfl, fun W' hW => ?_⟩) hS' ?_
        · obtain ⟨y0, y1, y2, y3, y4, y5, y6, y7⟩ := hW; go_simp
        try simp only [Act.put, List.setIfInBounds_toArray, List.set_cons_zero, List.set_cons_succ]
        refine wpAnyH_takeD (i := 19) (some 116) (v := .pointer (some ⟨T.r, 0, none⟩)) rfl rfl (by kernel_rfl) (by kernel_rfl) (by kernel_rfl) (fun _ _ _ h => h) (Or.inl ⟨by rfl, fun W' hW => ?_⟩) hS' ?_
        · obtain ⟨y0, y1, y2, y3, y4, y5, y6, y7⟩ := hW; go_simp
        try simp only [Act.put, List.setIfInBounds_toArray, List.set_cons_zero, List.set_cons_succ]
        refine wpAnyH_takeD (i := 20) (some 117) (v := .pointer (some ⟨T.r, 0, none⟩)) rfl rfl (by kernel_rfl) (by kernel_rfl) (by kernel_rfl) (fun _ _ _ h => h) (Or.inl ⟨by rfl, fun W' hW => ?_⟩) hS' ?_
        · obtain ⟨y0, y1, y2, y3, y4, y5, y6, y7⟩ := hW; go_simp
        try simp only [Act.put, List.setIfInBounds_toArray, List.set_cons_zero, List.set_cons_succ]
        refine wpAnyH_takeD (i := 21) (some 118) (v := .pointer (some ⟨T.r, 15, none⟩)) rfl rfl (by kernel_rfl) (by kernel_rfl) (by kernel_rfl) (fun _ _ _ h => h) (Or.inl ⟨by rfl, fun W' hW => ?_⟩) hS' ?_
        · obtain ⟨y0, y1, y2, y3, y4, y5, y6, y7⟩ := hW; go_simp
        try simp only [Act.put, List.setIfInBounds_toArray, List.set_cons_zero, List.set_cons_succ]
        refine wpAnyH_takeD (i := 22) (some 119) (v := .bool dn) rfl rfl (by kernel_rfl) (by kernel_rfl) (by kernel_rfl) (fun _ _ _ h => h) (Or.inl ⟨by rfl, fun W' hW => ?_⟩) hS' ?_
        · obtain ⟨y0, y1, y2, y3, y4, y5, y6, y7⟩ := hW; go_simp
        try simp only [Act.put, List.setIfInBounds_toArray, List.set_cons_zero, List.set_cons_succ]
        refine wpAnyH_takeD (i := 23) (some 120) (v := .bool false) rfl rfl (by kernel_rfl) (by kernel_rfl) (by kernel_rfl) (fun _ _ _ h => h) (Or.inl ⟨by rfl, fun W' hW => ?_⟩) hS' ?_
        · obtain ⟨y0, y1, y2, y3, y4, y5, y6, y7⟩ := hW; go_simp
        try simp only [Act.put, List.setIfInBounds_toArray, List.set_cons_zero, List.set_cons_succ]
        refine wpAnyH_takeD (i := 24) (some 121) (v := .bool false) rfl rfl (by kernel_rfl) (by kernel_rfl) (by kernel_rfl) (fun _ _ _ h => h) (Or.inl ⟨by rfl, fun W' hW => ?_⟩) hS' ?_
        · obtain ⟨y0, y1, y2, y3, y4, y5, y6, y7⟩ := hW; go_simp
        try simp only [Act.put, List.setIfInBounds_toArray, List.set_cons_zero, List.set_cons_succ]
        refine wpAnyH_takeD (i := 25) (some 122) (v := .bool false) rfl rfl (by kernel_rfl) (by kernel_rfl) (by kernel_rfl) (fun _ _ _ h => h) (Or.inl ⟨by rfl, fun W' hW => ?_⟩) hS' ?_
        · obtain ⟨y0, y1, y2, y3, y4, y5, y6, y7⟩ := hW; go_simp
        try simp only [Act.put, List.setIfInBounds_toArray, List.set_cons_zero, List.set_cons_succ]
        refine wpAnyH_takeD (i := 26) (some 123) (v := .int .i64 gn) rfl rfl (by kernel_rfl) (by kernel_rfl) (by kernel_rfl) (fun _ _ _ h => h) (Or.inl ⟨by rfl, fun W' hW => ?_⟩) hS' ?_
        · obtain ⟨y0, y1, y2, y3, y4, y5, y6, y7⟩ := hW; go_simp
        try simp only [Act.put, List.setIfInBounds_toArray, List.set_cons_zero, List.set_cons_succ]
        refine wpAnyH_takeD (i := 27) (some 124) (v := .slice (some ⟨ob, 0, none⟩) n n) rfl rfl (by kernel_rfl) (by kernel_rfl) (by kernel_rfl) (fun _ _ _ h => h) (Or.inl ⟨by rfl, fun W' hW => ?_⟩) hS' ?_
        · obtain ⟨y0, y1, y2, y3, y4, y5, y6, y7⟩ := hW; go_simp
        try simp only [Act.put, List.setIfInBounds_toArray, List.set_cons_zero, List.set_cons_succ]
        refine wpAnyH_takeD (i := 28) (some 125) (v := .int .i64 (t : Int)) rfl rfl (by kernel_rfl) (by kernel_rfl) (by kernel_rfl) (fun _ _ _ h => h) (Or.inl ⟨by rfl, fun W' hW => ?_⟩) hS' ?_
        · obtain ⟨y0, y1, y2, y3, y4, y5, y6, y7⟩ := hW; go_simp
        try simp only [Act.put, List.setIfInBounds_toArray, List.set_cons_zero, List.set_cons_succ]
        refine wpAnyH_takeD (i := 29) (some 126) (v := .pointer (some ⟨ob, t, none⟩)) rfl rfl (by kernel_rfl) (by kernel_rfl) (by kernel_rfl) (fun _ _ _ h => h) (Or.inl ⟨by rfl, fun W' hW => ?_⟩) hS' ?_
        · obtain ⟨y0, y1, y2, y3, y4, y5, y6, y7⟩ := hW; go_simp
        try simp only [Act.put, List.setIfInBounds_toArray, List.set_cons_zero, List.set_cons_succ]
        refine wpAnyH_takeD (i := 30) (some 127) (v := .pointer (some ⟨T.μ, 0, none⟩)) rfl rfl (by kernel_rfl) (by kernel_rfl) (by kernel_rfl) (fun _ _ _ h => h) (Or.inl ⟨by rfl, fun W' hW => ?_⟩) hS' ?_
        · obtain ⟨y0, y1, y2, y3, y4, y5, y6, y7⟩ := hW; go_simp
        try simp only [Act.put, List.setIfInBounds_toArray, List.set_cons_zero, List.set_cons_succ]
        refine wpAnyH_takeD (i := 31) (some 128) (v := .pointer (some ⟨T.μ, 0, none⟩)) rfl rfl (by kernel_rfl) (by kernel_rfl) (by kernel_rfl) (fun _ _ _ h => h) (Or.inl ⟨by rfl, fun W' hW => ?_⟩) hS' ?_
        · obtain ⟨y0, y1, y2, y3, y4, y5, y6, y7⟩ := hW; go_simp
        try simp only [Act.put, List.setIfInBounds_toArray, List.set_cons_zero, List.set_cons_succ]
        refine wpAnyH_takeD (i := 32) (some 129) (v := .pointer (some ⟨T.μ, 4, none⟩)) rfl rfl (by kernel_rfl) (by kernel_rfl) (by kernel_rfl) (fun _ _ _ h => h) (Or.inl ⟨by rfl, fun W' hW => ?_⟩) hS' ?_
        · obtain ⟨y0, y1, y2, y3, y4, y5, y6, y7⟩ := hW; go_simp
        try simp only [Act.put, List.setIfInBounds_toArray, List.set_cons_zero, List.set_cons_succ]
        refine wpAnyH_takeD (i := 33) (some 130) (v := .pointer (some ⟨T.r, 0, none⟩)) rfl rfl (by kernel_rfl) (by kernel_rfl) (by kernel_rfl) (fun _ _ _ h => h) (Or.inl ⟨by rfl, fun W' hW => ?_⟩) hS' ?_
        · obtain ⟨y0, y1, y2, y3, y4, y5, y6, y7⟩ := hW; go_simp
        try simp only [Act.put, List.setIfInBounds_toArray, List.set_cons_zero, List.set_cons_succ]
        refine wpAnyH_takeD (i := 34) (some 131) (v := .pointer (some ⟨T.r, 0, none⟩)) rfl rfl (by kernel_rfl) (by kernel_rfl) (by kernel_rfl) (fun _ _ _ h => h) (Or.inl ⟨by rfl, fun W' hW => ?_⟩) hS' ?_
        · obtain ⟨y0, y1, y2, y3, y4, y5, y6, y7⟩ := hW; go_simp
        try simp only [Act.put, List.setIfInBounds_toArray, List.set_cons_zero, List.set_cons_succ]
        refine wpAnyH_takeD (i := 35) (some 132) (v := .pointer (some ⟨T.r, 26, none⟩)) rfl rfl (by kernel_rfl) (by kernel_rfl) (by kernel_rfl) (fun _ _ _ h => h) (Or.inl ⟨by rfl, fun W' hW => ?_⟩) hS' ?_
        · obtain ⟨y0, y1, y2, y3, y4, y5, y6, y7⟩ := hW; go_simp
        try simp only [Act.put, List.setIfInBounds_toArray, List.set_cons_zero, List.set_cons_succ]
        refine wpAnyH_takeD (i := 36) (some 133) (v := .int .i64 gn) rfl rfl (by kernel_rfl) (by kernel_rfl) (by kernel_rfl) (fun _ _ _ h => h) (Or.inl ⟨by rfl, fun W' hW => ?_⟩) hS' ?_
        · obtain ⟨y0, y1, y2, y3, y4, y5, y6, y7⟩ := hW; go_simp
        try simp only [Act.put, List.setIfInBounds_toArray, List.set_cons_zero, List.set_cons_succ]
        refine wpAnyH_takeD (i := 37) (some 134) (v := .bool false) rfl rfl (by kernel_rfl) (by kernel_rfl) (by kernel_rfl) (fun _ _ _ h => h) (Or.inl ⟨by rfl, fun W' hW => ?_⟩) hS' ?_
        · obtain ⟨y0, y1, y2, y3, y4, y5, y6, y7⟩ := hW; go_simp
        try simp only [Act.put, List.setIfInBounds_toArray, List.set_cons_zero, List.set_cons_succ]
        refine wpAnyH_takeD (i := 38) (some 135) (v := .bool false) rfl rfl (by kernel_rfl) (by kernel_rfl) (by kernel_rfl) (fun _ _ _ h => h) (Or.inl ⟨by rfl, fun W' hW => ?_⟩) hS' ?_
        · obtain ⟨y0, y1, y2, y3, y4, y5, y6, y7⟩ := hW; go_simp
        try simp only [Act.put, List.setIfInBounds_toArray, List.set_cons_zero, List.set_cons_succ]
        refine wpAnyH_done (by kernel_rfl) ?_ _
        go_wp2_with fail
        go_meet
        exact ⟨rfl, hL7⟩
      case rest =>
      obtain ⟨rfl, hL8⟩ := hcut
      obtain ⟨T', hμ', hL9⟩ := hL8.out
      have hC : (2 * (i : Int) + 1 + 1) = 2 * ((i + 1 : Nat) : Int) := by omega
      cases dn
      · have hF : Hid (Loop20 wA w1 a s g b s' g' P n rs rs' ob (i + 1) wc) := Lib.hid (by
          have h := hL9
          rw [hC] at h
          refine ⟨updT th2 t (some T'), ?_⟩
          have e : (fun j => thV (th2 j)) = fun j => thV (updT th2 t (some T') j) := by
            funext j
            by_cases hj : j = t
            · subst hj
              rw [updT_at, HT.out]
              simp [thV, hμ']
            · rw [updT_ne _ _ hj]
          rw [← e]
          exact h)
        clear hL9 hL8 hC hμ'
        go_wp2_with fail
        go_roundg (400 - (i + 1))
        case measure => omega
        case rel => exact ⟨i + 1, by go_num, by omega, Nat.le_refl _, hF⟩
      · have hF : Hid (Loop20 wA w1 a s g b s' g' P n rs rs' ob (i + 1) (wc.setCell ⟨ob, t, none⟩ (.pointer none))) := Lib.hid (by
          have h := hL9.set t (.pointer none) none (fun _ e => by cases e)
          rw [hC] at h
          refine ⟨updT th2 t none, ?_⟩
          have e : updT (fun j => thV (th2 j)) t (.pointer none) = fun j => thV (updT th2 t none j) := by
            funext j
            by_cases hj : j = t
            · subst hj
              rw [updT_at, updT_at]; rfl
            · rw [updT_ne _ _ hj, updT_ne _ _ hj]
          rw [← e]
          have e2 : updT (updT th2 t none) t none = updT th2 t none := by
            funext j
            by_cases hj : j = t
            · subst hj; rw [updT_at, updT_at]
            · rw [updT_ne _ _ hj]
          rw [← e2]
          exact h)
        have c1 : wc.cell? ⟨ob, t, none⟩ = some (thV (th2 t)) := (cellOf hL9.row t).trans (row_get _ ht)
        have f1 : wc.frozen? ⟨ob, t, none⟩ = false := freeOf hL9.row t
        clear hL9 hL8 hC hμ'
        go_wp2_with fail
        go_roundg (400 - (i + 1))
        case measure => omega
        case rel => exact ⟨i + 1, by go_num, by omega, Nat.le_refl _, hF⟩
    · have HS := Lib.hid hL.out.same
      have hend : ∀ w', Below wA.heap.size wA w' → Below w.heap.size w w' := fun w' h => HB0.out.trans (h.mono HB0.out.size)
      have Hend := Lib.hid hend
      clear hend
      by_cases hlt : i < kl
      · have h4 : ¬ (i : Int) < 400 := by omega
        have hlt' : (i : Int) < kl := by omega
        clear hgo hlt
        go_wp2_with (first
          | (go_at_call 16; refine HS.out.mono ?_; rintro e w5 ⟨rfl, hB5⟩)
          | (go_at_call 17; refine (awake20_any w5).mono ?_; rintro e w6 ⟨rfl, hB6⟩))
        go_ret
        exact ⟨rfl, Hend.out _ (hB5.trans (hB6.mono hB5.size))⟩
      · have hlt' : ¬ (i : Int) < kl := by omega
        clear hgo hlt
        go_wp2_with (first
          | (go_at_call 16; refine HS.out.mono ?_; rintro e w5 ⟨rfl, hB5⟩)
          | (go_at_call 17; refine (awake20_any w5).mono ?_; rintro e w6 ⟨rfl, hB6⟩))
        go_ret
        exact ⟨rfl, Hend.out _ (hB5.trans (hB6.mono hB5.size))⟩
end Go.Proofs.YtffafkmmfaaobaaGreat
