/- The tree's methods: the walk of Drop. -/
import Derived.Test.YtdeebagjmhpocaaT6
import Derived.LaidEqlPtr
namespace Go.Proofs.Ytdeebagjmhpocaa
set_option linter.unusedSimpArgs false
set_option linter.unusedVariables false
open Go.RowKit

def DropPost (p : Nat) (k : Int) (t : T) (y : Nd) (w : World) (e : Ending) (w' : World) : Prop :=
  e = .returned (.tuple #[.agg #[.int .i64 y.pg, .int .i64 y.ln], .bool true]) ∧ TreapAt w' p (dropT k t) ∧ Kept (fun i => i = p ∨ i ∈ t.blocks) w w'

theorem seek_in {k : Int} {w : World} : ∀ {t : T}, t.In w → (t.seek k).In w
  | .nil, h => h
  | .node b x l r, h => by
    unfold T.seek
    split
    · exact h
    · split
      · exact seek_in h.2.1
      · exact seek_in h.2.2
theorem seek_nodup {k : Int} : ∀ {t : T}, t.blocks.Nodup → (t.seek k).blocks.Nodup
  | .nil, h => h
  | .node b x l r, h => by
    obtain ⟨h1, h2, h3, h4, h5⟩ := nodup_node h
    unfold T.seek
    split
    · exact h
    · split
      · exact seek_nodup h3
      · exact seek_nodup h4
theorem seek_key {k : Int} {c : Nat} {y : Nd} {l r : T} : ∀ {t : T}, t.seek k = .node c y l r → y.key = k
  | .nil, h => by simp [T.seek] at h
  | .node b x l' r', h => by
    unfold T.seek at h
    split at h
    · rename_i he; cases h; exact he
    · split at h
      · exact seek_key h
      · exact seek_key h

theorem Try.info113' : (Try.prog.info? 113).map (fun i => i.size) = some 6 := by kernel_rfl
theorem info_size {P : Program} {e : TypeId} {n : Nat} (h : (P.info? e).map (fun i => i.size) = some n) : ∃ i, P.info? e = some i ∧ i.size = n := by
  cases hi : P.info? e with
  | none => simp [hi] at h
  | some i => exact ⟨i, rfl, by simpa [hi] using h⟩
theorem neq_same (a : Addr) (w : World) : (binOp .neq 108 (.pointer (some a)) (.pointer (some a))).run Try.prog w = .ok (.bool false) w := by
  obtain ⟨j, hj, _⟩ := info_size Try.info113'
  have h : ∀ d : Nat, (Op.equalIn (d + 1) 108 (.pointer (some a)) (.pointer (some a))).run Try.prog w = .ok true w := fun d => by
    simp [Op.equalIn, run_underlying Try.underlying108, sizeOf, typeInfo, hj, run_sameAddr_same]
  simp only [binOp]
  simp [Op.equal, Op.maxDepth, h 9999]
theorem neq_other {w : World} {a b : Nat} {ca cb : Array Value} {ta tb : TypeId} (hne : a ≠ b) (ha : w.heap[a]? = some (.cells ca ta (0, 0))) (hb : w.heap[b]? = some (.cells cb tb (0, 0))) :
    (binOp .neq 108 (.pointer (some ⟨a, 0, none⟩)) (.pointer (some ⟨b, 0, none⟩))).run Try.prog w = .ok (.bool true) w := by
  obtain ⟨j, hj, hs⟩ := info_size Try.info113'
  have h : ∀ d : Nat, (Op.equalIn (d + 1) 108 (.pointer (some ⟨a, 0, none⟩)) (.pointer (some ⟨b, 0, none⟩))).run Try.prog w = .ok false w := fun d => by
    simp [Op.equalIn, run_underlying Try.underlying108, sizeOf, typeInfo, hj, hs, run_sameAddr_other w (a := ⟨a, 0, none⟩) (b := ⟨b, 0, none⟩) (by simp [hne]) ha hb]
  simp only [binOp]
  simp [Op.equal, Op.maxDepth, h 9999]

set_option maxRecDepth 100000 in
set_option maxHeartbeats 1600000 in
theorem drop_any (p : Nat) (k : Int) (t : T) (w : World) (h : TreapAt w p t) (c : Nat) (y : Nd) (l r : T) (hs : t.seek k = .node c y l r) :
    Calls Try.prog 71 #[.pointer (some ⟨p, 0, none⟩), .int .i64 k] w (DropPost p k t y w) := by
  obtain ⟨m, hp, ht, hnd⟩ := h
  have hpn : p ∉ t.blocks := (List.nodup_cons.1 hnd).1
  have htn : t.blocks.Nodup := (List.nodup_cons.1 hnd).2
  have hplt := lt_of_block hp
  have hd1 : ∀ k ∈ t.blocks, k < w.heap.size := ht.lt
  have hsi := seek_in (k := k) ht
  have hsn := seek_nodup (k := k) htn
  have hsm : ∀ b, b ∈ (t.seek k).blocks → b ∈ t.blocks := fun b h => seek_mem h
  rw [hs] at hsi hsn hsm
  obtain ⟨hc0, hl0, hr0⟩ := hsi
  have hclt := lt_of_block hc0
  have F1 := Lib.hid (fun o : Obj => find_any k p t m (w.alloc o) (block_alloc hp o) (ht.alloc o))
  have Hs := Lib.hid hs
  have Hd := Lib.hid (And.intro hp (And.intro ht (And.intro hc0 (And.intro hl0 (And.intro hr0 (And.intro hsn hsm))))))
  clear hp ht hnd hs hc0 hl0 hr0 hsn hsm
  go_enter Try.func71, Try.ntmps71
  go_wp2_with fail
  refine (F1.out _).mono ?_
  rintro e w1 ⟨rfl, rfl⟩
  rw [Hs.out, T.ptr_node]
  go_wp2
  go_loopg [7] t.high (fun n v wr => w.alloc (Obj.cells #[Value.int IntKind.i64 0, Value.int IntKind.i64 0] 77) = wr ∧ ∃ (s : T) (q : Nat × Nat) (cs : Array Value) (ty : TypeId), v = .pointer (some ⟨q.1, q.2, none⟩) ∧
      s.high ≤ n ∧ w.heap[q.1]? = some (.cells cs ty (0, 0)) ∧ cs[q.2]? = some s.ptr ∧ s.In w ∧ s.seek k = t.seek k ∧ hole k s q = hole k t (p, 0) ∧ q.1 ∉ s.blocks ∧ s.blocks.Nodup)
  case atStart => exact ⟨rfl, t, (p, 0), _, _, rfl, Nat.le_refl _, Hd.out.1, rfl, Hd.out.2.1, rfl, rfl, hpn, htn⟩
  case round =>
    obtain ⟨rfl, s, ⟨q1, q2⟩, cs, ty, rfl, hn, hq, hcs, hsin, hk, hh, hqn, hsnd⟩ := hrel
    dsimp only at hq hcs hqn hh ⊢
    have hqc : w.cell? ⟨q1, q2, none⟩ = some s.ptr := (cellOf hq q2).trans hcs
    cases s with
    | nil => exfalso; rw [Hs.out] at hk; simp [T.seek] at hk
    | node b x l' r' =>
      have b0 : w.cell? ⟨b, 0, none⟩ = some (.int .i64 x.key) := cellOf hsin.1 0
      rw [T.ptr_node] at hqc
      by_cases he : x.key = k
      · have e1 : T.node b x l' r' = .node c y l r := by rw [← Hs.out, ← hk, T.seek, if_pos he]
        injection e1 with e1 e2 e3 e4
        subst e1 e2 e3 e4
        rw [hole_root _ he] at hh
        obtain ⟨hp, ht, hc0, hl0, hr0, hsn, hsm⟩ := Hd.out
        obtain ⟨nbl, nbr, ndl, ndr, nlr⟩ := nodup_node hsn
        have ne := neq_same ⟨b, 0, none⟩ (w.alloc (Obj.cells #[Value.int IntKind.i64 0, Value.int IntKind.i64 0] 77))
        have b4 : w.cell? ⟨b, 4, none⟩ = some l'.ptr := cellOf hc0 4
        have b5 : w.cell? ⟨b, 5, none⟩ = some r'.ptr := cellOf hc0 5
        have hqb : q1 ≠ b := fun e => hqn (by simp [T.blocks, e])
        have hbq : b ≠ q1 := fun e => hqb e.symm
        have F2 := Lib.hid (join_any l' r' (w.alloc (Obj.cells #[Value.int IntKind.i64 0, Value.int IntKind.i64 0] 77)).drew ((hl0.alloc _).drewN 1) ((hr0.alloc _).drewN 1) ndl ndr nlr)
        have hlr : ∀ i, (i ∈ l'.blocks ∨ i ∈ r'.blocks) → i ∈ (T.node b x l' r').blocks := fun i h => h.elim (fun h => by simp [T.blocks, h]) (fun h => by simp [T.blocks, h])
        have G := Lib.hid (And.intro he (And.intro hh (And.intro hk (And.intro hq (And.intro hcs (And.intro hqn hlr))))))
        have hq1lt := lt_of_block hq
        obtain ⟨uJ, huJ⟩ := T.ptr_pointer (joinT l' r')
        have HuJ := Lib.hid huJ
        clear he hh hk hn hqn hsin hsnd b0 hq hcs hp ht hl0 hr0 hsn hsm nbl nbr ndl ndr nlr hlr huJ
        have Hc0 := Lib.hid hc0
        clear hc0
        go_wp2
        go_region_held3 (fun W => W.cell? ⟨b, 4, none⟩ = some l'.ptr ∧ W.cell? ⟨b, 5, none⟩ = some r'.ptr)
          (first
            | go_keep
            | (refine ⟨?_, ?_⟩
               · exact (cellOf (hk2.at (block_alloc Hc0.out _) (fun h => h.elim (nodup_node Hd.out.2.2.2.2.2.1).1 (nodup_node Hd.out.2.2.2.2.2.1).2.1)) 4)
               · exact (cellOf (hk2.at (block_alloc Hc0.out _) (fun h => h.elim (nodup_node Hd.out.2.2.2.2.2.1).1 (nodup_node Hd.out.2.2.2.2.2.1).2.1)) 5)))
          (first
            | (go_at_call 82
               refine F2.out.mono ?_
               rintro e w2 ⟨rfl, j2, hk2, hz2⟩
               have hq2 : w2.heap[q1]? = some (.cells cs ty (0, 0)) := hk2.at (block_alloc G.out.2.2.2.1 _) (fun h => G.out.2.2.2.2.2.1 (G.out.2.2.2.2.2.2 _ h))
               have hc2 : w2.cell? ⟨q1, q2, none⟩ = some (.pointer (some ⟨b, 0, none⟩)) := (cellOf hq2 q2).trans G.out.2.2.2.2.1
               have hf2 : w2.frozen? ⟨q1, q2, none⟩ = false := freeOf hq2 q2
               rw [HuJ.out]))
        obtain ⟨he, hh, hk, hq, hcs, hqn, hlr⟩ := G.out
        obtain ⟨hp, ht, hc0, hl0, hr0, hsn, hsm⟩ := Hd.out
        have hk2' : Kept (fun i => i ∈ l'.blocks ∨ i ∈ r'.blocks) (w.alloc (Obj.cells #[Value.int IntKind.i64 0, Value.int IntKind.i64 0] 77)) w2 := ⟨hk2.os, hk2.tape, hk2.output, hk2.size, hk2.block⟩
        have hkw : Kept (fun i => i = p ∨ i ∈ t.blocks) w w2 := ((Kept.refl _ w).alloc (Obj.cells #[Value.int IntKind.i64 0, Value.int IntKind.i64 0] 77)).trans hk2' (fun i h => .inl (.inr (hsm i (hlr i h))))
        have hqt : q1 = p ∧ q2 = 0 ∨ q1 ∈ t.blocks := by
          rcases hole_mem k t (p, 0) with h | h
          · rw [h] at hh; exact .inl ⟨congrArg Prod.fst hh, congrArg Prod.snd hh⟩
          · rw [← hh] at h; exact .inr h
        have hz2' : w2.heap.size = w.heap.size + 1 := by simpa using hz2
        have hres : w2.heap[w.heap.size]? = some (.cells #[.int .i64 0, .int .i64 0] 77 (0, 0)) := hk2'.at (heap_alloc_new w _) (fun h => by have := hd1 _ (hsm _ (hlr _ h)); omega)
        have hb2 : w2.heap[b]? = some (.cells (x.cells l'.ptr r'.ptr) 113 (0, 0)) := hk2'.at (block_alloc hc0 _) (fun h => h.elim (nodup_node hsn).1 (nodup_node hsn).2.1)
        have D := drop_in (w := w) (w' := w2.setCell ⟨q1, q2, none⟩ (.pointer uJ)) (J := joinT l' r') t (p, 0) ht htn hpn
          (fun c y l r h => by rw [Hs.out] at h; injection h with h1 h2 h3 h4; rw [h3, h4])
          (by rw [Hs.out]; simp)
          (j2.set _ (fun h => hqn (hlr _ (join_mem h))))
          (fun i hi hi2 hi3 => by
            rw [Hs.out] at hi2
            rw [← hh] at hi3
            rw [Below.heap_setCell w2 ⟨q1, q2, none⟩ _ i hi3, hk2'.block i (by have := hd1 i hi; simp; omega) (fun h => hi2 (hlr i h)), Below.heap_alloc w _ i (hd1 i hi)])
          (fun cs' ty' fr' hb => by
            rw [← hh] at hb ⊢
            rw [hq] at hb; cases hb
            rw [HuJ.out]; exact block_set hq2 q2 _)
        have hp3 : (w2.setCell ⟨q1, q2, none⟩ (.pointer uJ)).heap[p]? = some (.cells (treapCells (dropT k t) m) 110 (0, 0)) := by
          rcases hqt with ⟨rfl, rfl⟩ | h
          · rw [hp] at hq; cases hq
            rw [block_set hq2 0 _, ← HuJ.out, ← D.2.1 hh.symm]; rfl
          · have hne : q1 ≠ p := fun e => hpn (e ▸ h)
            have hp2 : w2.heap[p]? = some (.cells (treapCells t m) 110 (0, 0)) := hk2'.at (block_alloc hp _) (fun h => hpn (hsm _ (hlr _ h)))
            rw [block_set_other hp2 ⟨q1, q2, none⟩ _ (fun e => hne e.symm)]
            have := D.2.2 (fun e => hne (by rw [← hh] at e; exact congrArg Prod.fst e))
            simp only [treapCells, this]
        have hK := (hkw.setCell (p := ⟨q1, q2, none⟩) (.inl (hqt.elim (fun h => .inl h.1) .inr)) (.pointer uJ))
        have hresn : w.heap.size ≠ q1 := fun e => by omega
        have hres3 := block_set_other hres ⟨q1, q2, none⟩ (.pointer uJ) hresn
        have hb3 := block_set_other hb2 ⟨q1, q2, none⟩ (.pointer uJ) hbq
        have D1 := D.1
        generalize w2.setCell ⟨q1, q2, none⟩ (.pointer uJ) = W at *
        have hpb : b ≠ p := fun e => hpn (e ▸ hsm b (by simp [T.blocks]))
        have hpb' : p ≠ b := fun e => hpb e.symm
        have e1 : W.cell? ⟨p, 1, none⟩ = some (.int .i64 m) := cellOf hp3 1
        have f1 : W.frozen? ⟨p, 1, none⟩ = false := freeOf hp3 1
        have e2 : W.cell? ⟨b, 2, none⟩ = some (.int .i64 x.pg) := cellOf hb3 2
        have e3 : W.cell? ⟨b, 3, none⟩ = some (.int .i64 x.ln) := cellOf hb3 3
        have r0 : W.cell? ⟨w.heap.size, 0, none⟩ = some (.int .i64 0) := cellOf hres3 0
        have r1 : W.cell? ⟨w.heap.size, 1, none⟩ = some (.int .i64 0) := cellOf hres3 1
        have g0 : W.frozen? ⟨w.heap.size, 0, none⟩ = false := freeOf hres3 0
        have g1 : W.frozen? ⟨w.heap.size, 1, none⟩ = false := freeOf hres3 1
        have hpr : p ≠ w.heap.size := by omega
        have hpr' : w.heap.size ≠ p := by omega
        have Z := Lib.hid (And.intro hp3 (And.intro D1 (And.intro hK hres3)))
        clear D D1 hp3 hK hres3 hb3 hb2 hres hkw hk2 hk2' j2 hz2 hz2' hq2 hc2 hf2 hqt he hh hk hq hcs hqn hlr hp ht hc0 hl0 hr0 hsn hsm b4 b5 hqb hbq hqc ne hresn
        go_wp2
        obtain ⟨hp3, D1, hK, hres3⟩ := Z.out
        have E1 : (((W.setCell ⟨p, 1, none⟩ (.int .i64 (wrap64 (m - 1)))).setCell ⟨w.heap.size, 0, none⟩ (.int .i64 x.pg)).setCell ⟨w.heap.size, 1, none⟩ (.int .i64 x.ln)).heap[w.heap.size]? = some (.cells #[.int .i64 x.pg, .int .i64 x.ln] 77 (0, 0)) := by
          rw [block_set (block_set (block_set_other hres3 ⟨p, 1, none⟩ _ hpr') 0 _) 1 _]; rfl
        have E2 : TreapAt (((W.setCell ⟨p, 1, none⟩ (.int .i64 (wrap64 (m - 1)))).setCell ⟨w.heap.size, 0, none⟩ (.int .i64 x.pg)).setCell ⟨w.heap.size, 1, none⟩ (.int .i64 x.ln)) p (dropT k t) := by
          refine ⟨wrap64 (m - 1), ?_, ((D1.set _ (fun h => hpn (drop_mem h))).set _ (fun h => by have := hd1 _ (drop_mem h); simp at this)).set _ (fun h => by have := hd1 _ (drop_mem h); simp at this), List.nodup_cons.2 ⟨fun h => hpn (drop_mem h), drop_nodup htn⟩⟩
          rw [block_set_other (block_set_other (block_set hp3 1 _) ⟨w.heap.size, 0, none⟩ _ hpr) ⟨w.heap.size, 1, none⟩ _ hpr]; rfl
        have E3 : Kept (fun i => i = p ∨ i ∈ t.blocks) w (((W.setCell ⟨p, 1, none⟩ (.int .i64 (wrap64 (m - 1)))).setCell ⟨w.heap.size, 0, none⟩ (.int .i64 x.pg)).setCell ⟨w.heap.size, 1, none⟩ (.int .i64 x.ln)) :=
          ((hK.setCell (.inl (.inl rfl)) _).setCell (.inr (Nat.le_refl _)) _).setCell (.inr (Nat.le_refl _)) _
        generalize (((W.setCell ⟨p, 1, none⟩ (.int .i64 (wrap64 (m - 1)))).setCell ⟨w.heap.size, 0, none⟩ (.int .i64 x.pg)).setCell ⟨w.heap.size, 1, none⟩ (.int .i64 x.ln)) = WF at *
        have c0 := cellOf E1 0
        have c1 := cellOf E1 1
        refine bodyPost_ret (v := .tuple #[.agg #[.int .i64 x.pg, .int .i64 x.ln], .bool true]) (by simp [results, Try.results71, go_sem, c0, c1]) rfl ⟨rfl, E2, E3⟩
      · have hcne : b ≠ c := by
          intro e
          subst e
          have h1 : (T.node b x l' r').seek k = .node b y l r := hk.trans Hs.out
          obtain ⟨n1, n2, n3, n4, n5⟩ := nodup_node hsnd
          rw [T.seek, if_neg he] at h1
          split at h1
          · exact n1 (seek_mem (k := k) (by rw [h1]; simp [T.blocks]))
          · exact n2 (seek_mem (k := k) (by rw [h1]; simp [T.blocks]))
        have ne := neq_other (w := w.alloc (Obj.cells #[Value.int IntKind.i64 0, Value.int IntKind.i64 0] 77)) hcne (block_alloc hsin.1 _) (block_alloc Hd.out.2.2.1 _)
        obtain ⟨n1, n2, n3, n4, n5⟩ := nodup_node hsnd
        by_cases hl : k < x.key
        · have G := Lib.hid (show l'.seek k = t.seek k ∧ hole k l' (b, 4) = hole k t (p, 0) from ⟨by rw [← hk, T.seek, if_neg he, if_pos hl], by rw [← hh, hole_less _ he hl]⟩)
          have Hn := Lib.hid hn
          have Hi := Lib.hid hsin
          have hq1lt := lt_of_block hq
          have hblt := lt_of_block hsin.1
          clear he hh hk hn hqn hsin hsnd hq hcs
          go_wp2
          go_roundg l'.high
          case measure => have := Hn.out; simp only [T.high] at this; omega
          case rel => exact ⟨rfl, l', (b, 4), _, _, rfl, Nat.le_refl _, Hi.out.1, rfl, Hi.out.2.1, G.out.1, G.out.2, n1, n3⟩
        · have G := Lib.hid (show r'.seek k = t.seek k ∧ hole k r' (b, 5) = hole k t (p, 0) from ⟨by rw [← hk, T.seek, if_neg he, if_neg hl], by rw [← hh, hole_more _ he hl]⟩)
          have Hn := Lib.hid hn
          have Hi := Lib.hid hsin
          have hq1lt := lt_of_block hq
          have hblt := lt_of_block hsin.1
          clear he hh hk hn hqn hsin hsnd hq hcs
          go_wp2
          go_roundg r'.high
          case measure => have := Hn.out; simp only [T.high] at this; omega
          case rel => exact ⟨rfl, r', (b, 5), _, _, rfl, Nat.le_refl _, Hi.out.1, rfl, Hi.out.2.2, G.out.1, G.out.2, n2, n4⟩

end Go.Proofs.Ytdeebagjmhpocaa
