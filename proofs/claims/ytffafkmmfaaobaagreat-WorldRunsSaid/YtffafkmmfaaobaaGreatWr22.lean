/- Layer 20: a step of a thread, on both sides. -/
import Derived.Test.YtffafkmmfaaobaaGreatWr21
import Derived.Test.YtffafkmmfaaobaaGreatWr14
namespace Go.Proofs.YtffafkmmfaaobaaGreat
set_option linter.unusedSimpArgs false
set_option linter.unusedVariables false
open Go.RowKit

theorem gens_zero {pt : WP} {u : Int} (h : (pt.step u).done = false) : pt.gens u 0 = 0 := by
  cases pt with
  | enter pt => cases pt <;> simp [WP.step, WP.done, EP.step, EP.isDone] at h <;> rfl
  | exit d => rfl
  | stop pt => cases pt <;> simp [WP.step, WP.done, SP.step, SP.isDone] at h <;> rfl
  | go d => rfl

section
variable {w : World} {p C : Int} {w0 w1 : World} {a s g b s' g' : Nat} {n N : Nat} {rs : RSt} {rs' : FSt} {ob : Nat} {rv : Nat → Value} {th : Nat → Option Th}

/-- Behind the reference's step. -/
def RefPost (w3 : World) (w0 w1 : World) (a s g b s' g' : Nat) (p : Int) (n : Nat) (rs : RSt) (rs' : FSt) (ob : Nat) (rv : Nat → Value) (th : Nat → Option Th) (N : Nat) (C : Int) (i : Nat) (T : Th) (d0 d1 d2 d3 : Int) (dn : Bool) (gn : Int) (e : Ending) (w : World) : Prop :=
  e = .returned (.agg #[.int .i64 d0, .int .i64 d1, .int .u64 d2, .int .u64 d3]) ∧ w.cell? ⟨T.r, 15, none⟩ = some (.bool dn) ∧ w.cell? ⟨T.r, 26, none⟩ = some (.int .i64 gn) ∧ w.cell? ⟨T.μ, 4, none⟩ = some (.pointer (some ⟨T.r, 0, none⟩)) ∧
    w.heap[ob]? = some (.cells ((List.range n).map rv).toArray 35 (0, 0)) ∧
    (∀ (k : Nat) (cs : Array Value), w3.heap[k]? = some (.cells cs 45 (0, 0)) → w.heap[k]? = some (.cells cs 45 (0, 0))) ∧
    ∃ T' : Th, T'.μ = T.μ ∧ Law20 w0 w1 a s g b s' g' p n rs rs' ob rv (updT th i (if dn then none else some T')) (N + 1) (C + 1) w

/-- Behind the program's. -/
def ProgPost (w : World) (w0 w1 : World) (a s g b s' g' : Nat) (p : Int) (n : Nat) (rs : RSt) (rs' : FSt) (ob : Nat) (rv : Nat → Value) (th : Nat → Option Th) (N : Nat) (C : Int) (i : Nat) (T : Th) (e : Ending) (w2 : World) : Prop :=
  ∃ (d0 d1 d2 d3 : Int) (dn : Bool) (gn : Int), e = .returned (.tuple #[.agg #[.int .i64 d0, .int .i64 d1, .int .u64 d2, .int .u64 d3], .bool dn, .int .i64 gn]) ∧ Below w0.heap.size w0 w2 ∧ w2.heap[ob]? = some (.cells ((List.range n).map rv).toArray 35 (0, 0)) ∧
    w2.cell? ⟨T.μ, 4, none⟩ = some (.pointer (some ⟨T.r, 0, none⟩)) ∧ T.μ < w2.heap.size ∧ Kept (fun k => SG s g k ∨ k = T.m) w w2 ∧
    ∀ w3, Below w2.heap.size w2 w3 → Calls Tryz.prog 15 #[.pointer (some ⟨T.r, 0, none⟩), .pointer (some ⟨b, 0, none⟩)] w3 (RefPost w3 w0 w1 a s g b s' g' p n rs rs' ob rv th N C i T d0 d1 d2 d3 dn gn)

theorem Law20.step (h : Law20 w0 w1 a s g b s' g' p n rs rs' ob rv th N C w) (i : Nat) (hi : i < n) (T : Th) (hTi : th i = some T) (hC : 0 ≤ C ∧ C < 900000) (hN : N < 10000) :
    Calls Tryz.prog 14 #[.pointer (some ⟨T.μ, 0, none⟩), .pointer (some ⟨a, 0, none⟩)] w (ProgPost w w0 w1 a s g b s' g' p n rs rs' ob rv th N C i T) := by
  have hTh := h.ths i T hi hTi
  obtain ⟨x, hx⟩ := WP.nx_of hTh.nd (i : Int)
  obtain ⟨ws, hw1, hw2, hTw⟩ := h.twin
  obtain ⟨k, xx, o, y, ct, hS, c1, c2⟩ := hTw.st
  obtain ⟨k', xx', o', y', ct', hS', c1', c2'⟩ := hTw.st'
  have hst := h.start
  have la : a < w1.heap.size := lt_of_block hst.ar.obj
  have ls : s < w1.heap.size := lt_of_block hst.ar.store.obj
  have lg : g < w1.heap.size := lt_of_block hst.ar.store.row
  have lb : b < w1.heap.size := lt_of_block hst.me.obj
  have ls' : s' < w1.heap.size := lt_of_block hst.me.store.obj
  have lg' : g' < w1.heap.size := lt_of_block hst.me.store.row
  have hss : s' ≠ s := type_ne' hS'.obj hS.obj (by decide)
  have hsg : s' ≠ g := type_ne' hS'.obj hS.row (by decide)
  have hgs : g' ≠ s := type_ne' hS'.row hS.obj (by decide)
  have hgg := hTw.gg
  have has : a ≠ s := type_ne' hTw.ar hS.obj (by decide)
  have hag : a ≠ g := type_ne' hTw.ar hS.row (by decide)
  have has' : a ≠ s' := type_ne' hTw.ar hS'.obj (by decide)
  have hag' : a ≠ g' := type_ne' hTw.ar hS'.row (by decide)
  have hbs : b ≠ s := type_ne' hTw.me hS.obj (by decide)
  have hbg : b ≠ g := type_ne' hTw.me hS.row (by decide)
  have hbs' : b ≠ s' := type_ne' hTw.me hS'.obj (by decide)
  have hbg' : b ≠ g' := type_ne' hTw.me hS'.row (by decide)
  obtain ⟨cm, tm, hcm, hszm, htm⟩ := hTh.pr.mach
  have lm := hTh.lm
  have lr := hTh.lr
  have lμ := hTh.lμ
  have lob := h.lob
  have hrm : T.r ≠ T.m := type_ne' hTh.rf.mach hcm (by rcases htm with rfl | rfl | rfl | rfl <;> decide)
  have hμm : T.μ ≠ T.m := type_ne' hTh.mu hcm (by rcases htm with rfl | rfl | rfl | rfl <;> decide)
  have hμr : T.μ ≠ T.r := type_ne' hTh.mu hTh.rf.mach (by decide)
  have hobm : ob ≠ T.m := type_ne' h.row hcm (by rcases htm with rfl | rfl | rfl | rfl <;> decide)
  have hobr : ob ≠ T.r := type_ne' h.row hTh.rf.mach (by decide)
  refine (do_any hTh.mu hTh.pr hx hTw.ar hS (by omega) ⟨c1, by omega⟩).mono ?_
  rintro e w2 ⟨rfl, K2, S2, P2⟩
  have F2 : ∀ q, w1.heap.size ≤ q → q ≠ T.m → ¬ (SG s g q ∨ q = T.m) := by
    rintro q hq hqm ((e | e) | e)
    · omega
    · omega
    · exact hqm e
  have hz1 := h.kept.size
  have hz2 := K2.size
  have hB2 : Below w0.heap.size w0 w2 := by
    refine h.below.trans (K2.below (by have := h.below.size; exact this) ?_)
    have l1 := hst.ls
    have l2 := hst.lg
    have l3 := hst.below.size
    rintro q ((e | e) | e) <;> omega
  have row2 := K2.at h.row (F2 _ lob hobm)
  have mu2 : MuAt w2 T.μ T.m T.r T.pt := K2.at hTh.mu (F2 _ lμ hμm)
  have mu4 : ∀ W, MuAt W T.μ T.m T.r T.pt → W.cell? ⟨T.μ, 4, none⟩ = some (.pointer (some ⟨T.r, 0, none⟩)) := by
    intro W hW
    have := cellOf hW 4
    rw [this]
    cases T.pt <;> rfl
  refine ⟨_, _, _, _, _, _, rfl, hB2, row2, mu4 _ mu2, lt_of_block mu2, K2, fun w3 hb3 => ?_⟩
  have K23 : Kept No w2 w3 := Kept.of_below_size hb3
  have K3 : Kept (fun k => SG s g k ∨ k = T.m) w w3 := K2.trans K23 (fun _ h => h.elim)
  have hF3s : ∀ {q}, q = s' ∨ q = g' → ¬ (SG s g q ∨ q = T.m) := by
    rintro q (rfl | rfl)
    · rintro ((e | e) | e)
      · exact hss e
      · exact hsg e
      · omega
    · rintro ((e | e) | e)
      · exact hgs e
      · exact hgg e.symm
      · omega
  have S3' := hS'.kept K3 (hF3s (.inl rfl)) (hF3s (.inr rfl))
  have b3 : MemAt w3 b p n s' (.pointer (some ⟨rs'.q, 0, none⟩)) := K3.at hTw.me (by rintro ((e | e) | e); exact hbs e; exact hbg e; omega)
  have R3 : RefM w3 T.r (wmc T.k p n i) w1.heap.size T.v T.xs := ⟨K3.at hTh.rf.mach (F2 _ lr hrm), hTh.rf.row.kept K3 (fun q cs hc ho => by
    refine F2 _ (hTh.rf.row.ty ho).1 (type_ne' hc hcm (by rcases htm with rfl | rfl | rfl | rfl <;> decide))), hTh.rf.live, hTh.rf.marks⟩
  have hmay := h.may
  have hg3 : T.v.log.ownBlock ≠ some g' := fun e => by have := (hTh.rf.row.ty e).1; omega
  refine (refstep_any hTh.hk (by obtain ⟨_, _, _, h4⟩ := hmay; omega) x R3 hTh.vd hx b3 S3' (by have := K3.size; omega) hg3 (by have := hTh.few; omega) (by omega) ⟨c1', by omega⟩).mono ?_
  rintro e w4 ⟨rfl, v', RM, hd', hP', hno, S4', K4⟩
  have F4 : ∀ q, q ≠ s' → q ≠ g' → q ≠ T.r → ¬ LogOwn w3 T.v.log q → ¬ (SG s' g' q ∨ q = T.r ∨ LogOwn w3 T.v.log q) := by
    rintro q q1 q2 q3 q4 ((e | e) | e | e)
    · exact q1 e
    · exact q2 e
    · exact q3 e
    · exact q4 e
  have noLog : ∀ {q : Nat} {cs : Array Value} {ty : TypeId}, w3.heap[q]? = some (.cells cs ty (0, 0)) → ty ≠ 33 → ¬ LogOwn w3 T.v.log q := by
    rintro q cs ty hc hty ⟨_, cs', hc', _⟩
    exact type_ne' hc hc' hty rfl
  have noLogLt : ∀ {q : Nat}, q < w1.heap.size → ¬ LogOwn w3 T.v.log q := fun hq ⟨ho, _⟩ => by have := (hTh.rf.row.ty ho).1; omega
  have S23 := S2.kept K23 (fun h => h) (fun h => h)
  have S4 : StoreIs 187 w4 s g _ _ _ _ _ _ := S23.kept K4 (F4 _ hss.symm hgs.symm (by omega) (noLogLt ls)) (F4 _ hsg.symm hgg (by omega) (noLogLt lg))
  have row3 := K23.at row2 (fun h => h)
  have row4 := K4.at row3 (F4 _ (by omega) (by omega) hobr (noLog row3 (by decide)))
  have mu3 : MuAt w3 T.μ T.m T.r T.pt := K23.at mu2 (fun h => h)
  have mu4' : MuAt w4 T.μ T.m T.r T.pt := K4.at mu3 (F4 _ (by omega) (by omega) hμr (noLog mu3 (by decide)))
  have hz3 := K3.size
  have hz4 := K4.size
  have big : ∀ q, (SG s' g' q ∨ q = T.r ∨ LogOwn w3 T.v.log q) → ∃ cs ty, w3.heap[q]? = some (.cells cs ty (0, 0)) ∧ cs.size ≠ 1 := by
    rintro q ((rfl | rfl) | rfl | ⟨_, cs, hc, hz⟩)
    · exact ⟨_, _, S3'.obj, by simp⟩
    · exact ⟨_, _, S3'.row, by simp; omega⟩
    · exact ⟨_, _, R3.mach, by simp⟩
    · exact ⟨_, _, hc, by omega⟩
  have big2 : ∀ q, (SG s g q ∨ q = T.m) → ∃ cs ty, w.heap[q]? = some (.cells cs ty (0, 0)) ∧ cs.size ≠ 1 := by
    rintro q ((rfl | rfl) | rfl)
    · exact ⟨_, _, hS.obj, by simp⟩
    · exact ⟨_, _, hS.row, by simp; omega⟩
    · exact ⟨_, _, hcm, hszm⟩
  -- the other threads
  have others : ∀ j U, j < n → j ≠ i → th j = some U → ThAt w4 w1.heap.size p n j (N + 1) U := by
    intro j U hj hji hU
    have hUh := h.ths j U hj hU
    obtain ⟨q1, q2, q3⟩ := h.sep j i U T hj hi hji hU hTi
    obtain ⟨cu, tu, hcu, _, htu⟩ := hUh.pr.mach
    have e1 : ThAt w3 w1.heap.size p n j N U := hUh.kept K3 (F2 _ hUh.lm q1) (F2 _ hUh.lr (type_ne' hUh.rf.mach hcm (by rcases htm with rfl | rfl | rfl | rfl <;> decide)))
      (F2 _ hUh.lμ (type_ne' hUh.mu hcm (by rcases htm with rfl | rfl | rfl | rfl <;> decide)))
      (fun q hq => by
        obtain ⟨hq1, cs, hc⟩ := hUh.rf.row.ty hq
        exact F2 _ hq1 (type_ne' hc hcm (by rcases htm with rfl | rfl | rfl | rfl <;> decide))) (Far.of big2)
    have hcu3 : w3.heap[U.m]? = some (.cells cu tu (0, 0)) := K3.at hcu (F2 _ hUh.lm q1)
    have g1 := hUh.lm
    have g2 := hUh.lr
    have g3 := hUh.lμ
    have e2 : ThAt w4 w1.heap.size p n j N U := e1.kept K4
      (F4 _ (by omega) (by omega) (type_ne' hcu3 R3.mach (by rcases htu with rfl | rfl | rfl | rfl <;> decide)) (noLog hcu3 (by rcases htu with rfl | rfl | rfl | rfl <;> decide)))
      (F4 _ (by omega) (by omega) q2 (noLog e1.rf.mach (by decide)))
      (F4 _ (by omega) (by omega) (type_ne' e1.mu R3.mach (by decide)) (noLog e1.mu (by decide)))
      (fun q hq => by
        obtain ⟨hq1, cs, hc⟩ := e1.rf.row.ty hq
        exact F4 _ (by omega) (by omega) (type_ne' hc R3.mach (by decide)) (fun ⟨ho, _⟩ => q3 q hq ho)) (Far.of big)
    exact { e2 with few := Nat.le_succ_of_le e2.few }
  have hlen : ∀ v : Int, (ws.set x.at v).length = ws.length := fun v => List.length_set
  have c15 : w4.cell? ⟨T.r, 15, none⟩ = some (.bool v'.done) := cellOf RM.mach 15
  have c26 : w4.cell? ⟨T.r, 26, none⟩ = some (.int .i64 v'.gens) := cellOf RM.mach 26
  rw [hd'] at c15
  rw [hP'.1] at c26
  refine ⟨rfl, c15, c26, mu4 _ mu4', row4, fun q cs hc => K4.at hc (F4 _ (type_ne' hc S3'.obj (by decide)) (type_ne' hc S3'.row (by decide)) (type_ne' hc R3.mach (by decide)) (noLog hc (by decide))), ⟨T.μ, T.m, T.r, T.k, v', T.xs ++ [ws.getD x.at 0]⟩, rfl, ?_⟩
  refine { start := hst, may := hmay, kept := ?_, twin := ⟨ws.set x.at (x.next (ws.getD x.at 0)), by rw [hlen]; exact hw1, by rw [hlen]; exact hw2, ?_⟩, row := row4, lob := lob, ths := ?_, sep := ?_ }
  · refine (h.kept.trans K3 ?_).trans K4 ?_
    · rintro q (e | e)
      · exact .inl (.inl e)
      · exact .inr (by omega)
    · rintro q (e | e | ⟨ho, _⟩)
      · exact .inl (.inr e)
      · exact .inr (by omega)
      · exact .inr (by have := (hTh.rf.row.ty ho).1; omega)
  · refine ⟨?_, ?_, ⟨_, _, _, _, _, S4, by omega, by omega⟩, ⟨_, _, _, _, _, S4', by omega, by omega⟩, hgg⟩
    · exact K4.at (K3.at hTw.ar (by rintro ((e | e) | e); exact has e; exact hag e; omega) : ArenaAt w3 a p n s _) (F4 _ has' hag' (by omega) (noLogLt la))
    · exact K4.at b3 (F4 _ hbs' hbg' (by omega) (noLogLt lb))
  · intro j U hj hU
    by_cases e : j = i
    · subst e
      rw [updT_at] at hU
      split at hU
      · cases hU
      · rename_i hdn
        have hdn' : (T.pt.step (ws.getD x.at 0)).done = false := by simpa using hdn
        simp only [Option.some.injEq] at hU
        subst hU
        have hpt : (⟨T.μ, T.m, T.r, T.k, v', T.xs ++ [ws.getD x.at 0]⟩ : Th).pt = T.pt.step (ws.getD x.at 0) := by
          unfold Th.pt; rw [List.foldl_append]; rfl
        refine ⟨hTh.hk, ?_, ?_, RM, ?_, ?_, lm, lr, lμ, ?_⟩
        · rw [hpt]; unfold MuAt; rw [muCells_step]; exact mu4'
        · rw [hpt]
          have P3 := P2.kept K23 (fun h => h) (Far.of (fun _ h => h.elim))
          rw [gens_zero hdn'] at P3
          obtain ⟨cp, tp, hcp, _, htp⟩ := P3.mach
          exact P3.kept K4 (F4 _ (by omega) (by omega) hrm.symm (noLog hcp (by rcases htp with rfl | rfl | rfl | rfl <;> decide))) (Far.of big)
        · exact hd'.trans hdn'
        · rw [hpt]; exact hdn'
        · simp only [List.length_append, List.length_singleton]; have := hTh.few; omega
    · rw [updT_ne _ _ e] at hU
      exact others j U hj e hU
  · intro j l U V hj hl hjl hU hV
    have hself : ∀ {j : Nat} {U : Th}, j < n → j ≠ i → th j = some U → Apart ⟨T.μ, T.m, T.r, T.k, v', T.xs ++ [ws.getD x.at 0]⟩ U ∧ Apart U ⟨T.μ, T.m, T.r, T.k, v', T.xs ++ [ws.getD x.at 0]⟩ := by
      intro j U hj hji hU
      obtain ⟨q1, q2, q3⟩ := h.sep j i U T hj hi hji hU hTi
      have hUh := h.ths j U hj hU
      have hlog : ∀ q, v'.log.ownBlock = some q → U.v.log.ownBlock ≠ some q := by
        intro q hq hq2
        rcases hno with e | e
        · rw [e] at hq; exact q3 q hq2 hq
        · have h9 := e q hq
          obtain ⟨_, cs, hc⟩ := hUh.rf.row.ty hq2
          have := lt_of_block hc
          omega
      exact ⟨⟨q1.symm, q2.symm, hlog⟩, ⟨q1, q2, fun q hq hq2 => hlog q hq2 hq⟩⟩
    by_cases e : j = i
    · subst e
      rw [updT_at] at hU
      rw [updT_ne _ _ (Ne.symm hjl)] at hV
      split at hU
      · cases hU
      · simp only [Option.some.injEq] at hU
        subst hU
        exact (hself hl (Ne.symm hjl) hV).1
    · rw [updT_ne _ _ e] at hU
      by_cases e2 : l = i
      · subst e2
        rw [updT_at] at hV
        split at hV
        · cases hV
        · simp only [Option.some.injEq] at hV
          subst hV
          exact (hself hj e hU).2
      · rw [updT_ne _ _ e2] at hV
        exact h.sep j l U V hj hl hjl hU hV
end
end Go.Proofs.YtffafkmmfaaobaaGreat

namespace Go.Proofs.YtffafkmmfaaobaaGreat
set_option linter.unusedSimpArgs false
set_option linter.unusedVariables false
open Go.RowKit

section
variable {P : Program} {ops : Array Oper} {Q : Exit → Act → World → Prop} {md : Region.Mode}
/-- What is held of the world may be more from now on. -/
theorem wpAnyH_more {S S' : World → Prop} (hSS : ∀ w, S' w → S w) : ∀ (m : Nat) (seen : Array Bool) (a : Act) (w : World), wpAnyH P md ops Q S' m seen a w → wpAnyH P md ops Q S m seen a w
  | 0, _, _, _, h => h
  | m + 1, seen, a, w, h => ⟨h.1, fun i hi => wpOp_mono (fun a' w' h' => ⟨hSS _ h'.1, wpAnyH_more hSS m _ a' w' h'.2⟩) (h.2 i hi)⟩
/-- The one that may come up comes up. -/
theorem wpAnyH_one {S : World → Prop} {i : Nat} {o : Oper} {m : Nat} {seen : Array Bool} {a : Act} {w : World} (hr : Region.ready md ops seen = [i]) (ho : ops[i]? = some o) (hwt : Region.wanted o (yielded ops a.tmps) = true)
    (h : ∀ K : Act → World → Prop, Shut (∀ a' w', S w' → wpAnyH P md ops Q S m (seen.setIfInBounds i true) a' w' → K a' w') → o.wp P a w K Q) : wpAnyH P md ops Q S (m + 1) seen a w := by
  refine ⟨fun h0 => (by rw [hr] at h0; cases h0), fun j hj => ?_⟩
  rw [hr] at hj
  obtain rfl : j = i := by simpa using hj
  exact wpOp_step ho (fun K' hK => by rw [if_pos hwt]; exact h K' (fun a' w' hS hD => hK a' w' ⟨hS, hD⟩))
/-- 'wpAnyH_take', the slot that is written given by hand. -/
theorem wpAnyH_takeD {S : World → Prop} {i : Nat} (d : Option Tmp) {oi : Oper} {v : Value} {fuel : Nat} {listed : Array Bool} {a : Act} {w : World} (hi : ops[i]? = some oi) (hd : oi.dst = d)
    (hs : Region.noSelect ops = true) (hf : Region.free md ops listed i = true) (hr : (Region.ready md ops listed).contains i = true)
    (hQ : ∀ c a w, Q (.panic c) (a.put d v) w → Q (.panic c) a w) (hy : YieldsIf P ops S oi v a) (hS : S w)
    (h : wpAnyH P md ops Q S fuel (listed.setIfInBounds i true) (a.put d v) w) : wpAnyH P md ops Q S (fuel + 1) listed a w := by
  subst hd
  exact wpAnyH_take hi hs hf hr hQ hy hS h
end
end Go.Proofs.YtffafkmmfaaobaaGreat
