/- The reference's runs: drop and add, in plain words. -/
import Derived.Test.YtdeebagjmhpocaaZ5
namespace Go.Proofs.Ytdeebagjmhpocaa
set_option linter.unusedSimpArgs false
set_option linter.unusedVariables false
open Go.RowKit

theorem delAt_filter {l : List It} {k : Int} {i : Nat} (hs : SrtI l) (h1 : l.take i = l.filter (fun y => decide (y.key < k))) (h2 : l.drop i = l.filter (fun y => decide (¬ y.key < k))) (hm : ∃ y ∈ l, y.key = k) :
    ∃ y, l[i]? = some y ∧ y.key = k ∧ delAt l i = delI k l := by
  obtain ⟨z, hz, hzk⟩ := hm
  have hzd : z ∈ l.drop i := by rw [h2]; exact List.mem_filter.2 ⟨hz, by simp; omega⟩
  have hsd : SrtI (l.drop i) := hs.sublist (List.drop_sublist _ _)
  match hd : l.drop i with
  | [] => rw [hd] at hzd; cases hzd
  | y :: r =>
    have hyi : l[i]? = some y := by
      have := congrArg (fun t => t[0]?) hd
      simpa [List.getElem?_drop] using this
    rw [hd] at hsd hzd
    have hyl : y ∈ l.drop i := by rw [hd]; simp
    have hyk : ¬ y.key < k := by rw [h2] at hyl; simpa using (List.mem_filter.1 hyl).2
    have hsr := List.pairwise_cons.1 hsd
    have hyz : y.key = k := by
      rcases List.mem_cons.1 hzd with rfl | hzr
      · exact hzk
      · have := hsr.1 z hzr; omega
    refine ⟨y, hyi, hyz, ?_⟩
    have hr : l.drop (i + 1) = r := by rw [← List.drop_drop, hd]; rfl
    have e1 : (l.take i).filter (fun y => decide (y.key ≠ k)) = l.take i := List.filter_eq_self.2 fun u hu => by
      rw [h1] at hu
      have := (List.mem_filter.1 hu).2
      simp at this; simp; omega
    have e2 : r.filter (fun y => decide (y.key ≠ k)) = r := List.filter_eq_self.2 fun u hu => by
      have := hsr.1 u hu
      simp; omega
    unfold delAt delI
    conv => rhs; rw [← List.take_append_drop i l, List.filter_append, e1, hd, List.filter_cons]
    rw [hr]
    simp only [hyz, ne_eq, not_true_eq_false, decide_false, Bool.false_eq_true, if_false]
    rw [e2]

def DropKPost (s : FSt) (k : Int) (w : World) (e : Ending) (w' : World) : Prop :=
  ∃ v tv', e = .returned (.tuple #[.int .i64 v, .bool true]) ∧ RefIs w' { s with tv := tv', its := delI k s.its } ∧ Kept (· = s.q) w w' ∧ (∀ k, tv'.ownBlock = some k → w.heap.size ≤ k)

theorem delI_le {k : Int} {l : List It} : (delI k l).length ≤ l.length := List.length_filter_le _ _

theorem dropK_any (s : FSt) (k : Int) (w : World) (h : RefIs w s) (hs : SrtI s.its) (hm : ∃ y ∈ s.its, y.key = k) :
    Calls Try.prog 52 #[.pointer (some ⟨s.q, 1, none⟩), .int .i64 k] w (DropKPost s k w) := by
  obtain ⟨i, hp, h1, h2⟩ := partsI_exists k s.its hs
  obtain ⟨y, hy, hyk, hd⟩ := delAt_filter hs h1 h2 hm
  have hi : i < s.its.length := (List.getElem?_eq_some_iff.1 hy).1
  refine (tdrop_any s.its s.tv s.q k y i w 0 _ 91 h.obj rfl h.items (by have := h.few; omega) hp hy hyk).mono ?_
  rintro e w' ⟨rfl, W, v', rfl, hk, ho⟩
  have hW : RefIs W s := h.kept hk (fun _ _ h => h)
  have hsf := hW.setField 1 v'
  have hlen : (delAt s.its i).length = s.its.length - 1 := by simp [delAt]; omega
  refine ⟨_, v', rfl, ⟨hsf.1, hsf.2.1, ?_, hsf.2.2.2, h.fewFree, ?_, h.manyDraws, h.nFits⟩, (hk.mono (G := (· = s.q)) (fun _ h => h.elim)).setCell (p := ⟨s.q, 1, none⟩) (.inl rfl) _, fun k hk' => (ho.lt k hk').1⟩
  · have hkq : Kept (· = s.q) W (W.setCell ⟨s.q, 1, none⟩ v') := (Kept.refl (· = s.q) W).setCell (p := ⟨s.q, 1, none⟩) (.inl rfl) v'
    have := ownsRow_kept ho hkq (fun k e e' => by have := (ho.lt k e).1; have := h.lt s.q (.inl rfl); have e'' : k = s.q := e'; omega)
    show World.ownsRow _ 0 126 3 v' (delI k s.its).length (itCells (delI k s.its))
    rw [← hd, hlen]
    exact ownsRow_base (Nat.zero_le _) this
  · show (delI k s.its).length ≤ 5000
    have := delI_le (k := k) (l := s.its); have := h.few; omega

def AddKPost (s : FSt) (x : R2) (w : World) (e : Ending) (w' : World) : Prop :=
  e = .returned (.tuple #[]) ∧ ∃ tv', RefIs w' { s with tv := tv', n := s.n + 1, its := insIt (itOf x (drawOf s.ds s.n)) s.its } ∧ Kept (· = s.q) w w' ∧ (∀ k, tv'.ownBlock = some k → w.heap.size ≤ k)

theorem addK_any (s : FSt) (x : R2) (w : World) (h : RefIs w s) (hs : SrtI s.its) (hno : ∀ y ∈ s.its, y.key ≠ keyOf x)
    (hx0 : 0 ≤ x.1) (hx1 : x.1 ≤ 10000) (hx2 : 0 ≤ x.2) (hx3 : x.2 ≤ 10000) (hfew : s.its.length + 1 ≤ 5000) (hdf : s.n + 1 ≤ 1000000) :
    Calls Try.prog 48 #[.pointer (some ⟨s.q, 0, none⟩), .agg #[.int .i64 x.1, .int .i64 x.2]] w (AddKPost s x w) := by
  obtain ⟨i, hp, h1, h2⟩ := partsI_exists (keyOf x) s.its hs
  refine (add_any s x i w h hp (fun y hy => hno y (List.mem_of_getElem? hy)) hx0 hx1 hx2 hx3 hfew hdf).mono ?_
  rintro e w' ⟨rfl, tv', hR, hk, hn⟩
  have : insI s.its i (itOf x (drawOf s.ds s.n)) = insIt (itOf x (drawOf s.ds s.n)) s.its := by
    unfold insI insIt
    rw [h1, h2]; rfl
  rw [this] at hR
  exact ⟨rfl, tv', hR, hk, hn⟩

end Go.Proofs.Ytdeebagjmhpocaa
