/- Part of the proof of CacheRaw: printed by programs of this repo out of the translation, and by hand. Each theorem's conditions stand in its statement. -/
import Derived.WideShapes
import Derived.ProofKit
import Derived.OpenShut
import Derived.ShutString
import Derived.ChangeOld
import Derived.SizedLaws
import Derived.ChangeSlices
import Derived.Orders
import Derived.Below
import Derived.Laws.AppendOwn
import Derived.Laws.OwnMore
import Derived.KernelRfl
import Derived.Test.YtjhnpaenhdbhpabMCacheRawa
import Derived.Test.YtjhnpaenhdbhpabMCacheRawb
import Derived.Test.YtjhnpaenhdbhpabMCacheRawc
import Derived.Test.YtjhnpaenhdbhpabMCacheRawd
set_option linter.unusedVariables false
set_option linter.unusedSimpArgs false
namespace Go.Proofs.YtjhnpaenhdbhpabV
open Go Go.RowKit
theorem short_ev (l : List TEntry) (hl : l.length ≤ 9223372036854775807) : Ev (fun k => erasurelaw30_short k l) (l.all (fun e => decide (e.f0.length ≤ 20)) && decide (l.length ≤ 40)) := by
  unfold erasurelaw30_short
  refine (loop_down (P := fun i => Ev (fun k => erasurelaw30_short.p1 k l (i : Int)) ((l.drop i).all (fun e => decide (e.f0.length ≤ 20)) && decide (l.length ≤ 40))) l.length ?_ ?_ 0 (by omega))
  · refine Ev.succ ?_
    simp only [erasurelaw30_short.p1, decide_eq_true_eq]
    rw [List.drop_length]
    refine Ev.ite_neg (by omega) (Ev.done ?_)
    simp; omega
  · intro i hi ih
    refine Ev.succ ?_
    simp only [erasurelaw30_short.p1, decide_eq_true_eq]
    refine Ev.ite_pos (by omega) (Ev.ite_pos (by omega) ?_)
    rw [dE hi, wrn hi hl, List.all_cons]
    by_cases h : (l.getD (i : Int).toNat dEntry).f0.length ≤ 20
    · rw [decide_eq_true h]; exact Ev.ite_neg (by omega) (by simpa using ih)
    · rw [decide_eq_false h]; exact Ev.ite_pos (by omega) (Ev.done (by simp))
end Go.Proofs.YtjhnpaenhdbhpabV
set_option linter.unusedVariables false
set_option linter.unusedSimpArgs false
namespace Go.Proofs.YtjhnpaenhdbhpabV
open Go Go.RowKit
def refF (rows : List TEntry) (c d : Int) (x : TCached) : Option TCached := if selS rows c (clV x.f0) = [] then none else some ⟨x.f0, selS rows c (clV x.f0), d⟩
def refS (c : TCache) (s : List TCached) (rows : List TEntry) (d : Int) : List TCached := if cacheV s && (bagV rows && (okD c.f3 && okD d)) then s.filterMap (refF rows c.f2 d) else []
theorem len_pos_iff {α : Type} (l : List α) : ((l.length : Int) > 0) ↔ l ≠ [] := by cases l <;> simp <;> omega
theorem Refill_ev (c : TCache) (s : List TCached) (rows : List TEntry) (d : Int) (hs : FinC s) (hr : Fin rows) : Ev (fun k => cache_Refill k c s rows d) (refS c s rows d) := by
  unfold cache_Refill refS
  refine Ev.bind (usable_ev c s rows d hs hr) ?_
  cases hu : cacheV s && (bagV rows && (okD c.f3 && okD d)) with
  | false => exact Ev.ite_pos rfl (Ev.now _)
  | true =>
    refine Ev.ite_neg (by simp) ?_
    simp only [Bool.and_eq_true] at hu
    have hl := cacheV_len hu.1
    have hb := hu.2.1
    have key : ∀ i, i ≤ s.length → ∀ acc : List TCached, acc.length ≤ i → Ev (fun k => cache_Refill.p1 k s rows d (i : Int) c acc) (acc ++ (s.drop i).filterMap (refF rows c.f2 d)) := by
      refine loop_down (P := fun i => ∀ acc : List TCached, acc.length ≤ i → Ev (fun k => cache_Refill.p1 k s rows d (i : Int) c acc) (acc ++ (s.drop i).filterMap (refF rows c.f2 d))) s.length ?_ ?_
      · intro acc _
        refine Ev.succ ?_
        simp only [cache_Refill.p1, decide_eq_true_eq]
        exact Ev.ite_neg (by omega) (Ev.done (by simp))
      · intro i hi ih acc ha
        refine Ev.succ ?_
        simp only [cache_Refill.p1, decide_eq_true_eq, len_pos_iff]
        refine Ev.ite_pos (by omega) (Ev.ite_pos (by omega) (Ev.bind (sel_ev rows c.f2 _ (by have := bagV_len hb; omega) (fun e he => by have := okE_len (bagV_mem hb e he); omega)) ?_))
        rw [wrn hi (by omega), dC hi, List.filterMap_cons]
        by_cases h : selS rows c.f2 (clV (s.getD (i : Int).toNat dCached).f0) = []
        · refine Ev.ite_neg (fun q => q h) ((ih acc (by omega)).to ?_)
          simp only [refF, if_pos h]
        · refine Ev.ite_pos h (Ev.ite_pos (by simp [maxLen]; omega) ((ih _ (by simp; omega)).to ?_))
          simp only [refF, if_neg h]
          simp
    simpa using key 0 (by omega) [] (by simp)
theorem refRefill_ev (c : TCache) (s : List TCached) (rows : List TEntry) (d : Int) (hs : FinC s) (hr : Fin rows) : Ev (fun k => erasureref30_Refill k c s rows d) (refS c s rows d) := by
  unfold erasureref30_Refill refS
  refine Ev.bind (ref30_Valid_ev s hs) ?_
  cases h1 : cacheV s with
  | false => exact Ev.ite_pos rfl (Ev.now _)
  | true =>
    refine Ev.ite_neg (by simp) (Ev.bind (ref06_Valid_ev rows hr) ?_)
    cases hb : bagV rows with
    | false => exact Ev.ite_pos rfl (Ev.now _)
    | true =>
      refine Ev.ite_neg (by simp) ?_
      simp only [ranged_eq, Option.bind_some]
      cases h3 : okD c.f3 && okD d with
      | false => exact Ev.ite_pos rfl (Ev.now _)
      | true =>
        refine Ev.ite_neg (by simp) ?_
        have hl := cacheV_len h1
        have key : ∀ i, i ≤ s.length → ∀ acc : List TCached, acc.length ≤ i → Ev (fun k => erasureref30_Refill.p1 k s rows d (i : Int) c acc) (acc ++ (s.drop i).filterMap (refF rows c.f2 d)) := by
          refine loop_down (P := fun i => ∀ acc : List TCached, acc.length ≤ i → Ev (fun k => erasureref30_Refill.p1 k s rows d (i : Int) c acc) (acc ++ (s.drop i).filterMap (refF rows c.f2 d))) s.length ?_ ?_
          · intro acc _
            refine Ev.succ ?_
            simp only [erasureref30_Refill.p1, decide_eq_true_eq]
            exact Ev.ite_neg (by omega) (Ev.done (by simp))
          · intro i hi ih acc ha
            refine Ev.succ ?_
            simp only [erasureref30_Refill.p1, decide_eq_true_eq, len_pos_iff]
            refine Ev.ite_pos (by omega) (Ev.ite_pos (by omega) (Ev.bind (refSel_ev rows c.f2 _ (by have := bagV_len hb; omega)) ?_))
            rw [wrn hi (by omega), dC hi, List.filterMap_cons]
            by_cases h : selS rows c.f2 (clV (s.getD (i : Int).toNat dCached).f0) = []
            · refine Ev.ite_neg (fun q => q h) ((ih acc (by omega)).to ?_)
              simp only [refF, if_pos h]
            · refine Ev.ite_pos h (Ev.ite_pos (by simp [maxLen]; omega) ((ih _ (by simp; omega)).to ?_))
              simp only [refF, if_neg h]
              simp
        simpa using key 0 (by omega) [] (by simp)
def purS (s : List TCached) (vs : List TValue) : List TCached := if cacheV s then s.filter (fun x => !decide (x.f0 ∈ vs.map clV)) else []
theorem Purge_ev (s : List TCached) (vs : List TValue) (hs : FinC s) (hv : vs.length ≤ 9223372036854775807) : Ev (fun k => cache_Purge k s vs) (purS s vs) := by
  unfold cache_Purge purS
  refine Ev.bind (cache_Valid_ev s hs) ?_
  cases h1 : cacheV s with
  | false => exact Ev.ite_pos rfl (Ev.now _)
  | true =>
    refine Ev.ite_neg (by simp) ?_
    have hl := cacheV_len h1
    have p2 : ∀ m : List (TValue × Bool), (∀ v, getM m v false = decide (v ∈ vs.map clV)) → ∀ i, i ≤ s.length → ∀ acc : List TCached, acc.length ≤ i → Ev (fun k => cache_Purge.p2 k s (i : Int) m acc) (acc ++ (s.drop i).filter (fun x => !decide (x.f0 ∈ vs.map clV))) := by
      intro m hm
      refine loop_down (P := fun i => ∀ acc : List TCached, acc.length ≤ i → Ev (fun k => cache_Purge.p2 k s (i : Int) m acc) (acc ++ (s.drop i).filter (fun x => !decide (x.f0 ∈ vs.map clV)))) s.length ?_ ?_
      · intro acc _
        refine Ev.succ ?_
        simp only [cache_Purge.p2, decide_eq_true_eq]
        exact Ev.ite_neg (by omega) (Ev.done (by simp))
      · intro i hi ih acc ha
        refine Ev.succ ?_
        simp only [cache_Purge.p2, decide_eq_true_eq, hm]
        refine Ev.ite_pos (by omega) (Ev.ite_pos (by omega) ?_)
        rw [wrn hi (by omega), dC hi, List.filter_cons]
        cases h : decide ((s.getD (i : Int).toNat dCached).f0 ∈ vs.map clV) with
        | true => exact Ev.ite_neg (by simp) ((ih acc (by omega)).to (by simp))
        | false => exact Ev.ite_pos rfl (Ev.bind (duplicate_ev _ (cacheV_mem h1 _ (getD_mem _ hi)).2.1) (Ev.ite_pos (by simp [maxLen]; omega) ((ih _ (by simp; omega)).to (by simp))))
    have p1 : ∀ i, i ≤ vs.length → ∀ m : List (TValue × Bool), (∀ v, getM m v false = decide (v ∈ (vs.take i).map clV)) → Ev (fun k => cache_Purge.p1 k s vs (i : Int) m) (s.filter (fun x => !decide (x.f0 ∈ vs.map clV))) := by
      refine loop_down (P := fun i => ∀ m : List (TValue × Bool), (∀ v, getM m v false = decide (v ∈ (vs.take i).map clV)) → Ev (fun k => cache_Purge.p1 k s vs (i : Int) m) (s.filter (fun x => !decide (x.f0 ∈ vs.map clV)))) vs.length ?_ ?_
      · intro m hm
        refine Ev.succ ?_
        simp only [cache_Purge.p1, decide_eq_true_eq]
        rw [List.take_length] at hm
        refine Ev.ite_neg (by omega) ?_
        simpa using p2 m hm 0 (by omega) [] (by simp)
      · intro i hi ih m hm
        refine Ev.succ ?_
        simp only [cache_Purge.p1, decide_eq_true_eq, value_Clean_eq, Option.bind_some]
        refine Ev.ite_pos (by omega) (Ev.ite_pos (by omega) ?_)
        rw [wrn hi (by omega)]
        refine ih _ fun v => ?_
        have htk : vs.take (i + 1) = vs.take i ++ [vs.getD (i : Int).toNat dValue] := by
          rw [List.take_succ_eq_append_getElem hi]; simp [hi]
        rw [htk, List.map_append, List.map_singleton]
        obtain ⟨g1, g2⟩ := get_put (clV (vs.getD (i : Int).toNat dValue)) v true false m
        by_cases hvv : v = clV (vs.getD (i : Int).toNat dValue)
        · rw [g1 hvv]; simp [hvv]
        · rw [g2 hvv, hm]; simp only [List.mem_append, List.mem_singleton, hvv, or_false]
    exact p1 0 (by omega) [] (fun v => by simp [getM_nil])
theorem refPurge_ev (s : List TCached) (vs : List TValue) (hs : FinC s) (hv : vs.length ≤ 9223372036854775807) : Ev (fun k => erasureref30_Purge k s vs) (purS s vs) := by
  unfold erasureref30_Purge purS
  refine Ev.bind (ref30_Valid_ev s hs) ?_
  cases h1 : cacheV s with
  | false => exact Ev.ite_pos rfl (Ev.now _)
  | true =>
    refine Ev.ite_neg (by simp) ?_
    have hl := cacheV_len h1
    have p1 : ∀ i, i ≤ vs.length → ∀ t : List TCached, t.length ≤ 16 → Ev (fun k => erasureref30_Purge.p1 k t vs (i : Int)) (t.filter (fun x => !decide (x.f0 ∈ (vs.drop i).map clV))) := by
      refine loop_down (P := fun i => ∀ t : List TCached, t.length ≤ 16 → Ev (fun k => erasureref30_Purge.p1 k t vs (i : Int)) (t.filter (fun x => !decide (x.f0 ∈ (vs.drop i).map clV)))) vs.length ?_ ?_
      · intro t ht
        refine Ev.succ ?_
        simp only [erasureref30_Purge.p1, decide_eq_true_eq]
        exact Ev.ite_neg (by omega) (Ev.done (by rw [List.drop_length]; symm; apply List.filter_eq_self.2; intro x _; rfl))
      · intro i hi ih t ht
        refine Ev.succ ?_
        simp only [erasureref30_Purge.p1, decide_eq_true_eq, ref01_Clean_eq, Option.bind_some]
        refine Ev.ite_pos (by omega) (Ev.ite_pos (by omega) (Ev.bind (without_ev t _ (by omega)) ?_))
        rw [wrn hi (by omega), dV hi]
        refine (ih _ (Nat.le_trans (List.length_filter_le _ _) ht)).to ?_
        rw [List.filter_filter]
        congr 1
        funext x
        rw [Bool.eq_iff_iff]
        simp [and_comm]
    simpa using p1 0 (by omega) s hl
theorem C_ext {x y : TCached} (h0 : x.f0 = y.f0) (h1 : x.f1 = y.f1) (h2 : x.f2 = y.f2) : x = y := by cases x; cases y; simp_all
instance : DecidableEq TCached := fun x y => decidable_of_iff (x.f0 = y.f0 ∧ x.f1 = y.f1 ∧ x.f2 = y.f2) ⟨fun h => C_ext h.1 h.2.1 h.2.2, fun h => by subst h; exact ⟨rfl, rfl, rfl⟩⟩
theorem Equal_ev (a b : List TValue) (ha : a.length ≤ 9223372036854775807) : Ev (fun k => slices_Equal_api_Value k a b) (decide (a = b)) := by
  unfold slices_Equal_api_Value
  simp only [bne_iff_ne]
  by_cases hl : a.length = b.length
  · refine Ev.ite_neg (fun h => h (by omega)) ?_
    have key : ∀ i, i ≤ a.length → Ev (fun k => slices_Equal_api_Value.p1 k a b (a.length : Int) (i : Int)) (decide (a.drop i = b.drop i)) := by
      refine loop_down (P := fun i => Ev (fun k => slices_Equal_api_Value.p1 k a b (a.length : Int) (i : Int)) (decide (a.drop i = b.drop i))) a.length ?_ ?_
      · refine Ev.succ ?_
        simp only [slices_Equal_api_Value.p1, decide_eq_true_eq]
        exact Ev.ite_neg (by omega) (Ev.done (by rw [hl, List.drop_length, ← hl, List.drop_length]; simp))
      · intro i hi ih
        refine Ev.succ ?_
        simp only [slices_Equal_api_Value.p1, decide_eq_true_eq, eqV_iff]
        refine Ev.ite_pos (by omega) (Ev.ite_pos (by omega) (Ev.ite_pos (by omega) ?_))
        rw [wrn hi (by omega), dV hi, dV (show i < b.length by omega)]
        by_cases h : a.getD (i : Int).toNat dValue = b.getD (i : Int).toNat dValue
        · rw [decide_eq_true h]; exact Ev.ite_neg (by simp) (ih.to (by rw [h]; simp))
        · rw [decide_eq_false h]; exact Ev.ite_pos rfl (Ev.done (by rw [decide_eq_false]; intro e; exact h (List.cons.inj e).1))
    simpa using key 0 (by omega)
  · refine Ev.ite_pos (fun h => hl (by omega)) (Ev.done ?_)
    rw [decide_eq_false]; intro e; exact hl (by rw [e])
theorem same_ev (a b : List TEntry) (ha : Fin a) : Ev (fun k => cache_same k a b) (decide (a = b)) := by
  unfold cache_same
  simp only [bne_iff_ne]
  have hla := ha.1
  by_cases hl : a.length = b.length
  · refine Ev.ite_neg (fun h => h (by omega)) ?_
    have key : ∀ i, i ≤ a.length → Ev (fun k => cache_same.p1 k a b (i : Int)) (decide (a.drop i = b.drop i)) := by
      refine loop_down (P := fun i => Ev (fun k => cache_same.p1 k a b (i : Int)) (decide (a.drop i = b.drop i))) a.length ?_ ?_
      · refine Ev.succ ?_
        simp only [cache_same.p1, decide_eq_true_eq]
        exact Ev.ite_neg (by omega) (Ev.done (by rw [hl, List.drop_length, ← hl, List.drop_length]; simp))
      · intro i hi ih
        refine Ev.succ ?_
        simp only [cache_same.p1, decide_eq_true_eq, bne_iff_ne]
        refine Ev.ite_pos (by omega) (Ev.ite_pos (by omega) (Ev.ite_pos (by omega) ?_))
        rw [wrn hi (by omega), dE hi, dE (show i < b.length by omega)]
        by_cases h1 : (a.getD (i : Int).toNat dEntry).f1 = (b.getD (i : Int).toNat dEntry).f1
        · refine Ev.ite_neg (fun h => h h1) (Ev.bind (Equal_ev _ _ (ha.at hi)) ?_)
          by_cases h0 : (a.getD (i : Int).toNat dEntry).f0 = (b.getD (i : Int).toNat dEntry).f0
          · rw [decide_eq_true h0]; exact Ev.ite_neg (by simp) (ih.to (by rw [E_ext h0 h1]; simp))
          · rw [decide_eq_false h0]; exact Ev.ite_pos rfl (Ev.done (by rw [decide_eq_false]; intro e; exact h0 (by rw [(List.cons.inj e).1])))
        · exact Ev.ite_pos h1 (Ev.done (by rw [decide_eq_false]; intro e; exact h1 (by rw [(List.cons.inj e).1])))
    simpa using key 0 (by omega)
  · refine Ev.ite_pos (fun h => hl (by omega)) (Ev.done ?_)
    rw [decide_eq_false]; intro e; exact hl (by rw [e])
def freS (c : TCache) (s : List TCached) (rows : List TEntry) : Bool := cacheV s && (bagV rows && s.all fun x => decide (x.f1 = selS rows c.f2 (clV x.f0)))
theorem Fresh_ev (c : TCache) (s : List TCached) (rows : List TEntry) (hs : FinC s) (hr : Fin rows) : Ev (fun k => cache_Fresh k c s rows) (freS c s rows) := by
  unfold cache_Fresh freS
  refine Ev.bind (cache_Valid_ev s hs) ?_
  cases h1 : cacheV s with
  | false => exact Ev.ite_pos rfl (Ev.now _)
  | true =>
    refine Ev.ite_neg (by simp) (Ev.bind (bag_Valid_ev rows hr) ?_)
    cases hb : bagV rows with
    | false => exact Ev.ite_pos rfl (Ev.now _)
    | true =>
      refine Ev.ite_neg (by simp) ?_
      have hl := cacheV_len h1
      have key : ∀ i, i ≤ s.length → Ev (fun k => cache_Fresh.p1 k s rows (i : Int) c) ((s.drop i).all fun x => decide (x.f1 = selS rows c.f2 (clV x.f0))) := by
        refine loop_down (P := fun i => Ev (fun k => cache_Fresh.p1 k s rows (i : Int) c) ((s.drop i).all fun x => decide (x.f1 = selS rows c.f2 (clV x.f0)))) s.length ?_ ?_
        · refine Ev.succ ?_
          simp only [cache_Fresh.p1, decide_eq_true_eq]
          exact Ev.ite_neg (by omega) (Ev.done (by simp))
        · intro i hi ih
          refine Ev.succ ?_
          simp only [cache_Fresh.p1, decide_eq_true_eq]
          refine Ev.ite_pos (by omega) (Ev.ite_pos (by omega) (Ev.bind (sel_ev rows c.f2 _ (by have := bagV_len hb; omega) (fun e he => by have := okE_len (bagV_mem hb e he); omega)) (Ev.bind (same_ev _ _ (hs.2 _ (getD_mem _ hi))) ?_)))
          rw [wrn hi (by omega), dC hi, List.all_cons]
          cases h : decide ((s.getD (i : Int).toNat dCached).f1 = selS rows c.f2 (clV (s.getD (i : Int).toNat dCached).f0)) with
          | false => exact Ev.ite_pos rfl (Ev.now _)
          | true => exact Ev.ite_neg (by simp) (ih.to (by simp))
      simpa using key 0 (by omega)
theorem refFresh_ev (c : TCache) (s : List TCached) (rows : List TEntry) (hs : FinC s) (hr : Fin rows) : Ev (fun k => erasureref30_Fresh k c s rows) (freS c s rows) := by
  unfold erasureref30_Fresh freS
  refine Ev.bind (ref30_Valid_ev s hs) ?_
  cases h1 : cacheV s with
  | false => exact Ev.ite_pos rfl (Ev.now _)
  | true =>
    refine Ev.ite_neg (by simp) (Ev.bind (ref06_Valid_ev rows hr) ?_)
    cases hb : bagV rows with
    | false => exact Ev.ite_pos rfl (Ev.now _)
    | true =>
      refine Ev.ite_neg (by simp) ?_
      have hl := cacheV_len h1
      have key : ∀ i, i ≤ s.length → Ev (fun k => erasureref30_Fresh.p1 k s rows (i : Int) c) ((s.drop i).all fun x => decide (x.f1 = selS rows c.f2 (clV x.f0))) := by
        refine loop_down (P := fun i => Ev (fun k => erasureref30_Fresh.p1 k s rows (i : Int) c) ((s.drop i).all fun x => decide (x.f1 = selS rows c.f2 (clV x.f0)))) s.length ?_ ?_
        · refine Ev.succ ?_
          simp only [erasureref30_Fresh.p1, decide_eq_true_eq]
          exact Ev.ite_neg (by omega) (Ev.done (by simp))
        · intro i hi ih
          refine Ev.succ ?_
          simp only [erasureref30_Fresh.p1, decide_eq_true_eq]
          refine Ev.ite_pos (by omega) (Ev.ite_pos (by omega) (Ev.bind (refSel_ev rows c.f2 _ (by have := bagV_len hb; omega)) (Ev.bind (ref26_SameBag_ev _ _ (hs.2 _ (getD_mem _ hi))) ?_)))
          rw [wrn hi (by omega), dC hi, List.all_cons]
          cases h : decide ((s.getD (i : Int).toNat dCached).f1 = selS rows c.f2 (clV (s.getD (i : Int).toNat dCached).f0)) with
          | false => exact Ev.ite_pos rfl (Ev.now _)
          | true => exact Ev.ite_neg (by simp) (ih.to (by simp))
      simpa using key 0 (by omega)
theorem refSame_ev (a b : List TCached) (ha : FinC a) : Ev (fun k => erasureref30_Same k a b) (decide (a = b)) := by
  unfold erasureref30_Same
  simp only [bne_iff_ne]
  have hla := ha.1
  by_cases hl : a.length = b.length
  · refine Ev.ite_neg (fun h => h (by omega)) ?_
    have key : ∀ i, i ≤ a.length → Ev (fun k => erasureref30_Same.p1 k a b (i : Int)) (decide (a.drop i = b.drop i)) := by
      refine loop_down (P := fun i => Ev (fun k => erasureref30_Same.p1 k a b (i : Int)) (decide (a.drop i = b.drop i))) a.length ?_ ?_
      · refine Ev.succ ?_
        simp only [erasureref30_Same.p1, decide_eq_true_eq]
        exact Ev.ite_neg (by omega) (Ev.done (by rw [hl, List.drop_length, ← hl, List.drop_length]; simp))
      · intro i hi ih
        refine Ev.succ ?_
        simp only [erasureref30_Same.p1, decide_eq_true_eq, bne_iff_ne, eqV_iff]
        refine Ev.ite_pos (by omega) (Ev.ite_pos (by omega) (Ev.ite_pos (by omega) ?_))
        rw [wrn hi (by omega), dC hi, dC (show i < b.length by omega)]
        by_cases h0 : (a.getD (i : Int).toNat dCached).f0 = (b.getD (i : Int).toNat dCached).f0
        · rw [decide_eq_true h0]
          refine Ev.ite_neg (by simp) ?_
          by_cases h2 : (a.getD (i : Int).toNat dCached).f2 = (b.getD (i : Int).toNat dCached).f2
          · refine Ev.ite_neg (fun h => h h2) (Ev.bind (ref26_SameBag_ev _ _ (ha.2 _ (getD_mem _ hi))) ?_)
            by_cases h1 : (a.getD (i : Int).toNat dCached).f1 = (b.getD (i : Int).toNat dCached).f1
            · rw [decide_eq_true h1]; exact Ev.ite_neg (by simp) (ih.to (by rw [C_ext h0 h1 h2]; simp))
            · rw [decide_eq_false h1]; exact Ev.ite_pos rfl (Ev.done (by rw [decide_eq_false]; intro e; exact h1 (by rw [(List.cons.inj e).1])))
          · exact Ev.ite_pos h2 (Ev.done (by rw [decide_eq_false]; intro e; exact h2 (by rw [(List.cons.inj e).1])))
        · rw [decide_eq_false h0]; exact Ev.ite_pos rfl (Ev.done (by rw [decide_eq_false]; intro e; exact h0 (by rw [(List.cons.inj e).1])))
    simpa using key 0 (by omega)
  · refine Ev.ite_pos (fun h => hl (by omega)) (Ev.done ?_)
    rw [decide_eq_false]; intro e; exact hl (by rw [e])
end Go.Proofs.YtjhnpaenhdbhpabV
set_option linter.unusedVariables false
set_option linter.unusedSimpArgs false
namespace Go.Proofs.YtjhnpaenhdbhpabV
open Go Go.RowKit
theorem cmpV_zero_cl {a b : TValue} : cmpV a b = 0 ↔ clV a = clV b := cmpC_zero (okV_cl a) (okV_cl b)
theorem cmpV_congr {a a' b b' : TValue} (ha : clV a = clV a') (hb : clV b = clV b') : cmpV a b = cmpV a' b' := by unfold cmpV; rw [ha, hb]
theorem okRow_len {l : List TValue} (h : okRow l = true) : l.length ≤ 16 := by
  unfold okRow at h
  simp only [Bool.and_eq_true, decide_eq_true_eq] at h
  exact h.2
theorem cmpR_trans : ∀ {a b c : List TValue}, cmpR a b < 0 → cmpR b c < 0 → cmpR a c < 0
  | [], [], c, h, _ => by simp [cmpR] at h
  | [], _ :: _, [], _, h => by simp [cmpR] at h
  | [], _ :: _, _ :: _, _, _ => by simp [cmpR]
  | _ :: _, [], _, h, _ => by simp [cmpR] at h
  | _ :: _, _ :: _, [], _, h => by simp [cmpR] at h
  | x :: a, y :: b, z :: c, h1, h2 => by
    unfold cmpR at h1 h2 ⊢
    by_cases e1 : cmpV x y = 0
    · rw [if_pos e1] at h1
      have q := cmpV_congr (b := z) (cmpV_zero_cl.1 e1) rfl
      by_cases e2 : cmpV y z = 0
      · rw [if_pos e2] at h2
        rw [if_pos (by omega)]
        exact cmpR_trans h1 h2
      · rw [if_neg e2] at h2
        rw [if_neg (by omega)]; omega
    · rw [if_neg e1] at h1
      by_cases e2 : cmpV y z = 0
      · rw [if_pos e2] at h2
        have q := cmpV_congr (a := x) rfl (cmpV_zero_cl.1 e2)
        rw [if_neg (by omega)]; omega
      · rw [if_neg e2] at h2
        have := cmpV_trans h1 h2
        rw [if_neg (by omega)]; exact this
def OrdE (l : List TEntry) : Prop := l.Pairwise fun x y => cmpR x.f0 y.f0 < 0
theorem bvF_ord : ∀ (l : List TEntry) (p : Option TEntry), bvF p l = true ↔ (∀ e ∈ l, okE e = true ∧ e.f1 ≠ 0) ∧ OrdE l ∧ ∀ q, p = some q → ∀ x ∈ l, cmpR q.f0 x.f0 < 0
  | [], p => by
    constructor
    · intro _; exact ⟨fun e he => (by cases he), List.Pairwise.nil, fun _ _ x hx => (by cases hx)⟩
    · intro _; cases p <;> rfl
  | y :: l, p => by
    have h1 : bvF p (y :: l) = true ↔ (okE y = true ∧ y.f1 ≠ 0) ∧ (∀ q, p = some q → cmpR q.f0 y.f0 < 0) ∧ bvF (some y) l = true := by
      cases p with
      | none => simp [bvF]
      | some p =>
        simp only [bvF, Bool.and_eq_true, decide_eq_true_eq, Bool.not_eq_true', decide_eq_false_iff_not, Option.some.injEq, forall_eq']
        exact ⟨fun h => ⟨h.1.1, h.1.2, h.2⟩, fun h => ⟨⟨h.1, h.2.1⟩, h.2.2⟩⟩
    rw [h1, bvF_ord l (some y)]
    constructor
    · rintro ⟨h2, h3, h4, h5, h6⟩
      refine ⟨fun e he => ?_, List.Pairwise.cons (fun x hx => h6 y rfl x hx) h5, fun q hq x hx => ?_⟩
      · rcases List.mem_cons.1 he with rfl | he
        · exact h2
        · exact h4 e he
      · rcases List.mem_cons.1 hx with rfl | hx
        · exact h3 q hq
        · exact cmpR_trans (h3 q hq) (h6 y rfl x hx)
    · rintro ⟨h2, h3, h4⟩
      have h5 := List.pairwise_cons.1 h3
      exact ⟨h2 y (List.mem_cons_self ..), fun q hq => h4 q hq y (List.mem_cons_self ..), fun e he => h2 e (List.mem_cons_of_mem _ he), h5.2, fun q hq x hx => by cases hq; exact h5.1 x hx⟩
theorem bagV_iff {l : List TEntry} : bagV l = true ↔ (∀ e ∈ l, okE e = true ∧ e.f1 ≠ 0) ∧ OrdE l ∧ l.length ≤ 4096 := by
  unfold bagV
  rw [Bool.and_eq_true, decide_eq_true_eq, bvF_ord]
  exact ⟨fun h => ⟨h.1.1, h.1.2.1, h.2⟩, fun h => ⟨⟨h.1, h.2.1, fun q hq => by cases hq⟩, h.2.2⟩⟩
theorem bagV_filter {l : List TEntry} (p : TEntry → Bool) (h : bagV l = true) : bagV (l.filter p) = true := by
  rw [bagV_iff] at h ⊢
  exact ⟨fun e he => h.1 e (List.mem_filter.1 he).1, h.2.1.filter _, Nat.le_trans (List.length_filter_le _ _) h.2.2⟩
theorem okE_rng {e : TEntry} (h : okE e = true) : okRow e.f0 = true ∧ -262144 ≤ e.f1 ∧ e.f1 ≤ 262144 := by
  unfold okE at h
  rw [Bool.and_eq_true, decide_eq_true_eq] at h
  exact h
theorem bagV_fin {l : List TEntry} (h : bagV l = true) : Fin l := by
  rw [bagV_iff] at h
  exact ⟨by omega, fun e he => by have := okRow_len (okE_rng (h.1 e he).1).1; omega⟩
end Go.Proofs.YtjhnpaenhdbhpabV
set_option linter.unusedVariables false
set_option linter.unusedSimpArgs false
set_option maxRecDepth 100000
namespace Go.Proofs.YtjhnpaenhdbhpabV
open Go Go.RowKit
noncomputable def erasurelaw30_CacheBounds.p3  : Nat → Int → Int → (List TCached) → (List TCached) → Option Bool
  | 0, _, _, _, _ => none
  | k + 1, old13, i18, s6, t15 => if (decide (i18 < ((t15).length : Int))) = true then (if 0 ≤ i18 ∧ i18 < ((t15).length : Int) then (if 0 ≤ old13 ∧ old13 < ((s6).length : Int) then (if (((t15.getD i18.toNat dCached).f0.f0 == (s6.getD old13.toNat dCached).f0.f0) && (((t15.getD i18.toNat dCached).f0.f1 == (s6.getD old13.toNat dCached).f0.f1) && ((((t15.getD i18.toNat dCached).f0.f2).data.toList == ((s6.getD old13.toNat dCached).f0.f2).data.toList) && true))) = true then (some false) else (erasurelaw30_CacheBounds.p3 k old13 (IntKind.i64.wrap (i18 + 1)) s6 t15)) else none) else none) else ((erasurelaw30_awake k ).bind fun y_29 => (some y_29))
noncomputable def erasurelaw30_CacheBounds.p2  : Nat → Int → Int → Int → TCache → (List TCached) → Option Bool
  | 0, _, _, _, _, _ => none
  | k + 1, n0, old13, i14, c5b, s6 => if (decide (i14 < ((s6).length : Int))) = true then (if 0 ≤ i14 ∧ i14 < ((s6).length : Int) then (if 0 ≤ old13 ∧ old13 < ((s6).length : Int) then (if (decide ((s6.getD i14.toNat dCached).f2 < (s6.getD old13.toNat dCached).f2)) = true then (erasurelaw30_CacheBounds.p2 k n0 i14 (IntKind.i64.wrap (i14 + 1)) c5b s6) else (erasurelaw30_CacheBounds.p2 k n0 old13 (IntKind.i64.wrap (i14 + 1)) c5b s6)) else none) else none) else ((erasureref01_Int k (IntKind.i64.wrap (100 + (Go.bits .and .i64 n0 7)))).bind fun y_19 => ((cache_Lookup k c5b s6 ([] : List TEntry) y_19 41).bind fun y_21 => (if (y_21.2.2 != 0) = true then (some false) else (if (((y_21.1).length : Int) != 16) = true then (some false) else (erasurelaw30_CacheBounds.p3 k old13 0 s6 y_21.1)))))
noncomputable def erasurelaw30_CacheBounds.p1  : Nat → Int → (List Int) → Int → Int → TCache → (List TCached) → Option Bool
  | 0, _, _, _, _, _, _ => none
  | k + 1, n0, order1, last7, i8, c5b, s6 => if (decide (i8 < 16)) = true then (if (decide (i8 < ((order1).length : Int))) = true then (if 0 ≤ i8 ∧ i8 < ((order1).length : Int) then ((erasureref01_Int k i8).bind fun y_4 => ((cache_Lookup k c5b s6 ([] : List TEntry) y_4 (if last7 > (IntKind.i64.wrap ((IntKind.u64.wrap (order1.getD i8.toNat (0 : Int))).tmod 40)) then last7 else (IntKind.i64.wrap ((IntKind.u64.wrap (order1.getD i8.toNat (0 : Int))).tmod 40)))).bind fun y_6 => (if (y_6.2.2 != 0) = true then (some false) else (erasurelaw30_CacheBounds.p1 k n0 order1 (if last7 > (IntKind.i64.wrap ((IntKind.u64.wrap (order1.getD i8.toNat (0 : Int))).tmod 40)) then last7 else (IntKind.i64.wrap ((IntKind.u64.wrap (order1.getD i8.toNat (0 : Int))).tmod 40))) (IntKind.i64.wrap (i8 + 1)) c5b y_6.1)))) else none) else ((erasureref01_Int k i8).bind fun y_9 => ((cache_Lookup k c5b s6 ([] : List TEntry) y_9 (if last7 > i8 then last7 else i8)).bind fun y_11 => (if (y_11.2.2 != 0) = true then (some false) else (erasurelaw30_CacheBounds.p1 k n0 order1 (if last7 > i8 then last7 else i8) (IntKind.i64.wrap (i8 + 1)) c5b y_11.1))))) else (if (((s6).length : Int) != 16) = true then (some false) else (erasurelaw30_CacheBounds.p2 k n0 0 1 c5b s6))
noncomputable def erasurelaw30_CacheBounds  (k : Nat) (n0 : Int) (order1 : (List Int)) : Option Bool := erasurelaw30_CacheBounds.p1 k n0 order1 0 0 (TCache.mk (⟨#[]⟩ : ByteArray) (⟨#[]⟩ : ByteArray) 0 1000) ([] : List TCached)
noncomputable def erasurelaw30_CacheBounds.t : List Item := [.code (bodyOf Try.f5)]
noncomputable def erasurelaw30_CacheBounds.s (n0 : Int) (order1 : (List Int)) : St := ⟨frOf Try.f5.ntmps 0 [(0, .p (.int .i64 n0)), (1, .p (eL 1 (cI .i64) (0 : Int) order1))], []⟩
noncomputable def erasurelaw30_CacheBounds.p1.t : List Item := nav 13 [] erasurelaw30_CacheBounds.t
noncomputable def erasurelaw30_CacheBounds.p1.s (n0 : Int) (order1 : (List Int)) (last7 : Int) (i8 : Int) (c5b : TCache) (s6 : (List TCached)) : St := ⟨frOf Try.f5.ntmps 0 [(0, .p (.int .i64 n0)), (1, .p (eL 1 (cI .i64) (0 : Int) order1)), (5, .ptr 0 0 0), (6, .sref 1 46 5 (s6).length), (7, .p (.int .i64 last7)), (8, .p (.int .i64 i8))], [.box ((cCache c5b).map .p), (oL true 46 5 cCached dCached s6)]⟩
noncomputable def erasurelaw30_CacheBounds.p2.t : List Item := nav 17 [false, false] erasurelaw30_CacheBounds.p1.t
noncomputable def erasurelaw30_CacheBounds.p2.s (n0 : Int) (old13 : Int) (i14 : Int) (c5b : TCache) (s6 : (List TCached)) : St := ⟨frOf Try.f5.ntmps 0 [(0, .p (.int .i64 n0)), (5, .ptr 0 0 0), (6, .sref 1 46 5 (s6).length), (13, .p (.int .i64 old13)), (14, .p (.int .i64 i14))], [.box ((cCache c5b).map .p), (oL true 46 5 cCached dCached s6)]⟩
noncomputable def erasurelaw30_CacheBounds.p3.t : List Item := nav 17 [false, false] erasurelaw30_CacheBounds.p2.t
noncomputable def erasurelaw30_CacheBounds.p3.s (old13 : Int) (i18 : Int) (s6 : (List TCached)) (t15 : (List TCached)) : St := ⟨frOf Try.f5.ntmps 0 [(6, .sref 0 46 5 (s6).length), (13, .p (.int .i64 old13)), (15, .sref 1 46 5 (t15).length), (18, .p (.int .i64 i18))], [(oL false 46 5 cCached dCached s6), (oL true 46 5 cCached dCached t15)]⟩
theorem erasurelaw30_CacheBounds.p3.run   : ∀ (k : Nat) (old13 : Int) (i18 : Int) (s6 : (List TCached)) (t15 : (List TCached)) (r : Bool), erasurelaw30_CacheBounds.p3 k old13 i18 s6 t15 = some r → RunC Try.prog Try.f5 erasurelaw30_CacheBounds.p3.t (erasurelaw30_CacheBounds.p3.s old13 i18 s6 t15) (.p (.bool r)) [] := by
  intro k
  induction k with
  | zero => intro old13 i18 s6 t15 r h; simp [erasurelaw30_CacheBounds.p3] at h
  | succ k ih =>
    intro old13 i18 s6 t15 r h
    rw [erasurelaw30_CacheBounds.p3] at h
    rcases ite_or h with ⟨g_25, h⟩ | ⟨g_25, h⟩
    · obtain ⟨g_26, h⟩ := ite_some h
      obtain ⟨g_27, h⟩ := ite_some h
      rcases ite_or h with ⟨g_28, h⟩ | ⟨g_28, h⟩
      · obtain rfl := Option.some.inj h
        exact RunC.out [.n 2, .r [(3, .dec true)], .n 5, .r [(10, .dec true)], .n 3] (by kernel_rfl) (Obs.of (by kernel_rfl) (And.intro g_25 (And.intro g_26 (And.intro g_27 g_28))))
      · exact RunC.go [.n 2, .r [(3, .dec true)], .n 5, .r [(10, .dec false)], .n 5, .k [6, 13, 15, 18]] (by kernel_rfl) (Obs.of (by kernel_rfl) (And.intro g_25 (And.intro g_26 (And.intro g_27 (nt g_28))))) (ih _ _ _ _ r h)
    · obtain ⟨y_29, e_30, h⟩ := bind_or h
      obtain rfl := Option.some.inj h
      exact RunC.out [.n 2, .r [(3, .dec false)], .n 3, .r [(0, .call (.p (.bool y_29)) [])]] (by kernel_rfl) (Obs.of (by kernel_rfl) (And.intro (nt g_25) (erasurelaw30_awake.spec e_30)))
theorem erasurelaw30_CacheBounds.p2.run   : ∀ (k : Nat) (n0 : Int) (old13 : Int) (i14 : Int) (c5b : TCache) (s6 : (List TCached)) (r : Bool), erasurelaw30_CacheBounds.p2 k n0 old13 i14 c5b s6 = some r → RunC Try.prog Try.f5 erasurelaw30_CacheBounds.p2.t (erasurelaw30_CacheBounds.p2.s n0 old13 i14 c5b s6) (.p (.bool r)) [] := by
  intro k
  induction k with
  | zero => intro n0 old13 i14 c5b s6 r h; simp [erasurelaw30_CacheBounds.p2] at h
  | succ k ih =>
    intro n0 old13 i14 c5b s6 r h
    rw [erasurelaw30_CacheBounds.p2] at h
    rcases ite_or h with ⟨g_15, h⟩ | ⟨g_15, h⟩
    · obtain ⟨g_16, h⟩ := ite_some h
      obtain ⟨g_17, h⟩ := ite_some h
      rcases ite_or h with ⟨g_18, h⟩ | ⟨g_18, h⟩
      · exact RunC.go [.n 2, .r [(3, .dec true)], .n 5, .r [(10, .dec true)], .n 5, .k [0, 5, 6, 13, 14]] (by kernel_rfl) (Obs.of (by kernel_rfl) (And.intro g_15 (And.intro g_16 (And.intro g_17 g_18)))) (ih _ _ _ _ _ r h)
      · exact RunC.go [.n 2, .r [(3, .dec true)], .n 5, .r [(10, .dec false)], .n 5, .k [0, 5, 6, 13, 14]] (by kernel_rfl) (Obs.of (by kernel_rfl) (And.intro g_15 (And.intro g_16 (And.intro g_17 (nt g_18))))) (ih _ _ _ _ _ r h)
    · obtain ⟨y_19, e_20, h⟩ := bind_or h
      obtain ⟨y_21, e_22, h⟩ := bind_or h
      rcases ite_or h with ⟨g_23, h⟩ | ⟨g_23, h⟩
      · obtain rfl := Option.some.inj h
        exact RunC.out [.n 2, .r [(3, .dec false)], .n 3, .r [(5, .call (.agg ((cValue y_19).map .p)) []), (6, .callL [.agg ((cCache c5b).map .p), .p (eL 5 cCached dCached s6), .p (eL 2 cEntry dEntry ([] : List TEntry)), .agg ((cValue y_19).map .p), .p (.int .i64 41)] (.tup [.sref 0 46 5 (y_21.1).length, .sref 1 36 2 (y_21.2.1).length, .p (.int .i64 y_21.2.2)]) [(oL true 46 5 cCached dCached y_21.1), (oL true 36 2 cEntry dEntry y_21.2.1)])], .n 2, .r [(2, .dec true)], .n 3] (by kernel_rfl) (Obs.of (by kernel_rfl) (And.intro (nt g_15) (And.intro (erasureref01_Int.spec e_20) (And.intro (And.intro (fls_cons (fle_rfl (.agg ((cCache c5b).map .p))) (fls_cons (fle_rfl (.p (eL 5 cCached dCached s6))) (fls_cons (fle_nil 2 cEntry dEntry) (fls_cons (fle_rfl (.agg ((cValue y_19).map .p))) (fls_cons (fle_rfl (.p (.int .i64 41))) fls_nil))))) (cache_Lookup.spec e_22)) g_23))))
      · rcases ite_or h with ⟨g_24, h⟩ | ⟨g_24, h⟩
        · obtain rfl := Option.some.inj h
          exact RunC.out [.n 2, .r [(3, .dec false)], .n 3, .r [(5, .call (.agg ((cValue y_19).map .p)) []), (6, .callL [.agg ((cCache c5b).map .p), .p (eL 5 cCached dCached s6), .p (eL 2 cEntry dEntry ([] : List TEntry)), .agg ((cValue y_19).map .p), .p (.int .i64 41)] (.tup [.sref 0 46 5 (y_21.1).length, .sref 1 36 2 (y_21.2.1).length, .p (.int .i64 y_21.2.2)]) [(oL true 46 5 cCached dCached y_21.1), (oL true 36 2 cEntry dEntry y_21.2.1)])], .n 2, .r [(2, .dec false), (6, .dec true)], .n 3] (by kernel_rfl) (Obs.of (by kernel_rfl) (And.intro (nt g_15) (And.intro (erasureref01_Int.spec e_20) (And.intro (And.intro (fls_cons (fle_rfl (.agg ((cCache c5b).map .p))) (fls_cons (fle_rfl (.p (eL 5 cCached dCached s6))) (fls_cons (fle_nil 2 cEntry dEntry) (fls_cons (fle_rfl (.agg ((cValue y_19).map .p))) (fls_cons (fle_rfl (.p (.int .i64 41))) fls_nil))))) (cache_Lookup.spec e_22)) (And.intro (nt g_23) g_24)))))
        · exact RunC.go [.n 2, .r [(3, .dec false)], .n 3, .r [(5, .call (.agg ((cValue y_19).map .p)) []), (6, .callL [.agg ((cCache c5b).map .p), .p (eL 5 cCached dCached s6), .p (eL 2 cEntry dEntry ([] : List TEntry)), .agg ((cValue y_19).map .p), .p (.int .i64 41)] (.tup [.sref 0 46 5 (y_21.1).length, .sref 1 36 2 (y_21.2.1).length, .p (.int .i64 y_21.2.2)]) [(oL true 46 5 cCached dCached y_21.1), (oL true 36 2 cEntry dEntry y_21.2.1)])], .n 2, .r [(2, .dec false), (6, .dec false)], .n 7, .k [6, 13, 15, 18]] (by kernel_rfl) (Obs.of (by kernel_rfl) (And.intro (nt g_15) (And.intro (erasureref01_Int.spec e_20) (And.intro (And.intro (fls_cons (fle_rfl (.agg ((cCache c5b).map .p))) (fls_cons (fle_rfl (.p (eL 5 cCached dCached s6))) (fls_cons (fle_nil 2 cEntry dEntry) (fls_cons (fle_rfl (.agg ((cValue y_19).map .p))) (fls_cons (fle_rfl (.p (.int .i64 41))) fls_nil))))) (cache_Lookup.spec e_22)) (And.intro (nt g_23) (nt g_24)))))) (erasurelaw30_CacheBounds.p3.run k _ _ _ _ r h)
theorem erasurelaw30_CacheBounds.p1.run   : ∀ (k : Nat) (n0 : Int) (order1 : (List Int)) (last7 : Int) (i8 : Int) (c5b : TCache) (s6 : (List TCached)) (r : Bool), erasurelaw30_CacheBounds.p1 k n0 order1 last7 i8 c5b s6 = some r → RunC Try.prog Try.f5 erasurelaw30_CacheBounds.p1.t (erasurelaw30_CacheBounds.p1.s n0 order1 last7 i8 c5b s6) (.p (.bool r)) [] := by
  intro k
  induction k with
  | zero => intro n0 order1 last7 i8 c5b s6 r h; simp [erasurelaw30_CacheBounds.p1] at h
  | succ k ih =>
    intro n0 order1 last7 i8 c5b s6 r h
    rw [erasurelaw30_CacheBounds.p1] at h
    rcases ite_or h with ⟨g_1, h⟩ | ⟨g_1, h⟩
    · rcases ite_or h with ⟨g_2, h⟩ | ⟨g_2, h⟩
      · obtain ⟨g_3, h⟩ := ite_some h
        obtain ⟨y_4, e_5, h⟩ := bind_or h
        obtain ⟨y_6, e_7, h⟩ := bind_or h
        rcases ite_or h with ⟨g_8, h⟩ | ⟨g_8, h⟩
        · obtain rfl := Option.some.inj h
          exact RunC.out [.n 2, .r [(1, .dec true)], .n 8, .r [(3, .dec true)], .n 7, .r [(3, .call (.agg ((cValue y_4).map .p)) []), (5, .callL [.agg ((cCache c5b).map .p), .p (eL 5 cCached dCached s6), .p (eL 2 cEntry dEntry ([] : List TEntry)), .agg ((cValue y_4).map .p), .p (.int .i64 (if last7 > (IntKind.i64.wrap ((IntKind.u64.wrap (order1.getD i8.toNat (0 : Int))).tmod 40)) then last7 else (IntKind.i64.wrap ((IntKind.u64.wrap (order1.getD i8.toNat (0 : Int))).tmod 40))))] (.tup [.sref 0 46 5 (y_6.1).length, .sref 1 36 2 (y_6.2.1).length, .p (.int .i64 y_6.2.2)]) [(oL true 46 5 cCached dCached y_6.1), (oL true 36 2 cEntry dEntry y_6.2.1)])], .n 2, .r [(1, .dec true)], .n 3] (by kernel_rfl) (Obs.of (by kernel_rfl) (And.intro g_1 (And.intro g_2 (And.intro g_3 (And.intro (show (40 : Int) ≠ 0 from (by decide)) (And.intro (erasureref01_Int.spec e_5) (And.intro (And.intro (fls_cons (fle_rfl (.agg ((cCache c5b).map .p))) (fls_cons (fle_rfl (.p (eL 5 cCached dCached s6))) (fls_cons (fle_nil 2 cEntry dEntry) (fls_cons (fle_rfl (.agg ((cValue y_4).map .p))) (fls_cons (fle_rfl (.p (.int .i64 (if last7 > (IntKind.i64.wrap ((IntKind.u64.wrap (order1.getD i8.toNat (0 : Int))).tmod 40)) then last7 else (IntKind.i64.wrap ((IntKind.u64.wrap (order1.getD i8.toNat (0 : Int))).tmod 40)))))) fls_nil))))) (cache_Lookup.spec e_7)) g_8)))))))
        · exact RunC.go [.n 2, .r [(1, .dec true)], .n 8, .r [(3, .dec true)], .n 7, .r [(3, .call (.agg ((cValue y_4).map .p)) []), (5, .callL [.agg ((cCache c5b).map .p), .p (eL 5 cCached dCached s6), .p (eL 2 cEntry dEntry ([] : List TEntry)), .agg ((cValue y_4).map .p), .p (.int .i64 (if last7 > (IntKind.i64.wrap ((IntKind.u64.wrap (order1.getD i8.toNat (0 : Int))).tmod 40)) then last7 else (IntKind.i64.wrap ((IntKind.u64.wrap (order1.getD i8.toNat (0 : Int))).tmod 40))))] (.tup [.sref 0 46 5 (y_6.1).length, .sref 1 36 2 (y_6.2.1).length, .p (.int .i64 y_6.2.2)]) [(oL true 46 5 cCached dCached y_6.1), (oL true 36 2 cEntry dEntry y_6.2.1)])], .n 2, .r [(1, .dec false)], .n 6, .k [0, 1, 5, 6, 7, 8]] (by kernel_rfl) (Obs.of (by kernel_rfl) (And.intro g_1 (And.intro g_2 (And.intro g_3 (And.intro (show (40 : Int) ≠ 0 from (by decide)) (And.intro (erasureref01_Int.spec e_5) (And.intro (And.intro (fls_cons (fle_rfl (.agg ((cCache c5b).map .p))) (fls_cons (fle_rfl (.p (eL 5 cCached dCached s6))) (fls_cons (fle_nil 2 cEntry dEntry) (fls_cons (fle_rfl (.agg ((cValue y_4).map .p))) (fls_cons (fle_rfl (.p (.int .i64 (if last7 > (IntKind.i64.wrap ((IntKind.u64.wrap (order1.getD i8.toNat (0 : Int))).tmod 40)) then last7 else (IntKind.i64.wrap ((IntKind.u64.wrap (order1.getD i8.toNat (0 : Int))).tmod 40)))))) fls_nil))))) (cache_Lookup.spec e_7)) (nt g_8)))))))) (ih _ _ _ _ _ _ r h)
      · obtain ⟨y_9, e_10, h⟩ := bind_or h
        obtain ⟨y_11, e_12, h⟩ := bind_or h
        rcases ite_or h with ⟨g_13, h⟩ | ⟨g_13, h⟩
        · obtain rfl := Option.some.inj h
          exact RunC.out [.n 2, .r [(1, .dec true)], .n 8, .r [(3, .dec false)], .n 7, .r [(3, .call (.agg ((cValue y_9).map .p)) []), (5, .callL [.agg ((cCache c5b).map .p), .p (eL 5 cCached dCached s6), .p (eL 2 cEntry dEntry ([] : List TEntry)), .agg ((cValue y_9).map .p), .p (.int .i64 (if last7 > i8 then last7 else i8))] (.tup [.sref 0 46 5 (y_11.1).length, .sref 1 36 2 (y_11.2.1).length, .p (.int .i64 y_11.2.2)]) [(oL true 46 5 cCached dCached y_11.1), (oL true 36 2 cEntry dEntry y_11.2.1)])], .n 2, .r [(1, .dec true)], .n 3] (by kernel_rfl) (Obs.of (by kernel_rfl) (And.intro g_1 (And.intro (nt g_2) (And.intro (erasureref01_Int.spec e_10) (And.intro (And.intro (fls_cons (fle_rfl (.agg ((cCache c5b).map .p))) (fls_cons (fle_rfl (.p (eL 5 cCached dCached s6))) (fls_cons (fle_nil 2 cEntry dEntry) (fls_cons (fle_rfl (.agg ((cValue y_9).map .p))) (fls_cons (fle_rfl (.p (.int .i64 (if last7 > i8 then last7 else i8)))) fls_nil))))) (cache_Lookup.spec e_12)) g_13)))))
        · exact RunC.go [.n 2, .r [(1, .dec true)], .n 8, .r [(3, .dec false)], .n 7, .r [(3, .call (.agg ((cValue y_9).map .p)) []), (5, .callL [.agg ((cCache c5b).map .p), .p (eL 5 cCached dCached s6), .p (eL 2 cEntry dEntry ([] : List TEntry)), .agg ((cValue y_9).map .p), .p (.int .i64 (if last7 > i8 then last7 else i8))] (.tup [.sref 0 46 5 (y_11.1).length, .sref 1 36 2 (y_11.2.1).length, .p (.int .i64 y_11.2.2)]) [(oL true 46 5 cCached dCached y_11.1), (oL true 36 2 cEntry dEntry y_11.2.1)])], .n 2, .r [(1, .dec false)], .n 6, .k [0, 1, 5, 6, 7, 8]] (by kernel_rfl) (Obs.of (by kernel_rfl) (And.intro g_1 (And.intro (nt g_2) (And.intro (erasureref01_Int.spec e_10) (And.intro (And.intro (fls_cons (fle_rfl (.agg ((cCache c5b).map .p))) (fls_cons (fle_rfl (.p (eL 5 cCached dCached s6))) (fls_cons (fle_nil 2 cEntry dEntry) (fls_cons (fle_rfl (.agg ((cValue y_9).map .p))) (fls_cons (fle_rfl (.p (.int .i64 (if last7 > i8 then last7 else i8)))) fls_nil))))) (cache_Lookup.spec e_12)) (nt g_13)))))) (ih _ _ _ _ _ _ r h)
    · rcases ite_or h with ⟨g_14, h⟩ | ⟨g_14, h⟩
      · obtain rfl := Option.some.inj h
        exact RunC.out [.n 2, .r [(1, .dec false)], .n 4, .r [(2, .dec true)], .n 3] (by kernel_rfl) (Obs.of (by kernel_rfl) (And.intro (nt g_1) g_14))
      · exact RunC.go [.n 2, .r [(1, .dec false)], .n 4, .r [(2, .dec false)], .n 9, .k [0, 5, 6, 13, 14]] (by kernel_rfl) (Obs.of (by kernel_rfl) (And.intro (nt g_1) (nt g_14))) (erasurelaw30_CacheBounds.p2.run k _ _ _ _ _ r h)
theorem erasurelaw30_CacheBounds.run   {k : Nat} {n0 : Int} {order1 : (List Int)} {r : Bool} (h : erasurelaw30_CacheBounds k n0 order1 = some r) : RunC Try.prog Try.f5 erasurelaw30_CacheBounds.t (erasurelaw30_CacheBounds.s n0 order1) (.p (.bool r)) [] := by
  unfold erasurelaw30_CacheBounds at h
  exact RunC.go [.n 5, .r [(0, .obj (oL true 46 5 cCached dCached ([] : List TCached)))], .n 7, .k [0, 1, 5, 6, 7, 8]] (by kernel_rfl) (Obs.of (by kernel_rfl) (le_nil 46 5 cCached dCached)) (erasurelaw30_CacheBounds.p1.run k _ _ _ _ _ _ r h)
theorem erasurelaw30_CacheBounds.p3.mono   : ∀ (k k' : Nat) (old13 : Int) (i18 : Int) (s6 : (List TCached)) (t15 : (List TCached)) (r : Bool), k ≤ k' → erasurelaw30_CacheBounds.p3 k old13 i18 s6 t15 = some r → erasurelaw30_CacheBounds.p3 k' old13 i18 s6 t15 = some r := by
  intro k
  induction k with
  | zero => intro k' old13 i18 s6 t15 r hk h; simp [erasurelaw30_CacheBounds.p3] at h
  | succ k ih =>
    intro k' old13 i18 s6 t15 r hk h
    obtain ⟨k', rfl⟩ : ∃ m, k' = m + 1 := ⟨k' - 1, by omega⟩
    replace hk := Nat.le_of_succ_le_succ hk
    rw [erasurelaw30_CacheBounds.p3] at h ⊢
    rcases ite_or h with ⟨g_25, h⟩ | ⟨g_25, h⟩
    · refine itp g_25 ?_
      obtain ⟨g_26, h⟩ := ite_some h
      refine itp g_26 ?_
      obtain ⟨g_27, h⟩ := ite_some h
      refine itp g_27 ?_
      rcases ite_or h with ⟨g_28, h⟩ | ⟨g_28, h⟩
      · refine itp g_28 ?_
        exact h
      · refine itn g_28 ?_
        exact ih _ _ _ _ _ r hk h
    · refine itn g_25 ?_
      obtain ⟨y_29, e_30, h⟩ := bind_or h
      refine bnd (erasurelaw30_awake.mono _ _  _ hk e_30) ?_
      exact h
theorem erasurelaw30_CacheBounds.p2.mono   : ∀ (k k' : Nat) (n0 : Int) (old13 : Int) (i14 : Int) (c5b : TCache) (s6 : (List TCached)) (r : Bool), k ≤ k' → erasurelaw30_CacheBounds.p2 k n0 old13 i14 c5b s6 = some r → erasurelaw30_CacheBounds.p2 k' n0 old13 i14 c5b s6 = some r := by
  intro k
  induction k with
  | zero => intro k' n0 old13 i14 c5b s6 r hk h; simp [erasurelaw30_CacheBounds.p2] at h
  | succ k ih =>
    intro k' n0 old13 i14 c5b s6 r hk h
    obtain ⟨k', rfl⟩ : ∃ m, k' = m + 1 := ⟨k' - 1, by omega⟩
    replace hk := Nat.le_of_succ_le_succ hk
    rw [erasurelaw30_CacheBounds.p2] at h ⊢
    rcases ite_or h with ⟨g_15, h⟩ | ⟨g_15, h⟩
    · refine itp g_15 ?_
      obtain ⟨g_16, h⟩ := ite_some h
      refine itp g_16 ?_
      obtain ⟨g_17, h⟩ := ite_some h
      refine itp g_17 ?_
      rcases ite_or h with ⟨g_18, h⟩ | ⟨g_18, h⟩
      · refine itp g_18 ?_
        exact ih _ _ _ _ _ _ r hk h
      · refine itn g_18 ?_
        exact ih _ _ _ _ _ _ r hk h
    · refine itn g_15 ?_
      obtain ⟨y_19, e_20, h⟩ := bind_or h
      refine bnd (erasureref01_Int.mono _ _ _ _ hk e_20) ?_
      obtain ⟨y_21, e_22, h⟩ := bind_or h
      refine bnd (cache_Lookup.mono _ _ _ _ _ _ _ _ hk e_22) ?_
      rcases ite_or h with ⟨g_23, h⟩ | ⟨g_23, h⟩
      · refine itp g_23 ?_
        exact h
      · refine itn g_23 ?_
        rcases ite_or h with ⟨g_24, h⟩ | ⟨g_24, h⟩
        · refine itp g_24 ?_
          exact h
        · refine itn g_24 ?_
          exact erasurelaw30_CacheBounds.p3.mono _ _ _ _ _ _ r hk h
theorem erasurelaw30_CacheBounds.p1.mono   : ∀ (k k' : Nat) (n0 : Int) (order1 : (List Int)) (last7 : Int) (i8 : Int) (c5b : TCache) (s6 : (List TCached)) (r : Bool), k ≤ k' → erasurelaw30_CacheBounds.p1 k n0 order1 last7 i8 c5b s6 = some r → erasurelaw30_CacheBounds.p1 k' n0 order1 last7 i8 c5b s6 = some r := by
  intro k
  induction k with
  | zero => intro k' n0 order1 last7 i8 c5b s6 r hk h; simp [erasurelaw30_CacheBounds.p1] at h
  | succ k ih =>
    intro k' n0 order1 last7 i8 c5b s6 r hk h
    obtain ⟨k', rfl⟩ : ∃ m, k' = m + 1 := ⟨k' - 1, by omega⟩
    replace hk := Nat.le_of_succ_le_succ hk
    rw [erasurelaw30_CacheBounds.p1] at h ⊢
    rcases ite_or h with ⟨g_1, h⟩ | ⟨g_1, h⟩
    · refine itp g_1 ?_
      rcases ite_or h with ⟨g_2, h⟩ | ⟨g_2, h⟩
      · refine itp g_2 ?_
        obtain ⟨g_3, h⟩ := ite_some h
        refine itp g_3 ?_
        obtain ⟨y_4, e_5, h⟩ := bind_or h
        refine bnd (erasureref01_Int.mono _ _ _ _ hk e_5) ?_
        obtain ⟨y_6, e_7, h⟩ := bind_or h
        refine bnd (cache_Lookup.mono _ _ _ _ _ _ _ _ hk e_7) ?_
        rcases ite_or h with ⟨g_8, h⟩ | ⟨g_8, h⟩
        · refine itp g_8 ?_
          exact h
        · refine itn g_8 ?_
          exact ih _ _ _ _ _ _ _ r hk h
      · refine itn g_2 ?_
        obtain ⟨y_9, e_10, h⟩ := bind_or h
        refine bnd (erasureref01_Int.mono _ _ _ _ hk e_10) ?_
        obtain ⟨y_11, e_12, h⟩ := bind_or h
        refine bnd (cache_Lookup.mono _ _ _ _ _ _ _ _ hk e_12) ?_
        rcases ite_or h with ⟨g_13, h⟩ | ⟨g_13, h⟩
        · refine itp g_13 ?_
          exact h
        · refine itn g_13 ?_
          exact ih _ _ _ _ _ _ _ r hk h
    · refine itn g_1 ?_
      rcases ite_or h with ⟨g_14, h⟩ | ⟨g_14, h⟩
      · refine itp g_14 ?_
        exact h
      · refine itn g_14 ?_
        exact erasurelaw30_CacheBounds.p2.mono _ _ _ _ _ _ _ r hk h
theorem erasurelaw30_CacheBounds.mono   : ∀ (k k' : Nat) (n0 : Int) (order1 : (List Int)) (r : Bool), k ≤ k' → erasurelaw30_CacheBounds k n0 order1 = some r → erasurelaw30_CacheBounds k' n0 order1 = some r := by
  intro k k' n0 order1 r hk h
  unfold erasurelaw30_CacheBounds at h ⊢
  exact erasurelaw30_CacheBounds.p1.mono _ _ _ _ _ _ _ _ r hk h
theorem erasurelaw30_CacheBounds.spec {k : Nat} {n0 : Int} {order1 : (List Int)} {r : Bool} (h : erasurelaw30_CacheBounds k n0 order1 = some r) : Spec Try.prog 5 [.p (.int .i64 n0), .p (eL 1 (cI .i64) (0 : Int) order1)] (.p (.bool r)) [] :=
  spec_of mix Try.func5 (body := bodyOf Try.f5) (by kernel_rfl) (by kernel_rfl) (erasurelaw30_CacheBounds.run h)
end Go.Proofs.YtjhnpaenhdbhpabV
set_option linter.unusedVariables false
set_option linter.unusedSimpArgs false
namespace Go.Proofs.YtjhnpaenhdbhpabV
open Go Go.RowKit
theorem awake30_ev : Ev (fun k => erasurelaw30_awake k) true := Ev.of (fun k k' hk h => erasurelaw30_awake.mono k k' true hk h) (k := 60) (by kernel_rfl)
theorem insC_len (w : TValue) (y : TCached) : ∀ l : List TCached, (insC w y l).length = l.length + 1
  | [] => rfl
  | x :: l => by rw [insC_cons]; split <;> simp [insC_len w y l]
theorem insC_mem (w : TValue) (y : TCached) : ∀ l : List TCached, ∀ x ∈ insC w y l, x = y ∨ x ∈ l
  | [], x, hx => by left; simpa [insC] using hx
  | z :: l, x, hx => by
    rw [insC_cons] at hx
    split at hx
    · rcases List.mem_cons.1 hx with rfl | hx
      · exact .inr (List.mem_cons_self ..)
      · exact (insC_mem w y l x hx).imp id (List.mem_cons_of_mem _)
    · rcases List.mem_cons.1 hx with rfl | hx
      · exact .inl rfl
      · exact .inr hx
end Go.Proofs.YtjhnpaenhdbhpabV
set_option linter.unusedVariables false
set_option linter.unusedSimpArgs false
namespace Go.Proofs.YtjhnpaenhdbhpabV
open Go Go.RowKit
theorem ctF_of : ∀ (l : List TCached) (p : Option TCached), (∀ x ∈ l, okV x.f0 = true ∧ bagV x.f1 = true ∧ okD x.f2 = true) → Ord l → (∀ q, p = some q → ∀ x ∈ l, cmpV q.f0 x.f0 < 0) → ctF p l = true
  | [], p, _, _, _ => by cases p <;> rfl
  | y :: l, p, h1, h2, h3 => by
    have hy := h1 y (List.mem_cons_self ..)
    have h4 := List.pairwise_cons.1 h2
    have ih := ctF_of l (some y) (fun x hx => h1 x (List.mem_cons_of_mem _ hx)) h4.2 (fun q hq x hx => by cases hq; exact h4.1 x hx)
    cases p with
    | none => simp [ctF, hy, ih]
    | some p => simp [ctF, hy, ih, h3 p rfl y (List.mem_cons_self ..)]
theorem cacheV_of {l : List TCached} (h1 : ∀ x ∈ l, okV x.f0 = true ∧ bagV x.f1 = true ∧ okD x.f2 = true) (h2 : Ord l) (h3 : l.length ≤ 16) : cacheV l = true := by
  unfold cacheV
  rw [ctF_of l none h1 h2 (fun q hq => by cases hq), decide_eq_true h3]; rfl
theorem insC_ord (w : TValue) (y : TCached) (hw : okV w = true) (hy : y.f0 = w) : ∀ l : List TCached, Ord l → (∀ x ∈ l, okV x.f0 = true) → (∀ x ∈ l, x.f0 ≠ w) → Ord (insC w y l)
  | [], _, _, _ => List.pairwise_singleton _ _
  | x :: l, ho, hk, hn => by
    rw [insC_cons]
    have h1 := List.pairwise_cons.1 ho
    have hx := hk x (List.mem_cons_self ..)
    by_cases h : cmpV x.f0 w < 0
    · rw [if_pos h]
      refine List.pairwise_cons.2 ⟨fun z hz => ?_, insC_ord w y hw hy l h1.2 (fun z hz => hk z (List.mem_cons_of_mem _ hz)) (fun z hz => hn z (List.mem_cons_of_mem _ hz))⟩
      rcases insC_mem w y l z hz with rfl | hz
      · rw [hy]; exact h
      · exact h1.1 z hz
    · rw [if_neg h]
      have hz : cmpV x.f0 w ≠ 0 := fun e => hn x (List.mem_cons_self ..) ((cmpV_zero hx hw).1 e)
      have hs := cmpV_swap x.f0 w
      refine List.pairwise_cons.2 ⟨fun z hz => ?_, ho⟩
      rw [hy]
      rcases List.mem_cons.1 hz with rfl | hz
      · omega
      · exact cmpV_trans (show cmpV w x.f0 < 0 by omega) (h1.1 z hz)
theorem dropOld_sub (l : List TCached) : (dropOld l).Sublist l := by
  unfold dropOld
  have h1 := List.take_append_drop (oldestF l 0 1 (l.drop 1)) l
  have h2 : (l.drop (oldestF l 0 1 (l.drop 1) + 1)).Sublist (l.drop (oldestF l 0 1 (l.drop 1))) := by rw [← List.drop_drop]; exact List.drop_sublist _ _
  have := (List.Sublist.refl (l.take (oldestF l 0 1 (l.drop 1)))).append h2
  rwa [h1] at this
theorem lookF_ok (rows : List TEntry) (d : Int) (c : TCache) (out : List TCached) (w : TValue) (hb : bagV rows = true) (hd : okD d = true) (hw : okV w = true) (ho : cacheV out = true) : ∀ l : List TCached, (∀ x ∈ l, x ∈ out) → (∀ x ∈ out, x.f0 = w → x ∈ l) →
    cacheV (lookF rows d c out w l).1 = true ∧ bagV (lookF rows d c out w l).2.1 = true
  | [], _, hno => by
    have hm := cacheV_mem ho
    have hl := cacheV_len ho
    have hne : ∀ x ∈ out, x.f0 ≠ w := fun x hx e => by have := hno x hx e; cases this
    have hsel : bagV (selS rows c.f2 w) = true := bagV_filter _ hb
    refine ⟨?_, hsel⟩
    unfold lookF
    have hsub : (if 16 ≤ out.length then dropOld out else out).Sublist out := by split; exact dropOld_sub out; exact List.Sublist.refl _
    have hlen : (if 16 ≤ out.length then dropOld out else out).length ≤ 15 := by
      split
      · rw [dropOld_len (by omega)]; omega
      · omega
    refine cacheV_of (fun x hx => ?_) (insC_ord w _ hw rfl _ ((cacheV_ord ho).sublist hsub) (fun x hx => (hm x (hsub.mem hx)).1) (fun x hx => hne x (hsub.mem hx))) (by rw [insC_len]; omega)
    rcases insC_mem w _ _ x hx with rfl | hx
    · exact ⟨hw, hsel, hd⟩
    · exact hm x (hsub.mem hx)
  | x :: l, hs, hno => by
    unfold lookF
    by_cases h : x.f0 = w
    · rw [if_pos h]; exact ⟨ho, (cacheV_mem ho x (hs x (List.mem_cons_self ..))).2.1⟩
    · rw [if_neg h]
      refine lookF_ok rows d c out w hb hd hw ho l (fun y hy => hs y (List.mem_cons_of_mem _ hy)) (fun y hy e => ?_)
      rcases List.mem_cons.1 (hno y hy e) with rfl | hy
      · exact absurd e h
      · exact hy
theorem cacheV_filter {l : List TCached} (p : TCached → Bool) (h : cacheV l = true) : cacheV (l.filter p) = true :=
  cacheV_of (fun x hx => cacheV_mem h x (List.mem_filter.1 hx).1) ((cacheV_ord h).filter _) (Nat.le_trans (List.length_filter_le _ _) (cacheV_len h))
theorem expS_ok (t d : Int) (l : List TCached) : cacheV (expS t l d) = true := by
  unfold expS
  split
  · rename_i h; simp only [Bool.and_eq_true] at h; exact cacheV_filter _ h.1
  · rfl
theorem lookS_ok (c : TCache) (l : List TCached) (rows : List TEntry) (v : TValue) (d : Int) : cacheV (lookS c l rows v d).1 = true ∧ bagV (lookS c l rows v d).2.1 = true := by
  unfold lookS
  split
  · rename_i h
    simp only [Bool.and_eq_true] at h
    exact lookF_ok rows d c _ _ h.2.1 h.2.2.2 (okV_cl v) (expS_ok _ _ _) _ (fun _ h => h) (fun _ h _ => h)
  · exact ⟨rfl, rfl⟩
theorem refS_ok (c : TCache) (s : List TCached) (rows : List TEntry) (d : Int) : cacheV (refS c s rows d) = true := by
  unfold refS
  split
  · rename_i h
    simp only [Bool.and_eq_true] at h
    have hm := cacheV_mem h.1
    have key : ∀ x y, refF rows c.f2 d x = some y → y.f0 = x.f0 ∧ bagV y.f1 = true ∧ y.f2 = d := by
      intro x y hxy
      unfold refF at hxy
      split at hxy
      · cases hxy
      · injection hxy with hxy; subst hxy; exact ⟨rfl, bagV_filter _ h.2.1, rfl⟩
    refine cacheV_of (fun y hy => ?_) ?_ (Nat.le_trans (List.length_filterMap_le _ _) (cacheV_len h.1))
    · obtain ⟨x, hx, hxy⟩ := List.mem_filterMap.1 hy
      obtain ⟨k1, k2, k3⟩ := key x y hxy
      exact ⟨by rw [k1]; exact (hm x hx).1, k2, by rw [k3]; exact h.2.2.2⟩
    · refine List.Pairwise.filterMap _ (fun a a' haa b hb b' hb' => ?_) (cacheV_ord h.1)
      rw [(key a b hb).1, (key a' b' hb').1]; exact haa
  · rfl
theorem purS_ok (s : List TCached) (vs : List TValue) : cacheV (purS s vs) = true := by
  unfold purS
  split
  · rename_i h; exact cacheV_filter _ h
  · rfl
theorem cacheV_fin {l : List TCached} (h : cacheV l = true) : FinC l :=
  ⟨by have := cacheV_len h; omega, fun x hx => bagV_fin (cacheV_mem h x hx).2.1⟩
theorem same_self {l : List TCached} (h : FinC l) : Ev (fun k => erasureref30_Same k l l) true := by
  have := refSame_ev l l h
  simpa using this
theorem sameBag_self {l : List TEntry} (h : Fin l) : Ev (fun k => erasureref26_SameBag k l l) true := by
  have := ref26_SameBag_ev l l h
  simpa using this
end Go.Proofs.YtjhnpaenhdbhpabV
set_option linter.unusedVariables false
set_option linter.unusedSimpArgs false
namespace Go.Proofs.YtjhnpaenhdbhpabV
open Go Go.RowKit
theorem fin_of {l : List TEntry} (h0 : l.length ≤ maxLen ∧ ∀ e0 ∈ l, ((e0.f0.length ≤ maxLen ∧ ∀ e1 ∈ e0.f0, ((Lit.int .i64 e1.f0).wf = true ∧ ((Lit.int .i64 e1.f1).wf = true ∧ e1.f2.size ≤ maxLen))) ∧ (Lit.int .i64 e0.f1).wf = true)) : Fin l :=
  ⟨by have := h0.1; simp only [maxLen] at this; omega, fun e he => by have := (h0.2 e he).1.1; simp only [maxLen] at this; omega⟩
theorem aw30 : Ev (fun k => (erasurelaw30_awake k).bind fun y => some y) true := Ev.bind awake30_ev (Ev.now _)
theorem small_ev (l : List TCached) (hl : FinC l) : ∃ b, Ev (fun k => erasurelaw30_small k l) b := by
  refine ⟨(l.all fun x => x.f1.all (fun e => decide (e.f0.length ≤ 20)) && decide (x.f1.length ≤ 40)) && decide ((l.length : Int) ≤ 30), ?_⟩
  have h1 := hl.1
  unfold erasurelaw30_small
  refine (loop_down (P := fun i => Ev (fun k => erasurelaw30_small.p1 k l (i : Int)) (((l.drop i).all fun x => x.f1.all (fun e => decide (e.f0.length ≤ 20)) && decide (x.f1.length ≤ 40)) && decide ((l.length : Int) ≤ 30))) l.length ?_ ?_ 0 (by omega))
  · refine Ev.succ ?_
    simp only [erasurelaw30_small.p1, decide_eq_true_eq]
    exact Ev.ite_neg (by omega) (Ev.done (by simp))
  · intro i hi ih
    refine Ev.succ ?_
    simp only [erasurelaw30_small.p1, decide_eq_true_eq]
    refine Ev.ite_pos (by omega) (Ev.ite_pos (by omega) (Ev.bind (short_ev _ (hl.2 _ (getD_mem _ hi)).1) ?_))
    rw [dC hi, wrn hi h1, List.all_cons]
    cases h : ((l.getD (i : Int).toNat dCached).f1.all (fun e => decide (e.f0.length ≤ 20)) && decide ((l.getD (i : Int).toNat dCached).f1.length ≤ 40)) with
    | false => exact Ev.ite_pos rfl (Ev.done (by simp))
    | true => exact Ev.ite_neg (by simp) (ih.to (by simp))
theorem finC_of {l : List TCached} (h1 : (l.length ≤ maxLen ∧ ∀ e0 ∈ l, (((Lit.int .i64 e0.f0.f0).wf = true ∧ ((Lit.int .i64 e0.f0.f1).wf = true ∧ e0.f0.f2.size ≤ maxLen)) ∧ ((e0.f1.length ≤ maxLen ∧ ∀ e1 ∈ e0.f1, ((e1.f0.length ≤ maxLen ∧ ∀ e2 ∈ e1.f0, ((Lit.int .i64 e2.f0).wf = true ∧ ((Lit.int .i64 e2.f1).wf = true ∧ e2.f2.size ≤ maxLen))) ∧ (Lit.int .i64 e1.f1).wf = true)) ∧ (Lit.int .i64 e0.f2).wf = true)))) : FinC l :=
  ⟨by have := h1.1; simp only [maxLen] at this; omega, fun x hx => fin_of (h1.2 x hx).2.1⟩
theorem CacheRaw_std (x0 : TCache) (x1 : (List TCached)) (x2 : TAct) (h0 : (x0.f0.size ≤ maxLen ∧ (x0.f1.size ≤ maxLen ∧ ((Lit.int .i64 x0.f2).wf = true ∧ (Lit.int .i64 x0.f3).wf = true)))) (h1 : (x1.length ≤ maxLen ∧ ∀ e0 ∈ x1, (((Lit.int .i64 e0.f0.f0).wf = true ∧ ((Lit.int .i64 e0.f0.f1).wf = true ∧ e0.f0.f2.size ≤ maxLen)) ∧ ((e0.f1.length ≤ maxLen ∧ ∀ e1 ∈ e0.f1, ((e1.f0.length ≤ maxLen ∧ ∀ e2 ∈ e1.f0, ((Lit.int .i64 e2.f0).wf = true ∧ ((Lit.int .i64 e2.f1).wf = true ∧ e2.f2.size ≤ maxLen))) ∧ (Lit.int .i64 e1.f1).wf = true)) ∧ (Lit.int .i64 e0.f2).wf = true)))) (h2 : ((Lit.int .i64 x2.f0).wf = true ∧ (((Lit.int .i64 x2.f1.f0).wf = true ∧ ((Lit.int .i64 x2.f1.f1).wf = true ∧ x2.f1.f2.size ≤ maxLen)) ∧ ((Lit.int .i64 x2.f2).wf = true ∧ (Lit.int .i64 x2.f3).wf = true)))) : ∃ k, erasurelaw30_CacheRaw k x0 x1 x2 = some true := by
  have fc := finC_of h1
  have fr : Fin [(TEntry.mk [x2.f1] 1)] := ⟨by simp, fun e he => by simp at he; subst he; simp⟩
  refine Ev.some (g := fun k => erasurelaw30_CacheRaw k x0 x1 x2) ?_
  unfold erasurelaw30_CacheRaw
  obtain ⟨b, hb⟩ := small_ev x1 fc
  refine Ev.bind hb ?_
  cases b with
  | false => exact Ev.ite_pos rfl aw30
  | true =>
    have lo := lookS_ok x0 x1 [(TEntry.mk [x2.f1] 1)] x2.f1 x2.f2
    refine Ev.ite_neg (by simp) (Ev.bind (Lookup_ev x0 x1 _ x2.f1 x2.f2 fc fr) (Ev.bind (refLookup_ev x0 x1 _ x2.f1 x2.f2 fc fr) (Ev.bind (cache_Valid_ev x1 fc) (Ev.bind (ref30_Valid_ev x1 fc) (Ev.ite_pos (by simp) (Ev.ite_pos (by simp) ?_))))))
    refine Ev.bind (same_self (cacheV_fin lo.1)) (Ev.ite_pos rfl (Ev.bind (sameBag_self (bagV_fin lo.2)) (Ev.ite_pos rfl ?_)))
    refine Ev.bind (Refill_ev x0 x1 _ x2.f2 fc fr) (Ev.bind (refRefill_ev x0 x1 _ x2.f2 fc fr) (Ev.bind (same_self (cacheV_fin (refS_ok _ _ _ _))) (Ev.ite_pos rfl ?_)))
    refine Ev.bind (Purge_ev x1 [x2.f1] fc (by simp)) (Ev.bind (refPurge_ev x1 [x2.f1] fc (by simp)) (Ev.bind (same_self (cacheV_fin (purS_ok _ _))) (Ev.ite_pos rfl ?_)))
    refine Ev.bind (Expire_ev x0 x1 x2.f2 fc) (Ev.bind (refExpire_ev x0 x1 x2.f2 fc) (Ev.bind (same_self (cacheV_fin (expS_ok _ _ _))) (Ev.ite_pos rfl ?_)))
    exact Ev.bind (Fresh_ev x0 x1 _ fc fr) (Ev.bind (refFresh_ev x0 x1 _ fc fr) (Ev.ite_pos (by simp) aw30))
end Go.Proofs.YtjhnpaenhdbhpabV
set_option linter.unusedVariables false
set_option linter.unusedSimpArgs false
set_option linter.constructorNameAsVariable false
namespace Go.Proofs.YtjhnpaenhdbhpabV
open Go Go.RowKit
def RepL (F : Nat → Prop) (w : World) : List AV → List Value → Prop
  | [], [] => True
  | a :: l, v :: m => Rep F w a v ∧ RepL F w l m
  | _, _ => False
theorem RepL.len {F : Nat → Prop} {w : World} : ∀ {l : List AV} {m : List Value}, RepL F w l m → l.length = m.length
  | [], [], _ => rfl
  | _ :: _, _ :: _, h => by simp [RepL.len h.2]
  | [], _ :: _, h => h.elim
  | _ :: _, [], h => h.elim
theorem RepL.get {F : Nat → Prop} {w : World} : ∀ {l : List AV} {m : List Value}, RepL F w l m → ∀ (i : Nat) (v : Value), m[i]? = some v → Rep F w (l.getD i .u) v
  | [], [], _, i, v, h => by simp at h
  | a :: l, u :: m, h, i, v, hv => by
    cases i with
    | zero =>
      simp only [List.getElem?_cons_zero, Option.some.injEq] at hv
      subst hv
      exact h.1
    | succ i => simpa using RepL.get h.2 i v (by simpa using hv)
  | [], _ :: _, h, _, _, _ => h.elim
  | _ :: _, [], h, _, _, _ => h.elim
theorem RepL.app {F : Nat → Prop} {w : World} : ∀ {l : List AV} {m : List Value} {l' : List AV} {m' : List Value}, RepL F w l m → RepL F w l' m' → RepL F w (l ++ l') (m ++ m')
  | [], [], _, _, _, k => k
  | _ :: _, _ :: _, _, _, h, k => ⟨h.1, RepL.app h.2 k⟩
  | [], _ :: _, _, _, h, _ => h.elim
  | _ :: _, [], _, _, h, _ => h.elim
theorem RepL.fv {F : Nat → Prop} {w : World} {κ : Nat → Value} {hp : List Ob} : ∀ {l : List AV} {m : List Value}, RepL F w l m → RelVs ⟨F, w, κ, hp⟩ (l.map .p) m
  | [], [], _ => by simp [RelVs]
  | a :: l, v :: m, h => by simp only [List.map_cons, RelVs]; exact ⟨v, m, rfl, by simp only [RelV]; exact h.1, RepL.fv h.2⟩
  | [], _ :: _, h => h.elim
  | _ :: _, [], h => h.elim
abbrev oldF (W : World) : Nat → Prop := fun b => b < W.heap.size
structure Op1 {α : Type} (P : Program) (t : TypeId) (c : α → List AV) (B : α → Prop) : Prop where mk ::
  out : ∀ {H : Type} (enc : TypeId × Value → H) (W : World) (fuel : Nat) (cs : List Value) (y : DataW H × List MemPlace), DataW.trod enc P W 0 (fun _ => true) true fuel t cs = some y → ∃ x, RepL (oldF W) W (c x) cs ∧ B x
theorem op1_int {P : Program} {t : TypeId} {k : IntKind} (ht : P.underlying t = some (.int k)) : Op1 P t (cI k) (fun n => (Lit.int k n).wf = true) := by
  constructor
  intro H enc W fuel cs y h
  obtain ⟨n, rfl, _, hw⟩ := DataW.trod_int ht h
  exact ⟨n, ⟨rfl, trivial⟩, hw⟩
theorem op1_string {P : Program} {t : TypeId} (ht : P.underlying t = some .string) : Op1 P t cS (fun s => s.size ≤ maxLen) := by
  constructor
  intro H enc W fuel cs y h
  obtain ⟨n, rfl, _, hs⟩ := DataW.trod_string ht h
  exact ⟨n, ⟨rfl, trivial⟩, hs⟩
theorem cell_add {W : World} {a : Addr} {n : Nat} {u : Value} (h : W.cell? (a.add n) = some u) : W.cell? ⟨a.block, a.off + n, none⟩ = some u := by
  unfold Addr.add at h
  split at h
  · rename_i hn
    subst hn
    have hs : a.spot = none := by
      unfold World.cell? at h
      split at h
      · split at h
        · cases h
        · rename_i hs; cases hq : a.spot with
          | none => rfl
          | some x => simp [hq] at hs
      · cases h
    cases a
    simp only at hs
    subst hs
    exact h
  · exact h
theorem spot_none {W : World} {a : Addr} {u : Value} (h : W.cell? a = some u) : a = ⟨a.block, a.off, none⟩ := by
  have hs : a.spot = none := by
    unfold World.cell? at h
    split at h
    · split at h
      · cases h
      · rename_i hs; cases hq : a.spot with
        | none => rfl
        | some x => simp [hq] at hs
    · cases h
  cases a
  simp only at hs
  subst hs
  rfl
theorem op1_slice {α : Type} {P : Program} {t e : TypeId} {sz : Nat} {c : α → List AV} (d : α) {B : α → Prop} (ht : P.underlying t = some (.slice e)) (hd : Op1 P e c B) (hc : P.cellsOf e = sz) (hs : ∀ x, (c x).length = sz) (h0 : 0 < sz) : Op1 P t (cL sz c d) (fun xs => xs.length ≤ maxLen ∧ ∀ x ∈ xs, B x) := by
  constructor
  intro H enc W fuel cs y h
  rcases DataW.trod_slice ht h with ⟨rfl, _⟩ | ⟨a, len, cap, elems, rest, n, _, rfl, _, _, hl, hm, hel, hat, _, _⟩
  · exact ⟨[], ⟨⟨none, 0, rfl, Nat.le_refl _, fun _ => rfl, .inl rfl⟩, trivial⟩, by simp [maxLen], fun x hx => by cases hx⟩
  · have key : ∀ i, i < len → ∃ x cs', cs'.length = sz ∧ RepL (oldF W) W (c x) cs' ∧ B x ∧ ∀ j u, cs'[j]? = some u → W.cell? (a.add (i * sz + j)) = some u := by
      intro i hi
      have h1 := hat i hi
      rw [List.getElem?_eq_getElem (by omega)] at h1
      obtain ⟨cs', h2, h3⟩ := Option.bind_eq_some_iff.1 h1
      obtain ⟨x, hk, hb⟩ := hd.out enc W n cs' _ h3
      have hlen : cs'.length = sz := by rw [← hs x, hk.len]
      refine ⟨x, cs', hlen, hk, hb, fun j u hu => ?_⟩
      rw [hc] at h2
      unfold World.cells? at h2
      rw [if_pos (Nat.zero_le _)] at h2
      have h4 := mapM_some_get h2 j j (by
        have := (List.getElem?_eq_some_iff.1 hu).1
        rw [hlen] at this
        simp [this])
      rw [hu] at h4
      have ha : (a.add (i * sz)).add j = a.add (i * sz + j) := by
        unfold Addr.add
        by_cases e1 : i * sz = 0 <;> by_cases e2 : j = 0 <;> simp [e1, e2, Nat.add_assoc]
      rw [ha] at h4
      exact h4
    have key2 : ∀ m, m ≤ len → ∃ xs : List α, xs.length = m ∧ (∀ x ∈ xs, B x) ∧ ∀ i x, xs[i]? = some x → ∃ cs', cs'.length = sz ∧ RepL (oldF W) W (c x) cs' ∧ ∀ j u, cs'[j]? = some u → W.cell? (a.add (i * sz + j)) = some u := by
      intro m
      induction m with
      | zero => intro _; exact ⟨[], rfl, fun x hx => (by cases hx), fun i x hx => by simp at hx⟩
      | succ m ih =>
        intro hm2
        obtain ⟨xs, h1, h2, h3⟩ := ih (by omega)
        obtain ⟨x, c', h4, h5, h6, h7⟩ := key m (by omega)
        refine ⟨xs ++ [x], by simp [h1], fun y hy => ?_, fun i y hy => ?_⟩
        · rcases List.mem_append.1 hy with hy | hy
          · exact h2 y hy
          · rw [List.mem_singleton.1 hy]; exact h6
        · rcases Nat.lt_or_ge i xs.length with hi | hi
          · rw [List.getElem?_append_left hi] at hy; exact h3 i y hy
          · have hi2 : i = xs.length := by
              have := (List.getElem?_eq_some_iff.1 hy).1
              simp at this
              omega
            subst hi2
            simp at hy
            subst hy
            rw [h1]
            exact ⟨c', h4, h5, h7⟩
    obtain ⟨xs, h1, h2, h3⟩ := key2 len (Nat.le_refl _)
    refine ⟨xs, ⟨⟨some a, cap, by rw [h1], by rw [h1]; omega, fun h => (nomatch h), ?_⟩, trivial⟩, by rw [h1]; simp only [maxLen] at hm ⊢; omega, h2⟩
    rcases Nat.eq_zero_or_pos len with hz | hz
    · left; rw [h1, hz]
    · right
      have hcell : ∀ i, i < len → ∀ j, j < sz → ∃ u, W.cell? (a.add (i * sz + j)) = some u ∧ Rep (oldF W) W ((c (xs.getD i d)).getD j .u) u := by
        intro i hi j hj
        have hxi : xs[i]? = some (xs.getD i d) := by rw [List.getD_eq_getElem?_getD, List.getElem?_eq_getElem (by omega)]; rfl
        obtain ⟨cs', k1, k2, k3⟩ := h3 i _ hxi
        have hcj : cs'[j]? = some (cs'[j]'(by omega)) := List.getElem?_eq_getElem (by omega)
        exact ⟨_, k3 j _ hcj, k2.get j _ hcj⟩
      obtain ⟨u0, hu0, _⟩ := hcell 0 hz 0 h0
      have ha0 : a.add (0 * sz + 0) = a := by simp [Addr.add]
      rw [ha0] at hu0
      refine ⟨a.block, a.off, by rw [← spot_none hu0], World.block_lt_of_cell? W a hu0, fun i hi j hj => ?_⟩
      rw [h1] at hi
      obtain ⟨u, k1, k2⟩ := hcell i hi j hj
      exact ⟨u, cell_add k1, k2⟩
structure OpFs {α : Type} (P : Program) (fs : List Field) (off sz : Nat) (c : α → List AV) (B : α → Prop) : Prop where mk ::
  out : ∀ {H : Type} (enc : TypeId × Value → H) (W : World) (fuel : Nat) (cs : List Value) (ys : List (DataW H × List MemPlace)), cs.length = off + sz → ys.length = fs.length →
    (∀ (i : Nat) (f : Field), fs[i]? = some f → DataW.trod enc P W 0 (fun _ => true) true fuel f.type ((cs.drop f.offset).take (P.cellsOf f.type)) = ys[i]?) → ∃ x, RepL (oldF W) W (c x) (cs.drop off) ∧ B x
theorem opFs_one {α : Type} {P : Program} {f : Field} {off sz : Nat} {c : α → List AV} {B : α → Prop} (ho : f.offset = off) (hc : P.cellsOf f.type = sz) (hd : Op1 P f.type c B) : OpFs P [f] off sz c B := by
  constructor
  intro H enc W fuel cs ys hl hy h
  have h0 := h 0 f rfl
  rw [List.getElem?_eq_getElem (by rw [hy]; exact Nat.zero_lt_one), ho, hc, List.take_of_length_le (by rw [List.length_drop]; omega)] at h0
  exact hd.out enc W fuel _ _ h0
theorem opFs_cons {α β : Type} {P : Program} {f : Field} {fs : List Field} {off sa sb : Nat} {a : α → List AV} {b : β → List AV} {Ba : α → Prop} {Bb : β → Prop} (ho : f.offset = off) (hc : P.cellsOf f.type = sa) (hd : Op1 P f.type a Ba) (hs : OpFs P fs (off + sa) sb b Bb) :
    OpFs P (f :: fs) off (sa + sb) (fun x : α × β => a x.1 ++ b x.2) (fun x => Ba x.1 ∧ Bb x.2) := by
  constructor
  intro H enc W fuel cs ys hl hy h
  cases ys with
  | nil => simp at hy
  | cons y ys =>
    have h0 := h 0 f rfl
    rw [ho, hc] at h0
    obtain ⟨x, hx, hbx⟩ := hd.out enc W fuel _ _ h0
    obtain ⟨z, hz, hbz⟩ := hs.out enc W fuel cs ys (by omega) (by simpa using hy) (fun i g hg => h (i + 1) g hg)
    refine ⟨(x, z), ?_, hbx, hbz⟩
    have e : cs.drop off = (cs.drop off).take sa ++ cs.drop (off + sa) := by rw [← List.drop_drop, List.take_append_drop]
    rw [e]
    exact hx.app hz
theorem op1_struct {α β : Type} {P : Program} {t : TypeId} {fs : Array Field} {sz : Nat} {c : β → List AV} {B : β → Prop} (c' : α → List AV) (B' : α → Prop) (g : β → α) (hc' : ∀ y, c' (g y) = c y) (hB : ∀ y, B y → B' (g y)) (ht : P.underlying t = some (.struct fs)) (hc : P.cellsOf t = sz) (hs : OpFs P fs.toList 0 sz c B) :
    Op1 P t c' B' := by
  constructor
  intro H enc W fuel cs y h
  obtain ⟨xs, n, _, _, hl, hx, hi⟩ := DataW.trod_struct ht h
  obtain ⟨x, hk, hb⟩ := hs.out enc W n cs xs (by rw [hl, hc]; omega) (by rw [hx]; simp) (fun i f hf => hi i f (by simpa using hf))
  refine ⟨g x, ?_, hB x hb⟩
  rw [hc']
  simpa using hk
theorem chg_below {w w' : World} (h : Chg (fun _ => False) w w') : Below w.heap.size w w' := ⟨h.os, h.tape, h.output, h.size, fun k hk => h.block k hk (fun h => h)⟩
theorem Spec.law {P : Program} {f : FuncId} {args : List FV} (h : Spec P f args (.p (.bool true)) []) {W : World} {vs : Array Value} (hv : RelVs ⟨oldF W, W, fun _ => undef, []⟩ args vs.toList) : Calls P f vs W fun e W' => e = .returned (.bool true) ∧ Below W.heap.size W W' := by
  refine (h W (oldF W) (fun _ => undef) vs (fun _ h => h) hv).mono fun e W' ⟨v, F', κ', he, hI, hr⟩ => ⟨?_, chg_below hI.chg⟩
  simp only [RelV, Rep] at hr
  rw [he, hr]
end Go.Proofs.YtjhnpaenhdbhpabV
