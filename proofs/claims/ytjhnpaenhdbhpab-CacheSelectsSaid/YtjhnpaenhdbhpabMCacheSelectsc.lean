/- Part of the proof of CacheSelects: printed by programs of this repo out of the translation, and by hand. Each theorem's conditions stand in its statement. -/
import Derived.WideShapes
import Derived.ProofKit
import Derived.OpenShut
import Derived.ShutString
import Derived.ChangeOld
import Derived.SizedLaws
import Derived.ChangeSlices
import Derived.Orders
import Derived.Below
import Derived.Laws.AppendOwn
import Derived.Laws.OwnMore
import Derived.KernelRfl
import Derived.Test.YtjhnpaenhdbhpabMCacheSelectsa
import Derived.Test.YtjhnpaenhdbhpabMCacheSelectsb
set_option linter.unusedVariables false
set_option linter.unusedSimpArgs false
namespace Go.Proofs.YtjhnpaenhdbhpabV
open Go Go.RowKit
theorem ref22_SameRow_ev (a b : List TValue) (ha : a.length ≤ 9223372036854775807) : Ev (fun k => erasureref22_SameRow k a b) (decide (a = b)) := by
  unfold erasureref22_SameRow
  simp only [bne_iff_ne, ne_eq, ite_not]
  by_cases hl : a.length = b.length
  · refine Ev.ite_pos (by omega) ?_
    refine (loop_down (P := fun i => Ev (fun k => erasureref22_SameRow.p1 k a b (i : Int)) (decide (a.drop i = b.drop i))) a.length ?_ ?_ 0 (by omega))
    · refine Ev.succ ?_
      simp only [erasureref22_SameRow.p1, decide_eq_true_eq]
      rw [List.drop_length, List.drop_eq_nil_of_le (show b.length ≤ a.length by omega)]
      exact Ev.ite_neg (by omega) (Ev.done (by simp))
    · intro i hi ih
      refine Ev.succ ?_
      simp only [erasureref22_SameRow.p1, eqV_iff, decide_eq_true_eq, Bool.not_eq_true', decide_eq_false_iff_not]
      refine Ev.ite_pos (by omega) (Ev.ite_pos (by omega) (Ev.ite_pos (by omega) ?_))
      rw [dV hi, dV (show i < b.length by omega), wrn hi ha]
      by_cases h : a.getD (i : Int).toNat dValue = b.getD (i : Int).toNat dValue
      · exact Ev.ite_neg (fun e => e h) (ih.to (by rw [h]; simp))
      · exact Ev.ite_pos h (Ev.done (by rw [decide_eq_false]; intro e; exact h (List.cons.inj e).1))
  · refine Ev.ite_neg (by omega) (Ev.done ?_)
    rw [decide_eq_false (fun e => hl (by rw [e]))]
theorem E_ext {x y : TEntry} (h0 : x.f0 = y.f0) (h1 : x.f1 = y.f1) : x = y := by cases x; cases y; simp_all
instance : DecidableEq TEntry := fun x y => decidable_of_iff (x.f0 = y.f0 ∧ x.f1 = y.f1) ⟨fun h => E_ext h.1 h.2, fun h => by subst h; exact ⟨rfl, rfl⟩⟩
def Fin (l : List TEntry) : Prop := l.length ≤ 9223372036854775807 ∧ ∀ e ∈ l, e.f0.length ≤ 9223372036854775807
theorem ref22_SameBag_ev (a b : List TEntry) (ha : Fin a) : Ev (fun k => erasureref22_SameBag k a b) (decide (a = b)) := by
  unfold erasureref22_SameBag
  simp only [bne_iff_ne, ne_eq, ite_not]
  by_cases hl : a.length = b.length
  · refine Ev.ite_pos (by omega) ?_
    refine (loop_down (P := fun i => Ev (fun k => erasureref22_SameBag.p1 k a b (i : Int)) (decide (a.drop i = b.drop i))) a.length ?_ ?_ 0 (by omega))
    · refine Ev.succ ?_
      simp only [erasureref22_SameBag.p1, decide_eq_true_eq]
      rw [List.drop_length, List.drop_eq_nil_of_le (show b.length ≤ a.length by omega)]
      exact Ev.ite_neg (by omega) (Ev.done (by simp))
    · intro i hi ih
      refine Ev.succ ?_
      simp only [erasureref22_SameBag.p1, decide_eq_true_eq, Bool.not_eq_true', bne_iff_ne, ne_eq, ite_not]
      refine Ev.ite_pos (by omega) (Ev.ite_pos (by omega) (Ev.ite_pos (by omega) ?_))
      rw [dE hi, dE (show i < b.length by omega), wrn hi ha.1]
      refine Ev.bind (ref22_SameRow_ev _ _ (ha.2 _ (getD_mem _ hi))) ?_
      by_cases h0 : (a.getD (i : Int).toNat dEntry).f0 = (b.getD (i : Int).toNat dEntry).f0
      · rw [decide_eq_true h0]
        refine Ev.ite_neg (by simp) ?_
        by_cases h1 : (a.getD (i : Int).toNat dEntry).f1 = (b.getD (i : Int).toNat dEntry).f1
        · exact Ev.ite_pos h1 (ih.to (by rw [E_ext h0 h1]; simp))
        · refine Ev.ite_neg h1 (Ev.done ?_)
          rw [decide_eq_false]
          intro e; exact h1 (by rw [(List.cons.inj e).1])
      · rw [decide_eq_false h0]
        refine Ev.ite_pos rfl (Ev.done ?_)
        rw [decide_eq_false]
        intro e; exact h0 (by rw [(List.cons.inj e).1])
  · refine Ev.ite_neg (by omega) (Ev.done ?_)
    rw [decide_eq_false (fun e => hl (by rw [e]))]
theorem ref26_SameBag_ev (a b : List TEntry) (ha : Fin a) : Ev (fun k => erasureref26_SameBag k a b) (decide (a = b)) := by
  unfold erasureref26_SameBag
  exact Ev.bind (ref22_SameBag_ev a b ha) (Ev.now _)
end Go.Proofs.YtjhnpaenhdbhpabV
set_option linter.unusedVariables false
set_option linter.unusedSimpArgs false
namespace Go.Proofs.YtjhnpaenhdbhpabV
open Go Go.RowKit
def atV (row : List TValue) (c : Int) : TValue := if c < 0 then ⟨0, 0, ⟨#[]⟩⟩ else if c ≥ (row.length : Int) then ⟨0, 0, ⟨#[]⟩⟩ else clV (row.getD c.toNat dValue)
theorem cache_at_eq (k : Nat) (row : List TValue) (c : Int) : cache_at k row c = some (atV row c) := by
  unfold cache_at atV
  simp only [decide_eq_true_eq]
  by_cases h1 : c < 0
  · rw [if_pos h1, if_pos h1]
  rw [if_neg h1, if_neg h1]
  by_cases h2 : c ≥ (row.length : Int)
  · rw [if_pos h2, if_pos h2]
  rw [if_neg h2, if_neg h2, if_pos (by omega), value_Clean_eq]; rfl
theorem ref_at_eq (k : Nat) (row : List TValue) (c : Int) : erasureref30_at k row c = some (atV row c) := by
  unfold erasureref30_at atV
  simp only [decide_eq_true_eq]
  by_cases h1 : c < 0
  · rw [if_pos h1, if_pos h1]
  rw [if_neg h1, if_neg h1]
  by_cases h2 : c ≥ (row.length : Int)
  · rw [if_pos h2, if_pos h2]
  rw [if_neg h2, if_neg h2, if_pos (by omega), ref01_Clean_eq]; rfl
def selS (l : List TEntry) (c : Int) (v : TValue) : List TEntry := l.filter fun e => decide (atV e.f0 c = v)
theorem copied_ev (l : List TEntry) (hl : l.length ≤ 1099511627776) (hr : ∀ e ∈ l, e.f0.length ≤ 1099511627776) : Ev (fun k => cache_copied k l) l := by
  unfold cache_copied
  have key : ∀ i, i ≤ l.length → ∀ acc : List TEntry, acc.length = i → Ev (fun k => cache_copied.p1 k l (i : Int) acc) (acc ++ l.drop i) := by
    refine loop_down (P := fun i => ∀ acc : List TEntry, acc.length = i → Ev (fun k => cache_copied.p1 k l (i : Int) acc) (acc ++ l.drop i)) l.length ?_ ?_
    · intro acc _
      refine Ev.succ ?_
      simp only [cache_copied.p1, decide_eq_true_eq]
      rw [List.drop_length]
      exact Ev.ite_neg (by omega) (Ev.done (by simp))
    · intro i hi ih acc ha
      refine Ev.succ ?_
      simp only [cache_copied.p1, decide_eq_true_eq]
      have hr1 := hr _ (getD_mem dEntry hi)
      refine Ev.ite_pos (by omega) (Ev.ite_pos (by omega) (Ev.ite_pos (by simp only [maxLen]; omega) (Ev.ite_pos (by simp only [maxLen, List.length_singleton]; omega) ?_)))
      rw [dE hi, wrn hi (by omega)]
      exact (ih (acc ++ [l.getD (i : Int).toNat dEntry]) (by simp [ha])).to (by simp)
  simpa using key 0 (by omega) [] rfl
theorem sel_ev (l : List TEntry) (c : Int) (v : TValue) (hl : l.length ≤ 1099511627776) (hr : ∀ e ∈ l, e.f0.length ≤ 1099511627776) : Ev (fun k => cache_Select k l c v) (selS l c (clV v)) := by
  unfold cache_Select
  simp only [value_Clean_eq, Option.bind_some]
  have key : ∀ i, i ≤ l.length → ∀ acc : List TEntry, acc.length ≤ i → (∀ e ∈ acc, e.f0.length ≤ 1099511627776) → Ev (fun k => cache_Select.p1 k l c (i : Int) (clV v) acc) (acc ++ selS (l.drop i) c (clV v)) := by
    refine loop_down (P := fun i => ∀ acc : List TEntry, acc.length ≤ i → (∀ e ∈ acc, e.f0.length ≤ 1099511627776) → Ev (fun k => cache_Select.p1 k l c (i : Int) (clV v) acc) (acc ++ selS (l.drop i) c (clV v))) l.length ?_ ?_
    · intro acc ha hr0
      refine Ev.succ ?_
      simp only [cache_Select.p1, decide_eq_true_eq]
      rw [List.drop_length]
      refine Ev.ite_neg (by omega) ?_
      simp only [selS, List.filter_nil, List.append_nil]
      exact Ev.bind (copied_ev acc (by omega) hr0) (Ev.now _)
    · intro i hi ih acc ha hr0
      refine Ev.succ ?_
      simp only [cache_Select.p1, cache_at_eq, Option.bind_some, eqV_iff, decide_eq_true_eq]
      refine Ev.ite_pos (by omega) (Ev.ite_pos (by omega) ?_)
      rw [dE hi, wrn hi (by omega)]
      by_cases h : atV (l.getD (i : Int).toNat dEntry).f0 c = clV v
      · refine Ev.ite_pos h (Ev.ite_pos (by simp only [maxLen, List.length_singleton]; omega) ?_)
        exact (ih (acc ++ [l.getD (i : Int).toNat dEntry]) (by simp; omega) (by intro e he; rcases List.mem_append.1 he with he | he; exact hr0 e he; rw [List.mem_singleton] at he; subst he; exact hr _ (getD_mem _ hi))).to (by simp only [selS, List.filter_cons, h, decide_true, if_true, List.append_assoc, List.singleton_append])
      · exact Ev.ite_neg h ((ih acc (by omega) hr0).to (by simp only [selS, List.filter_cons, h, decide_false, Bool.false_eq_true, if_false]))
  exact key 0 (by omega) [] (by simp) (by simp)
theorem refSel_ev (l : List TEntry) (c : Int) (v : TValue) (hl : l.length ≤ 1099511627776) : Ev (fun k => erasureref30_Select k l c v) (selS l c (clV v)) := by
  unfold erasureref30_Select
  have key : ∀ i, i ≤ l.length → ∀ acc : List TEntry, acc.length ≤ i → Ev (fun k => erasureref30_Select.p1 k l c (i : Int) v acc) (acc ++ selS (l.drop i) c (clV v)) := by
    refine loop_down (P := fun i => ∀ acc : List TEntry, acc.length ≤ i → Ev (fun k => erasureref30_Select.p1 k l c (i : Int) v acc) (acc ++ selS (l.drop i) c (clV v))) l.length ?_ ?_
    · intro acc ha
      refine Ev.succ ?_
      simp only [erasureref30_Select.p1, decide_eq_true_eq]
      rw [List.drop_length]
      exact Ev.ite_neg (by omega) (Ev.done (by simp [selS]))
    · intro i hi ih acc ha
      refine Ev.succ ?_
      simp only [erasureref30_Select.p1, ref_at_eq, ref01_Clean_eq, Option.bind_some, eqV_iff, decide_eq_true_eq]
      refine Ev.ite_pos (by omega) (Ev.ite_pos (by omega) ?_)
      rw [dE hi, wrn hi (by omega)]
      by_cases h : atV (l.getD (i : Int).toNat dEntry).f0 c = clV v
      · refine Ev.ite_pos h (Ev.ite_pos (by simp only [maxLen, List.length_singleton]; omega) ?_)
        exact (ih (acc ++ [l.getD (i : Int).toNat dEntry]) (by simp; omega)).to (by simp only [selS, List.filter_cons, h, decide_true, if_true, List.append_assoc, List.singleton_append])
      · exact Ev.ite_neg h ((ih acc (by omega)).to (by simp only [selS, List.filter_cons, h, decide_false, Bool.false_eq_true, if_false]))
  exact key 0 (by omega) [] (by simp)
end Go.Proofs.YtjhnpaenhdbhpabV
set_option linter.unusedVariables false
set_option linter.unusedSimpArgs false
namespace Go.Proofs.YtjhnpaenhdbhpabV
open Go Go.RowKit
theorem short_ev (l : List TEntry) (hl : l.length ≤ 9223372036854775807) : Ev (fun k => erasurelaw30_short k l) (l.all (fun e => decide (e.f0.length ≤ 20)) && decide (l.length ≤ 40)) := by
  unfold erasurelaw30_short
  refine (loop_down (P := fun i => Ev (fun k => erasurelaw30_short.p1 k l (i : Int)) ((l.drop i).all (fun e => decide (e.f0.length ≤ 20)) && decide (l.length ≤ 40))) l.length ?_ ?_ 0 (by omega))
  · refine Ev.succ ?_
    simp only [erasurelaw30_short.p1, decide_eq_true_eq]
    rw [List.drop_length]
    refine Ev.ite_neg (by omega) (Ev.done ?_)
    simp; omega
  · intro i hi ih
    refine Ev.succ ?_
    simp only [erasurelaw30_short.p1, decide_eq_true_eq]
    refine Ev.ite_pos (by omega) (Ev.ite_pos (by omega) ?_)
    rw [dE hi, wrn hi hl, List.all_cons]
    by_cases h : (l.getD (i : Int).toNat dEntry).f0.length ≤ 20
    · rw [decide_eq_true h]; exact Ev.ite_neg (by omega) (by simpa using ih)
    · rw [decide_eq_false h]; exact Ev.ite_pos (by omega) (Ev.done (by simp))
theorem awake_ev : Ev (fun k => erasurelaw30_awake k) true := Ev.of (fun k k' hk h => erasurelaw30_awake.mono k k' true hk h) (k := 60) (by kernel_rfl)
theorem selS_fin {l : List TEntry} (h : Fin l) (c : Int) (v : TValue) : Fin (selS l c v) :=
  ⟨Nat.le_trans (List.length_filter_le _ _) h.1, fun e he => h.2 e (List.mem_filter.1 he).1⟩
theorem CacheSelects_std (x0 : (List TEntry)) (x1 : Int) (x2 : TValue) (h0 : (x0.length ≤ maxLen ∧ ∀ e0 ∈ x0, ((e0.f0.length ≤ maxLen ∧ ∀ e1 ∈ e0.f0, ((Lit.int .i64 e1.f0).wf = true ∧ ((Lit.int .i64 e1.f1).wf = true ∧ e1.f2.size ≤ maxLen))) ∧ (Lit.int .i64 e0.f1).wf = true))) (h1 : (Lit.int .i64 x1).wf = true) (h2 : ((Lit.int .i64 x2.f0).wf = true ∧ ((Lit.int .i64 x2.f1).wf = true ∧ x2.f2.size ≤ maxLen))) : ∃ k, erasurelaw30_CacheSelects k x0 x1 x2 = some true := by
  have hf : Fin x0 := ⟨by have := h0.1; simp only [maxLen] at this; omega, fun e he => by have := (h0.2 e he).1.1; simp only [maxLen] at this; omega⟩
  refine Ev.some (g := fun k => erasurelaw30_CacheSelects k x0 x1 x2) ?_
  unfold erasurelaw30_CacheSelects
  refine Ev.bind (short_ev x0 hf.1) ?_
  cases hs : (x0.all (fun e => decide (e.f0.length ≤ 20)) && decide (x0.length ≤ 40)) with
  | false => exact Ev.ite_pos (by simp) (Ev.bind awake_ev (Ev.now _))
  | true =>
    simp only [Bool.and_eq_true, decide_eq_true_eq, List.all_eq_true] at hs
    have hr : ∀ e ∈ x0, e.f0.length ≤ 1099511627776 := fun e he => by have := hs.1 e he; omega
    have hsame : Ev (fun k => erasureref26_SameBag k (selS x0 x1 (clV x2)) (selS x0 x1 (clV x2))) true := by
      have := ref26_SameBag_ev (selS x0 x1 (clV x2)) (selS x0 x1 (clV x2)) (selS_fin hf _ _)
      simpa using this
    exact Ev.ite_neg (by simp) (Ev.bind (sel_ev x0 x1 x2 (by omega) hr) (Ev.bind (refSel_ev x0 x1 x2 (by omega)) (Ev.bind hsame (Ev.ite_pos rfl (Ev.bind awake_ev (Ev.now _))))))
end Go.Proofs.YtjhnpaenhdbhpabV
set_option linter.unusedVariables false
set_option linter.unusedSimpArgs false
set_option linter.constructorNameAsVariable false
namespace Go.Proofs.YtjhnpaenhdbhpabV
open Go Go.RowKit
def RepL (F : Nat → Prop) (w : World) : List AV → List Value → Prop
  | [], [] => True
  | a :: l, v :: m => Rep F w a v ∧ RepL F w l m
  | _, _ => False
theorem RepL.len {F : Nat → Prop} {w : World} : ∀ {l : List AV} {m : List Value}, RepL F w l m → l.length = m.length
  | [], [], _ => rfl
  | _ :: _, _ :: _, h => by simp [RepL.len h.2]
  | [], _ :: _, h => h.elim
  | _ :: _, [], h => h.elim
theorem RepL.get {F : Nat → Prop} {w : World} : ∀ {l : List AV} {m : List Value}, RepL F w l m → ∀ (i : Nat) (v : Value), m[i]? = some v → Rep F w (l.getD i .u) v
  | [], [], _, i, v, h => by simp at h
  | a :: l, u :: m, h, i, v, hv => by
    cases i with
    | zero =>
      simp only [List.getElem?_cons_zero, Option.some.injEq] at hv
      subst hv
      exact h.1
    | succ i => simpa using RepL.get h.2 i v (by simpa using hv)
  | [], _ :: _, h, _, _, _ => h.elim
  | _ :: _, [], h, _, _, _ => h.elim
theorem RepL.app {F : Nat → Prop} {w : World} : ∀ {l : List AV} {m : List Value} {l' : List AV} {m' : List Value}, RepL F w l m → RepL F w l' m' → RepL F w (l ++ l') (m ++ m')
  | [], [], _, _, _, k => k
  | _ :: _, _ :: _, _, _, h, k => ⟨h.1, RepL.app h.2 k⟩
  | [], _ :: _, _, _, h, _ => h.elim
  | _ :: _, [], _, _, h, _ => h.elim
theorem RepL.fv {F : Nat → Prop} {w : World} {κ : Nat → Value} {hp : List Ob} : ∀ {l : List AV} {m : List Value}, RepL F w l m → RelVs ⟨F, w, κ, hp⟩ (l.map .p) m
  | [], [], _ => by simp [RelVs]
  | a :: l, v :: m, h => by simp only [List.map_cons, RelVs]; exact ⟨v, m, rfl, by simp only [RelV]; exact h.1, RepL.fv h.2⟩
  | [], _ :: _, h => h.elim
  | _ :: _, [], h => h.elim
abbrev oldF (W : World) : Nat → Prop := fun b => b < W.heap.size
structure Op1 {α : Type} (P : Program) (t : TypeId) (c : α → List AV) (B : α → Prop) : Prop where mk ::
  out : ∀ {H : Type} (enc : TypeId × Value → H) (W : World) (fuel : Nat) (cs : List Value) (y : DataW H × List MemPlace), DataW.trod enc P W 0 (fun _ => true) true fuel t cs = some y → ∃ x, RepL (oldF W) W (c x) cs ∧ B x
theorem op1_int {P : Program} {t : TypeId} {k : IntKind} (ht : P.underlying t = some (.int k)) : Op1 P t (cI k) (fun n => (Lit.int k n).wf = true) := by
  constructor
  intro H enc W fuel cs y h
  obtain ⟨n, rfl, _, hw⟩ := DataW.trod_int ht h
  exact ⟨n, ⟨rfl, trivial⟩, hw⟩
theorem op1_string {P : Program} {t : TypeId} (ht : P.underlying t = some .string) : Op1 P t cS (fun s => s.size ≤ maxLen) := by
  constructor
  intro H enc W fuel cs y h
  obtain ⟨n, rfl, _, hs⟩ := DataW.trod_string ht h
  exact ⟨n, ⟨rfl, trivial⟩, hs⟩
theorem cell_add {W : World} {a : Addr} {n : Nat} {u : Value} (h : W.cell? (a.add n) = some u) : W.cell? ⟨a.block, a.off + n, none⟩ = some u := by
  unfold Addr.add at h
  split at h
  · rename_i hn
    subst hn
    have hs : a.spot = none := by
      unfold World.cell? at h
      split at h
      · split at h
        · cases h
        · rename_i hs; cases hq : a.spot with
          | none => rfl
          | some x => simp [hq] at hs
      · cases h
    cases a
    simp only at hs
    subst hs
    exact h
  · exact h
theorem spot_none {W : World} {a : Addr} {u : Value} (h : W.cell? a = some u) : a = ⟨a.block, a.off, none⟩ := by
  have hs : a.spot = none := by
    unfold World.cell? at h
    split at h
    · split at h
      · cases h
      · rename_i hs; cases hq : a.spot with
        | none => rfl
        | some x => simp [hq] at hs
    · cases h
  cases a
  simp only at hs
  subst hs
  rfl
theorem op1_slice {α : Type} {P : Program} {t e : TypeId} {sz : Nat} {c : α → List AV} (d : α) {B : α → Prop} (ht : P.underlying t = some (.slice e)) (hd : Op1 P e c B) (hc : P.cellsOf e = sz) (hs : ∀ x, (c x).length = sz) (h0 : 0 < sz) : Op1 P t (cL sz c d) (fun xs => xs.length ≤ maxLen ∧ ∀ x ∈ xs, B x) := by
  constructor
  intro H enc W fuel cs y h
  rcases DataW.trod_slice ht h with ⟨rfl, _⟩ | ⟨a, len, cap, elems, rest, n, _, rfl, _, _, hl, hm, hel, hat, _, _⟩
  · exact ⟨[], ⟨⟨none, 0, rfl, Nat.le_refl _, fun _ => rfl, .inl rfl⟩, trivial⟩, by simp [maxLen], fun x hx => by cases hx⟩
  · have key : ∀ i, i < len → ∃ x cs', cs'.length = sz ∧ RepL (oldF W) W (c x) cs' ∧ B x ∧ ∀ j u, cs'[j]? = some u → W.cell? (a.add (i * sz + j)) = some u := by
      intro i hi
      have h1 := hat i hi
      rw [List.getElem?_eq_getElem (by omega)] at h1
      obtain ⟨cs', h2, h3⟩ := Option.bind_eq_some_iff.1 h1
      obtain ⟨x, hk, hb⟩ := hd.out enc W n cs' _ h3
      have hlen : cs'.length = sz := by rw [← hs x, hk.len]
      refine ⟨x, cs', hlen, hk, hb, fun j u hu => ?_⟩
      rw [hc] at h2
      unfold World.cells? at h2
      rw [if_pos (Nat.zero_le _)] at h2
      have h4 := mapM_some_get h2 j j (by
        have := (List.getElem?_eq_some_iff.1 hu).1
        rw [hlen] at this
        simp [this])
      rw [hu] at h4
      have ha : (a.add (i * sz)).add j = a.add (i * sz + j) := by
        unfold Addr.add
        by_cases e1 : i * sz = 0 <;> by_cases e2 : j = 0 <;> simp [e1, e2, Nat.add_assoc]
      rw [ha] at h4
      exact h4
    have key2 : ∀ m, m ≤ len → ∃ xs : List α, xs.length = m ∧ (∀ x ∈ xs, B x) ∧ ∀ i x, xs[i]? = some x → ∃ cs', cs'.length = sz ∧ RepL (oldF W) W (c x) cs' ∧ ∀ j u, cs'[j]? = some u → W.cell? (a.add (i * sz + j)) = some u := by
      intro m
      induction m with
      | zero => intro _; exact ⟨[], rfl, fun x hx => (by cases hx), fun i x hx => by simp at hx⟩
      | succ m ih =>
        intro hm2
        obtain ⟨xs, h1, h2, h3⟩ := ih (by omega)
        obtain ⟨x, c', h4, h5, h6, h7⟩ := key m (by omega)
        refine ⟨xs ++ [x], by simp [h1], fun y hy => ?_, fun i y hy => ?_⟩
        · rcases List.mem_append.1 hy with hy | hy
          · exact h2 y hy
          · rw [List.mem_singleton.1 hy]; exact h6
        · rcases Nat.lt_or_ge i xs.length with hi | hi
          · rw [List.getElem?_append_left hi] at hy; exact h3 i y hy
          · have hi2 : i = xs.length := by
              have := (List.getElem?_eq_some_iff.1 hy).1
              simp at this
              omega
            subst hi2
            simp at hy
            subst hy
            rw [h1]
            exact ⟨c', h4, h5, h7⟩
    obtain ⟨xs, h1, h2, h3⟩ := key2 len (Nat.le_refl _)
    refine ⟨xs, ⟨⟨some a, cap, by rw [h1], by rw [h1]; omega, fun h => (nomatch h), ?_⟩, trivial⟩, by rw [h1]; simp only [maxLen] at hm ⊢; omega, h2⟩
    rcases Nat.eq_zero_or_pos len with hz | hz
    · left; rw [h1, hz]
    · right
      have hcell : ∀ i, i < len → ∀ j, j < sz → ∃ u, W.cell? (a.add (i * sz + j)) = some u ∧ Rep (oldF W) W ((c (xs.getD i d)).getD j .u) u := by
        intro i hi j hj
        have hxi : xs[i]? = some (xs.getD i d) := by rw [List.getD_eq_getElem?_getD, List.getElem?_eq_getElem (by omega)]; rfl
        obtain ⟨cs', k1, k2, k3⟩ := h3 i _ hxi
        have hcj : cs'[j]? = some (cs'[j]'(by omega)) := List.getElem?_eq_getElem (by omega)
        exact ⟨_, k3 j _ hcj, k2.get j _ hcj⟩
      obtain ⟨u0, hu0, _⟩ := hcell 0 hz 0 h0
      have ha0 : a.add (0 * sz + 0) = a := by simp [Addr.add]
      rw [ha0] at hu0
      refine ⟨a.block, a.off, by rw [← spot_none hu0], World.block_lt_of_cell? W a hu0, fun i hi j hj => ?_⟩
      rw [h1] at hi
      obtain ⟨u, k1, k2⟩ := hcell i hi j hj
      exact ⟨u, cell_add k1, k2⟩
structure OpFs {α : Type} (P : Program) (fs : List Field) (off sz : Nat) (c : α → List AV) (B : α → Prop) : Prop where mk ::
  out : ∀ {H : Type} (enc : TypeId × Value → H) (W : World) (fuel : Nat) (cs : List Value) (ys : List (DataW H × List MemPlace)), cs.length = off + sz → ys.length = fs.length →
    (∀ (i : Nat) (f : Field), fs[i]? = some f → DataW.trod enc P W 0 (fun _ => true) true fuel f.type ((cs.drop f.offset).take (P.cellsOf f.type)) = ys[i]?) → ∃ x, RepL (oldF W) W (c x) (cs.drop off) ∧ B x
theorem opFs_one {α : Type} {P : Program} {f : Field} {off sz : Nat} {c : α → List AV} {B : α → Prop} (ho : f.offset = off) (hc : P.cellsOf f.type = sz) (hd : Op1 P f.type c B) : OpFs P [f] off sz c B := by
  constructor
  intro H enc W fuel cs ys hl hy h
  have h0 := h 0 f rfl
  rw [List.getElem?_eq_getElem (by rw [hy]; exact Nat.zero_lt_one), ho, hc, List.take_of_length_le (by rw [List.length_drop]; omega)] at h0
  exact hd.out enc W fuel _ _ h0
theorem opFs_cons {α β : Type} {P : Program} {f : Field} {fs : List Field} {off sa sb : Nat} {a : α → List AV} {b : β → List AV} {Ba : α → Prop} {Bb : β → Prop} (ho : f.offset = off) (hc : P.cellsOf f.type = sa) (hd : Op1 P f.type a Ba) (hs : OpFs P fs (off + sa) sb b Bb) :
    OpFs P (f :: fs) off (sa + sb) (fun x : α × β => a x.1 ++ b x.2) (fun x => Ba x.1 ∧ Bb x.2) := by
  constructor
  intro H enc W fuel cs ys hl hy h
  cases ys with
  | nil => simp at hy
  | cons y ys =>
    have h0 := h 0 f rfl
    rw [ho, hc] at h0
    obtain ⟨x, hx, hbx⟩ := hd.out enc W fuel _ _ h0
    obtain ⟨z, hz, hbz⟩ := hs.out enc W fuel cs ys (by omega) (by simpa using hy) (fun i g hg => h (i + 1) g hg)
    refine ⟨(x, z), ?_, hbx, hbz⟩
    have e : cs.drop off = (cs.drop off).take sa ++ cs.drop (off + sa) := by rw [← List.drop_drop, List.take_append_drop]
    rw [e]
    exact hx.app hz
theorem op1_struct {α β : Type} {P : Program} {t : TypeId} {fs : Array Field} {sz : Nat} {c : β → List AV} {B : β → Prop} (c' : α → List AV) (B' : α → Prop) (g : β → α) (hc' : ∀ y, c' (g y) = c y) (hB : ∀ y, B y → B' (g y)) (ht : P.underlying t = some (.struct fs)) (hc : P.cellsOf t = sz) (hs : OpFs P fs.toList 0 sz c B) :
    Op1 P t c' B' := by
  constructor
  intro H enc W fuel cs y h
  obtain ⟨xs, n, _, _, hl, hx, hi⟩ := DataW.trod_struct ht h
  obtain ⟨x, hk, hb⟩ := hs.out enc W n cs xs (by rw [hl, hc]; omega) (by rw [hx]; simp) (fun i f hf => hi i f (by simpa using hf))
  refine ⟨g x, ?_, hB x hb⟩
  rw [hc']
  simpa using hk
theorem chg_below {w w' : World} (h : Chg (fun _ => False) w w') : Below w.heap.size w w' := ⟨h.os, h.tape, h.output, h.size, fun k hk => h.block k hk (fun h => h)⟩
theorem Spec.law {P : Program} {f : FuncId} {args : List FV} (h : Spec P f args (.p (.bool true)) []) {W : World} {vs : Array Value} (hv : RelVs ⟨oldF W, W, fun _ => undef, []⟩ args vs.toList) : Calls P f vs W fun e W' => e = .returned (.bool true) ∧ Below W.heap.size W W' := by
  refine (h W (oldF W) (fun _ => undef) vs (fun _ h => h) hv).mono fun e W' ⟨v, F', κ', he, hI, hr⟩ => ⟨?_, chg_below hI.chg⟩
  simp only [RelV, Rep] at hr
  rw [he, hr]
end Go.Proofs.YtjhnpaenhdbhpabV
