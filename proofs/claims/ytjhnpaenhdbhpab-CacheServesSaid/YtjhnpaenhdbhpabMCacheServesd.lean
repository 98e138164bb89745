/- Part of the proof of CacheServes: printed by programs of this repo out of the translation, and by hand. Each theorem's conditions stand in its statement. -/
import Derived.WideShapes
import Derived.ProofKit
import Derived.OpenShut
import Derived.ShutString
import Derived.ChangeOld
import Derived.SizedLaws
import Derived.ChangeSlices
import Derived.Orders
import Derived.Below
import Derived.Laws.AppendOwn
import Derived.Laws.OwnMore
import Derived.KernelRfl
import Derived.Test.YtjhnpaenhdbhpabMCacheServesa
import Derived.Test.YtjhnpaenhdbhpabMCacheServesb
import Derived.Test.YtjhnpaenhdbhpabMCacheServesc
set_option linter.unusedVariables false
set_option linter.unusedSimpArgs false
namespace Go.Proofs.YtjhnpaenhdbhpabV
open Go Go.RowKit
def cmpR : List TValue → List TValue → Int
  | [], [] => 0
  | [], _ :: _ => -1
  | _ :: _, [] => 1
  | x :: xs, y :: ys => if cmpV x y = 0 then cmpR xs ys else cmpV x y
theorem cmpR_nil (xs : List TValue) : cmpR xs [] = if xs.length = 0 then 0 else 1 := by cases xs <;> rfl
theorem nil_cmpR (ys : List TValue) : cmpR [] ys = if ys.length = 0 then 0 else -1 := by cases ys <;> rfl
theorem value_CompareRows_ev (xs ys : List TValue) (hx : xs.length ≤ 9223372036854775807) : Ev (fun k => value_CompareRows k xs ys) (cmpR xs ys) := by
  unfold value_CompareRows slices_CompareFunc_api_Value__value_Compare
  refine Ev.bind ?_ (Ev.now _)
  refine (loop_down (P := fun i => i ≤ ys.length → Ev (fun k => slices_CompareFunc_api_Value__value_Compare.p1 k xs ys xs (xs.length : Int) (i : Int)) (cmpR (xs.drop i) (ys.drop i))) xs.length ?_ ?_ 0 (by omega)) (by omega)
  · intro hy
    refine Ev.succ ?_
    simp only [slices_CompareFunc_api_Value__value_Compare.p1, decide_eq_true_eq]
    rw [List.drop_length, nil_cmpR, List.length_drop]
    refine Ev.ite_neg (by omega) ?_
    by_cases h : xs.length < ys.length
    · exact Ev.ite_pos (by omega) (Ev.done (by rw [if_neg (by omega)]))
    · exact Ev.ite_neg (by omega) (Ev.done (by rw [if_pos (by omega)]))
  · intro i hi ih hy
    refine Ev.succ ?_
    simp only [slices_CompareFunc_api_Value__value_Compare.p1, decide_eq_true_eq, value_Compare_eq, Option.bind_some, bne_iff_ne, ne_eq, ite_not]
    refine Ev.ite_pos (by omega) (Ev.ite_pos (by omega) ?_)
    by_cases h : i < ys.length
    · refine Ev.ite_neg (by omega) (Ev.ite_pos (by omega) ?_)
      rw [dV hi, dV h, wrn hi hx]
      unfold cmpR
      by_cases hc : cmpV (xs.getD (i : Int).toNat dValue) (ys.getD (i : Int).toNat dValue) = 0
      · rw [if_pos hc]; exact Ev.ite_pos hc (ih (by omega))
      · rw [if_neg hc]; exact Ev.ite_neg hc (Ev.now _)
    · rw [List.drop_eq_nil_of_le (show ys.length ≤ i by omega), cmpR_nil, List.length_drop, if_neg (by omega)]
      exact Ev.ite_pos (by omega) (Ev.now _)
def okRow (l : List TValue) : Bool := l.all okV && decide (l.length ≤ 16)
theorem value_ValidRow_ev (l : List TValue) (hl : l.length ≤ 9223372036854775807) : Ev (fun k => value_ValidRow k l) (okRow l) := by
  unfold value_ValidRow
  refine (loop_down (P := fun i => Ev (fun k => value_ValidRow.p1 k l l (l.length : Int) (i : Int)) ((l.drop i).all okV && decide (l.length ≤ 16))) l.length ?_ ?_ 0 (by omega))
  · refine Ev.succ ?_
    simp only [value_ValidRow.p1, decide_eq_true_eq]
    rw [List.drop_length]
    refine Ev.ite_neg (by omega) (Ev.done ?_)
    simp; omega
  · intro i hi ih
    refine Ev.succ ?_
    simp only [value_ValidRow.p1, value_Valid_eq, Option.bind_some, decide_eq_true_eq]
    refine Ev.ite_pos (by omega) (Ev.ite_pos (by omega) ?_)
    rw [dV hi, wrn hi hl, List.all_cons]
    cases hc : okV (l.getD (i : Int).toNat dValue) with
    | true => exact Ev.ite_neg (by simp) ih
    | false => exact Ev.ite_pos rfl (Ev.now _)
def okE (e : TEntry) : Bool := okRow e.f0 && decide (-262144 ≤ e.f1 ∧ e.f1 ≤ 262144)
theorem countFits_eq (k : Nat) (n : Int) : bag_countFits k n = some (decide (-262144 ≤ n ∧ n ≤ 262144)) := by
  unfold bag_countFits
  simp only [decide_eq_true_eq]
  by_cases h : n ≥ -262144
  · rw [if_pos h]; simp; omega
  · rw [if_neg h]; simp; omega
theorem entryFits_ev (e : TEntry) (hl : e.f0.length ≤ 9223372036854775807) : Ev (fun k => bag_entryFits k e) (okE e) := by
  unfold bag_entryFits okE
  refine Ev.bind (value_ValidRow_ev _ hl) ?_
  cases hc : okRow e.f0 with
  | true => simp only [if_true, countFits_eq, Option.bind_some, Bool.true_and]; exact Ev.now _
  | false => simp only [Bool.false_eq_true, if_false, Bool.false_and]; exact Ev.now _
def bvF : Option TEntry → List TEntry → Bool
  | _, [] => true
  | none, e :: l => okE e && !decide (e.f1 = 0) && bvF (some e) l
  | some p, e :: l => okE e && !decide (e.f1 = 0) && decide (cmpR p.f0 e.f0 < 0) && bvF (some e) l
def bagV (l : List TEntry) : Bool := bvF none l && decide (l.length ≤ 4096)
def prevE (l : List TEntry) (i : Nat) : Option TEntry := if i = 0 then none else some (l.getD ((i - 1 : Nat) : Int).toNat dEntry)
def Fin (l : List TEntry) : Prop := l.length ≤ 9223372036854775807 ∧ ∀ e ∈ l, e.f0.length ≤ 9223372036854775807
theorem Fin.at {l : List TEntry} (h : Fin l) {i : Nat} (hi : i < l.length) : (l.getD (i : Int).toNat dEntry).f0.length ≤ 9223372036854775807 := h.2 _ (getD_mem _ hi)
theorem bag_Valid_ev (l : List TEntry) (hl : Fin l) : Ev (fun k => bag_Valid k l) (bagV l) := by
  unfold bag_Valid
  refine (loop_down (P := fun i => Ev (fun k => bag_Valid.p1 k l l (l.length : Int) (i : Int)) (bvF (prevE l i) (l.drop i) && decide (l.length ≤ 4096))) l.length ?_ ?_ 0 (by omega))
  · refine Ev.succ ?_
    simp only [bag_Valid.p1, decide_eq_true_eq]
    rw [List.drop_length]
    refine Ev.ite_neg (by omega) (Ev.done ?_)
    simp [bvF]; omega
  · intro i hi ih
    have hp : prevE l (i + 1) = some (l.getD (i : Int).toNat dEntry) := by simp [prevE]
    rw [hp] at ih
    refine Ev.succ ?_
    simp only [bag_Valid.p1, decide_eq_true_eq, beq_iff_eq]
    refine Ev.ite_pos (by omega) (Ev.ite_pos (by omega) (Ev.bind (entryFits_ev _ (hl.at hi)) ?_))
    rw [dE hi, wrn hi hl.1]
    cases hc : okE (l.getD (i : Int).toNat dEntry) with
    | false => refine Ev.ite_pos rfl (Ev.done ?_); unfold bvF; cases prevE l i <;> simp only [hc, Bool.false_and]
    | true =>
      refine Ev.ite_neg (by simp) ?_
      by_cases hz : (l.getD (i : Int).toNat dEntry).f1 = 0
      · refine Ev.ite_pos hz (Ev.done ?_); unfold bvF; cases prevE l i <;> simp only [hz, decide_true, Bool.not_true, Bool.and_false, Bool.false_and]
      · refine Ev.ite_neg hz ?_
        by_cases h0 : i = 0
        · subst h0
          refine Ev.ite_neg (by omega) (ih.to ?_)
          simp only [prevE, if_true, bvF, hc, decide_eq_false hz, Bool.not_false, Bool.and_self, Bool.true_and]
        · have hl1 := hl.1
          rw [wrp (by omega) (by omega)]
          refine Ev.ite_pos (by omega) (Ev.ite_pos (by omega) (Ev.bind (value_CompareRows_ev _ _ (hl.at (show i - 1 < l.length by omega))) ?_))
          simp only [prevE, if_neg h0, bvF, hc, decide_eq_false hz, Bool.not_false, Bool.true_and]
          by_cases hcmp : cmpR (l.getD ((i - 1 : Nat) : Int).toNat dEntry).f0 (l.getD (i : Int).toNat dEntry).f0 < 0
          · rw [decide_eq_true hcmp]; exact Ev.ite_neg (by omega) (by simpa using ih)
          · rw [decide_eq_false hcmp]; exact Ev.ite_pos (by omega) (Ev.now _)
end Go.Proofs.YtjhnpaenhdbhpabV
set_option linter.unusedVariables false
set_option linter.unusedSimpArgs false
set_option maxRecDepth 100000
namespace Go.Proofs.YtjhnpaenhdbhpabV
open Go Go.RowKit
noncomputable def erasureref30_at  (k : Nat) (row0 : (List TValue)) (column1 : Int) : Option TValue := if (decide (column1 < 0)) = true then (some (TValue.mk 0 0 (⟨#[]⟩ : ByteArray))) else (if (decide (column1 ≥ ((row0).length : Int))) = true then (some (TValue.mk 0 0 (⟨#[]⟩ : ByteArray))) else (if 0 ≤ column1 ∧ column1 < ((row0).length : Int) then ((erasureref01_Clean k (row0.getD column1.toNat dValue)).bind fun y_4 => (some y_4)) else none))
noncomputable def erasureref30_at.t : List Item := [.code (bodyOf Try.f40)]
noncomputable def erasureref30_at.s (row0 : (List TValue)) (column1 : Int) : St := ⟨frOf Try.f40.ntmps 0 [(0, .p (eL 3 cValue dValue row0)), (1, .p (.int .i64 column1))], []⟩
theorem erasureref30_at.run   {k : Nat} {row0 : (List TValue)} {column1 : Int} {r : TValue} (h : erasureref30_at k row0 column1 = some r) : RunC Try.prog Try.f40 erasureref30_at.t (erasureref30_at.s row0 column1) (.agg ((cValue r).map .p)) [] := by
  unfold erasureref30_at at h
  rcases ite_or h with ⟨g_1, h⟩ | ⟨g_1, h⟩
  · obtain rfl := Option.some.inj h
    exact RunC.out [.n 4, .r [(2, .dec true)], .n 3] (by kernel_rfl) (Obs.of (by kernel_rfl) g_1)
  · rcases ite_or h with ⟨g_2, h⟩ | ⟨g_2, h⟩
    · obtain rfl := Option.some.inj h
      exact RunC.out [.n 4, .r [(2, .dec false), (7, .dec true)], .n 3] (by kernel_rfl) (Obs.of (by kernel_rfl) (And.intro (nt g_1) g_2))
    · obtain ⟨g_3, h⟩ := ite_some h
      obtain ⟨y_4, e_5, h⟩ := bind_or h
      obtain rfl := Option.some.inj h
      exact RunC.out [.n 4, .r [(2, .dec false), (7, .dec false)], .n 3, .r [(4, .call (.agg ((cValue y_4).map .p)) [])]] (by kernel_rfl) (Obs.of (by kernel_rfl) (And.intro (nt g_1) (And.intro (nt g_2) (And.intro g_3 (erasureref01_Clean.spec e_5)))))
theorem erasureref30_at.mono   : ∀ (k k' : Nat) (row0 : (List TValue)) (column1 : Int) (r : TValue), k ≤ k' → erasureref30_at k row0 column1 = some r → erasureref30_at k' row0 column1 = some r := by
  intro k k' row0 column1 r hk h
  unfold erasureref30_at at h ⊢
  rcases ite_or h with ⟨g_1, h⟩ | ⟨g_1, h⟩
  · refine itp g_1 ?_
    exact h
  · refine itn g_1 ?_
    rcases ite_or h with ⟨g_2, h⟩ | ⟨g_2, h⟩
    · refine itp g_2 ?_
      exact h
    · refine itn g_2 ?_
      obtain ⟨g_3, h⟩ := ite_some h
      refine itp g_3 ?_
      obtain ⟨y_4, e_5, h⟩ := bind_or h
      refine bnd (erasureref01_Clean.mono _ _ _ _ hk e_5) ?_
      exact h
theorem erasureref30_at.spec {k : Nat} {row0 : (List TValue)} {column1 : Int} {r : TValue} (h : erasureref30_at k row0 column1 = some r) : Spec Try.prog 40 [.p (eL 3 cValue dValue row0), .p (.int .i64 column1)] (.agg ((cValue r).map .p)) [] :=
  spec_of mix Try.func40 (body := bodyOf Try.f40) (by kernel_rfl) (by kernel_rfl) (erasureref30_at.run h)
end Go.Proofs.YtjhnpaenhdbhpabV
set_option linter.unusedVariables false
set_option linter.unusedSimpArgs false
set_option maxRecDepth 100000
namespace Go.Proofs.YtjhnpaenhdbhpabV
open Go Go.RowKit
noncomputable def erasureref30_Select.p1  : Nat → (List TEntry) → Int → Int → TValue → (List TEntry) → Option (List TEntry)
  | 0, _, _, _, _, _ => none
  | k + 1, rows0, column1, i8, v5b, out7 => if (decide (i8 < ((rows0).length : Int))) = true then (if 0 ≤ i8 ∧ i8 < ((rows0).length : Int) then ((erasureref30_at k ((rows0.getD i8.toNat dEntry).f0) column1).bind fun y_3 => ((erasureref01_Clean k v5b).bind fun y_5 => (if ((y_3.f0 == y_5.f0) && ((y_3.f1 == y_5.f1) && ((y_3.f2.data.toList == y_5.f2.data.toList) && true))) = true then (if (out7).length + ([(rows0.getD i8.toNat dEntry)]).length ≤ maxLen ∧ ((out7).length + ([(rows0.getD i8.toNat dEntry)]).length) * 32 ≤ 140737488355328 then (erasureref30_Select.p1 k rows0 column1 (IntKind.i64.wrap (i8 + 1)) v5b (out7 ++ ([(rows0.getD i8.toNat dEntry)]))) else none) else (erasureref30_Select.p1 k rows0 column1 (IntKind.i64.wrap (i8 + 1)) v5b out7)))) else none) else (some out7)
noncomputable def erasureref30_Select  (k : Nat) (rows0 : (List TEntry)) (column1 : Int) (v2 : TValue) : Option (List TEntry) := erasureref30_Select.p1 k rows0 column1 0 v2 ([] : List TEntry)
noncomputable def erasureref30_Select.t : List Item := [.code (bodyOf Try.f15)]
noncomputable def erasureref30_Select.s (rows0 : (List TEntry)) (column1 : Int) (v2 : TValue) : St := ⟨frOf Try.f15.ntmps 0 [(0, .p (eL 2 cEntry dEntry rows0)), (1, .p (.int .i64 column1)), (2, .agg ((cValue v2).map .p))], []⟩
noncomputable def erasureref30_Select.p1.t : List Item := nav 9 [] erasureref30_Select.t
noncomputable def erasureref30_Select.p1.s (rows0 : (List TEntry)) (column1 : Int) (i8 : Int) (v5b : TValue) (out7 : (List TEntry)) : St := ⟨frOf Try.f15.ntmps 0 [(0, .p (eL 2 cEntry dEntry rows0)), (1, .p (.int .i64 column1)), (5, .ptr 0 0 0), (7, .sref 1 36 2 (out7).length), (8, .p (.int .i64 i8))], [.box ((cValue v5b).map .p), (oL true 36 2 cEntry dEntry out7)]⟩
theorem erasureref30_Select.p1.run   : ∀ (k : Nat) (rows0 : (List TEntry)) (column1 : Int) (i8 : Int) (v5b : TValue) (out7 : (List TEntry)) (r : (List TEntry)), erasureref30_Select.p1 k rows0 column1 i8 v5b out7 = some r → RunC Try.prog Try.f15 erasureref30_Select.p1.t (erasureref30_Select.p1.s rows0 column1 i8 v5b out7) (.sref 0 36 2 (r).length) [(oL true 36 2 cEntry dEntry (r))] := by
  intro k
  induction k with
  | zero => intro rows0 column1 i8 v5b out7 r h; simp [erasureref30_Select.p1] at h
  | succ k ih =>
    intro rows0 column1 i8 v5b out7 r h
    rw [erasureref30_Select.p1] at h
    rcases ite_or h with ⟨g_1, h⟩ | ⟨g_1, h⟩
    · obtain ⟨g_2, h⟩ := ite_some h
      obtain ⟨y_3, e_4, h⟩ := bind_or h
      obtain ⟨y_5, e_6, h⟩ := bind_or h
      rcases ite_or h with ⟨g_7, h⟩ | ⟨g_7, h⟩
      · obtain ⟨g_8, h⟩ := ite_some h
        exact RunC.go [.n 2, .r [(3, .dec true)], .n 5, .r [(6, .call (.agg ((cValue y_3).map .p)) []), (8, .call (.agg ((cValue y_5).map .p)) []), (9, .dec true)], .n 1, .r [(5, .obj (oL true 36 2 cEntry dEntry [(rows0.getD i8.toNat dEntry)])), (6, .obj (oL true 36 2 cEntry dEntry (out7 ++ ([(rows0.getD i8.toNat dEntry)]))))], .n 3, .k [0, 1, 5, 7, 8]] (by kernel_rfl) (Obs.of (by kernel_rfl) (And.intro g_1 (And.intro g_2 (And.intro (erasureref30_at.spec e_4) (And.intro (erasureref01_Clean.spec e_6) (And.intro g_7 (And.intro g_2 (And.intro (le_one 36 2 cEntry dEntry (rows0.getD i8.toNat dEntry)) (And.intro g_8 (le_app 36 2 cEntry dEntry out7 ([(rows0.getD i8.toNat dEntry)]))))))))))) (ih _ _ _ _ _ r h)
      · exact RunC.go [.n 2, .r [(3, .dec true)], .n 5, .r [(6, .call (.agg ((cValue y_3).map .p)) []), (8, .call (.agg ((cValue y_5).map .p)) []), (9, .dec false)], .n 5, .k [0, 1, 5, 7, 8]] (by kernel_rfl) (Obs.of (by kernel_rfl) (And.intro g_1 (And.intro g_2 (And.intro (erasureref30_at.spec e_4) (And.intro (erasureref01_Clean.spec e_6) (nt g_7)))))) (ih _ _ _ _ _ r h)
    · obtain rfl := Option.some.inj h
      exact RunC.out [.n 2, .r [(3, .dec false)], .n 4] (by kernel_rfl) (Obs.of (by kernel_rfl) (nt g_1))
theorem erasureref30_Select.run   {k : Nat} {rows0 : (List TEntry)} {column1 : Int} {v2 : TValue} {r : (List TEntry)} (h : erasureref30_Select k rows0 column1 v2 = some r) : RunC Try.prog Try.f15 erasureref30_Select.t (erasureref30_Select.s rows0 column1 v2) (.sref 0 36 2 (r).length) [(oL true 36 2 cEntry dEntry (r))] := by
  unfold erasureref30_Select at h
  exact RunC.go [.n 1, .r [(1, .obj (oL true 36 2 cEntry dEntry ([] : List TEntry)))], .n 1, .r [(0, .obj (oL true 36 2 cEntry dEntry ([] : List TEntry)))], .n 5, .k [0, 1, 5, 7, 8]] (by kernel_rfl) (Obs.of (by kernel_rfl) (And.intro (le_nil 36 2 cEntry dEntry) (le_nil 36 2 cEntry dEntry))) (erasureref30_Select.p1.run k _ _ _ _ _ r h)
theorem erasureref30_Select.p1.mono   : ∀ (k k' : Nat) (rows0 : (List TEntry)) (column1 : Int) (i8 : Int) (v5b : TValue) (out7 : (List TEntry)) (r : (List TEntry)), k ≤ k' → erasureref30_Select.p1 k rows0 column1 i8 v5b out7 = some r → erasureref30_Select.p1 k' rows0 column1 i8 v5b out7 = some r := by
  intro k
  induction k with
  | zero => intro k' rows0 column1 i8 v5b out7 r hk h; simp [erasureref30_Select.p1] at h
  | succ k ih =>
    intro k' rows0 column1 i8 v5b out7 r hk h
    obtain ⟨k', rfl⟩ : ∃ m, k' = m + 1 := ⟨k' - 1, by omega⟩
    replace hk := Nat.le_of_succ_le_succ hk
    rw [erasureref30_Select.p1] at h ⊢
    rcases ite_or h with ⟨g_1, h⟩ | ⟨g_1, h⟩
    · refine itp g_1 ?_
      obtain ⟨g_2, h⟩ := ite_some h
      refine itp g_2 ?_
      obtain ⟨y_3, e_4, h⟩ := bind_or h
      refine bnd (erasureref30_at.mono _ _ _ _ _ hk e_4) ?_
      obtain ⟨y_5, e_6, h⟩ := bind_or h
      refine bnd (erasureref01_Clean.mono _ _ _ _ hk e_6) ?_
      rcases ite_or h with ⟨g_7, h⟩ | ⟨g_7, h⟩
      · refine itp g_7 ?_
        obtain ⟨g_8, h⟩ := ite_some h
        refine itp g_8 ?_
        exact ih _ _ _ _ _ _ r hk h
      · refine itn g_7 ?_
        exact ih _ _ _ _ _ _ r hk h
    · refine itn g_1 ?_
      exact h
theorem erasureref30_Select.mono   : ∀ (k k' : Nat) (rows0 : (List TEntry)) (column1 : Int) (v2 : TValue) (r : (List TEntry)), k ≤ k' → erasureref30_Select k rows0 column1 v2 = some r → erasureref30_Select k' rows0 column1 v2 = some r := by
  intro k k' rows0 column1 v2 r hk h
  unfold erasureref30_Select at h ⊢
  exact erasureref30_Select.p1.mono _ _ _ _ _ _ _ r hk h
theorem erasureref30_Select.spec {k : Nat} {rows0 : (List TEntry)} {column1 : Int} {v2 : TValue} {r : (List TEntry)} (h : erasureref30_Select k rows0 column1 v2 = some r) : Spec Try.prog 15 [.p (eL 2 cEntry dEntry rows0), .p (.int .i64 column1), .agg ((cValue v2).map .p)] (.sref 0 36 2 (r).length) [(oL true 36 2 cEntry dEntry (r))] :=
  spec_of mix Try.func15 (body := bodyOf Try.f15) (by kernel_rfl) (by kernel_rfl) (erasureref30_Select.run h)
end Go.Proofs.YtjhnpaenhdbhpabV
set_option linter.unusedVariables false
set_option linter.unusedSimpArgs false
namespace Go.Proofs.YtjhnpaenhdbhpabV
open Go Go.RowKit
def atV (row : List TValue) (c : Int) : TValue := if c < 0 then ⟨0, 0, ⟨#[]⟩⟩ else if c ≥ (row.length : Int) then ⟨0, 0, ⟨#[]⟩⟩ else clV (row.getD c.toNat dValue)
theorem cache_at_eq (k : Nat) (row : List TValue) (c : Int) : cache_at k row c = some (atV row c) := by
  unfold cache_at atV
  simp only [decide_eq_true_eq]
  by_cases h1 : c < 0
  · rw [if_pos h1, if_pos h1]
  rw [if_neg h1, if_neg h1]
  by_cases h2 : c ≥ (row.length : Int)
  · rw [if_pos h2, if_pos h2]
  rw [if_neg h2, if_neg h2, if_pos (by omega), value_Clean_eq]; rfl
def selS (l : List TEntry) (c : Int) (v : TValue) : List TEntry := l.filter fun e => decide (atV e.f0 c = v)
theorem copied_ev (l : List TEntry) (hl : l.length ≤ 1099511627776) (hr : ∀ e ∈ l, e.f0.length ≤ 1099511627776) : Ev (fun k => cache_copied k l) l := by
  unfold cache_copied
  have key : ∀ i, i ≤ l.length → ∀ acc : List TEntry, acc.length = i → Ev (fun k => cache_copied.p1 k l (i : Int) acc) (acc ++ l.drop i) := by
    refine loop_down (P := fun i => ∀ acc : List TEntry, acc.length = i → Ev (fun k => cache_copied.p1 k l (i : Int) acc) (acc ++ l.drop i)) l.length ?_ ?_
    · intro acc _
      refine Ev.succ ?_
      simp only [cache_copied.p1, decide_eq_true_eq]
      rw [List.drop_length]
      exact Ev.ite_neg (by omega) (Ev.done (by simp))
    · intro i hi ih acc ha
      refine Ev.succ ?_
      simp only [cache_copied.p1, decide_eq_true_eq]
      have hr1 := hr _ (getD_mem dEntry hi)
      refine Ev.ite_pos (by omega) (Ev.ite_pos (by omega) (Ev.ite_pos (by simp only [maxLen]; omega) (Ev.ite_pos (by simp only [maxLen, List.length_singleton]; omega) ?_)))
      rw [dE hi, wrn hi (by omega)]
      exact (ih (acc ++ [l.getD (i : Int).toNat dEntry]) (by simp [ha])).to (by simp)
  simpa using key 0 (by omega) [] rfl
theorem sel_ev (l : List TEntry) (c : Int) (v : TValue) (hl : l.length ≤ 1099511627776) (hr : ∀ e ∈ l, e.f0.length ≤ 1099511627776) : Ev (fun k => cache_Select k l c v) (selS l c (clV v)) := by
  unfold cache_Select
  simp only [value_Clean_eq, Option.bind_some]
  have key : ∀ i, i ≤ l.length → ∀ acc : List TEntry, acc.length ≤ i → (∀ e ∈ acc, e.f0.length ≤ 1099511627776) → Ev (fun k => cache_Select.p1 k l c (i : Int) (clV v) acc) (acc ++ selS (l.drop i) c (clV v)) := by
    refine loop_down (P := fun i => ∀ acc : List TEntry, acc.length ≤ i → (∀ e ∈ acc, e.f0.length ≤ 1099511627776) → Ev (fun k => cache_Select.p1 k l c (i : Int) (clV v) acc) (acc ++ selS (l.drop i) c (clV v))) l.length ?_ ?_
    · intro acc ha hr0
      refine Ev.succ ?_
      simp only [cache_Select.p1, decide_eq_true_eq]
      rw [List.drop_length]
      refine Ev.ite_neg (by omega) ?_
      simp only [selS, List.filter_nil, List.append_nil]
      exact Ev.bind (copied_ev acc (by omega) hr0) (Ev.now _)
    · intro i hi ih acc ha hr0
      refine Ev.succ ?_
      simp only [cache_Select.p1, cache_at_eq, Option.bind_some, eqV_iff, decide_eq_true_eq]
      refine Ev.ite_pos (by omega) (Ev.ite_pos (by omega) ?_)
      rw [dE hi, wrn hi (by omega)]
      by_cases h : atV (l.getD (i : Int).toNat dEntry).f0 c = clV v
      · refine Ev.ite_pos h (Ev.ite_pos (by simp only [maxLen, List.length_singleton]; omega) ?_)
        exact (ih (acc ++ [l.getD (i : Int).toNat dEntry]) (by simp; omega) (by intro e he; rcases List.mem_append.1 he with he | he; exact hr0 e he; rw [List.mem_singleton] at he; subst he; exact hr _ (getD_mem _ hi))).to (by simp only [selS, List.filter_cons, h, decide_true, if_true, List.append_assoc, List.singleton_append])
      · exact Ev.ite_neg h ((ih acc (by omega) hr0).to (by simp only [selS, List.filter_cons, h, decide_false, Bool.false_eq_true, if_false]))
  exact key 0 (by omega) [] (by simp) (by simp)
end Go.Proofs.YtjhnpaenhdbhpabV
set_option linter.unusedVariables false
set_option linter.unusedSimpArgs false
namespace Go.Proofs.YtjhnpaenhdbhpabV
open Go Go.RowKit
def okD (n : Int) : Bool := decide (0 ≤ n ∧ n ≤ 1048576)
theorem inDays_eq (k : Nat) (n : Int) : cache_inDays k n = some (okD n) := by
  unfold cache_inDays okD
  simp only [decide_eq_true_eq]
  by_cases h : n ≥ 0
  · rw [if_pos h]; simp; omega
  · rw [if_neg h]; simp; omega
def ctF : Option TCached → List TCached → Bool
  | _, [] => true
  | none, x :: l => okV x.f0 && (bagV x.f1 && (okD x.f2 && ctF (some x) l))
  | some p, x :: l => okV x.f0 && (decide (cmpV p.f0 x.f0 < 0) && (bagV x.f1 && (okD x.f2 && ctF (some x) l)))
def cacheV (l : List TCached) : Bool := ctF none l && decide (l.length ≤ 16)
def prevC (l : List TCached) (i : Nat) : Option TCached := if i = 0 then none else some (l.getD ((i - 1 : Nat) : Int).toNat dCached)
theorem dC {l : List TCached} {i : Nat} (h : i < l.length) : l.drop i = l.getD (i : Int).toNat dCached :: l.drop (i + 1) := drop_cons _ h
def FinC (l : List TCached) : Prop := l.length ≤ 9223372036854775807 ∧ ∀ x ∈ l, Fin x.f1
theorem cache_Valid_ev (l : List TCached) (hl : FinC l) : Ev (fun k => cache_Valid k l) (cacheV l) := by
  unfold cache_Valid cacheV
  simp only [decide_eq_true_eq]
  by_cases hn : l.length ≤ 16
  · rw [decide_eq_true hn, Bool.and_true]
    refine Ev.ite_neg (by omega) ?_
    refine (loop_down (P := fun i => Ev (fun k => cache_Valid.p1 k l (i : Int)) (ctF (prevC l i) (l.drop i))) l.length ?_ ?_ 0 (by omega))
    · refine Ev.succ ?_
      simp only [cache_Valid.p1, decide_eq_true_eq]
      rw [List.drop_length]
      refine Ev.ite_neg (by omega) (Ev.done ?_)
      cases prevC l l.length <;> rfl
    · intro i hi ih
      have hp : prevC l (i + 1) = some (l.getD (i : Int).toNat dCached) := by simp [prevC]
      rw [hp] at ih
      refine Ev.succ ?_
      simp only [cache_Valid.p1, decide_eq_true_eq, value_Valid_eq, value_Compare_eq, inDays_eq, Option.bind_some]
      refine Ev.ite_pos (by omega) (Ev.ite_pos (by omega) ?_)
      rw [dC hi, wrn hi hl.1]
      have hf := hl.2 _ (getD_mem dCached hi)
      have tail : Ev (fun k => (bag_Valid k ((l.getD (i : Int).toNat dCached).f1)).bind fun y_18 => (if (!y_18) = true then (some false) else (if (!okD ((l.getD (i : Int).toNat dCached).f2)) = true then (some false) else (cache_Valid.p1 k l ((i + 1 : Nat) : Int)))))
          (bagV (l.getD (i : Int).toNat dCached).f1 && (okD (l.getD (i : Int).toNat dCached).f2 && ctF (some (l.getD (i : Int).toNat dCached)) (l.drop (i + 1)))) := by
        refine Ev.bind (bag_Valid_ev _ hf) ?_
        cases hb : bagV (l.getD (i : Int).toNat dCached).f1 with
        | false => exact Ev.ite_pos rfl (Ev.now _)
        | true =>
          refine Ev.ite_neg (by simp) ?_
          cases hd : okD (l.getD (i : Int).toNat dCached).f2 with
          | false => exact Ev.ite_pos rfl (Ev.now _)
          | true => exact Ev.ite_neg (by simp) ih
      cases hv : okV (l.getD (i : Int).toNat dCached).f0 with
      | false => refine Ev.ite_pos rfl (Ev.done ?_); unfold ctF; cases prevC l i <;> simp only [hv, Bool.false_and]
      | true =>
        refine Ev.ite_neg (by simp) ?_
        by_cases h0 : i = 0
        · subst h0
          refine Ev.ite_neg (by omega) (tail.to ?_)
          simp only [prevC, if_true, ctF, hv, Bool.true_and]
        · have hl1 := hl.1
          rw [wrp (by omega) (by omega)]
          refine Ev.ite_pos (by omega) (Ev.ite_pos (by omega) ?_)
          simp only [prevC, if_neg h0, ctF, hv, Bool.true_and]
          by_cases hc : cmpV (l.getD ((i - 1 : Nat) : Int).toNat dCached).f0 (l.getD (i : Int).toNat dCached).f0 < 0
          · rw [decide_eq_true hc, Bool.true_and]; exact Ev.ite_neg (by omega) tail
          · rw [decide_eq_false hc, Bool.false_and]; exact Ev.ite_pos (by omega) (Ev.now _)
  · rw [decide_eq_false hn, Bool.and_false]
    exact Ev.ite_pos (by omega) (Ev.now _)
end Go.Proofs.YtjhnpaenhdbhpabV
set_option linter.unusedVariables false
set_option linter.unusedSimpArgs false
namespace Go.Proofs.YtjhnpaenhdbhpabV
open Go Go.RowKit
theorem bvF_mem : ∀ (l : List TEntry) (p : Option TEntry), bvF p l = true → ∀ e ∈ l, okE e = true
  | [], _, _, e, he => by cases he
  | x :: l, p, h, e, he => by
    have h1 : okE x = true ∧ bvF (some x) l = true := by
      cases p <;> simp only [bvF, Bool.and_eq_true] at h
      · exact ⟨h.1.1, h.2⟩
      · exact ⟨h.1.1.1, h.2⟩
    rcases List.mem_cons.1 he with rfl | he
    · exact h1.1
    · exact bvF_mem l _ h1.2 e he
theorem bagV_mem {l : List TEntry} (h : bagV l = true) : ∀ e ∈ l, okE e = true := by
  simp only [bagV, Bool.and_eq_true] at h
  exact bvF_mem l none h.1
theorem bagV_len {l : List TEntry} (h : bagV l = true) : l.length ≤ 4096 := by
  simp only [bagV, Bool.and_eq_true, decide_eq_true_eq] at h
  exact h.2
theorem okE_len {e : TEntry} (h : okE e = true) : e.f0.length ≤ 16 := by
  simp only [okE, okRow, Bool.and_eq_true, decide_eq_true_eq] at h
  exact h.1.2
theorem ctF_mem : ∀ (l : List TCached) (p : Option TCached), ctF p l = true → ∀ x ∈ l, okV x.f0 = true ∧ bagV x.f1 = true ∧ okD x.f2 = true
  | [], _, _, x, hx => by cases hx
  | y :: l, p, h, x, hx => by
    have h1 : (okV y.f0 = true ∧ bagV y.f1 = true ∧ okD y.f2 = true) ∧ ctF (some y) l = true := by
      cases p <;> simp only [ctF, Bool.and_eq_true] at h
      · exact ⟨⟨h.1, h.2.1, h.2.2.1⟩, h.2.2.2⟩
      · exact ⟨⟨h.1, h.2.2.1, h.2.2.2.1⟩, h.2.2.2.2⟩
    rcases List.mem_cons.1 hx with rfl | hx
    · exact h1.1
    · exact ctF_mem l _ h1.2 x hx
theorem cacheV_mem {l : List TCached} (h : cacheV l = true) : ∀ x ∈ l, okV x.f0 = true ∧ bagV x.f1 = true ∧ okD x.f2 = true := by
  simp only [cacheV, Bool.and_eq_true] at h
  exact ctF_mem l none h.1
theorem cacheV_len {l : List TCached} (h : cacheV l = true) : l.length ≤ 16 := by
  simp only [cacheV, Bool.and_eq_true, decide_eq_true_eq] at h
  exact h.2
theorem copied_bag (l : List TEntry) (h : bagV l = true) : Ev (fun k => cache_copied k l) l :=
  copied_ev l (by have := bagV_len h; omega) (fun e he => by have := okE_len (bagV_mem h e he); omega)
theorem duplicate_ev (x : TCached) (h : bagV x.f1 = true) : Ev (fun k => cache_duplicate k x) x := by
  unfold cache_duplicate
  exact Ev.bind (copied_bag _ h) (Ev.now _)
def liveC (t d : Int) (x : TCached) : Bool := decide (x.f2 ≤ d ∧ d < x.f2 + t)
def expS (t : Int) (l : List TCached) (d : Int) : List TCached := if cacheV l && (okD t && okD d) then l.filter (liveC t d) else []
theorem okD_rng {n : Int} (h : okD n = true) : 0 ≤ n ∧ n ≤ 1048576 := of_decide_eq_true h
theorem Expire_ev (c : TCache) (l : List TCached) (d : Int) (hl : FinC l) : Ev (fun k => cache_Expire k c l d) (expS c.f3 l d) := by
  unfold cache_Expire expS
  simp only [inDays_eq, Option.bind_some]
  refine Ev.bind (cache_Valid_ev l hl) ?_
  cases hv : cacheV l with
  | false => exact Ev.ite_pos rfl (Ev.now _)
  | true =>
    refine Ev.ite_neg (by simp) ?_
    cases ht : okD c.f3 with
    | false => exact Ev.ite_pos rfl (Ev.now _)
    | true =>
      refine Ev.ite_neg (by simp) ?_
      cases hd : okD d with
      | false => exact Ev.ite_pos rfl (Ev.now _)
      | true =>
        refine Ev.ite_neg (by simp) ?_
        have hn := cacheV_len hv
        have ht' := okD_rng ht
        have key : ∀ i, i ≤ l.length → ∀ acc : List TCached, acc.length ≤ i → Ev (fun k => cache_Expire.p1 k l d (i : Int) c acc) (acc ++ (l.drop i).filter (liveC c.f3 d)) := by
          refine loop_down (P := fun i => ∀ acc : List TCached, acc.length ≤ i → Ev (fun k => cache_Expire.p1 k l d (i : Int) c acc) (acc ++ (l.drop i).filter (liveC c.f3 d))) l.length ?_ ?_
          · intro acc _
            refine Ev.succ ?_
            simp only [cache_Expire.p1, decide_eq_true_eq]
            rw [List.drop_length]
            exact Ev.ite_neg (by omega) (Ev.done (by simp))
          · intro i hi ih acc ha
            refine Ev.succ ?_
            simp only [cache_Expire.p1, decide_eq_true_eq]
            obtain ⟨hx1, hx2, hx3⟩ := cacheV_mem hv _ (getD_mem dCached hi)
            have hx3 := okD_rng hx3
            rw [dC hi, wrn hi (by omega), wr (n := (l.getD (i : Int).toNat dCached).f2 + c.f3) (by omega), List.filter_cons]
            refine Ev.ite_pos (by omega) (Ev.ite_pos (by omega) ?_)
            unfold liveC at *
            by_cases h1 : d ≥ (l.getD (i : Int).toNat dCached).f2
            · refine Ev.ite_pos h1 ?_
              by_cases h2 : d < (l.getD (i : Int).toNat dCached).f2 + c.f3
              · refine Ev.ite_pos h2 (Ev.bind (duplicate_ev _ hx2) (Ev.ite_pos (by simp only [maxLen, List.length_singleton]; omega) ?_))
                rw [if_pos (decide_eq_true ⟨h1, h2⟩)]
                exact (ih (acc ++ [l.getD (i : Int).toNat dCached]) (by simp; omega)).to (by simp only [List.append_assoc, List.singleton_append])
              · rw [if_neg (by simp only [decide_eq_true_eq]; omega)]
                exact Ev.ite_neg h2 (ih acc (by omega))
            · rw [if_neg (by simp only [decide_eq_true_eq]; omega)]
              exact Ev.ite_neg h1 (ih acc (by omega))
        exact key 0 (by omega) [] (by simp)
theorem usable_ev (c : TCache) (l : List TCached) (rows : List TEntry) (d : Int) (hl : FinC l) (hr : Fin rows) : Ev (fun k => cache_usable k c l rows d) (cacheV l && (bagV rows && (okD c.f3 && okD d))) := by
  unfold cache_usable
  simp only [inDays_eq, Option.bind_some]
  refine Ev.bind (cache_Valid_ev l hl) ?_
  cases hv : cacheV l with
  | false => exact Ev.ite_neg (by simp) (Ev.now _)
  | true =>
    refine Ev.ite_pos rfl (Ev.bind (bag_Valid_ev rows hr) ?_)
    cases hb : bagV rows with
    | false => exact Ev.ite_neg (by simp) (Ev.now _)
    | true =>
      refine Ev.ite_pos rfl ?_
      cases ht : okD c.f3 with
      | false => exact Ev.ite_neg (by simp) (Ev.now _)
      | true => exact Ev.ite_pos rfl (Ev.now _)
end Go.Proofs.YtjhnpaenhdbhpabV
set_option linter.unusedVariables false
set_option linter.unusedSimpArgs false
namespace Go.Proofs.YtjhnpaenhdbhpabV
open Go Go.RowKit
theorem ins_eq {α : Type} (out : List α) (z y : α) (i : Nat) (hi : i ≤ out.length) :
    (copyL (out ++ [z]) ((i + 1 : Nat) : Int) ((out ++ [z]).length : Int) (subL (out ++ [z]) (i : Int) ((out ++ [z]).length : Int))).set i y = out.take i ++ y :: out.drop i := by
  have hn : ((((out ++ [z]).length : Nat) : Int)).toNat = out.length + 1 := by simp
  unfold copyL subL
  rw [hn]
  simp only [Int.toNat_natCast]
  have e1 : (List.take (out.length + 1) (out ++ [z])) = out ++ [z] := List.take_of_length_le (by simp)
  have e2 : (out ++ [z]).drop i = out.drop i ++ [z] := List.drop_append_of_le_length hi
  have e3 : (out.drop i ++ [z]).take (out.length + 1 - (i + 1)) = out.drop i := by
    rw [List.take_append_of_le_length (by simp), List.take_of_length_le (by simp)]
  have e4 : (out ++ [z]).drop (i + 1 + min (out.drop i ++ [z]).length (out.length + 1 - (i + 1))) = [] := List.drop_eq_nil_of_le (by simp; omega)
  rw [e1, e2, e3, e4, List.append_nil]
  have e5 : (out ++ [z]).take (i + 1) = out.take i ++ [(out ++ [z]).getD i z] := by
    rw [List.take_add_one, List.take_append_of_le_length hi]
    congr 1
    rw [List.getD_eq_getElem?_getD, List.getElem?_eq_getElem (by simp; omega)]; rfl
  rw [e5, List.append_assoc, List.set_append_right _ _ (by simp; omega)]
  have e6 : i - (out.take i).length = 0 := by simp; omega
  rw [e6]; rfl
theorem ins_get {α : Type} (d : α) (out : List α) (y : α) (i : Nat) (hi : i ≤ out.length) : (out.take i ++ y :: out.drop i).getD i d = y := by
  rw [List.getD_eq_getElem?_getD, List.getElem?_append_right (by simp; omega)]
  have e6 : i - (out.take i).length = 0 := by simp; omega
  rw [e6]; rfl
def insC (w : TValue) (y : TCached) : List TCached → List TCached
  | [] => [y]
  | x :: l => if cmpV x.f0 w < 0 then x :: insC w y l else y :: x :: l
theorem sel_bag (rows : List TEntry) (c : Int) (w : TValue) (h : bagV rows = true) : (selS rows c w).length ≤ 4096 ∧ ∀ e ∈ selS rows c w, e.f0.length ≤ 16 :=
  ⟨Nat.le_trans (List.length_filter_le _ _) (bagV_len h), fun e he => okE_len (bagV_mem h e (List.mem_filter.1 he).1)⟩
theorem lookup_p3 (rows : List TEntry) (d : Int) (c : TCache) (out : List TCached) (w : TValue) (hb : bagV rows = true) (hw : okV w = true) (hl : out.length ≤ 16) : ∀ i, i ≤ out.length →
    Ev (fun k => cache_Lookup.p3 k rows d (i : Int) c out w) (out.take i ++ insC w ⟨w, selS rows c.f2 w, d⟩ (out.drop i), selS rows c.f2 w, 0) := by
  have hs := sel_bag rows c.f2 w hb
  have hsel : Ev (fun k => cache_Select k rows c.f2 w) (selS rows c.f2 w) := by
    have := sel_ev rows c.f2 w (by have := bagV_len hb; omega) (fun e he => by have := okE_len (bagV_mem hb e he); omega)
    rwa [show clV w = w from if_pos hw] at this
  have hcp : Ev (fun k => cache_copied k (selS rows c.f2 w)) (selS rows c.f2 w) := copied_ev _ (by omega) (fun e he => by have := hs.2 e he; omega)
  refine loop_down (P := fun i => Ev (fun k => cache_Lookup.p3 k rows d (i : Int) c out w) (out.take i ++ insC w ⟨w, selS rows c.f2 w, d⟩ (out.drop i), selS rows c.f2 w, 0)) out.length ?_ ?_
  · refine Ev.succ ?_
    simp only [cache_Lookup.p3, decide_eq_true_eq]
    have hw1 : IntKind.i64.wrap ((out.length : Int) + 1) = ((out.length + 1 : Nat) : Int) := by rw [wr (by omega)]; omega
    simp only [hw1]
    refine Ev.ite_neg (by omega) (Ev.ite_pos (by simp only [maxLen, List.length_singleton]; omega) (Ev.ite_pos (by simp only [List.length_append, List.length_singleton]; omega) (Ev.ite_pos (by simp only [List.length_append, List.length_singleton]; omega) (Ev.bind hsel (Ev.ite_pos (by simp only [List.length_append, List.length_singleton]; omega) ?_)))))
    have e := ins_eq out (TCached.mk (TValue.mk 0 0 (⟨#[]⟩ : ByteArray)) ([] : List TEntry) 0) ⟨w, selS rows c.f2 w, d⟩ out.length (Nat.le_refl _)
    simp only [Int.toNat_natCast]
    rw [e, ins_get _ _ _ _ (Nat.le_refl _)]
    refine Ev.bind hcp (Ev.done ?_)
    rw [List.drop_length]; rfl
  · intro i hi ih
    refine Ev.succ ?_
    simp only [cache_Lookup.p3, decide_eq_true_eq, value_Compare_eq, Option.bind_some]
    rw [dC hi]
    have hw1 : IntKind.i64.wrap ((i : Int) + 1) = ((i + 1 : Nat) : Int) := wrn hi (by omega)
    simp only [hw1]
    refine Ev.ite_pos (by omega) (Ev.ite_pos (by omega) ?_)
    unfold insC
    by_cases hc : cmpV (out.getD (i : Int).toNat dCached).f0 w < 0
    · rw [if_pos hc]
      refine Ev.ite_pos hc (ih.to ?_)
      have e5 : out.take (i + 1) = out.take i ++ [out.getD (i : Int).toNat dCached] := by
        rw [List.take_add_one]
        congr 1
        rw [Int.toNat_natCast, List.getD_eq_getElem?_getD, List.getElem?_eq_getElem hi]; rfl
      rw [e5, List.append_assoc]; rfl
    · rw [if_neg hc]
      refine Ev.ite_neg hc (Ev.ite_pos (by simp only [maxLen, List.length_singleton]; omega) (Ev.ite_pos (by simp only [List.length_append, List.length_singleton]; omega) (Ev.ite_pos (by simp only [List.length_append, List.length_singleton]; omega) (Ev.bind hsel (Ev.ite_pos (by simp only [List.length_append, List.length_singleton]; omega) ?_)))))
      have e := ins_eq out (TCached.mk (TValue.mk 0 0 (⟨#[]⟩ : ByteArray)) ([] : List TEntry) 0) ⟨w, selS rows c.f2 w, d⟩ i (by omega)
      simp only [Int.toNat_natCast]
      rw [e, ins_get _ _ _ _ (by omega)]
      refine Ev.bind hcp (Ev.done ?_)
      have h2 := dC hi
      rw [Int.toNat_natCast] at h2
      rw [← h2]
def oldestF (l : List TCached) : Nat → Nat → List TCached → Nat
  | b, _, [] => b
  | b, i, x :: r => oldestF l (if x.f2 < (l.getD b dCached).f2 then i else b) (i + 1) r
def dropOld (l : List TCached) : List TCached := l.take (oldestF l 0 1 (l.drop 1)) ++ l.drop (oldestF l 0 1 (l.drop 1) + 1)
theorem lookup_p2 (rows : List TEntry) (d : Int) (c : TCache) (out : List TCached) (w : TValue) (hb : bagV rows = true) (hw : okV w = true) (hl : out.length ≤ 16) : ∀ i, i ≤ out.length → ∀ b, b < out.length →
    Ev (fun k => cache_Lookup.p2 k rows d (b : Int) (i : Int) c out w) (insC w ⟨w, selS rows c.f2 w, d⟩ (out.take (oldestF out b i (out.drop i)) ++ out.drop (oldestF out b i (out.drop i) + 1)), selS rows c.f2 w, 0) := by
  refine loop_down (P := fun i => ∀ b, b < out.length → Ev (fun k => cache_Lookup.p2 k rows d (b : Int) (i : Int) c out w) (insC w ⟨w, selS rows c.f2 w, d⟩ (out.take (oldestF out b i (out.drop i)) ++ out.drop (oldestF out b i (out.drop i) + 1)), selS rows c.f2 w, 0)) out.length ?_ ?_
  · intro b hbl
    refine Ev.succ ?_
    simp only [cache_Lookup.p2, decide_eq_true_eq]
    rw [List.drop_length]
    have hw1 : IntKind.i64.wrap ((b : Int) + 1) = ((b + 1 : Nat) : Int) := by rw [wr (by omega)]; omega
    have e1 : subL out (0 : Int) (b : Int) = out.take b := by simp [subL]
    have e2 : subL out ((b + 1 : Nat) : Int) ((out.length : Nat) : Int) = out.drop (b + 1) := by simp [subL]
    simp only [hw1, e1, e2]
    refine Ev.ite_neg (by omega) (Ev.ite_pos (by omega) (Ev.ite_pos (by omega) (Ev.ite_pos (by simp only [maxLen]; omega) ?_)))
    have := lookup_p3 rows d c (out.take b ++ out.drop (b + 1)) w hb hw (by simp; omega) 0 (by omega)
    simpa [oldestF] using this
  · intro i hi ih b hbl
    refine Ev.succ ?_
    simp only [cache_Lookup.p2, decide_eq_true_eq]
    refine Ev.ite_pos (by omega) (Ev.ite_pos (by omega) (Ev.ite_pos (by omega) ?_))
    have h2 := dC hi
    rw [wrn hi (by omega), h2]
    unfold oldestF
    by_cases hc : (out.getD (i : Int).toNat dCached).f2 < (out.getD (b : Int).toNat dCached).f2
    · refine Ev.ite_pos hc ?_
      have hc' : (out.getD (i : Int).toNat dCached).f2 < (out.getD b dCached).f2 := hc
      rw [if_pos hc']
      exact ih i hi
    · refine Ev.ite_neg hc ?_
      have hc' : ¬ (out.getD (i : Int).toNat dCached).f2 < (out.getD b dCached).f2 := hc
      rw [if_neg hc']
      exact ih b hbl
def lookF (rows : List TEntry) (d : Int) (c : TCache) (out : List TCached) (w : TValue) : List TCached → List TCached × List TEntry × Int
  | [] => (insC w ⟨w, selS rows c.f2 w, d⟩ (if 16 ≤ out.length then dropOld out else out), selS rows c.f2 w, 0)
  | x :: r => if x.f0 = w then (out, x.f1, 0) else lookF rows d c out w r
def lookS (c : TCache) (l : List TCached) (rows : List TEntry) (v : TValue) (d : Int) : List TCached × List TEntry × Int :=
  if cacheV l && (bagV rows && (okD c.f3 && okD d)) then lookF rows d c (expS c.f3 l d) (clV v) (expS c.f3 l d) else ([], [], 1)
theorem lookup_p1 (rows : List TEntry) (d : Int) (c : TCache) (out : List TCached) (w : TValue) (hb : bagV rows = true) (hw : okV w = true) (hl : out.length ≤ 16) (ho : ∀ x ∈ out, bagV x.f1 = true) : ∀ i, i ≤ out.length →
    Ev (fun k => cache_Lookup.p1 k rows d (i : Int) c out w) (lookF rows d c out w (out.drop i)) := by
  refine loop_down (P := fun i => Ev (fun k => cache_Lookup.p1 k rows d (i : Int) c out w) (lookF rows d c out w (out.drop i))) out.length ?_ ?_
  · refine Ev.succ ?_
    simp only [cache_Lookup.p1, decide_eq_true_eq]
    rw [List.drop_length]
    refine Ev.ite_neg (by omega) ?_
    unfold lookF
    by_cases h : 16 ≤ out.length
    · rw [if_pos h]
      exact Ev.ite_pos (by omega) (lookup_p2 rows d c out w hb hw hl 1 (by omega) 0 (by omega))
    · rw [if_neg h]
      refine Ev.ite_neg (by omega) ?_
      have := lookup_p3 rows d c out w hb hw hl 0 (by omega)
      simpa using this
  · intro i hi ih
    refine Ev.succ ?_
    simp only [cache_Lookup.p1, decide_eq_true_eq, eqV_iff]
    refine Ev.ite_pos (by omega) (Ev.ite_pos (by omega) ?_)
    have h2 := dC hi
    rw [wrn hi (by omega), h2]
    unfold lookF
    by_cases hc : (out.getD (i : Int).toNat dCached).f0 = w
    · rw [if_pos hc]; exact Ev.ite_pos hc (Ev.bind (copied_bag _ (ho _ (getD_mem _ hi))) (Ev.now _))
    · rw [if_neg hc]; exact Ev.ite_neg hc ih
theorem expS_mem {t d : Int} {l : List TCached} : ∀ x ∈ expS t l d, okV x.f0 = true ∧ bagV x.f1 = true ∧ okD x.f2 = true := by
  intro x hx
  unfold expS at hx
  split at hx
  · rename_i h
    simp only [Bool.and_eq_true] at h
    exact cacheV_mem h.1 x (List.mem_filter.1 hx).1
  · cases hx
theorem expS_len {t d : Int} {l : List TCached} : (expS t l d).length ≤ 16 := by
  unfold expS
  split
  · rename_i h
    simp only [Bool.and_eq_true] at h
    exact Nat.le_trans (List.length_filter_le _ _) (cacheV_len h.1)
  · simp
theorem Lookup_ev (c : TCache) (l : List TCached) (rows : List TEntry) (v : TValue) (d : Int) (hl : FinC l) (hr : Fin rows) : Ev (fun k => cache_Lookup k c l rows v d) (lookS c l rows v d) := by
  unfold cache_Lookup lookS
  refine Ev.bind (usable_ev c l rows d hl hr) ?_
  cases hu : cacheV l && (bagV rows && (okD c.f3 && okD d)) with
  | false => exact Ev.ite_pos rfl (Ev.now _)
  | true =>
    refine Ev.ite_neg (by simp) (Ev.bind (Expire_ev c l d hl) ?_)
    simp only [value_Clean_eq, Option.bind_some, if_true]
    simp only [Bool.and_eq_true] at hu
    exact lookup_p1 rows d c _ (clV v) hu.2.1 (okV_cl v) expS_len (fun x hx => (expS_mem x hx).2.1) 0 (by omega)
end Go.Proofs.YtjhnpaenhdbhpabV
set_option linter.unusedVariables false
set_option linter.unusedSimpArgs false
set_option maxRecDepth 100000
namespace Go.Proofs.YtjhnpaenhdbhpabV
open Go Go.RowKit
noncomputable def erasurelaw30_CacheBounds.p3  : Nat → Int → Int → (List TCached) → (List TCached) → Option Bool
  | 0, _, _, _, _ => none
  | k + 1, old13, i18, s6, t15 => if (decide (i18 < ((t15).length : Int))) = true then (if 0 ≤ i18 ∧ i18 < ((t15).length : Int) then (if 0 ≤ old13 ∧ old13 < ((s6).length : Int) then (if (((t15.getD i18.toNat dCached).f0.f0 == (s6.getD old13.toNat dCached).f0.f0) && (((t15.getD i18.toNat dCached).f0.f1 == (s6.getD old13.toNat dCached).f0.f1) && ((((t15.getD i18.toNat dCached).f0.f2).data.toList == ((s6.getD old13.toNat dCached).f0.f2).data.toList) && true))) = true then (some false) else (erasurelaw30_CacheBounds.p3 k old13 (IntKind.i64.wrap (i18 + 1)) s6 t15)) else none) else none) else ((erasurelaw30_awake k ).bind fun y_29 => (some y_29))
noncomputable def erasurelaw30_CacheBounds.p2  : Nat → Int → Int → Int → TCache → (List TCached) → Option Bool
  | 0, _, _, _, _, _ => none
  | k + 1, n0, old13, i14, c5b, s6 => if (decide (i14 < ((s6).length : Int))) = true then (if 0 ≤ i14 ∧ i14 < ((s6).length : Int) then (if 0 ≤ old13 ∧ old13 < ((s6).length : Int) then (if (decide ((s6.getD i14.toNat dCached).f2 < (s6.getD old13.toNat dCached).f2)) = true then (erasurelaw30_CacheBounds.p2 k n0 i14 (IntKind.i64.wrap (i14 + 1)) c5b s6) else (erasurelaw30_CacheBounds.p2 k n0 old13 (IntKind.i64.wrap (i14 + 1)) c5b s6)) else none) else none) else ((erasureref01_Int k (IntKind.i64.wrap (100 + (Go.bits .and .i64 n0 7)))).bind fun y_19 => ((cache_Lookup k c5b s6 ([] : List TEntry) y_19 41).bind fun y_21 => (if (y_21.2.2 != 0) = true then (some false) else (if (((y_21.1).length : Int) != 16) = true then (some false) else (erasurelaw30_CacheBounds.p3 k old13 0 s6 y_21.1)))))
noncomputable def erasurelaw30_CacheBounds.p1  : Nat → Int → (List Int) → Int → Int → TCache → (List TCached) → Option Bool
  | 0, _, _, _, _, _, _ => none
  | k + 1, n0, order1, last7, i8, c5b, s6 => if (decide (i8 < 16)) = true then (if (decide (i8 < ((order1).length : Int))) = true then (if 0 ≤ i8 ∧ i8 < ((order1).length : Int) then ((erasureref01_Int k i8).bind fun y_4 => ((cache_Lookup k c5b s6 ([] : List TEntry) y_4 (if last7 > (IntKind.i64.wrap ((IntKind.u64.wrap (order1.getD i8.toNat (0 : Int))).tmod 40)) then last7 else (IntKind.i64.wrap ((IntKind.u64.wrap (order1.getD i8.toNat (0 : Int))).tmod 40)))).bind fun y_6 => (if (y_6.2.2 != 0) = true then (some false) else (erasurelaw30_CacheBounds.p1 k n0 order1 (if last7 > (IntKind.i64.wrap ((IntKind.u64.wrap (order1.getD i8.toNat (0 : Int))).tmod 40)) then last7 else (IntKind.i64.wrap ((IntKind.u64.wrap (order1.getD i8.toNat (0 : Int))).tmod 40))) (IntKind.i64.wrap (i8 + 1)) c5b y_6.1)))) else none) else ((erasureref01_Int k i8).bind fun y_9 => ((cache_Lookup k c5b s6 ([] : List TEntry) y_9 (if last7 > i8 then last7 else i8)).bind fun y_11 => (if (y_11.2.2 != 0) = true then (some false) else (erasurelaw30_CacheBounds.p1 k n0 order1 (if last7 > i8 then last7 else i8) (IntKind.i64.wrap (i8 + 1)) c5b y_11.1))))) else (if (((s6).length : Int) != 16) = true then (some false) else (erasurelaw30_CacheBounds.p2 k n0 0 1 c5b s6))
noncomputable def erasurelaw30_CacheBounds  (k : Nat) (n0 : Int) (order1 : (List Int)) : Option Bool := erasurelaw30_CacheBounds.p1 k n0 order1 0 0 (TCache.mk (⟨#[]⟩ : ByteArray) (⟨#[]⟩ : ByteArray) 0 1000) ([] : List TCached)
noncomputable def erasurelaw30_CacheBounds.t : List Item := [.code (bodyOf Try.f5)]
noncomputable def erasurelaw30_CacheBounds.s (n0 : Int) (order1 : (List Int)) : St := ⟨frOf Try.f5.ntmps 0 [(0, .p (.int .i64 n0)), (1, .p (eL 1 (cI .i64) (0 : Int) order1))], []⟩
noncomputable def erasurelaw30_CacheBounds.p1.t : List Item := nav 13 [] erasurelaw30_CacheBounds.t
noncomputable def erasurelaw30_CacheBounds.p1.s (n0 : Int) (order1 : (List Int)) (last7 : Int) (i8 : Int) (c5b : TCache) (s6 : (List TCached)) : St := ⟨frOf Try.f5.ntmps 0 [(0, .p (.int .i64 n0)), (1, .p (eL 1 (cI .i64) (0 : Int) order1)), (5, .ptr 0 0 0), (6, .sref 1 46 5 (s6).length), (7, .p (.int .i64 last7)), (8, .p (.int .i64 i8))], [.box ((cCache c5b).map .p), (oL true 46 5 cCached dCached s6)]⟩
noncomputable def erasurelaw30_CacheBounds.p2.t : List Item := nav 17 [false, false] erasurelaw30_CacheBounds.p1.t
noncomputable def erasurelaw30_CacheBounds.p2.s (n0 : Int) (old13 : Int) (i14 : Int) (c5b : TCache) (s6 : (List TCached)) : St := ⟨frOf Try.f5.ntmps 0 [(0, .p (.int .i64 n0)), (5, .ptr 0 0 0), (6, .sref 1 46 5 (s6).length), (13, .p (.int .i64 old13)), (14, .p (.int .i64 i14))], [.box ((cCache c5b).map .p), (oL true 46 5 cCached dCached s6)]⟩
noncomputable def erasurelaw30_CacheBounds.p3.t : List Item := nav 17 [false, false] erasurelaw30_CacheBounds.p2.t
noncomputable def erasurelaw30_CacheBounds.p3.s (old13 : Int) (i18 : Int) (s6 : (List TCached)) (t15 : (List TCached)) : St := ⟨frOf Try.f5.ntmps 0 [(6, .sref 0 46 5 (s6).length), (13, .p (.int .i64 old13)), (15, .sref 1 46 5 (t15).length), (18, .p (.int .i64 i18))], [(oL false 46 5 cCached dCached s6), (oL true 46 5 cCached dCached t15)]⟩
theorem erasurelaw30_CacheBounds.p3.run   : ∀ (k : Nat) (old13 : Int) (i18 : Int) (s6 : (List TCached)) (t15 : (List TCached)) (r : Bool), erasurelaw30_CacheBounds.p3 k old13 i18 s6 t15 = some r → RunC Try.prog Try.f5 erasurelaw30_CacheBounds.p3.t (erasurelaw30_CacheBounds.p3.s old13 i18 s6 t15) (.p (.bool r)) [] := by
  intro k
  induction k with
  | zero => intro old13 i18 s6 t15 r h; simp [erasurelaw30_CacheBounds.p3] at h
  | succ k ih =>
    intro old13 i18 s6 t15 r h
    rw [erasurelaw30_CacheBounds.p3] at h
    rcases ite_or h with ⟨g_25, h⟩ | ⟨g_25, h⟩
    · obtain ⟨g_26, h⟩ := ite_some h
      obtain ⟨g_27, h⟩ := ite_some h
      rcases ite_or h with ⟨g_28, h⟩ | ⟨g_28, h⟩
      · obtain rfl := Option.some.inj h
        exact RunC.out [.n 2, .r [(3, .dec true)], .n 5, .r [(10, .dec true)], .n 3] (by kernel_rfl) (Obs.of (by kernel_rfl) (And.intro g_25 (And.intro g_26 (And.intro g_27 g_28))))
      · exact RunC.go [.n 2, .r [(3, .dec true)], .n 5, .r [(10, .dec false)], .n 5, .k [6, 13, 15, 18]] (by kernel_rfl) (Obs.of (by kernel_rfl) (And.intro g_25 (And.intro g_26 (And.intro g_27 (nt g_28))))) (ih _ _ _ _ r h)
    · obtain ⟨y_29, e_30, h⟩ := bind_or h
      obtain rfl := Option.some.inj h
      exact RunC.out [.n 2, .r [(3, .dec false)], .n 3, .r [(0, .call (.p (.bool y_29)) [])]] (by kernel_rfl) (Obs.of (by kernel_rfl) (And.intro (nt g_25) (erasurelaw30_awake.spec e_30)))
theorem erasurelaw30_CacheBounds.p2.run   : ∀ (k : Nat) (n0 : Int) (old13 : Int) (i14 : Int) (c5b : TCache) (s6 : (List TCached)) (r : Bool), erasurelaw30_CacheBounds.p2 k n0 old13 i14 c5b s6 = some r → RunC Try.prog Try.f5 erasurelaw30_CacheBounds.p2.t (erasurelaw30_CacheBounds.p2.s n0 old13 i14 c5b s6) (.p (.bool r)) [] := by
  intro k
  induction k with
  | zero => intro n0 old13 i14 c5b s6 r h; simp [erasurelaw30_CacheBounds.p2] at h
  | succ k ih =>
    intro n0 old13 i14 c5b s6 r h
    rw [erasurelaw30_CacheBounds.p2] at h
    rcases ite_or h with ⟨g_15, h⟩ | ⟨g_15, h⟩
    · obtain ⟨g_16, h⟩ := ite_some h
      obtain ⟨g_17, h⟩ := ite_some h
      rcases ite_or h with ⟨g_18, h⟩ | ⟨g_18, h⟩
      · exact RunC.go [.n 2, .r [(3, .dec true)], .n 5, .r [(10, .dec true)], .n 5, .k [0, 5, 6, 13, 14]] (by kernel_rfl) (Obs.of (by kernel_rfl) (And.intro g_15 (And.intro g_16 (And.intro g_17 g_18)))) (ih _ _ _ _ _ r h)
      · exact RunC.go [.n 2, .r [(3, .dec true)], .n 5, .r [(10, .dec false)], .n 5, .k [0, 5, 6, 13, 14]] (by kernel_rfl) (Obs.of (by kernel_rfl) (And.intro g_15 (And.intro g_16 (And.intro g_17 (nt g_18))))) (ih _ _ _ _ _ r h)
    · obtain ⟨y_19, e_20, h⟩ := bind_or h
      obtain ⟨y_21, e_22, h⟩ := bind_or h
      rcases ite_or h with ⟨g_23, h⟩ | ⟨g_23, h⟩
      · obtain rfl := Option.some.inj h
        exact RunC.out [.n 2, .r [(3, .dec false)], .n 3, .r [(5, .call (.agg ((cValue y_19).map .p)) []), (6, .callL [.agg ((cCache c5b).map .p), .p (eL 5 cCached dCached s6), .p (eL 2 cEntry dEntry ([] : List TEntry)), .agg ((cValue y_19).map .p), .p (.int .i64 41)] (.tup [.sref 0 46 5 (y_21.1).length, .sref 1 36 2 (y_21.2.1).length, .p (.int .i64 y_21.2.2)]) [(oL true 46 5 cCached dCached y_21.1), (oL true 36 2 cEntry dEntry y_21.2.1)])], .n 2, .r [(2, .dec true)], .n 3] (by kernel_rfl) (Obs.of (by kernel_rfl) (And.intro (nt g_15) (And.intro (erasureref01_Int.spec e_20) (And.intro (And.intro (fls_cons (fle_rfl (.agg ((cCache c5b).map .p))) (fls_cons (fle_rfl (.p (eL 5 cCached dCached s6))) (fls_cons (fle_nil 2 cEntry dEntry) (fls_cons (fle_rfl (.agg ((cValue y_19).map .p))) (fls_cons (fle_rfl (.p (.int .i64 41))) fls_nil))))) (cache_Lookup.spec e_22)) g_23))))
      · rcases ite_or h with ⟨g_24, h⟩ | ⟨g_24, h⟩
        · obtain rfl := Option.some.inj h
          exact RunC.out [.n 2, .r [(3, .dec false)], .n 3, .r [(5, .call (.agg ((cValue y_19).map .p)) []), (6, .callL [.agg ((cCache c5b).map .p), .p (eL 5 cCached dCached s6), .p (eL 2 cEntry dEntry ([] : List TEntry)), .agg ((cValue y_19).map .p), .p (.int .i64 41)] (.tup [.sref 0 46 5 (y_21.1).length, .sref 1 36 2 (y_21.2.1).length, .p (.int .i64 y_21.2.2)]) [(oL true 46 5 cCached dCached y_21.1), (oL true 36 2 cEntry dEntry y_21.2.1)])], .n 2, .r [(2, .dec false), (6, .dec true)], .n 3] (by kernel_rfl) (Obs.of (by kernel_rfl) (And.intro (nt g_15) (And.intro (erasureref01_Int.spec e_20) (And.intro (And.intro (fls_cons (fle_rfl (.agg ((cCache c5b).map .p))) (fls_cons (fle_rfl (.p (eL 5 cCached dCached s6))) (fls_cons (fle_nil 2 cEntry dEntry) (fls_cons (fle_rfl (.agg ((cValue y_19).map .p))) (fls_cons (fle_rfl (.p (.int .i64 41))) fls_nil))))) (cache_Lookup.spec e_22)) (And.intro (nt g_23) g_24)))))
        · exact RunC.go [.n 2, .r [(3, .dec false)], .n 3, .r [(5, .call (.agg ((cValue y_19).map .p)) []), (6, .callL [.agg ((cCache c5b).map .p), .p (eL 5 cCached dCached s6), .p (eL 2 cEntry dEntry ([] : List TEntry)), .agg ((cValue y_19).map .p), .p (.int .i64 41)] (.tup [.sref 0 46 5 (y_21.1).length, .sref 1 36 2 (y_21.2.1).length, .p (.int .i64 y_21.2.2)]) [(oL true 46 5 cCached dCached y_21.1), (oL true 36 2 cEntry dEntry y_21.2.1)])], .n 2, .r [(2, .dec false), (6, .dec false)], .n 7, .k [6, 13, 15, 18]] (by kernel_rfl) (Obs.of (by kernel_rfl) (And.intro (nt g_15) (And.intro (erasureref01_Int.spec e_20) (And.intro (And.intro (fls_cons (fle_rfl (.agg ((cCache c5b).map .p))) (fls_cons (fle_rfl (.p (eL 5 cCached dCached s6))) (fls_cons (fle_nil 2 cEntry dEntry) (fls_cons (fle_rfl (.agg ((cValue y_19).map .p))) (fls_cons (fle_rfl (.p (.int .i64 41))) fls_nil))))) (cache_Lookup.spec e_22)) (And.intro (nt g_23) (nt g_24)))))) (erasurelaw30_CacheBounds.p3.run k _ _ _ _ r h)
theorem erasurelaw30_CacheBounds.p1.run   : ∀ (k : Nat) (n0 : Int) (order1 : (List Int)) (last7 : Int) (i8 : Int) (c5b : TCache) (s6 : (List TCached)) (r : Bool), erasurelaw30_CacheBounds.p1 k n0 order1 last7 i8 c5b s6 = some r → RunC Try.prog Try.f5 erasurelaw30_CacheBounds.p1.t (erasurelaw30_CacheBounds.p1.s n0 order1 last7 i8 c5b s6) (.p (.bool r)) [] := by
  intro k
  induction k with
  | zero => intro n0 order1 last7 i8 c5b s6 r h; simp [erasurelaw30_CacheBounds.p1] at h
  | succ k ih =>
    intro n0 order1 last7 i8 c5b s6 r h
    rw [erasurelaw30_CacheBounds.p1] at h
    rcases ite_or h with ⟨g_1, h⟩ | ⟨g_1, h⟩
    · rcases ite_or h with ⟨g_2, h⟩ | ⟨g_2, h⟩
      · obtain ⟨g_3, h⟩ := ite_some h
        obtain ⟨y_4, e_5, h⟩ := bind_or h
        obtain ⟨y_6, e_7, h⟩ := bind_or h
        rcases ite_or h with ⟨g_8, h⟩ | ⟨g_8, h⟩
        · obtain rfl := Option.some.inj h
          exact RunC.out [.n 2, .r [(1, .dec true)], .n 8, .r [(3, .dec true)], .n 7, .r [(3, .call (.agg ((cValue y_4).map .p)) []), (5, .callL [.agg ((cCache c5b).map .p), .p (eL 5 cCached dCached s6), .p (eL 2 cEntry dEntry ([] : List TEntry)), .agg ((cValue y_4).map .p), .p (.int .i64 (if last7 > (IntKind.i64.wrap ((IntKind.u64.wrap (order1.getD i8.toNat (0 : Int))).tmod 40)) then last7 else (IntKind.i64.wrap ((IntKind.u64.wrap (order1.getD i8.toNat (0 : Int))).tmod 40))))] (.tup [.sref 0 46 5 (y_6.1).length, .sref 1 36 2 (y_6.2.1).length, .p (.int .i64 y_6.2.2)]) [(oL true 46 5 cCached dCached y_6.1), (oL true 36 2 cEntry dEntry y_6.2.1)])], .n 2, .r [(1, .dec true)], .n 3] (by kernel_rfl) (Obs.of (by kernel_rfl) (And.intro g_1 (And.intro g_2 (And.intro g_3 (And.intro (show (40 : Int) ≠ 0 from (by decide)) (And.intro (erasureref01_Int.spec e_5) (And.intro (And.intro (fls_cons (fle_rfl (.agg ((cCache c5b).map .p))) (fls_cons (fle_rfl (.p (eL 5 cCached dCached s6))) (fls_cons (fle_nil 2 cEntry dEntry) (fls_cons (fle_rfl (.agg ((cValue y_4).map .p))) (fls_cons (fle_rfl (.p (.int .i64 (if last7 > (IntKind.i64.wrap ((IntKind.u64.wrap (order1.getD i8.toNat (0 : Int))).tmod 40)) then last7 else (IntKind.i64.wrap ((IntKind.u64.wrap (order1.getD i8.toNat (0 : Int))).tmod 40)))))) fls_nil))))) (cache_Lookup.spec e_7)) g_8)))))))
        · exact RunC.go [.n 2, .r [(1, .dec true)], .n 8, .r [(3, .dec true)], .n 7, .r [(3, .call (.agg ((cValue y_4).map .p)) []), (5, .callL [.agg ((cCache c5b).map .p), .p (eL 5 cCached dCached s6), .p (eL 2 cEntry dEntry ([] : List TEntry)), .agg ((cValue y_4).map .p), .p (.int .i64 (if last7 > (IntKind.i64.wrap ((IntKind.u64.wrap (order1.getD i8.toNat (0 : Int))).tmod 40)) then last7 else (IntKind.i64.wrap ((IntKind.u64.wrap (order1.getD i8.toNat (0 : Int))).tmod 40))))] (.tup [.sref 0 46 5 (y_6.1).length, .sref 1 36 2 (y_6.2.1).length, .p (.int .i64 y_6.2.2)]) [(oL true 46 5 cCached dCached y_6.1), (oL true 36 2 cEntry dEntry y_6.2.1)])], .n 2, .r [(1, .dec false)], .n 6, .k [0, 1, 5, 6, 7, 8]] (by kernel_rfl) (Obs.of (by kernel_rfl) (And.intro g_1 (And.intro g_2 (And.intro g_3 (And.intro (show (40 : Int) ≠ 0 from (by decide)) (And.intro (erasureref01_Int.spec e_5) (And.intro (And.intro (fls_cons (fle_rfl (.agg ((cCache c5b).map .p))) (fls_cons (fle_rfl (.p (eL 5 cCached dCached s6))) (fls_cons (fle_nil 2 cEntry dEntry) (fls_cons (fle_rfl (.agg ((cValue y_4).map .p))) (fls_cons (fle_rfl (.p (.int .i64 (if last7 > (IntKind.i64.wrap ((IntKind.u64.wrap (order1.getD i8.toNat (0 : Int))).tmod 40)) then last7 else (IntKind.i64.wrap ((IntKind.u64.wrap (order1.getD i8.toNat (0 : Int))).tmod 40)))))) fls_nil))))) (cache_Lookup.spec e_7)) (nt g_8)))))))) (ih _ _ _ _ _ _ r h)
      · obtain ⟨y_9, e_10, h⟩ := bind_or h
        obtain ⟨y_11, e_12, h⟩ := bind_or h
        rcases ite_or h with ⟨g_13, h⟩ | ⟨g_13, h⟩
        · obtain rfl := Option.some.inj h
          exact RunC.out [.n 2, .r [(1, .dec true)], .n 8, .r [(3, .dec false)], .n 7, .r [(3, .call (.agg ((cValue y_9).map .p)) []), (5, .callL [.agg ((cCache c5b).map .p), .p (eL 5 cCached dCached s6), .p (eL 2 cEntry dEntry ([] : List TEntry)), .agg ((cValue y_9).map .p), .p (.int .i64 (if last7 > i8 then last7 else i8))] (.tup [.sref 0 46 5 (y_11.1).length, .sref 1 36 2 (y_11.2.1).length, .p (.int .i64 y_11.2.2)]) [(oL true 46 5 cCached dCached y_11.1), (oL true 36 2 cEntry dEntry y_11.2.1)])], .n 2, .r [(1, .dec true)], .n 3] (by kernel_rfl) (Obs.of (by kernel_rfl) (And.intro g_1 (And.intro (nt g_2) (And.intro (erasureref01_Int.spec e_10) (And.intro (And.intro (fls_cons (fle_rfl (.agg ((cCache c5b).map .p))) (fls_cons (fle_rfl (.p (eL 5 cCached dCached s6))) (fls_cons (fle_nil 2 cEntry dEntry) (fls_cons (fle_rfl (.agg ((cValue y_9).map .p))) (fls_cons (fle_rfl (.p (.int .i64 (if last7 > i8 then last7 else i8)))) fls_nil))))) (cache_Lookup.spec e_12)) g_13)))))
        · exact RunC.go [.n 2, .r [(1, .dec true)], .n 8, .r [(3, .dec false)], .n 7, .r [(3, .call (.agg ((cValue y_9).map .p)) []), (5, .callL [.agg ((cCache c5b).map .p), .p (eL 5 cCached dCached s6), .p (eL 2 cEntry dEntry ([] : List TEntry)), .agg ((cValue y_9).map .p), .p (.int .i64 (if last7 > i8 then last7 else i8))] (.tup [.sref 0 46 5 (y_11.1).length, .sref 1 36 2 (y_11.2.1).length, .p (.int .i64 y_11.2.2)]) [(oL true 46 5 cCached dCached y_11.1), (oL true 36 2 cEntry dEntry y_11.2.1)])], .n 2, .r [(1, .dec false)], .n 6, .k [0, 1, 5, 6, 7, 8]] (by kernel_rfl) (Obs.of (by kernel_rfl) (And.intro g_1 (And.intro (nt g_2) (And.intro (erasureref01_Int.spec e_10) (And.intro (And.intro (fls_cons (fle_rfl (.agg ((cCache c5b).map .p))) (fls_cons (fle_rfl (.p (eL 5 cCached dCached s6))) (fls_cons (fle_nil 2 cEntry dEntry) (fls_cons (fle_rfl (.agg ((cValue y_9).map .p))) (fls_cons (fle_rfl (.p (.int .i64 (if last7 > i8 then last7 else i8)))) fls_nil))))) (cache_Lookup.spec e_12)) (nt g_13)))))) (ih _ _ _ _ _ _ r h)
    · rcases ite_or h with ⟨g_14, h⟩ | ⟨g_14, h⟩
      · obtain rfl := Option.some.inj h
        exact RunC.out [.n 2, .r [(1, .dec false)], .n 4, .r [(2, .dec true)], .n 3] (by kernel_rfl) (Obs.of (by kernel_rfl) (And.intro (nt g_1) g_14))
      · exact RunC.go [.n 2, .r [(1, .dec false)], .n 4, .r [(2, .dec false)], .n 9, .k [0, 5, 6, 13, 14]] (by kernel_rfl) (Obs.of (by kernel_rfl) (And.intro (nt g_1) (nt g_14))) (erasurelaw30_CacheBounds.p2.run k _ _ _ _ _ r h)
theorem erasurelaw30_CacheBounds.run   {k : Nat} {n0 : Int} {order1 : (List Int)} {r : Bool} (h : erasurelaw30_CacheBounds k n0 order1 = some r) : RunC Try.prog Try.f5 erasurelaw30_CacheBounds.t (erasurelaw30_CacheBounds.s n0 order1) (.p (.bool r)) [] := by
  unfold erasurelaw30_CacheBounds at h
  exact RunC.go [.n 5, .r [(0, .obj (oL true 46 5 cCached dCached ([] : List TCached)))], .n 7, .k [0, 1, 5, 6, 7, 8]] (by kernel_rfl) (Obs.of (by kernel_rfl) (le_nil 46 5 cCached dCached)) (erasurelaw30_CacheBounds.p1.run k _ _ _ _ _ _ r h)
theorem erasurelaw30_CacheBounds.p3.mono   : ∀ (k k' : Nat) (old13 : Int) (i18 : Int) (s6 : (List TCached)) (t15 : (List TCached)) (r : Bool), k ≤ k' → erasurelaw30_CacheBounds.p3 k old13 i18 s6 t15 = some r → erasurelaw30_CacheBounds.p3 k' old13 i18 s6 t15 = some r := by
  intro k
  induction k with
  | zero => intro k' old13 i18 s6 t15 r hk h; simp [erasurelaw30_CacheBounds.p3] at h
  | succ k ih =>
    intro k' old13 i18 s6 t15 r hk h
    obtain ⟨k', rfl⟩ : ∃ m, k' = m + 1 := ⟨k' - 1, by omega⟩
    replace hk := Nat.le_of_succ_le_succ hk
    rw [erasurelaw30_CacheBounds.p3] at h ⊢
    rcases ite_or h with ⟨g_25, h⟩ | ⟨g_25, h⟩
    · refine itp g_25 ?_
      obtain ⟨g_26, h⟩ := ite_some h
      refine itp g_26 ?_
      obtain ⟨g_27, h⟩ := ite_some h
      refine itp g_27 ?_
      rcases ite_or h with ⟨g_28, h⟩ | ⟨g_28, h⟩
      · refine itp g_28 ?_
        exact h
      · refine itn g_28 ?_
        exact ih _ _ _ _ _ r hk h
    · refine itn g_25 ?_
      obtain ⟨y_29, e_30, h⟩ := bind_or h
      refine bnd (erasurelaw30_awake.mono _ _  _ hk e_30) ?_
      exact h
theorem erasurelaw30_CacheBounds.p2.mono   : ∀ (k k' : Nat) (n0 : Int) (old13 : Int) (i14 : Int) (c5b : TCache) (s6 : (List TCached)) (r : Bool), k ≤ k' → erasurelaw30_CacheBounds.p2 k n0 old13 i14 c5b s6 = some r → erasurelaw30_CacheBounds.p2 k' n0 old13 i14 c5b s6 = some r := by
  intro k
  induction k with
  | zero => intro k' n0 old13 i14 c5b s6 r hk h; simp [erasurelaw30_CacheBounds.p2] at h
  | succ k ih =>
    intro k' n0 old13 i14 c5b s6 r hk h
    obtain ⟨k', rfl⟩ : ∃ m, k' = m + 1 := ⟨k' - 1, by omega⟩
    replace hk := Nat.le_of_succ_le_succ hk
    rw [erasurelaw30_CacheBounds.p2] at h ⊢
    rcases ite_or h with ⟨g_15, h⟩ | ⟨g_15, h⟩
    · refine itp g_15 ?_
      obtain ⟨g_16, h⟩ := ite_some h
      refine itp g_16 ?_
      obtain ⟨g_17, h⟩ := ite_some h
      refine itp g_17 ?_
      rcases ite_or h with ⟨g_18, h⟩ | ⟨g_18, h⟩
      · refine itp g_18 ?_
        exact ih _ _ _ _ _ _ r hk h
      · refine itn g_18 ?_
        exact ih _ _ _ _ _ _ r hk h
    · refine itn g_15 ?_
      obtain ⟨y_19, e_20, h⟩ := bind_or h
      refine bnd (erasureref01_Int.mono _ _ _ _ hk e_20) ?_
      obtain ⟨y_21, e_22, h⟩ := bind_or h
      refine bnd (cache_Lookup.mono _ _ _ _ _ _ _ _ hk e_22) ?_
      rcases ite_or h with ⟨g_23, h⟩ | ⟨g_23, h⟩
      · refine itp g_23 ?_
        exact h
      · refine itn g_23 ?_
        rcases ite_or h with ⟨g_24, h⟩ | ⟨g_24, h⟩
        · refine itp g_24 ?_
          exact h
        · refine itn g_24 ?_
          exact erasurelaw30_CacheBounds.p3.mono _ _ _ _ _ _ r hk h
theorem erasurelaw30_CacheBounds.p1.mono   : ∀ (k k' : Nat) (n0 : Int) (order1 : (List Int)) (last7 : Int) (i8 : Int) (c5b : TCache) (s6 : (List TCached)) (r : Bool), k ≤ k' → erasurelaw30_CacheBounds.p1 k n0 order1 last7 i8 c5b s6 = some r → erasurelaw30_CacheBounds.p1 k' n0 order1 last7 i8 c5b s6 = some r := by
  intro k
  induction k with
  | zero => intro k' n0 order1 last7 i8 c5b s6 r hk h; simp [erasurelaw30_CacheBounds.p1] at h
  | succ k ih =>
    intro k' n0 order1 last7 i8 c5b s6 r hk h
    obtain ⟨k', rfl⟩ : ∃ m, k' = m + 1 := ⟨k' - 1, by omega⟩
    replace hk := Nat.le_of_succ_le_succ hk
    rw [erasurelaw30_CacheBounds.p1] at h ⊢
    rcases ite_or h with ⟨g_1, h⟩ | ⟨g_1, h⟩
    · refine itp g_1 ?_
      rcases ite_or h with ⟨g_2, h⟩ | ⟨g_2, h⟩
      · refine itp g_2 ?_
        obtain ⟨g_3, h⟩ := ite_some h
        refine itp g_3 ?_
        obtain ⟨y_4, e_5, h⟩ := bind_or h
        refine bnd (erasureref01_Int.mono _ _ _ _ hk e_5) ?_
        obtain ⟨y_6, e_7, h⟩ := bind_or h
        refine bnd (cache_Lookup.mono _ _ _ _ _ _ _ _ hk e_7) ?_
        rcases ite_or h with ⟨g_8, h⟩ | ⟨g_8, h⟩
        · refine itp g_8 ?_
          exact h
        · refine itn g_8 ?_
          exact ih _ _ _ _ _ _ _ r hk h
      · refine itn g_2 ?_
        obtain ⟨y_9, e_10, h⟩ := bind_or h
        refine bnd (erasureref01_Int.mono _ _ _ _ hk e_10) ?_
        obtain ⟨y_11, e_12, h⟩ := bind_or h
        refine bnd (cache_Lookup.mono _ _ _ _ _ _ _ _ hk e_12) ?_
        rcases ite_or h with ⟨g_13, h⟩ | ⟨g_13, h⟩
        · refine itp g_13 ?_
          exact h
        · refine itn g_13 ?_
          exact ih _ _ _ _ _ _ _ r hk h
    · refine itn g_1 ?_
      rcases ite_or h with ⟨g_14, h⟩ | ⟨g_14, h⟩
      · refine itp g_14 ?_
        exact h
      · refine itn g_14 ?_
        exact erasurelaw30_CacheBounds.p2.mono _ _ _ _ _ _ _ r hk h
theorem erasurelaw30_CacheBounds.mono   : ∀ (k k' : Nat) (n0 : Int) (order1 : (List Int)) (r : Bool), k ≤ k' → erasurelaw30_CacheBounds k n0 order1 = some r → erasurelaw30_CacheBounds k' n0 order1 = some r := by
  intro k k' n0 order1 r hk h
  unfold erasurelaw30_CacheBounds at h ⊢
  exact erasurelaw30_CacheBounds.p1.mono _ _ _ _ _ _ _ _ r hk h
theorem erasurelaw30_CacheBounds.spec {k : Nat} {n0 : Int} {order1 : (List Int)} {r : Bool} (h : erasurelaw30_CacheBounds k n0 order1 = some r) : Spec Try.prog 5 [.p (.int .i64 n0), .p (eL 1 (cI .i64) (0 : Int) order1)] (.p (.bool r)) [] :=
  spec_of mix Try.func5 (body := bodyOf Try.f5) (by kernel_rfl) (by kernel_rfl) (erasurelaw30_CacheBounds.run h)
end Go.Proofs.YtjhnpaenhdbhpabV
set_option linter.unusedVariables false
set_option linter.unusedSimpArgs false
namespace Go.Proofs.YtjhnpaenhdbhpabV
open Go Go.RowKit
theorem bagV_nil : bagV [] = true := rfl
end Go.Proofs.YtjhnpaenhdbhpabV
set_option linter.unusedVariables false
set_option linter.unusedSimpArgs false
set_option maxRecDepth 100000
namespace Go.Proofs.YtjhnpaenhdbhpabV
open Go Go.RowKit
noncomputable def erasureref30_without.p1  : Nat → (List TCached) → Int → TValue → (List TCached) → Option (List TCached)
  | 0, _, _, _, _ => none
  | k + 1, s0, i6, v3b, out5 => if (decide (i6 < ((s0).length : Int))) = true then (if 0 ≤ i6 ∧ i6 < ((s0).length : Int) then (if (!(((s0.getD i6.toNat dCached).f0.f0 == v3b.f0) && (((s0.getD i6.toNat dCached).f0.f1 == v3b.f1) && ((((s0.getD i6.toNat dCached).f0.f2).data.toList == v3b.f2.data.toList) && true)))) = true then (if (out5).length + ([(s0.getD i6.toNat dCached)]).length ≤ maxLen ∧ ((out5).length + ([(s0.getD i6.toNat dCached)]).length) * 64 ≤ 140737488355328 then (erasureref30_without.p1 k s0 (IntKind.i64.wrap (i6 + 1)) v3b (out5 ++ ([(s0.getD i6.toNat dCached)]))) else none) else (erasureref30_without.p1 k s0 (IntKind.i64.wrap (i6 + 1)) v3b out5)) else none) else (some out5)
noncomputable def erasureref30_without  (k : Nat) (s0 : (List TCached)) (v1 : TValue) : Option (List TCached) := erasureref30_without.p1 k s0 0 v1 ([] : List TCached)
noncomputable def erasureref30_without.t : List Item := [.code (bodyOf Try.f46)]
noncomputable def erasureref30_without.s (s0 : (List TCached)) (v1 : TValue) : St := ⟨frOf Try.f46.ntmps 0 [(0, .p (eL 5 cCached dCached s0)), (1, .agg ((cValue v1).map .p))], []⟩
noncomputable def erasureref30_without.p1.t : List Item := nav 9 [] erasureref30_without.t
noncomputable def erasureref30_without.p1.s (s0 : (List TCached)) (i6 : Int) (v3b : TValue) (out5 : (List TCached)) : St := ⟨frOf Try.f46.ntmps 0 [(0, .p (eL 5 cCached dCached s0)), (3, .ptr 0 0 0), (5, .sref 1 46 5 (out5).length), (6, .p (.int .i64 i6))], [.box ((cValue v3b).map .p), (oL true 46 5 cCached dCached out5)]⟩
theorem erasureref30_without.p1.run   : ∀ (k : Nat) (s0 : (List TCached)) (i6 : Int) (v3b : TValue) (out5 : (List TCached)) (r : (List TCached)), erasureref30_without.p1 k s0 i6 v3b out5 = some r → RunC Try.prog Try.f46 erasureref30_without.p1.t (erasureref30_without.p1.s s0 i6 v3b out5) (.sref 0 46 5 (r).length) [(oL true 46 5 cCached dCached (r))] := by
  intro k
  induction k with
  | zero => intro s0 i6 v3b out5 r h; simp [erasureref30_without.p1] at h
  | succ k ih =>
    intro s0 i6 v3b out5 r h
    rw [erasureref30_without.p1] at h
    rcases ite_or h with ⟨g_1, h⟩ | ⟨g_1, h⟩
    · obtain ⟨g_2, h⟩ := ite_some h
      rcases ite_or h with ⟨g_3, h⟩ | ⟨g_3, h⟩
      · obtain ⟨g_4, h⟩ := ite_some h
        exact RunC.go [.n 2, .r [(3, .dec true)], .n 5, .r [(6, .dec true)], .n 1, .r [(5, .obj (oL true 46 5 cCached dCached [(s0.getD i6.toNat dCached)])), (6, .obj (oL true 46 5 cCached dCached (out5 ++ ([(s0.getD i6.toNat dCached)]))))], .n 3, .k [0, 3, 5, 6]] (by kernel_rfl) (Obs.of (by kernel_rfl) (And.intro g_1 (And.intro g_2 (And.intro g_3 (And.intro g_2 (And.intro (le_one 46 5 cCached dCached (s0.getD i6.toNat dCached)) (And.intro g_4 (le_app 46 5 cCached dCached out5 ([(s0.getD i6.toNat dCached)]))))))))) (ih _ _ _ _ r h)
      · exact RunC.go [.n 2, .r [(3, .dec true)], .n 5, .r [(6, .dec false)], .n 5, .k [0, 3, 5, 6]] (by kernel_rfl) (Obs.of (by kernel_rfl) (And.intro g_1 (And.intro g_2 (nt g_3)))) (ih _ _ _ _ r h)
    · obtain rfl := Option.some.inj h
      exact RunC.out [.n 2, .r [(3, .dec false)], .n 4] (by kernel_rfl) (Obs.of (by kernel_rfl) (nt g_1))
theorem erasureref30_without.run   {k : Nat} {s0 : (List TCached)} {v1 : TValue} {r : (List TCached)} (h : erasureref30_without k s0 v1 = some r) : RunC Try.prog Try.f46 erasureref30_without.t (erasureref30_without.s s0 v1) (.sref 0 46 5 (r).length) [(oL true 46 5 cCached dCached (r))] := by
  unfold erasureref30_without at h
  exact RunC.go [.n 1, .r [(1, .obj (oL true 46 5 cCached dCached ([] : List TCached)))], .n 1, .r [(0, .obj (oL true 46 5 cCached dCached ([] : List TCached)))], .n 5, .k [0, 3, 5, 6]] (by kernel_rfl) (Obs.of (by kernel_rfl) (And.intro (le_nil 46 5 cCached dCached) (le_nil 46 5 cCached dCached))) (erasureref30_without.p1.run k _ _ _ _ r h)
theorem erasureref30_without.p1.mono   : ∀ (k k' : Nat) (s0 : (List TCached)) (i6 : Int) (v3b : TValue) (out5 : (List TCached)) (r : (List TCached)), k ≤ k' → erasureref30_without.p1 k s0 i6 v3b out5 = some r → erasureref30_without.p1 k' s0 i6 v3b out5 = some r := by
  intro k
  induction k with
  | zero => intro k' s0 i6 v3b out5 r hk h; simp [erasureref30_without.p1] at h
  | succ k ih =>
    intro k' s0 i6 v3b out5 r hk h
    obtain ⟨k', rfl⟩ : ∃ m, k' = m + 1 := ⟨k' - 1, by omega⟩
    replace hk := Nat.le_of_succ_le_succ hk
    rw [erasureref30_without.p1] at h ⊢
    rcases ite_or h with ⟨g_1, h⟩ | ⟨g_1, h⟩
    · refine itp g_1 ?_
      obtain ⟨g_2, h⟩ := ite_some h
      refine itp g_2 ?_
      rcases ite_or h with ⟨g_3, h⟩ | ⟨g_3, h⟩
      · refine itp g_3 ?_
        obtain ⟨g_4, h⟩ := ite_some h
        refine itp g_4 ?_
        exact ih _ _ _ _ _ r hk h
      · refine itn g_3 ?_
        exact ih _ _ _ _ _ r hk h
    · refine itn g_1 ?_
      exact h
theorem erasureref30_without.mono   : ∀ (k k' : Nat) (s0 : (List TCached)) (v1 : TValue) (r : (List TCached)), k ≤ k' → erasureref30_without k s0 v1 = some r → erasureref30_without k' s0 v1 = some r := by
  intro k k' s0 v1 r hk h
  unfold erasureref30_without at h ⊢
  exact erasureref30_without.p1.mono _ _ _ _ _ _ r hk h
theorem erasureref30_without.spec {k : Nat} {s0 : (List TCached)} {v1 : TValue} {r : (List TCached)} (h : erasureref30_without k s0 v1 = some r) : Spec Try.prog 46 [.p (eL 5 cCached dCached s0), .agg ((cValue v1).map .p)] (.sref 0 46 5 (r).length) [(oL true 46 5 cCached dCached (r))] :=
  spec_of mix Try.func46 (body := bodyOf Try.f46) (by kernel_rfl) (by kernel_rfl) (erasureref30_without.run h)
end Go.Proofs.YtjhnpaenhdbhpabV
set_option linter.unusedVariables false
set_option linter.unusedSimpArgs false
set_option maxRecDepth 100000
namespace Go.Proofs.YtjhnpaenhdbhpabV
open Go Go.RowKit
noncomputable def erasureref30_Lookup.p3  : Nat → (List TEntry) → Int → TCache → TValue → (List TCached) → Option ((List TCached) × (List TEntry) × Int)
  | 0, _, _, _, _, _ => none
  | k + 1, A2, v18, a5b, v8b, v17 => if (decide (v18 > 0)) = true then (if 0 ≤ v18 ∧ v18 < ((v17).length : Int) then (if 0 ≤ (IntKind.i64.wrap (v18 - 1)) ∧ (IntKind.i64.wrap (v18 - 1)) < ((v17).length : Int) then ((erasureref01_Compare k ((v17.getD v18.toNat dCached).f0) ((v17.getD (IntKind.i64.wrap (v18 - 1)).toNat dCached).f0)).bind fun y_32 => (if (decide (y_32 < 0)) = true then (erasureref30_Lookup.p3 k A2 (IntKind.i64.wrap (v18 - 1)) a5b v8b ((v17.set (IntKind.i64.wrap (v18 - 1)).toNat (v17.getD v18.toNat dCached)).set v18.toNat (v17.getD (IntKind.i64.wrap (v18 - 1)).toNat dCached))) else ((erasureref30_Select k A2 a5b.f2 v8b).bind fun y_35 => (some (v17, y_35, 0))))) else none) else none) else ((erasureref30_Select k A2 a5b.f2 v8b).bind fun y_37 => (some (v17, y_37, 0)))
noncomputable def erasureref30_Lookup.p2  : Nat → (List TEntry) → Int → Int → Int → TCache → TValue → (List TCached) → Option ((List TCached) × (List TEntry) × Int)
  | 0, _, _, _, _, _, _, _ => none
  | k + 1, A2, r4, v15, v16, a5b, v8b, v13 => if (decide (v16 < ((v13).length : Int))) = true then (if 0 ≤ v16 ∧ v16 < ((v13).length : Int) then (if 0 ≤ v15 ∧ v15 < ((v13).length : Int) then (if (decide ((v13.getD v16.toNat dCached).f2 < (v13.getD v15.toNat dCached).f2)) = true then (erasureref30_Lookup.p2 k A2 r4 v16 (IntKind.i64.wrap (v16 + 1)) a5b v8b v13) else (erasureref30_Lookup.p2 k A2 r4 v15 (IntKind.i64.wrap (v16 + 1)) a5b v8b v13)) else none) else none) else (if 0 ≤ v15 ∧ v15 < ((v13).length : Int) then ((erasureref30_without k v13 ((v13.getD v15.toNat dCached).f0)).bind fun y_23 => (if (([] : List TCached)).length + (y_23).length ≤ maxLen ∧ ((([] : List TCached)).length + (y_23).length) * 64 ≤ 140737488355328 then ((erasureref30_Select k A2 a5b.f2 v8b).bind fun y_26 => (if ((([] : List TCached) ++ y_23)).length + ([(TCached.mk v8b y_26 r4)]).length ≤ maxLen ∧ (((([] : List TCached) ++ y_23)).length + ([(TCached.mk v8b y_26 r4)]).length) * 64 ≤ 140737488355328 then (erasureref30_Lookup.p3 k A2 (IntKind.i64.wrap (((((([] : List TCached) ++ y_23) ++ ([(TCached.mk v8b y_26 r4)]))).length : Int) - 1)) a5b v8b ((([] : List TCached) ++ y_23) ++ ([(TCached.mk v8b y_26 r4)]))) else none)) else none)) else none)
noncomputable def erasureref30_Lookup.p1  : Nat → (List TEntry) → Int → Int → TCache → TValue → (List TCached) → Option ((List TCached) × (List TEntry) × Int)
  | 0, _, _, _, _, _, _ => none
  | k + 1, A2, r4, v14, a5b, v8b, v13 => if (decide (v14 < ((v13).length : Int))) = true then (if 0 ≤ v14 ∧ v14 < ((v13).length : Int) then (if (((v13.getD v14.toNat dCached).f0.f0 == v8b.f0) && (((v13.getD v14.toNat dCached).f0.f1 == v8b.f1) && ((((v13.getD v14.toNat dCached).f0.f2).data.toList == v8b.f2.data.toList) && true))) = true then (some (v13, (v13.getD v14.toNat dCached).f1, 0)) else (erasureref30_Lookup.p1 k A2 r4 (IntKind.i64.wrap (v14 + 1)) a5b v8b v13)) else none) else (if (decide (((v13).length : Int) ≥ 16)) = true then (erasureref30_Lookup.p2 k A2 r4 0 1 a5b v8b v13) else (if (([] : List TCached)).length + (v13).length ≤ maxLen ∧ ((([] : List TCached)).length + (v13).length) * 64 ≤ 140737488355328 then ((erasureref30_Select k A2 a5b.f2 v8b).bind fun y_40 => (if ((([] : List TCached) ++ v13)).length + ([(TCached.mk v8b y_40 r4)]).length ≤ maxLen ∧ (((([] : List TCached) ++ v13)).length + ([(TCached.mk v8b y_40 r4)]).length) * 64 ≤ 140737488355328 then (erasureref30_Lookup.p3 k A2 (IntKind.i64.wrap (((((([] : List TCached) ++ v13) ++ ([(TCached.mk v8b y_40 r4)]))).length : Int) - 1)) a5b v8b ((([] : List TCached) ++ v13) ++ ([(TCached.mk v8b y_40 r4)]))) else none)) else none))
noncomputable def erasureref30_Lookup  (k : Nat) (t0 : TCache) (o1 : (List TCached)) (A2 : (List TEntry)) (r3 : TValue) (r4 : Int) : Option ((List TCached) × (List TEntry) × Int) := (erasureref30_Valid k o1).bind fun y_1 => (if (!y_1) = true then (some (([] : List TCached), ([] : List TEntry), 1)) else ((erasureref06_Valid k A2).bind fun y_4 => (if (!y_4) = true then (some (([] : List TCached), ([] : List TEntry), 1)) else ((erasureref30_ranged k t0 r4).bind fun y_7 => (if (!y_7) = true then (some (([] : List TCached), ([] : List TEntry), 1)) else ((erasureref01_Clean k r3).bind fun y_10 => ((erasureref30_Expire k t0 o1 r4).bind fun y_12 => (erasureref30_Lookup.p1 k A2 r4 0 t0 y_10 y_12))))))))
noncomputable def erasureref30_Lookup.t : List Item := [.code (bodyOf Try.f19)]
noncomputable def erasureref30_Lookup.s (t0 : TCache) (o1 : (List TCached)) (A2 : (List TEntry)) (r3 : TValue) (r4 : Int) : St := ⟨frOf Try.f19.ntmps 0 [(0, .agg ((cCache t0).map .p)), (1, .p (eL 5 cCached dCached o1)), (2, .p (eL 2 cEntry dEntry A2)), (3, .agg ((cValue r3).map .p)), (4, .p (.int .i64 r4))], []⟩
noncomputable def erasureref30_Lookup.p1.t : List Item := nav 16 [false] erasureref30_Lookup.t
noncomputable def erasureref30_Lookup.p1.s (A2 : (List TEntry)) (r4 : Int) (v14 : Int) (a5b : TCache) (v8b : TValue) (v13 : (List TCached)) : St := ⟨frOf Try.f19.ntmps 0 [(2, .p (eL 2 cEntry dEntry A2)), (4, .p (.int .i64 r4)), (5, .ptr 0 0 0), (8, .ptr 1 0 0), (13, .sref 2 46 5 (v13).length), (14, .p (.int .i64 v14))], [.box ((cCache a5b).map .p), .box ((cValue v8b).map .p), (oL true 46 5 cCached dCached v13)]⟩
noncomputable def erasureref30_Lookup.p2.t : List Item := nav 16 [false, true] erasureref30_Lookup.p1.t
noncomputable def erasureref30_Lookup.p2.s (A2 : (List TEntry)) (r4 : Int) (v15 : Int) (v16 : Int) (a5b : TCache) (v8b : TValue) (v13 : (List TCached)) : St := ⟨frOf Try.f19.ntmps 0 [(2, .p (eL 2 cEntry dEntry A2)), (4, .p (.int .i64 r4)), (5, .ptr 0 0 0), (8, .ptr 1 0 0), (13, .sref 2 46 5 (v13).length), (15, .p (.int .i64 v15)), (16, .p (.int .i64 v16))], [.box ((cCache a5b).map .p), .box ((cValue v8b).map .p), (oL true 46 5 cCached dCached v13)]⟩
noncomputable def erasureref30_Lookup.p3.t : List Item := nav 13 [false] erasureref30_Lookup.p2.t
noncomputable def erasureref30_Lookup.p3.s (A2 : (List TEntry)) (v18 : Int) (a5b : TCache) (v8b : TValue) (v17 : (List TCached)) : St := ⟨frOf Try.f19.ntmps 0 [(2, .p (eL 2 cEntry dEntry A2)), (5, .ptr 0 0 0), (8, .ptr 1 0 0), (17, .sref 2 46 5 (v17).length), (18, .p (.int .i64 v18))], [.box ((cCache a5b).map .p), .box ((cValue v8b).map .p), (oL true 46 5 cCached dCached v17)]⟩
theorem erasureref30_Lookup.p3.run   : ∀ (k : Nat) (A2 : (List TEntry)) (v18 : Int) (a5b : TCache) (v8b : TValue) (v17 : (List TCached)) (r : ((List TCached) × (List TEntry) × Int)), erasureref30_Lookup.p3 k A2 v18 a5b v8b v17 = some r → RunC Try.prog Try.f19 erasureref30_Lookup.p3.t (erasureref30_Lookup.p3.s A2 v18 a5b v8b v17) (.tup [.sref 0 46 5 (r.1).length, .p ((eL 2 cEntry dEntry r.2.1)), .p (.int .i64 r.2.2)]) [(oL true 46 5 cCached dCached (r.1))] := by
  intro k
  induction k with
  | zero => intro A2 v18 a5b v8b v17 r h; simp [erasureref30_Lookup.p3] at h
  | succ k ih =>
    intro A2 v18 a5b v8b v17 r h
    rw [erasureref30_Lookup.p3] at h
    rcases ite_or h with ⟨g_29, h⟩ | ⟨g_29, h⟩
    · obtain ⟨g_30, h⟩ := ite_some h
      obtain ⟨g_31, h⟩ := ite_some h
      obtain ⟨y_32, e_33, h⟩ := bind_or h
      rcases ite_or h with ⟨g_34, h⟩ | ⟨g_34, h⟩
      · exact RunC.go [.n 2, .r [(2, .dec true), (14, .call (.p (.int .i64 y_32)) []), (16, .dec true)], .n 4, .r [(15, .obj (oL true 46 5 cCached dCached (v17.set (IntKind.i64.wrap (v18 - 1)).toNat (v17.getD v18.toNat dCached)))), (17, .obj (oL true 46 5 cCached dCached ((v17.set (IntKind.i64.wrap (v18 - 1)).toNat (v17.getD v18.toNat dCached)).set v18.toNat (v17.getD (IntKind.i64.wrap (v18 - 1)).toNat dCached))))], .n 3, .k [2, 5, 8, 17, 18]] (by kernel_rfl) (Obs.of (by kernel_rfl) (And.intro g_29 (And.intro g_30 (And.intro g_31 (And.intro (erasureref01_Compare.spec e_33) (And.intro g_34 (And.intro g_30 (And.intro g_31 (And.intro g_31 (And.intro (le_set 46 5 cCached dCached v17 (v17.getD v18.toNat dCached) (IntKind.i64.wrap (v18 - 1)).toNat rfl) (And.intro g_30 (le_set 46 5 cCached dCached (v17.set (IntKind.i64.wrap (v18 - 1)).toNat (v17.getD v18.toNat dCached)) (v17.getD (IntKind.i64.wrap (v18 - 1)).toNat dCached) v18.toNat rfl)))))))))))) (ih _ _ _ _ _ r h)
      · obtain ⟨y_35, e_36, h⟩ := bind_or h
        obtain rfl := Option.some.inj h
        exact RunC.out [.n 2, .r [(2, .dec true), (14, .call (.p (.int .i64 y_32)) []), (16, .dec false)], .n 3, .r [(5, .call (.sref 0 36 2 (y_35).length) [(oL true 36 2 cEntry dEntry y_35)])], .f 11] (by kernel_rfl) (Obs.of (by kernel_rfl) (And.intro g_29 (And.intro g_30 (And.intro g_31 (And.intro (erasureref01_Compare.spec e_33) (And.intro (nt g_34) (erasureref30_Select.spec e_36)))))))
    · obtain ⟨y_37, e_38, h⟩ := bind_or h
      obtain rfl := Option.some.inj h
      exact RunC.out [.n 2, .r [(2, .dec false)], .n 3, .r [(5, .call (.sref 0 36 2 (y_37).length) [(oL true 36 2 cEntry dEntry y_37)])], .f 11] (by kernel_rfl) (Obs.of (by kernel_rfl) (And.intro (nt g_29) (erasureref30_Select.spec e_38)))
theorem erasureref30_Lookup.p2.run   : ∀ (k : Nat) (A2 : (List TEntry)) (r4 : Int) (v15 : Int) (v16 : Int) (a5b : TCache) (v8b : TValue) (v13 : (List TCached)) (r : ((List TCached) × (List TEntry) × Int)), erasureref30_Lookup.p2 k A2 r4 v15 v16 a5b v8b v13 = some r → RunC Try.prog Try.f19 erasureref30_Lookup.p2.t (erasureref30_Lookup.p2.s A2 r4 v15 v16 a5b v8b v13) (.tup [.sref 0 46 5 (r.1).length, .p ((eL 2 cEntry dEntry r.2.1)), .p (.int .i64 r.2.2)]) [(oL true 46 5 cCached dCached (r.1))] := by
  intro k
  induction k with
  | zero => intro A2 r4 v15 v16 a5b v8b v13 r h; simp [erasureref30_Lookup.p2] at h
  | succ k ih =>
    intro A2 r4 v15 v16 a5b v8b v13 r h
    rw [erasureref30_Lookup.p2] at h
    rcases ite_or h with ⟨g_18, h⟩ | ⟨g_18, h⟩
    · obtain ⟨g_19, h⟩ := ite_some h
      obtain ⟨g_20, h⟩ := ite_some h
      rcases ite_or h with ⟨g_21, h⟩ | ⟨g_21, h⟩
      · exact RunC.go [.n 2, .r [(3, .dec true)], .n 5, .r [(10, .dec true)], .n 5, .k [2, 4, 5, 8, 13, 15, 16]] (by kernel_rfl) (Obs.of (by kernel_rfl) (And.intro g_18 (And.intro g_19 (And.intro g_20 g_21)))) (ih _ _ _ _ _ _ _ r h)
      · exact RunC.go [.n 2, .r [(3, .dec true)], .n 5, .r [(10, .dec false)], .n 5, .k [2, 4, 5, 8, 13, 15, 16]] (by kernel_rfl) (Obs.of (by kernel_rfl) (And.intro g_18 (And.intro g_19 (And.intro g_20 (nt g_21))))) (ih _ _ _ _ _ _ _ r h)
    · obtain ⟨g_22, h⟩ := ite_some h
      obtain ⟨y_23, e_24, h⟩ := bind_or h
      obtain ⟨g_25, h⟩ := ite_some h
      obtain ⟨y_26, e_27, h⟩ := bind_or h
      obtain ⟨g_28, h⟩ := ite_some h
      exact RunC.go [.n 2, .r [(3, .dec false)], .n 2, .r [(6, .call (.sref 0 46 5 (y_23).length) [(oL true 46 5 cCached dCached y_23)])], .n 1, .r [(0, .obj (oL true 46 5 cCached dCached ([] : List TCached))), (2, .obj (oL true 46 5 cCached dCached (([] : List TCached) ++ y_23))), (8, .call (.sref 0 36 2 (y_26).length) [(oL true 36 2 cEntry dEntry y_26)]), (11, .obj (oL true 46 5 cCached dCached [(TCached.mk v8b y_26 r4)])), (12, .obj (oL true 46 5 cCached dCached ((([] : List TCached) ++ y_23) ++ ([(TCached.mk v8b y_26 r4)]))))], .n 5, .k [2, 5, 8, 17, 18]] (by kernel_rfl) (Obs.of (by kernel_rfl) (And.intro (nt g_18) (And.intro g_22 (And.intro (erasureref30_without.spec e_24) (And.intro (le_build0 46 5 cCached dCached) (And.intro (And.intro g_25 (le_app 46 5 cCached dCached ([] : List TCached) y_23)) (And.intro (erasureref30_Select.spec e_27) (And.intro (le_one 46 5 cCached dCached (TCached.mk v8b y_26 r4)) (And.intro g_28 (le_app 46 5 cCached dCached (([] : List TCached) ++ y_23) ([(TCached.mk v8b y_26 r4)]))))))))))) (erasureref30_Lookup.p3.run k _ _ _ _ _ r h)
theorem erasureref30_Lookup.p1.run   : ∀ (k : Nat) (A2 : (List TEntry)) (r4 : Int) (v14 : Int) (a5b : TCache) (v8b : TValue) (v13 : (List TCached)) (r : ((List TCached) × (List TEntry) × Int)), erasureref30_Lookup.p1 k A2 r4 v14 a5b v8b v13 = some r → RunC Try.prog Try.f19 erasureref30_Lookup.p1.t (erasureref30_Lookup.p1.s A2 r4 v14 a5b v8b v13) (.tup [.sref 0 46 5 (r.1).length, .p ((eL 2 cEntry dEntry r.2.1)), .p (.int .i64 r.2.2)]) [(oL true 46 5 cCached dCached (r.1))] := by
  intro k
  induction k with
  | zero => intro A2 r4 v14 a5b v8b v13 r h; simp [erasureref30_Lookup.p1] at h
  | succ k ih =>
    intro A2 r4 v14 a5b v8b v13 r h
    rw [erasureref30_Lookup.p1] at h
    rcases ite_or h with ⟨g_14, h⟩ | ⟨g_14, h⟩
    · obtain ⟨g_15, h⟩ := ite_some h
      rcases ite_or h with ⟨g_16, h⟩ | ⟨g_16, h⟩
      · obtain rfl := Option.some.inj h
        exact RunC.out [.n 2, .r [(3, .dec true)], .n 5, .r [(6, .dec true)], .n 3] (by kernel_rfl) (Obs.of (by kernel_rfl) (And.intro g_14 (And.intro g_15 (And.intro g_16 g_15))))
      · exact RunC.go [.n 2, .r [(3, .dec true)], .n 5, .r [(6, .dec false)], .n 5, .k [2, 4, 5, 8, 13, 14]] (by kernel_rfl) (Obs.of (by kernel_rfl) (And.intro g_14 (And.intro g_15 (nt g_16)))) (ih _ _ _ _ _ _ r h)
    · rcases ite_or h with ⟨g_17, h⟩ | ⟨g_17, h⟩
      · exact RunC.go [.n 2, .r [(3, .dec false)], .n 4, .r [(2, .dec true)], .n 8, .k [2, 4, 5, 8, 13, 15, 16]] (by kernel_rfl) (Obs.of (by kernel_rfl) (And.intro (nt g_14) g_17)) (erasureref30_Lookup.p2.run k _ _ _ _ _ _ _ r h)
      · obtain ⟨g_39, h⟩ := ite_some h
        obtain ⟨y_40, e_41, h⟩ := bind_or h
        obtain ⟨g_42, h⟩ := ite_some h
        exact RunC.go [.n 2, .r [(3, .dec false)], .n 4, .r [(2, .dec false)], .n 3, .r [(0, .obj (oL true 46 5 cCached dCached ([] : List TCached))), (2, .obj (oL true 46 5 cCached dCached (([] : List TCached) ++ v13))), (8, .call (.sref 0 36 2 (y_40).length) [(oL true 36 2 cEntry dEntry y_40)]), (11, .obj (oL true 46 5 cCached dCached [(TCached.mk v8b y_40 r4)])), (12, .obj (oL true 46 5 cCached dCached ((([] : List TCached) ++ v13) ++ ([(TCached.mk v8b y_40 r4)]))))], .n 5, .k [2, 5, 8, 17, 18]] (by kernel_rfl) (Obs.of (by kernel_rfl) (And.intro (nt g_14) (And.intro (nt g_17) (And.intro (le_build0 46 5 cCached dCached) (And.intro (And.intro g_39 (le_app 46 5 cCached dCached ([] : List TCached) v13)) (And.intro (erasureref30_Select.spec e_41) (And.intro (le_one 46 5 cCached dCached (TCached.mk v8b y_40 r4)) (And.intro g_42 (le_app 46 5 cCached dCached (([] : List TCached) ++ v13) ([(TCached.mk v8b y_40 r4)])))))))))) (erasureref30_Lookup.p3.run k _ _ _ _ _ r h)
theorem erasureref30_Lookup.run   {k : Nat} {t0 : TCache} {o1 : (List TCached)} {A2 : (List TEntry)} {r3 : TValue} {r4 : Int} {r : ((List TCached) × (List TEntry) × Int)} (h : erasureref30_Lookup k t0 o1 A2 r3 r4 = some r) : RunC Try.prog Try.f19 erasureref30_Lookup.t (erasureref30_Lookup.s t0 o1 A2 r3 r4) (.tup [.sref 0 46 5 (r.1).length, .p ((eL 2 cEntry dEntry r.2.1)), .p (.int .i64 r.2.2)]) [(oL true 46 5 cCached dCached (r.1))] := by
  unfold erasureref30_Lookup at h
  obtain ⟨y_1, e_2, h⟩ := bind_or h
  rcases ite_or h with ⟨g_3, h⟩ | ⟨g_3, h⟩
  · obtain rfl := Option.some.inj h
    exact RunC.out [.n 1, .r [(2, .obj (oL true 46 5 cCached dCached ([] : List TCached))), (3, .obj (oL true 36 2 cEntry dEntry ([] : List TEntry)))], .n 2, .r [(1, .call (.p (.bool y_1)) []), (3, .dec true)], .n 2, .r [(0, .obj (oL true 46 5 cCached dCached ([] : List TCached))), (1, .obj (oL true 36 2 cEntry dEntry ([] : List TEntry)))], .f 11] (by kernel_rfl) (Obs.of (by kernel_rfl) (And.intro (le_nil 46 5 cCached dCached) (And.intro (le_nil 36 2 cEntry dEntry) (And.intro (erasureref30_Valid.spec e_2) (And.intro g_3 (And.intro (le_nil 46 5 cCached dCached) (le_nil 36 2 cEntry dEntry)))))))
  · obtain ⟨y_4, e_5, h⟩ := bind_or h
    rcases ite_or h with ⟨g_6, h⟩ | ⟨g_6, h⟩
    · obtain rfl := Option.some.inj h
      exact RunC.out [.n 1, .r [(2, .obj (oL true 46 5 cCached dCached ([] : List TCached))), (3, .obj (oL true 36 2 cEntry dEntry ([] : List TEntry)))], .n 2, .r [(1, .call (.p (.bool y_1)) []), (3, .dec false), (5, .call (.p (.bool y_4)) []), (8, .dec true)], .n 2, .r [(0, .obj (oL true 46 5 cCached dCached ([] : List TCached))), (1, .obj (oL true 36 2 cEntry dEntry ([] : List TEntry)))], .f 11] (by kernel_rfl) (Obs.of (by kernel_rfl) (And.intro (le_nil 46 5 cCached dCached) (And.intro (le_nil 36 2 cEntry dEntry) (And.intro (erasureref30_Valid.spec e_2) (And.intro (nt g_3) (And.intro (erasureref06_Valid.spec e_5) (And.intro g_6 (And.intro (le_nil 46 5 cCached dCached) (le_nil 36 2 cEntry dEntry)))))))))
    · obtain ⟨y_7, e_8, h⟩ := bind_or h
      rcases ite_or h with ⟨g_9, h⟩ | ⟨g_9, h⟩
      · obtain rfl := Option.some.inj h
        exact RunC.out [.n 1, .r [(2, .obj (oL true 46 5 cCached dCached ([] : List TCached))), (3, .obj (oL true 36 2 cEntry dEntry ([] : List TEntry)))], .n 2, .r [(1, .call (.p (.bool y_1)) []), (3, .dec false), (5, .call (.p (.bool y_4)) []), (8, .dec false), (11, .call (.p (.bool y_7)) []), (13, .dec true)], .n 2, .r [(0, .obj (oL true 46 5 cCached dCached ([] : List TCached))), (1, .obj (oL true 36 2 cEntry dEntry ([] : List TEntry)))], .f 11] (by kernel_rfl) (Obs.of (by kernel_rfl) (And.intro (le_nil 46 5 cCached dCached) (And.intro (le_nil 36 2 cEntry dEntry) (And.intro (erasureref30_Valid.spec e_2) (And.intro (nt g_3) (And.intro (erasureref06_Valid.spec e_5) (And.intro (nt g_6) (And.intro (erasureref30_ranged.spec e_8) (And.intro g_9 (And.intro (le_nil 46 5 cCached dCached) (le_nil 36 2 cEntry dEntry)))))))))))
      · obtain ⟨y_10, e_11, h⟩ := bind_or h
        obtain ⟨y_12, e_13, h⟩ := bind_or h
        exact RunC.go [.n 1, .r [(2, .obj (oL true 46 5 cCached dCached ([] : List TCached))), (3, .obj (oL true 36 2 cEntry dEntry ([] : List TEntry)))], .n 2, .r [(1, .call (.p (.bool y_1)) []), (3, .dec false), (5, .call (.p (.bool y_4)) []), (8, .dec false), (11, .call (.p (.bool y_7)) []), (13, .dec false)], .n 3, .r [(1, .call (.agg ((cValue y_10).map .p)) [])], .n 1, .r [(3, .call (.sref 0 46 5 (y_12).length) [(oL true 46 5 cCached dCached y_12)])], .n 5, .k [2, 4, 5, 8, 13, 14]] (by kernel_rfl) (Obs.of (by kernel_rfl) (And.intro (le_nil 46 5 cCached dCached) (And.intro (le_nil 36 2 cEntry dEntry) (And.intro (erasureref30_Valid.spec e_2) (And.intro (nt g_3) (And.intro (erasureref06_Valid.spec e_5) (And.intro (nt g_6) (And.intro (erasureref30_ranged.spec e_8) (And.intro (nt g_9) (And.intro (erasureref01_Clean.spec e_11) (erasureref30_Expire.spec e_13))))))))))) (erasureref30_Lookup.p1.run k _ _ _ _ _ _ r h)
theorem erasureref30_Lookup.p3.mono   : ∀ (k k' : Nat) (A2 : (List TEntry)) (v18 : Int) (a5b : TCache) (v8b : TValue) (v17 : (List TCached)) (r : ((List TCached) × (List TEntry) × Int)), k ≤ k' → erasureref30_Lookup.p3 k A2 v18 a5b v8b v17 = some r → erasureref30_Lookup.p3 k' A2 v18 a5b v8b v17 = some r := by
  intro k
  induction k with
  | zero => intro k' A2 v18 a5b v8b v17 r hk h; simp [erasureref30_Lookup.p3] at h
  | succ k ih =>
    intro k' A2 v18 a5b v8b v17 r hk h
    obtain ⟨k', rfl⟩ : ∃ m, k' = m + 1 := ⟨k' - 1, by omega⟩
    replace hk := Nat.le_of_succ_le_succ hk
    rw [erasureref30_Lookup.p3] at h ⊢
    rcases ite_or h with ⟨g_29, h⟩ | ⟨g_29, h⟩
    · refine itp g_29 ?_
      obtain ⟨g_30, h⟩ := ite_some h
      refine itp g_30 ?_
      obtain ⟨g_31, h⟩ := ite_some h
      refine itp g_31 ?_
      obtain ⟨y_32, e_33, h⟩ := bind_or h
      refine bnd (erasureref01_Compare.mono _ _ _ _ _ hk e_33) ?_
      rcases ite_or h with ⟨g_34, h⟩ | ⟨g_34, h⟩
      · refine itp g_34 ?_
        exact ih _ _ _ _ _ _ r hk h
      · refine itn g_34 ?_
        obtain ⟨y_35, e_36, h⟩ := bind_or h
        refine bnd (erasureref30_Select.mono _ _ _ _ _ _ hk e_36) ?_
        exact h
    · refine itn g_29 ?_
      obtain ⟨y_37, e_38, h⟩ := bind_or h
      refine bnd (erasureref30_Select.mono _ _ _ _ _ _ hk e_38) ?_
      exact h
theorem erasureref30_Lookup.p2.mono   : ∀ (k k' : Nat) (A2 : (List TEntry)) (r4 : Int) (v15 : Int) (v16 : Int) (a5b : TCache) (v8b : TValue) (v13 : (List TCached)) (r : ((List TCached) × (List TEntry) × Int)), k ≤ k' → erasureref30_Lookup.p2 k A2 r4 v15 v16 a5b v8b v13 = some r → erasureref30_Lookup.p2 k' A2 r4 v15 v16 a5b v8b v13 = some r := by
  intro k
  induction k with
  | zero => intro k' A2 r4 v15 v16 a5b v8b v13 r hk h; simp [erasureref30_Lookup.p2] at h
  | succ k ih =>
    intro k' A2 r4 v15 v16 a5b v8b v13 r hk h
    obtain ⟨k', rfl⟩ : ∃ m, k' = m + 1 := ⟨k' - 1, by omega⟩
    replace hk := Nat.le_of_succ_le_succ hk
    rw [erasureref30_Lookup.p2] at h ⊢
    rcases ite_or h with ⟨g_18, h⟩ | ⟨g_18, h⟩
    · refine itp g_18 ?_
      obtain ⟨g_19, h⟩ := ite_some h
      refine itp g_19 ?_
      obtain ⟨g_20, h⟩ := ite_some h
      refine itp g_20 ?_
      rcases ite_or h with ⟨g_21, h⟩ | ⟨g_21, h⟩
      · refine itp g_21 ?_
        exact ih _ _ _ _ _ _ _ _ r hk h
      · refine itn g_21 ?_
        exact ih _ _ _ _ _ _ _ _ r hk h
    · refine itn g_18 ?_
      obtain ⟨g_22, h⟩ := ite_some h
      refine itp g_22 ?_
      obtain ⟨y_23, e_24, h⟩ := bind_or h
      refine bnd (erasureref30_without.mono _ _ _ _ _ hk e_24) ?_
      obtain ⟨g_25, h⟩ := ite_some h
      refine itp g_25 ?_
      obtain ⟨y_26, e_27, h⟩ := bind_or h
      refine bnd (erasureref30_Select.mono _ _ _ _ _ _ hk e_27) ?_
      obtain ⟨g_28, h⟩ := ite_some h
      refine itp g_28 ?_
      exact erasureref30_Lookup.p3.mono _ _ _ _ _ _ _ r hk h
theorem erasureref30_Lookup.p1.mono   : ∀ (k k' : Nat) (A2 : (List TEntry)) (r4 : Int) (v14 : Int) (a5b : TCache) (v8b : TValue) (v13 : (List TCached)) (r : ((List TCached) × (List TEntry) × Int)), k ≤ k' → erasureref30_Lookup.p1 k A2 r4 v14 a5b v8b v13 = some r → erasureref30_Lookup.p1 k' A2 r4 v14 a5b v8b v13 = some r := by
  intro k
  induction k with
  | zero => intro k' A2 r4 v14 a5b v8b v13 r hk h; simp [erasureref30_Lookup.p1] at h
  | succ k ih =>
    intro k' A2 r4 v14 a5b v8b v13 r hk h
    obtain ⟨k', rfl⟩ : ∃ m, k' = m + 1 := ⟨k' - 1, by omega⟩
    replace hk := Nat.le_of_succ_le_succ hk
    rw [erasureref30_Lookup.p1] at h ⊢
    rcases ite_or h with ⟨g_14, h⟩ | ⟨g_14, h⟩
    · refine itp g_14 ?_
      obtain ⟨g_15, h⟩ := ite_some h
      refine itp g_15 ?_
      rcases ite_or h with ⟨g_16, h⟩ | ⟨g_16, h⟩
      · refine itp g_16 ?_
        exact h
      · refine itn g_16 ?_
        exact ih _ _ _ _ _ _ _ r hk h
    · refine itn g_14 ?_
      rcases ite_or h with ⟨g_17, h⟩ | ⟨g_17, h⟩
      · refine itp g_17 ?_
        exact erasureref30_Lookup.p2.mono _ _ _ _ _ _ _ _ _ r hk h
      · refine itn g_17 ?_
        obtain ⟨g_39, h⟩ := ite_some h
        refine itp g_39 ?_
        obtain ⟨y_40, e_41, h⟩ := bind_or h
        refine bnd (erasureref30_Select.mono _ _ _ _ _ _ hk e_41) ?_
        obtain ⟨g_42, h⟩ := ite_some h
        refine itp g_42 ?_
        exact erasureref30_Lookup.p3.mono _ _ _ _ _ _ _ r hk h
theorem erasureref30_Lookup.mono   : ∀ (k k' : Nat) (t0 : TCache) (o1 : (List TCached)) (A2 : (List TEntry)) (r3 : TValue) (r4 : Int) (r : ((List TCached) × (List TEntry) × Int)), k ≤ k' → erasureref30_Lookup k t0 o1 A2 r3 r4 = some r → erasureref30_Lookup k' t0 o1 A2 r3 r4 = some r := by
  intro k k' t0 o1 A2 r3 r4 r hk h
  unfold erasureref30_Lookup at h ⊢
  obtain ⟨y_1, e_2, h⟩ := bind_or h
  refine bnd (erasureref30_Valid.mono _ _ _ _ hk e_2) ?_
  rcases ite_or h with ⟨g_3, h⟩ | ⟨g_3, h⟩
  · refine itp g_3 ?_
    exact h
  · refine itn g_3 ?_
    obtain ⟨y_4, e_5, h⟩ := bind_or h
    refine bnd (erasureref06_Valid.mono _ _ _ _ hk e_5) ?_
    rcases ite_or h with ⟨g_6, h⟩ | ⟨g_6, h⟩
    · refine itp g_6 ?_
      exact h
    · refine itn g_6 ?_
      obtain ⟨y_7, e_8, h⟩ := bind_or h
      refine bnd (erasureref30_ranged.mono _ _ _ _ _ hk e_8) ?_
      rcases ite_or h with ⟨g_9, h⟩ | ⟨g_9, h⟩
      · refine itp g_9 ?_
        exact h
      · refine itn g_9 ?_
        obtain ⟨y_10, e_11, h⟩ := bind_or h
        refine bnd (erasureref01_Clean.mono _ _ _ _ hk e_11) ?_
        obtain ⟨y_12, e_13, h⟩ := bind_or h
        refine bnd (erasureref30_Expire.mono _ _ _ _ _ _ hk e_13) ?_
        exact erasureref30_Lookup.p1.mono _ _ _ _ _ _ _ _ r hk h
theorem erasureref30_Lookup.spec {k : Nat} {t0 : TCache} {o1 : (List TCached)} {A2 : (List TEntry)} {r3 : TValue} {r4 : Int} {r : ((List TCached) × (List TEntry) × Int)} (h : erasureref30_Lookup k t0 o1 A2 r3 r4 = some r) : Spec Try.prog 19 [.agg ((cCache t0).map .p), .p (eL 5 cCached dCached o1), .p (eL 2 cEntry dEntry A2), .agg ((cValue r3).map .p), .p (.int .i64 r4)] (.tup [.sref 0 46 5 (r.1).length, .p ((eL 2 cEntry dEntry r.2.1)), .p (.int .i64 r.2.2)]) [(oL true 46 5 cCached dCached (r.1))] :=
  spec_of mix Try.func19 (body := bodyOf Try.f19) (by kernel_rfl) (by kernel_rfl) (erasureref30_Lookup.run h)
end Go.Proofs.YtjhnpaenhdbhpabV
set_option linter.unusedVariables false
set_option linter.unusedSimpArgs false
namespace Go.Proofs.YtjhnpaenhdbhpabV
open Go Go.RowKit
theorem awake30_ev : Ev (fun k => erasurelaw30_awake k) true := Ev.of (fun k k' hk h => erasurelaw30_awake.mono k k' true hk h) (k := 60) (by kernel_rfl)
end Go.Proofs.YtjhnpaenhdbhpabV
set_option linter.unusedVariables false
set_option linter.unusedSimpArgs false
namespace Go.Proofs.YtjhnpaenhdbhpabV
open Go Go.RowKit
theorem atV_rep (w : TValue) (n : Nat) (c : Int) (h0 : 0 ≤ c) (h1 : c < n) (hw : okV w = true) : atV (List.replicate n w) c = w := by
  unfold atV
  rw [if_neg (by omega), if_neg (by simp; omega)]
  have : (List.replicate n w).getD c.toNat dValue = w := by
    rw [List.getD_eq_getElem?_getD, List.getElem?_replicate, if_pos (by omega)]; rfl
  rw [this, clV_ok hw]
theorem bagV_one {e : TEntry} (h : okE e = true) (h1 : e.f1 ≠ 0) : bagV [e] = true := by
  unfold bagV bvF bvF
  simp [h, h1]
theorem serves_look (c : TCache) (v : TValue) (n : Nat) (d0 d1 : Int) (hn : c.f2 < n) (hn2 : n ≤ 16) (hc : 0 ≤ c.f2) (ht : 0 ≤ c.f3 ∧ c.f3 ≤ 1000) (h0 : 0 ≤ d0 ∧ d0 ≤ 1000) (h1 : 0 ≤ d1 ∧ d1 ≤ 3000) :
    lookS c [] [⟨List.replicate n (clV v), 1⟩] v d0 = ([⟨clV v, [⟨List.replicate n (clV v), 1⟩], d0⟩], [⟨List.replicate n (clV v), 1⟩], 0) ∧
    (lookS c [⟨clV v, [⟨List.replicate n (clV v), 1⟩], d0⟩] [] v (d0 + d1)).2.1.length = (if d1 < c.f3 then 1 else 0) ∧ (lookS c [⟨clV v, [⟨List.replicate n (clV v), 1⟩], d0⟩] [] v (d0 + d1)).2.2 = 0 := by
  have hw := okV_cl v
  have hrow : okRow (List.replicate n (clV v)) = true := by
    unfold okRow
    rw [List.length_replicate, decide_eq_true hn2, Bool.and_true, List.all_eq_true]
    intro x hx
    rw [(List.mem_replicate.1 hx).2]; exact hw
  have hbag : bagV [⟨List.replicate n (clV v), 1⟩] = true := bagV_one (by unfold okE; rw [hrow]; rfl) (show (1 : Int) ≠ 0 by decide)
  have hsel : selS [⟨List.replicate n (clV v), 1⟩] c.f2 (clV v) = [⟨List.replicate n (clV v), 1⟩] := by
    simp [selS, atV_rep (clV v) n c.f2 hc hn hw]
  have hD : ∀ x : Int, 0 ≤ x → x ≤ 4000 → okD x = true := fun x a b => by unfold okD; exact decide_eq_true ⟨a, by omega⟩
  have hnil : cacheV [] = true := rfl
  have hexp0 : expS c.f3 [] d0 = [] := by unfold expS; split <;> rfl
  refine ⟨?_, ?_⟩
  · unfold lookS
    rw [hnil, hbag, hD _ ht.1 (by omega), hD _ h0.1 (by omega)]
    simp only [Bool.and_self, if_true, hexp0, lookF, List.length_nil, hsel]
    rfl
  · have hcv : cacheV [⟨clV v, [⟨List.replicate n (clV v), 1⟩], d0⟩] = true := by
      unfold cacheV ctF ctF
      simp [hw, hbag, hD _ h0.1 (by omega)]
    have hexp : expS c.f3 [⟨clV v, [⟨List.replicate n (clV v), 1⟩], d0⟩] (d0 + d1) = if d1 < c.f3 then [⟨clV v, [⟨List.replicate n (clV v), 1⟩], d0⟩] else [] := by
      unfold expS
      rw [hcv, hD _ ht.1 (by omega), hD (d0 + d1) (by omega) (by omega)]
      simp only [Bool.and_self, if_true, List.filter_cons, List.filter_nil, liveC]
      by_cases h : d1 < c.f3
      · simp only [if_pos h, decide_eq_true (show d0 ≤ d0 + d1 ∧ d0 + d1 < d0 + c.f3 by omega), if_true]
      · simp only [if_neg h, decide_eq_false (show ¬ (d0 ≤ d0 + d1 ∧ d0 + d1 < d0 + c.f3) by omega), Bool.false_eq_true, if_false]
    unfold lookS
    rw [hcv, bagV_nil, hD _ ht.1 (by omega), hD (d0 + d1) (by omega) (by omega), hexp]
    simp only [Bool.and_self, if_true]
    by_cases h : d1 < c.f3
    · simp [h, lookF]
    · simp [h, lookF, selS]
theorem serves_p1 (c : TCache) (v : TValue) (d : T32) (ht : 0 ≤ c.f3 ∧ c.f3 ≤ 1000) (h0 : 0 ≤ d.f0 ∧ d.f0 ≤ 1000) (h1 : 0 ≤ d.f1 ∧ d.f1 ≤ 3000) : ∀ i : Nat, i ≤ 16 → ((i : Int) ≤ c.f2 + 1 ∨ i = 0) →
    Ev (fun k => erasurelaw30_CacheServes.p1 k (i : Int) c v d (List.replicate i (clV v))) true := by
  have last : ∀ i : Nat, i ≤ 16 → 0 ≤ c.f2 → c.f2 ≤ 15 → c.f2 < i → (Ev (fun k => (cache_Lookup k c ([] : List TCached) ([(TEntry.mk (List.replicate i (clV v)) 1)]) v d.f0)) (lookS c [] [⟨List.replicate i (clV v), 1⟩] v d.f0)) ∧
      Ev (fun k => (cache_Lookup k c (lookS c [] [⟨List.replicate i (clV v), 1⟩] v d.f0).1 ([] : List TEntry) v (IntKind.i64.wrap (d.f0 + d.f1)))) (lookS c [⟨clV v, [⟨List.replicate i (clV v), 1⟩], d.f0⟩] [] v (d.f0 + d.f1)) := by
    intro i hi hc1 hc2 hc3
    have hfin : Fin [⟨List.replicate i (clV v), 1⟩] := ⟨by simp, fun e he => by simp at he; subst he; simp; omega⟩
    refine ⟨Lookup_ev c [] _ v d.f0 ⟨by simp, fun x hx => by cases hx⟩ hfin, ?_⟩
    rw [(serves_look c v i d.f0 d.f1 hc3 hi hc1 ht h0 h1).1, wr (by omega)]
    exact Lookup_ev c _ [] v _ ⟨by simp, fun x hx => by simp at hx; subst hx; exact hfin⟩ ⟨by simp, fun e he => by cases he⟩
  refine loop_down (P := fun i => ((i : Int) ≤ c.f2 + 1 ∨ i = 0) → Ev (fun k => erasurelaw30_CacheServes.p1 k (i : Int) c v d (List.replicate i (clV v))) true) 16 ?_ ?_
  · intro hic
    refine Ev.succ ?_
    simp only [erasurelaw30_CacheServes.p1, decide_eq_true_eq]
    have hic' : (15 : Int) ≤ c.f2 := by omega
    have fin : ∀ (hc : c.f2 ≤ 15), _ := fun hc => last 16 (by omega) (by omega) hc (by omega)
    have tail : ∀ (hc : c.f2 ≤ 15), _ := fun hc => serves_look c v 16 d.f0 d.f1 (by omega) (by omega) (by omega) ht h0 h1
    by_cases hle : (16 : Int) ≤ c.f2
    · refine Ev.ite_pos (by simpa using hle) (Ev.ite_neg (by simp) (Ev.ite_neg (by omega) (Ev.ite_pos (by omega) (Ev.bind awake30_ev (Ev.now _)))))
    · refine Ev.ite_neg (by simpa using hle) (Ev.ite_neg (by omega) (Ev.ite_neg (by omega) ?_))
      have hc : c.f2 ≤ 15 := by omega
      obtain ⟨e1, e2⟩ := last 16 (by omega) (by omega) hc (by omega)
      obtain ⟨g1, g2, g3⟩ := serves_look c v 16 d.f0 d.f1 (by omega) (by omega) (by omega) ht h0 h1
      refine Ev.bind e1 (Ev.bind e2 ?_)
      rw [g1]
      by_cases h : d.f1 < c.f3
      · rw [if_pos h] at g2
        refine Ev.ite_pos h (Ev.ite_pos rfl (Ev.ite_pos (by rw [g3]; rfl) (Ev.ite_pos rfl (Ev.ite_pos (by rw [g2]; rfl) (Ev.bind awake30_ev (Ev.now _))))))
      · rw [if_neg h] at g2
        refine Ev.ite_neg h (Ev.ite_pos rfl (Ev.ite_pos (by rw [g3]; rfl) (Ev.ite_pos rfl (Ev.ite_pos (by rw [g2]; rfl) (Ev.bind awake30_ev (Ev.now _))))))
  · intro i hi ih hic
    refine Ev.succ ?_
    simp only [erasurelaw30_CacheServes.p1, decide_eq_true_eq]
    by_cases hle : (i : Int) ≤ c.f2
    · refine Ev.ite_pos hle (Ev.ite_pos (by omega) ?_)
      simp only [ref01_Clean_eq, Option.bind_some]
      refine Ev.ite_pos (by simp [maxLen]; omega) ?_
      rw [wrn hi (by omega), ← List.replicate_succ']
      exact ih (.inl (by omega))
    · refine Ev.ite_neg hle ?_
      by_cases hneg : c.f2 < 0
      · exact Ev.ite_pos hneg (Ev.bind awake30_ev (Ev.now _))
      · refine Ev.ite_neg hneg (Ev.ite_neg (by omega) ?_)
        obtain ⟨e1, e2⟩ := last i (by omega) (by omega) (by omega) (by omega)
        obtain ⟨g1, g2, g3⟩ := serves_look c v i d.f0 d.f1 (by omega) (by omega) (by omega) ht h0 h1
        refine Ev.bind e1 (Ev.bind e2 ?_)
        rw [g1]
        by_cases h : d.f1 < c.f3
        · rw [if_pos h] at g2
          refine Ev.ite_pos h (Ev.ite_pos rfl (Ev.ite_pos (by rw [g3]; rfl) (Ev.ite_pos rfl (Ev.ite_pos (by rw [g2]; rfl) (Ev.bind awake30_ev (Ev.now _))))))
        · rw [if_neg h] at g2
          refine Ev.ite_neg h (Ev.ite_pos rfl (Ev.ite_pos (by rw [g3]; rfl) (Ev.ite_pos rfl (Ev.ite_pos (by rw [g2]; rfl) (Ev.bind awake30_ev (Ev.now _))))))
theorem CacheServes_std (x0 : TCache) (x1 : TValue) (x2 : T32) (h0 : (x0.f0.size ≤ maxLen ∧ (x0.f1.size ≤ maxLen ∧ ((Lit.int .i64 x0.f2).wf = true ∧ (Lit.int .i64 x0.f3).wf = true)))) (h1 : ((Lit.int .i64 x1.f0).wf = true ∧ ((Lit.int .i64 x1.f1).wf = true ∧ x1.f2.size ≤ maxLen))) (h2 : ((Lit.int .i64 x2.f0).wf = true ∧ (Lit.int .i64 x2.f1).wf = true)) : ∃ k, erasurelaw30_CacheServes k x0 x1 x2 = some true := by
  refine Ev.some (g := fun k => erasurelaw30_CacheServes k x0 x1 x2) ?_
  unfold erasurelaw30_CacheServes
  simp only [decide_eq_true_eq]
  have aw : Ev (fun k => (erasurelaw30_awake k).bind fun y => some y) true := Ev.bind awake30_ev (Ev.now _)
  by_cases c1 : x0.f3 < 0
  · exact Ev.ite_pos c1 aw
  refine Ev.ite_neg c1 ?_
  by_cases c2 : x0.f3 > 1000
  · exact Ev.ite_pos c2 aw
  refine Ev.ite_neg c2 ?_
  by_cases c3 : x2.f0 < 0
  · exact Ev.ite_pos c3 aw
  refine Ev.ite_neg c3 ?_
  by_cases c4 : x2.f0 > 1000
  · exact Ev.ite_pos c4 aw
  refine Ev.ite_neg c4 ?_
  by_cases c5 : x2.f1 < 0
  · exact Ev.ite_pos c5 aw
  refine Ev.ite_neg c5 ?_
  by_cases c6 : x2.f1 > 3000
  · exact Ev.ite_pos c6 aw
  refine Ev.ite_neg c6 ?_
  exact serves_p1 x0 x1 x2 (by omega) (by omega) (by omega) 0 (by omega) (.inr rfl)
end Go.Proofs.YtjhnpaenhdbhpabV
set_option linter.unusedVariables false
set_option linter.unusedSimpArgs false
set_option linter.constructorNameAsVariable false
namespace Go.Proofs.YtjhnpaenhdbhpabV
open Go Go.RowKit
def RepL (F : Nat → Prop) (w : World) : List AV → List Value → Prop
  | [], [] => True
  | a :: l, v :: m => Rep F w a v ∧ RepL F w l m
  | _, _ => False
theorem RepL.len {F : Nat → Prop} {w : World} : ∀ {l : List AV} {m : List Value}, RepL F w l m → l.length = m.length
  | [], [], _ => rfl
  | _ :: _, _ :: _, h => by simp [RepL.len h.2]
  | [], _ :: _, h => h.elim
  | _ :: _, [], h => h.elim
theorem RepL.get {F : Nat → Prop} {w : World} : ∀ {l : List AV} {m : List Value}, RepL F w l m → ∀ (i : Nat) (v : Value), m[i]? = some v → Rep F w (l.getD i .u) v
  | [], [], _, i, v, h => by simp at h
  | a :: l, u :: m, h, i, v, hv => by
    cases i with
    | zero =>
      simp only [List.getElem?_cons_zero, Option.some.injEq] at hv
      subst hv
      exact h.1
    | succ i => simpa using RepL.get h.2 i v (by simpa using hv)
  | [], _ :: _, h, _, _, _ => h.elim
  | _ :: _, [], h, _, _, _ => h.elim
theorem RepL.app {F : Nat → Prop} {w : World} : ∀ {l : List AV} {m : List Value} {l' : List AV} {m' : List Value}, RepL F w l m → RepL F w l' m' → RepL F w (l ++ l') (m ++ m')
  | [], [], _, _, _, k => k
  | _ :: _, _ :: _, _, _, h, k => ⟨h.1, RepL.app h.2 k⟩
  | [], _ :: _, _, _, h, _ => h.elim
  | _ :: _, [], _, _, h, _ => h.elim
theorem RepL.fv {F : Nat → Prop} {w : World} {κ : Nat → Value} {hp : List Ob} : ∀ {l : List AV} {m : List Value}, RepL F w l m → RelVs ⟨F, w, κ, hp⟩ (l.map .p) m
  | [], [], _ => by simp [RelVs]
  | a :: l, v :: m, h => by simp only [List.map_cons, RelVs]; exact ⟨v, m, rfl, by simp only [RelV]; exact h.1, RepL.fv h.2⟩
  | [], _ :: _, h => h.elim
  | _ :: _, [], h => h.elim
abbrev oldF (W : World) : Nat → Prop := fun b => b < W.heap.size
structure Op1 {α : Type} (P : Program) (t : TypeId) (c : α → List AV) (B : α → Prop) : Prop where mk ::
  out : ∀ {H : Type} (enc : TypeId × Value → H) (W : World) (fuel : Nat) (cs : List Value) (y : DataW H × List MemPlace), DataW.trod enc P W 0 (fun _ => true) true fuel t cs = some y → ∃ x, RepL (oldF W) W (c x) cs ∧ B x
theorem op1_int {P : Program} {t : TypeId} {k : IntKind} (ht : P.underlying t = some (.int k)) : Op1 P t (cI k) (fun n => (Lit.int k n).wf = true) := by
  constructor
  intro H enc W fuel cs y h
  obtain ⟨n, rfl, _, hw⟩ := DataW.trod_int ht h
  exact ⟨n, ⟨rfl, trivial⟩, hw⟩
theorem op1_string {P : Program} {t : TypeId} (ht : P.underlying t = some .string) : Op1 P t cS (fun s => s.size ≤ maxLen) := by
  constructor
  intro H enc W fuel cs y h
  obtain ⟨n, rfl, _, hs⟩ := DataW.trod_string ht h
  exact ⟨n, ⟨rfl, trivial⟩, hs⟩
structure OpFs {α : Type} (P : Program) (fs : List Field) (off sz : Nat) (c : α → List AV) (B : α → Prop) : Prop where mk ::
  out : ∀ {H : Type} (enc : TypeId × Value → H) (W : World) (fuel : Nat) (cs : List Value) (ys : List (DataW H × List MemPlace)), cs.length = off + sz → ys.length = fs.length →
    (∀ (i : Nat) (f : Field), fs[i]? = some f → DataW.trod enc P W 0 (fun _ => true) true fuel f.type ((cs.drop f.offset).take (P.cellsOf f.type)) = ys[i]?) → ∃ x, RepL (oldF W) W (c x) (cs.drop off) ∧ B x
theorem opFs_one {α : Type} {P : Program} {f : Field} {off sz : Nat} {c : α → List AV} {B : α → Prop} (ho : f.offset = off) (hc : P.cellsOf f.type = sz) (hd : Op1 P f.type c B) : OpFs P [f] off sz c B := by
  constructor
  intro H enc W fuel cs ys hl hy h
  have h0 := h 0 f rfl
  rw [List.getElem?_eq_getElem (by rw [hy]; exact Nat.zero_lt_one), ho, hc, List.take_of_length_le (by rw [List.length_drop]; omega)] at h0
  exact hd.out enc W fuel _ _ h0
theorem opFs_cons {α β : Type} {P : Program} {f : Field} {fs : List Field} {off sa sb : Nat} {a : α → List AV} {b : β → List AV} {Ba : α → Prop} {Bb : β → Prop} (ho : f.offset = off) (hc : P.cellsOf f.type = sa) (hd : Op1 P f.type a Ba) (hs : OpFs P fs (off + sa) sb b Bb) :
    OpFs P (f :: fs) off (sa + sb) (fun x : α × β => a x.1 ++ b x.2) (fun x => Ba x.1 ∧ Bb x.2) := by
  constructor
  intro H enc W fuel cs ys hl hy h
  cases ys with
  | nil => simp at hy
  | cons y ys =>
    have h0 := h 0 f rfl
    rw [ho, hc] at h0
    obtain ⟨x, hx, hbx⟩ := hd.out enc W fuel _ _ h0
    obtain ⟨z, hz, hbz⟩ := hs.out enc W fuel cs ys (by omega) (by simpa using hy) (fun i g hg => h (i + 1) g hg)
    refine ⟨(x, z), ?_, hbx, hbz⟩
    have e : cs.drop off = (cs.drop off).take sa ++ cs.drop (off + sa) := by rw [← List.drop_drop, List.take_append_drop]
    rw [e]
    exact hx.app hz
theorem op1_struct {α β : Type} {P : Program} {t : TypeId} {fs : Array Field} {sz : Nat} {c : β → List AV} {B : β → Prop} (c' : α → List AV) (B' : α → Prop) (g : β → α) (hc' : ∀ y, c' (g y) = c y) (hB : ∀ y, B y → B' (g y)) (ht : P.underlying t = some (.struct fs)) (hc : P.cellsOf t = sz) (hs : OpFs P fs.toList 0 sz c B) :
    Op1 P t c' B' := by
  constructor
  intro H enc W fuel cs y h
  obtain ⟨xs, n, _, _, hl, hx, hi⟩ := DataW.trod_struct ht h
  obtain ⟨x, hk, hb⟩ := hs.out enc W n cs xs (by rw [hl, hc]; omega) (by rw [hx]; simp) (fun i f hf => hi i f (by simpa using hf))
  refine ⟨g x, ?_, hB x hb⟩
  rw [hc']
  simpa using hk
theorem okWide_array {P : Program} {w : World} {r : Reach} {base : Nat} {t e : TypeId} {n : Nat} {v : Value} (ht : P.underlying t = some (.array n e)) (h : Value.okWide P w r base t v) : ∃ cs, v = .agg cs ∧ cs.size = P.cellsOf t := by
  simp only [Value.okWide, ht] at h
  obtain ⟨cs, h1, h2, _⟩ := h
  exact ⟨cs, h1, h2⟩
def fkF (e o : Nat) : Field := { (default : Field) with type := e, offset := o }
theorem op1_array {α β : Type} {P : Program} {t e : TypeId} {n : Nat} {sz : Nat} {c : β → List AV} {B : β → Prop} (fs : List Field) (c' : α → List AV) (B' : α → Prop) (g : β → α) (hc' : ∀ y, c' (g y) = c y) (hB : ∀ y, B y → B' (g y)) (ht : P.underlying t = some (.array n e)) (hfs : fs = (List.range n).map fun i => fkF e (i * P.cellsOf e)) (hc : P.cellsOf t = sz) (hs : OpFs P fs 0 sz c B) :
    Op1 P t c' B' := by
  constructor
  intro H enc W fuel cs y h
  obtain ⟨xs, m, _, _, hl, hx, hi⟩ := DataW.trod_array ht h
  obtain ⟨x, hk, hb⟩ := hs.out enc W m cs xs (by rw [hl, hc]; omega) (by rw [hx, hfs]; simp) (fun i f hf => by
    rw [hfs, List.getElem?_map] at hf
    have hin : i < n := by
      rcases Nat.lt_or_ge i n with h | h
      · exact h
      · rw [List.getElem?_eq_none (by simpa using h)] at hf; cases hf
    rw [List.getElem?_range hin] at hf
    simp only [Option.map_some, Option.some.injEq] at hf
    subst hf
    exact hi i hin)
  refine ⟨g x, ?_, hB x hb⟩
  rw [hc']
  simpa using hk
theorem chg_below {w w' : World} (h : Chg (fun _ => False) w w') : Below w.heap.size w w' := ⟨h.os, h.tape, h.output, h.size, fun k hk => h.block k hk (fun h => h)⟩
theorem Spec.law {P : Program} {f : FuncId} {args : List FV} (h : Spec P f args (.p (.bool true)) []) {W : World} {vs : Array Value} (hv : RelVs ⟨oldF W, W, fun _ => undef, []⟩ args vs.toList) : Calls P f vs W fun e W' => e = .returned (.bool true) ∧ Below W.heap.size W W' := by
  refine (h W (oldF W) (fun _ => undef) vs (fun _ h => h) hv).mono fun e W' ⟨v, F', κ', he, hI, hr⟩ => ⟨?_, chg_below hI.chg⟩
  simp only [RelV, Rep] at hr
  rw [he, hr]
end Go.Proofs.YtjhnpaenhdbhpabV
