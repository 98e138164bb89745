/- Part of the proof of CacheForgets: printed by programs of this repo out of the translation, and by hand. Each theorem's conditions stand in its statement. -/
import Derived.Shelf.SlSortCmp.NoneTotal
import Derived.Orders
import Derived.Below
import Derived.Laws.AppendOwn
import Derived.Laws.OwnMore
import Derived.KernelRfl
import Derived.Test.YtjhnpaenhdbhpabProg
import Derived.Test.YtjhnpaenhdbhpabMCacheForgetsa
import Derived.Test.YtjhnpaenhdbhpabMCacheForgetsb
set_option linter.unusedVariables false
set_option linter.unusedSimpArgs false
set_option maxRecDepth 100000
namespace Go.Proofs.YtjhnpaenhdbhpabV
open Go Go.RowKit
noncomputable def bag_countFits  (k : Nat) (n0 : Int) : Option Bool := if (decide (n0 ≥ (-262144))) = true then (some (decide (n0 ≤ 262144))) else (some false)
noncomputable def bag_countFits.t : List Item := [.code (bodyOf Try.f74)]
noncomputable def bag_countFits.s (n0 : Int) : St := ⟨frOf Try.f74.ntmps 0 [(0, .p (.int .i64 n0))], []⟩
theorem bag_countFits.run   {k : Nat} {n0 : Int} {r : Bool} (h : bag_countFits k n0 = some r) : RunC Try.prog Try.f74 bag_countFits.t (bag_countFits.s n0) (.p (.bool r)) [] := by
  unfold bag_countFits at h
  rcases ite_or h with ⟨g_1, h⟩ | ⟨g_1, h⟩
  · obtain rfl := Option.some.inj h
    exact RunC.out [.n 3, .r [(2, .dec true)]] (by kernel_rfl) (Obs.of (by kernel_rfl) g_1)
  · obtain rfl := Option.some.inj h
    exact RunC.out [.n 3, .r [(2, .dec false)]] (by kernel_rfl) (Obs.of (by kernel_rfl) (nt g_1))
theorem bag_countFits.mono   : ∀ (k k' : Nat) (n0 : Int) (r : Bool), k ≤ k' → bag_countFits k n0 = some r → bag_countFits k' n0 = some r := by
  intro k k' n0 r hk h
  unfold bag_countFits at h ⊢
  rcases ite_or h with ⟨g_1, h⟩ | ⟨g_1, h⟩
  · refine itp g_1 ?_
    exact h
  · refine itn g_1 ?_
    exact h
theorem bag_countFits.spec {k : Nat} {n0 : Int} {r : Bool} (h : bag_countFits k n0 = some r) : Spec Try.prog 74 [.p (.int .i64 n0)] (.p (.bool r)) [] :=
  spec_of mix Try.func74 (body := bodyOf Try.f74) (by kernel_rfl) (by kernel_rfl) (bag_countFits.run h)
end Go.Proofs.YtjhnpaenhdbhpabV
set_option linter.unusedVariables false
set_option linter.unusedSimpArgs false
set_option maxRecDepth 100000
namespace Go.Proofs.YtjhnpaenhdbhpabV
open Go Go.RowKit
noncomputable def bag_entryFits  (k : Nat) (e0 : TEntry) : Option Bool := (value_ValidRow k e0.f0).bind fun y_1 => (if y_1 = true then ((bag_countFits k e0.f1).bind fun y_4 => (some y_4)) else (some false))
noncomputable def bag_entryFits.t : List Item := [.code (bodyOf Try.f64)]
noncomputable def bag_entryFits.s (e0 : TEntry) : St := ⟨frOf Try.f64.ntmps 0 [(0, .agg ((cEntry e0).map .p))], []⟩
theorem bag_entryFits.run   {k : Nat} {e0 : TEntry} {r : Bool} (h : bag_entryFits k e0 = some r) : RunC Try.prog Try.f64 bag_entryFits.t (bag_entryFits.s e0) (.p (.bool r)) [] := by
  unfold bag_entryFits at h
  obtain ⟨y_1, e_2, h⟩ := bind_or h
  rcases ite_or h with ⟨g_3, h⟩ | ⟨g_3, h⟩
  · obtain ⟨y_4, e_5, h⟩ := bind_or h
    obtain rfl := Option.some.inj h
    exact RunC.out [.n 3, .r [(2, .call (.p (.bool y_1)) []), (3, .dec true), (6, .call (.p (.bool y_4)) [])]] (by kernel_rfl) (Obs.of (by kernel_rfl) (And.intro (value_ValidRow.spec e_2) (And.intro g_3 (bag_countFits.spec e_5))))
  · obtain rfl := Option.some.inj h
    exact RunC.out [.n 3, .r [(2, .call (.p (.bool y_1)) []), (3, .dec false)]] (by kernel_rfl) (Obs.of (by kernel_rfl) (And.intro (value_ValidRow.spec e_2) (nt g_3)))
theorem bag_entryFits.mono   : ∀ (k k' : Nat) (e0 : TEntry) (r : Bool), k ≤ k' → bag_entryFits k e0 = some r → bag_entryFits k' e0 = some r := by
  intro k k' e0 r hk h
  unfold bag_entryFits at h ⊢
  obtain ⟨y_1, e_2, h⟩ := bind_or h
  refine bnd (value_ValidRow.mono _ _ _ _ hk e_2) ?_
  rcases ite_or h with ⟨g_3, h⟩ | ⟨g_3, h⟩
  · refine itp g_3 ?_
    obtain ⟨y_4, e_5, h⟩ := bind_or h
    refine bnd (bag_countFits.mono _ _ _ _ hk e_5) ?_
    exact h
  · refine itn g_3 ?_
    exact h
theorem bag_entryFits.spec {k : Nat} {e0 : TEntry} {r : Bool} (h : bag_entryFits k e0 = some r) : Spec Try.prog 64 [.agg ((cEntry e0).map .p)] (.p (.bool r)) [] :=
  spec_of mix Try.func64 (body := bodyOf Try.f64) (by kernel_rfl) (by kernel_rfl) (bag_entryFits.run h)
end Go.Proofs.YtjhnpaenhdbhpabV
set_option linter.unusedVariables false
set_option linter.unusedSimpArgs false
set_option maxRecDepth 100000
namespace Go.Proofs.YtjhnpaenhdbhpabV
open Go Go.RowKit
noncomputable def slices_CompareFunc_api_Value__value_Compare.p1  : Nat → (List TValue) → (List TValue) → (List TValue) → Int → Int → Option Int
  | 0, _, _, _, _, _ => none
  | k + 1, s10, s21, v11, v12, v13 => if (decide (v13 < v12)) = true then (if 0 ≤ v13 ∧ v13 < ((v11).length : Int) then (if (decide (v13 ≥ ((s21).length : Int))) = true then (some 1) else (if 0 ≤ v13 ∧ v13 < ((s21).length : Int) then ((value_Compare k (v11.getD v13.toNat dValue) (s21.getD v13.toNat dValue)).bind fun y_5 => (if (y_5 != 0) = true then (some y_5) else (slices_CompareFunc_api_Value__value_Compare.p1 k s10 s21 v11 v12 (IntKind.i64.wrap (v13 + 1))))) else none)) else none) else (if (decide (((s10).length : Int) < ((s21).length : Int))) = true then (some (-1)) else (some 0))
noncomputable def slices_CompareFunc_api_Value__value_Compare  (k : Nat) (s10 : (List TValue)) (s21 : (List TValue)) : Option Int := slices_CompareFunc_api_Value__value_Compare.p1 k s10 s21 s10 ((s10).length : Int) 0
noncomputable def slices_CompareFunc_api_Value__value_Compare.t : List Item := [.code (bodyOf Try.f75)]
noncomputable def slices_CompareFunc_api_Value__value_Compare.s (s10 : (List TValue)) (s21 : (List TValue)) : St := ⟨frOf Try.f75.ntmps 0 [(0, .p (eL 3 cValue dValue s10)), (1, .p (eL 3 cValue dValue s21)), (2, .fn 43 [])], []⟩
noncomputable def slices_CompareFunc_api_Value__value_Compare.p1.t : List Item := nav 7 [] slices_CompareFunc_api_Value__value_Compare.t
noncomputable def slices_CompareFunc_api_Value__value_Compare.p1.s (s10 : (List TValue)) (s21 : (List TValue)) (v11 : (List TValue)) (v12 : Int) (v13 : Int) : St := ⟨frOf Try.f75.ntmps 0 [(0, .p (eL 3 cValue dValue s10)), (1, .p (eL 3 cValue dValue s21)), (2, .fn 43 []), (11, .p (eL 3 cValue dValue v11)), (12, .p (.int .i64 v12)), (13, .p (.int .i64 v13))], []⟩
theorem slices_CompareFunc_api_Value__value_Compare.p1.run   : ∀ (k : Nat) (s10 : (List TValue)) (s21 : (List TValue)) (v11 : (List TValue)) (v12 : Int) (v13 : Int) (r : Int), slices_CompareFunc_api_Value__value_Compare.p1 k s10 s21 v11 v12 v13 = some r → RunC Try.prog Try.f75 slices_CompareFunc_api_Value__value_Compare.p1.t (slices_CompareFunc_api_Value__value_Compare.p1.s s10 s21 v11 v12 v13) (.p (.int .i64 r)) [] := by
  intro k
  induction k with
  | zero => intro s10 s21 v11 v12 v13 r h; simp [slices_CompareFunc_api_Value__value_Compare.p1] at h
  | succ k ih =>
    intro s10 s21 v11 v12 v13 r h
    rw [slices_CompareFunc_api_Value__value_Compare.p1] at h
    rcases ite_or h with ⟨g_1, h⟩ | ⟨g_1, h⟩
    · obtain ⟨g_2, h⟩ := ite_some h
      rcases ite_or h with ⟨g_3, h⟩ | ⟨g_3, h⟩
      · obtain rfl := Option.some.inj h
        exact RunC.out [.n 1, .r [(0, .dec true)], .n 9, .r [(3, .dec true)], .n 3] (by kernel_rfl) (Obs.of (by kernel_rfl) (And.intro g_1 (And.intro g_2 g_3)))
      · obtain ⟨g_4, h⟩ := ite_some h
        obtain ⟨y_5, e_6, h⟩ := bind_or h
        rcases ite_or h with ⟨g_7, h⟩ | ⟨g_7, h⟩
        · obtain rfl := Option.some.inj h
          exact RunC.out [.n 1, .r [(0, .dec true)], .n 9, .r [(3, .dec false)], .n 5, .r [(3, .call (.p (.int .i64 y_5)) [])], .n 1, .r [(1, .dec true)], .n 3] (by kernel_rfl) (Obs.of (by kernel_rfl) (And.intro g_1 (And.intro g_2 (And.intro (nt g_3) (And.intro g_4 (And.intro (value_Compare.spec e_6) g_7))))))
        · exact RunC.go [.n 1, .r [(0, .dec true)], .n 9, .r [(3, .dec false)], .n 5, .r [(3, .call (.p (.int .i64 y_5)) [])], .n 1, .r [(1, .dec false)], .n 5, .k [0, 1, 2, 11, 12, 13]] (by kernel_rfl) (Obs.of (by kernel_rfl) (And.intro g_1 (And.intro g_2 (And.intro (nt g_3) (And.intro g_4 (And.intro (value_Compare.spec e_6) (nt g_7))))))) (ih _ _ _ _ _ r h)
    · rcases ite_or h with ⟨g_8, h⟩ | ⟨g_8, h⟩
      · obtain rfl := Option.some.inj h
        exact RunC.out [.n 1, .r [(0, .dec false)], .n 5, .r [(4, .dec true)], .n 3] (by kernel_rfl) (Obs.of (by kernel_rfl) (And.intro (nt g_1) g_8))
      · obtain rfl := Option.some.inj h
        exact RunC.out [.n 1, .r [(0, .dec false)], .n 5, .r [(4, .dec false)], .n 4] (by kernel_rfl) (Obs.of (by kernel_rfl) (And.intro (nt g_1) (nt g_8)))
theorem slices_CompareFunc_api_Value__value_Compare.run   {k : Nat} {s10 : (List TValue)} {s21 : (List TValue)} {r : Int} (h : slices_CompareFunc_api_Value__value_Compare k s10 s21 = some r) : RunC Try.prog Try.f75 slices_CompareFunc_api_Value__value_Compare.t (slices_CompareFunc_api_Value__value_Compare.s s10 s21) (.p (.int .i64 r)) [] := by
  unfold slices_CompareFunc_api_Value__value_Compare at h
  exact RunC.go [.n 7, .k [0, 1, 2, 11, 12, 13]] (by kernel_rfl) (Obs.tt (by kernel_rfl)) (slices_CompareFunc_api_Value__value_Compare.p1.run k _ _ _ _ _ r h)
theorem slices_CompareFunc_api_Value__value_Compare.p1.mono   : ∀ (k k' : Nat) (s10 : (List TValue)) (s21 : (List TValue)) (v11 : (List TValue)) (v12 : Int) (v13 : Int) (r : Int), k ≤ k' → slices_CompareFunc_api_Value__value_Compare.p1 k s10 s21 v11 v12 v13 = some r → slices_CompareFunc_api_Value__value_Compare.p1 k' s10 s21 v11 v12 v13 = some r := by
  intro k
  induction k with
  | zero => intro k' s10 s21 v11 v12 v13 r hk h; simp [slices_CompareFunc_api_Value__value_Compare.p1] at h
  | succ k ih =>
    intro k' s10 s21 v11 v12 v13 r hk h
    obtain ⟨k', rfl⟩ : ∃ m, k' = m + 1 := ⟨k' - 1, by omega⟩
    replace hk := Nat.le_of_succ_le_succ hk
    rw [slices_CompareFunc_api_Value__value_Compare.p1] at h ⊢
    rcases ite_or h with ⟨g_1, h⟩ | ⟨g_1, h⟩
    · refine itp g_1 ?_
      obtain ⟨g_2, h⟩ := ite_some h
      refine itp g_2 ?_
      rcases ite_or h with ⟨g_3, h⟩ | ⟨g_3, h⟩
      · refine itp g_3 ?_
        exact h
      · refine itn g_3 ?_
        obtain ⟨g_4, h⟩ := ite_some h
        refine itp g_4 ?_
        obtain ⟨y_5, e_6, h⟩ := bind_or h
        refine bnd (value_Compare.mono _ _ _ _ _ hk e_6) ?_
        rcases ite_or h with ⟨g_7, h⟩ | ⟨g_7, h⟩
        · refine itp g_7 ?_
          exact h
        · refine itn g_7 ?_
          exact ih _ _ _ _ _ _ r hk h
    · refine itn g_1 ?_
      rcases ite_or h with ⟨g_8, h⟩ | ⟨g_8, h⟩
      · refine itp g_8 ?_
        exact h
      · refine itn g_8 ?_
        exact h
theorem slices_CompareFunc_api_Value__value_Compare.mono   : ∀ (k k' : Nat) (s10 : (List TValue)) (s21 : (List TValue)) (r : Int), k ≤ k' → slices_CompareFunc_api_Value__value_Compare k s10 s21 = some r → slices_CompareFunc_api_Value__value_Compare k' s10 s21 = some r := by
  intro k k' s10 s21 r hk h
  unfold slices_CompareFunc_api_Value__value_Compare at h ⊢
  exact slices_CompareFunc_api_Value__value_Compare.p1.mono _ _ _ _ _ _ _ r hk h
theorem slices_CompareFunc_api_Value__value_Compare.spec {k : Nat} {s10 : (List TValue)} {s21 : (List TValue)} {r : Int} (h : slices_CompareFunc_api_Value__value_Compare k s10 s21 = some r) : Spec Try.prog 75 [.p (eL 3 cValue dValue s10), .p (eL 3 cValue dValue s21), .fn 43 []] (.p (.int .i64 r)) [] :=
  spec_of mix Try.func75 (body := bodyOf Try.f75) (by kernel_rfl) (by kernel_rfl) (slices_CompareFunc_api_Value__value_Compare.run h)
end Go.Proofs.YtjhnpaenhdbhpabV
set_option linter.unusedVariables false
set_option linter.unusedSimpArgs false
set_option maxRecDepth 100000
namespace Go.Proofs.YtjhnpaenhdbhpabV
open Go Go.RowKit
noncomputable def value_CompareRows  (k : Nat) (a0 : (List TValue)) (b1 : (List TValue)) : Option Int := (slices_CompareFunc_api_Value__value_Compare k a0 b1).bind fun y_1 => (some y_1)
noncomputable def value_CompareRows.t : List Item := [.code (bodyOf Try.f65)]
noncomputable def value_CompareRows.s (a0 : (List TValue)) (b1 : (List TValue)) : St := ⟨frOf Try.f65.ntmps 0 [(0, .p (eL 3 cValue dValue a0)), (1, .p (eL 3 cValue dValue b1))], []⟩
theorem value_CompareRows.run   {k : Nat} {a0 : (List TValue)} {b1 : (List TValue)} {r : Int} (h : value_CompareRows k a0 b1 = some r) : RunC Try.prog Try.f65 value_CompareRows.t (value_CompareRows.s a0 b1) (.p (.int .i64 r)) [] := by
  unfold value_CompareRows at h
  obtain ⟨y_1, e_2, h⟩ := bind_or h
  obtain rfl := Option.some.inj h
  exact RunC.out [.n 3, .r [(2, .call (.p (.int .i64 y_1)) [])]] (by kernel_rfl) (Obs.of (by kernel_rfl) (slices_CompareFunc_api_Value__value_Compare.spec e_2))
theorem value_CompareRows.mono   : ∀ (k k' : Nat) (a0 : (List TValue)) (b1 : (List TValue)) (r : Int), k ≤ k' → value_CompareRows k a0 b1 = some r → value_CompareRows k' a0 b1 = some r := by
  intro k k' a0 b1 r hk h
  unfold value_CompareRows at h ⊢
  obtain ⟨y_1, e_2, h⟩ := bind_or h
  refine bnd (slices_CompareFunc_api_Value__value_Compare.mono _ _ _ _ _ hk e_2) ?_
  exact h
theorem value_CompareRows.spec {k : Nat} {a0 : (List TValue)} {b1 : (List TValue)} {r : Int} (h : value_CompareRows k a0 b1 = some r) : Spec Try.prog 65 [.p (eL 3 cValue dValue a0), .p (eL 3 cValue dValue b1)] (.p (.int .i64 r)) [] :=
  spec_of mix Try.func65 (body := bodyOf Try.f65) (by kernel_rfl) (by kernel_rfl) (value_CompareRows.run h)
end Go.Proofs.YtjhnpaenhdbhpabV
set_option linter.unusedVariables false
set_option linter.unusedSimpArgs false
set_option maxRecDepth 100000
namespace Go.Proofs.YtjhnpaenhdbhpabV
open Go Go.RowKit
noncomputable def bag_Valid.p1  : Nat → (List TEntry) → (List TEntry) → Int → Int → Option Bool
  | 0, _, _, _, _ => none
  | k + 1, b0, v5, v6, v7 => if (decide (v7 < v6)) = true then (if 0 ≤ v7 ∧ v7 < ((v5).length : Int) then ((bag_entryFits k (v5.getD v7.toNat dEntry)).bind fun y_3 => (if (!y_3) = true then (some false) else (if ((v5.getD v7.toNat dEntry).f1 == 0) = true then (some false) else (if (decide (v7 > 0)) = true then (if 0 ≤ (IntKind.i64.wrap (v7 - 1)) ∧ (IntKind.i64.wrap (v7 - 1)) < ((b0).length : Int) then ((value_CompareRows k ((b0.getD (IntKind.i64.wrap (v7 - 1)).toNat dEntry).f0) ((v5.getD v7.toNat dEntry).f0)).bind fun y_9 => (if (decide (y_9 ≥ 0)) = true then (some false) else (bag_Valid.p1 k b0 v5 v6 (IntKind.i64.wrap (v7 + 1))))) else none) else (bag_Valid.p1 k b0 v5 v6 (IntKind.i64.wrap (v7 + 1))))))) else none) else (some (decide (((b0).length : Int) ≤ 4096)))
noncomputable def bag_Valid  (k : Nat) (b0 : (List TEntry)) : Option Bool := bag_Valid.p1 k b0 b0 ((b0).length : Int) 0
noncomputable def bag_Valid.t : List Item := [.code (bodyOf Try.f51)]
noncomputable def bag_Valid.s (b0 : (List TEntry)) : St := ⟨frOf Try.f51.ntmps 0 [(0, .p (eL 2 cEntry dEntry b0))], []⟩
noncomputable def bag_Valid.p1.t : List Item := nav 7 [] bag_Valid.t
noncomputable def bag_Valid.p1.s (b0 : (List TEntry)) (v5 : (List TEntry)) (v6 : Int) (v7 : Int) : St := ⟨frOf Try.f51.ntmps 0 [(0, .p (eL 2 cEntry dEntry b0)), (5, .p (eL 2 cEntry dEntry v5)), (6, .p (.int .i64 v6)), (7, .p (.int .i64 v7))], []⟩
theorem bag_Valid.p1.run   : ∀ (k : Nat) (b0 : (List TEntry)) (v5 : (List TEntry)) (v6 : Int) (v7 : Int) (r : Bool), bag_Valid.p1 k b0 v5 v6 v7 = some r → RunC Try.prog Try.f51 bag_Valid.p1.t (bag_Valid.p1.s b0 v5 v6 v7) (.p (.bool r)) [] := by
  intro k
  induction k with
  | zero => intro b0 v5 v6 v7 r h; simp [bag_Valid.p1] at h
  | succ k ih =>
    intro b0 v5 v6 v7 r h
    rw [bag_Valid.p1] at h
    rcases ite_or h with ⟨g_1, h⟩ | ⟨g_1, h⟩
    · obtain ⟨g_2, h⟩ := ite_some h
      obtain ⟨y_3, e_4, h⟩ := bind_or h
      rcases ite_or h with ⟨g_5, h⟩ | ⟨g_5, h⟩
      · obtain rfl := Option.some.inj h
        exact RunC.out [.n 1, .r [(0, .dec true)], .n 8, .r [(1, .call (.p (.bool y_3)) []), (3, .dec true)], .n 3] (by kernel_rfl) (Obs.of (by kernel_rfl) (And.intro g_1 (And.intro g_2 (And.intro (bag_entryFits.spec e_4) g_5))))
      · rcases ite_or h with ⟨g_6, h⟩ | ⟨g_6, h⟩
        · obtain rfl := Option.some.inj h
          exact RunC.out [.n 1, .r [(0, .dec true)], .n 8, .r [(1, .call (.p (.bool y_3)) []), (3, .dec false), (8, .dec true)], .n 3] (by kernel_rfl) (Obs.of (by kernel_rfl) (And.intro g_1 (And.intro g_2 (And.intro (bag_entryFits.spec e_4) (And.intro (nt g_5) g_6)))))
        · rcases ite_or h with ⟨g_7, h⟩ | ⟨g_7, h⟩
          · obtain ⟨g_8, h⟩ := ite_some h
            obtain ⟨y_9, e_10, h⟩ := bind_or h
            rcases ite_or h with ⟨g_11, h⟩ | ⟨g_11, h⟩
            · obtain rfl := Option.some.inj h
              exact RunC.out [.n 1, .r [(0, .dec true)], .n 8, .r [(1, .call (.p (.bool y_3)) []), (3, .dec false), (8, .dec false), (11, .dec true), (20, .call (.p (.int .i64 y_9)) []), (23, .dec true)], .n 3] (by kernel_rfl) (Obs.of (by kernel_rfl) (And.intro g_1 (And.intro g_2 (And.intro (bag_entryFits.spec e_4) (And.intro (nt g_5) (And.intro (nt g_6) (And.intro g_7 (And.intro g_8 (And.intro (value_CompareRows.spec e_10) g_11)))))))))
            · exact RunC.go [.n 1, .r [(0, .dec true)], .n 8, .r [(1, .call (.p (.bool y_3)) []), (3, .dec false), (8, .dec false), (11, .dec true), (20, .call (.p (.int .i64 y_9)) []), (23, .dec false)], .n 5, .k [0, 5, 6, 7]] (by kernel_rfl) (Obs.of (by kernel_rfl) (And.intro g_1 (And.intro g_2 (And.intro (bag_entryFits.spec e_4) (And.intro (nt g_5) (And.intro (nt g_6) (And.intro g_7 (And.intro g_8 (And.intro (value_CompareRows.spec e_10) (nt g_11)))))))))) (ih _ _ _ _ r h)
          · exact RunC.go [.n 1, .r [(0, .dec true)], .n 8, .r [(1, .call (.p (.bool y_3)) []), (3, .dec false), (8, .dec false), (11, .dec false)], .n 5, .k [0, 5, 6, 7]] (by kernel_rfl) (Obs.of (by kernel_rfl) (And.intro g_1 (And.intro g_2 (And.intro (bag_entryFits.spec e_4) (And.intro (nt g_5) (And.intro (nt g_6) (nt g_7))))))) (ih _ _ _ _ r h)
    · obtain rfl := Option.some.inj h
      exact RunC.out [.n 1, .r [(0, .dec false)], .n 5] (by kernel_rfl) (Obs.of (by kernel_rfl) (nt g_1))
theorem bag_Valid.run   {k : Nat} {b0 : (List TEntry)} {r : Bool} (h : bag_Valid k b0 = some r) : RunC Try.prog Try.f51 bag_Valid.t (bag_Valid.s b0) (.p (.bool r)) [] := by
  unfold bag_Valid at h
  exact RunC.go [.n 7, .k [0, 5, 6, 7]] (by kernel_rfl) (Obs.tt (by kernel_rfl)) (bag_Valid.p1.run k _ _ _ _ r h)
theorem bag_Valid.p1.mono   : ∀ (k k' : Nat) (b0 : (List TEntry)) (v5 : (List TEntry)) (v6 : Int) (v7 : Int) (r : Bool), k ≤ k' → bag_Valid.p1 k b0 v5 v6 v7 = some r → bag_Valid.p1 k' b0 v5 v6 v7 = some r := by
  intro k
  induction k with
  | zero => intro k' b0 v5 v6 v7 r hk h; simp [bag_Valid.p1] at h
  | succ k ih =>
    intro k' b0 v5 v6 v7 r hk h
    obtain ⟨k', rfl⟩ : ∃ m, k' = m + 1 := ⟨k' - 1, by omega⟩
    replace hk := Nat.le_of_succ_le_succ hk
    rw [bag_Valid.p1] at h ⊢
    rcases ite_or h with ⟨g_1, h⟩ | ⟨g_1, h⟩
    · refine itp g_1 ?_
      obtain ⟨g_2, h⟩ := ite_some h
      refine itp g_2 ?_
      obtain ⟨y_3, e_4, h⟩ := bind_or h
      refine bnd (bag_entryFits.mono _ _ _ _ hk e_4) ?_
      rcases ite_or h with ⟨g_5, h⟩ | ⟨g_5, h⟩
      · refine itp g_5 ?_
        exact h
      · refine itn g_5 ?_
        rcases ite_or h with ⟨g_6, h⟩ | ⟨g_6, h⟩
        · refine itp g_6 ?_
          exact h
        · refine itn g_6 ?_
          rcases ite_or h with ⟨g_7, h⟩ | ⟨g_7, h⟩
          · refine itp g_7 ?_
            obtain ⟨g_8, h⟩ := ite_some h
            refine itp g_8 ?_
            obtain ⟨y_9, e_10, h⟩ := bind_or h
            refine bnd (value_CompareRows.mono _ _ _ _ _ hk e_10) ?_
            rcases ite_or h with ⟨g_11, h⟩ | ⟨g_11, h⟩
            · refine itp g_11 ?_
              exact h
            · refine itn g_11 ?_
              exact ih _ _ _ _ _ r hk h
          · refine itn g_7 ?_
            exact ih _ _ _ _ _ r hk h
    · refine itn g_1 ?_
      exact h
theorem bag_Valid.mono   : ∀ (k k' : Nat) (b0 : (List TEntry)) (r : Bool), k ≤ k' → bag_Valid k b0 = some r → bag_Valid k' b0 = some r := by
  intro k k' b0 r hk h
  unfold bag_Valid at h ⊢
  exact bag_Valid.p1.mono _ _ _ _ _ _ r hk h
theorem bag_Valid.spec {k : Nat} {b0 : (List TEntry)} {r : Bool} (h : bag_Valid k b0 = some r) : Spec Try.prog 51 [.p (eL 2 cEntry dEntry b0)] (.p (.bool r)) [] :=
  spec_of mix Try.func51 (body := bodyOf Try.f51) (by kernel_rfl) (by kernel_rfl) (bag_Valid.run h)
end Go.Proofs.YtjhnpaenhdbhpabV
set_option linter.unusedVariables false
set_option linter.unusedSimpArgs false
set_option maxRecDepth 100000
namespace Go.Proofs.YtjhnpaenhdbhpabV
open Go Go.RowKit
noncomputable def cache_inDays  (k : Nat) (n0 : Int) : Option Bool := if (decide (n0 ≥ 0)) = true then (some (decide (n0 ≤ 1048576))) else (some false)
noncomputable def cache_inDays.t : List Item := [.code (bodyOf Try.f49)]
noncomputable def cache_inDays.s (n0 : Int) : St := ⟨frOf Try.f49.ntmps 0 [(0, .p (.int .i64 n0))], []⟩
theorem cache_inDays.run   {k : Nat} {n0 : Int} {r : Bool} (h : cache_inDays k n0 = some r) : RunC Try.prog Try.f49 cache_inDays.t (cache_inDays.s n0) (.p (.bool r)) [] := by
  unfold cache_inDays at h
  rcases ite_or h with ⟨g_1, h⟩ | ⟨g_1, h⟩
  · obtain rfl := Option.some.inj h
    exact RunC.out [.n 3, .r [(2, .dec true)]] (by kernel_rfl) (Obs.of (by kernel_rfl) g_1)
  · obtain rfl := Option.some.inj h
    exact RunC.out [.n 3, .r [(2, .dec false)]] (by kernel_rfl) (Obs.of (by kernel_rfl) (nt g_1))
theorem cache_inDays.mono   : ∀ (k k' : Nat) (n0 : Int) (r : Bool), k ≤ k' → cache_inDays k n0 = some r → cache_inDays k' n0 = some r := by
  intro k k' n0 r hk h
  unfold cache_inDays at h ⊢
  rcases ite_or h with ⟨g_1, h⟩ | ⟨g_1, h⟩
  · refine itp g_1 ?_
    exact h
  · refine itn g_1 ?_
    exact h
theorem cache_inDays.spec {k : Nat} {n0 : Int} {r : Bool} (h : cache_inDays k n0 = some r) : Spec Try.prog 49 [.p (.int .i64 n0)] (.p (.bool r)) [] :=
  spec_of mix Try.func49 (body := bodyOf Try.f49) (by kernel_rfl) (by kernel_rfl) (cache_inDays.run h)
end Go.Proofs.YtjhnpaenhdbhpabV
set_option linter.unusedVariables false
set_option linter.unusedSimpArgs false
set_option maxRecDepth 100000
namespace Go.Proofs.YtjhnpaenhdbhpabV
open Go Go.RowKit
noncomputable def cache_Valid.p1  : Nat → (List TCached) → Int → Option Bool
  | 0, _, _ => none
  | k + 1, s0, i3 => if (decide (i3 < ((s0).length : Int))) = true then (if 0 ≤ i3 ∧ i3 < ((s0).length : Int) then ((value_Valid k ((s0.getD i3.toNat dCached).f0)).bind fun y_4 => (if (!y_4) = true then (some false) else (if (decide (i3 > 0)) = true then (if 0 ≤ (IntKind.i64.wrap (i3 - 1)) ∧ (IntKind.i64.wrap (i3 - 1)) < ((s0).length : Int) then ((value_Compare k ((s0.getD (IntKind.i64.wrap (i3 - 1)).toNat dCached).f0) ((s0.getD i3.toNat dCached).f0)).bind fun y_9 => (if (decide (y_9 ≥ 0)) = true then (some false) else ((bag_Valid k ((s0.getD i3.toNat dCached).f1)).bind fun y_12 => (if (!y_12) = true then (some false) else ((cache_inDays k ((s0.getD i3.toNat dCached).f2)).bind fun y_15 => (if (!y_15) = true then (some false) else (cache_Valid.p1 k s0 (IntKind.i64.wrap (i3 + 1))))))))) else none) else ((bag_Valid k ((s0.getD i3.toNat dCached).f1)).bind fun y_18 => (if (!y_18) = true then (some false) else ((cache_inDays k ((s0.getD i3.toNat dCached).f2)).bind fun y_21 => (if (!y_21) = true then (some false) else (cache_Valid.p1 k s0 (IntKind.i64.wrap (i3 + 1)))))))))) else none) else (some true)
noncomputable def cache_Valid  (k : Nat) (s0 : (List TCached)) : Option Bool := if (decide (((s0).length : Int) > 16)) = true then (some false) else (cache_Valid.p1 k s0 0)
noncomputable def cache_Valid.t : List Item := [.code (bodyOf Try.f27)]
noncomputable def cache_Valid.s (s0 : (List TCached)) : St := ⟨frOf Try.f27.ntmps 0 [(0, .p (eL 5 cCached dCached s0))], []⟩
noncomputable def cache_Valid.p1.t : List Item := nav 12 [false] cache_Valid.t
noncomputable def cache_Valid.p1.s (s0 : (List TCached)) (i3 : Int) : St := ⟨frOf Try.f27.ntmps 0 [(0, .p (eL 5 cCached dCached s0)), (3, .p (.int .i64 i3))], []⟩
theorem cache_Valid.p1.run   : ∀ (k : Nat) (s0 : (List TCached)) (i3 : Int) (r : Bool), cache_Valid.p1 k s0 i3 = some r → RunC Try.prog Try.f27 cache_Valid.p1.t (cache_Valid.p1.s s0 i3) (.p (.bool r)) [] := by
  intro k
  induction k with
  | zero => intro s0 i3 r h; simp [cache_Valid.p1] at h
  | succ k ih =>
    intro s0 i3 r h
    rw [cache_Valid.p1] at h
    rcases ite_or h with ⟨g_2, h⟩ | ⟨g_2, h⟩
    · obtain ⟨g_3, h⟩ := ite_some h
      obtain ⟨y_4, e_5, h⟩ := bind_or h
      rcases ite_or h with ⟨g_6, h⟩ | ⟨g_6, h⟩
      · obtain rfl := Option.some.inj h
        exact RunC.out [.n 2, .r [(3, .dec true)], .n 7, .r [(2, .call (.p (.bool y_4)) []), (4, .dec true)], .n 3] (by kernel_rfl) (Obs.of (by kernel_rfl) (And.intro g_2 (And.intro g_3 (And.intro (value_Valid.spec e_5) g_6))))
      · rcases ite_or h with ⟨g_7, h⟩ | ⟨g_7, h⟩
        · obtain ⟨g_8, h⟩ := ite_some h
          obtain ⟨y_9, e_10, h⟩ := bind_or h
          rcases ite_or h with ⟨g_11, h⟩ | ⟨g_11, h⟩
          · obtain rfl := Option.some.inj h
            exact RunC.out [.n 2, .r [(3, .dec true)], .n 7, .r [(2, .call (.p (.bool y_4)) []), (4, .dec false), (7, .dec true), (16, .call (.p (.int .i64 y_9)) []), (20, .dec true)], .n 3] (by kernel_rfl) (Obs.of (by kernel_rfl) (And.intro g_2 (And.intro g_3 (And.intro (value_Valid.spec e_5) (And.intro (nt g_6) (And.intro g_7 (And.intro g_8 (And.intro (value_Compare.spec e_10) g_11))))))))
          · obtain ⟨y_12, e_13, h⟩ := bind_or h
            rcases ite_or h with ⟨g_14, h⟩ | ⟨g_14, h⟩
            · obtain rfl := Option.some.inj h
              exact RunC.out [.n 2, .r [(3, .dec true)], .n 7, .r [(2, .call (.p (.bool y_4)) []), (4, .dec false), (7, .dec true), (16, .call (.p (.int .i64 y_9)) []), (20, .dec false), (23, .call (.p (.bool y_12)) []), (26, .dec true)], .n 3] (by kernel_rfl) (Obs.of (by kernel_rfl) (And.intro g_2 (And.intro g_3 (And.intro (value_Valid.spec e_5) (And.intro (nt g_6) (And.intro g_7 (And.intro g_8 (And.intro (value_Compare.spec e_10) (And.intro (nt g_11) (And.intro (bag_Valid.spec e_13) g_14))))))))))
            · obtain ⟨y_15, e_16, h⟩ := bind_or h
              rcases ite_or h with ⟨g_17, h⟩ | ⟨g_17, h⟩
              · obtain rfl := Option.some.inj h
                exact RunC.out [.n 2, .r [(3, .dec true)], .n 7, .r [(2, .call (.p (.bool y_4)) []), (4, .dec false), (7, .dec true), (16, .call (.p (.int .i64 y_9)) []), (20, .dec false), (23, .call (.p (.bool y_12)) []), (26, .dec false), (29, .call (.p (.bool y_15)) []), (31, .dec true)], .n 3] (by kernel_rfl) (Obs.of (by kernel_rfl) (And.intro g_2 (And.intro g_3 (And.intro (value_Valid.spec e_5) (And.intro (nt g_6) (And.intro g_7 (And.intro g_8 (And.intro (value_Compare.spec e_10) (And.intro (nt g_11) (And.intro (bag_Valid.spec e_13) (And.intro (nt g_14) (And.intro (cache_inDays.spec e_16) g_17))))))))))))
              · exact RunC.go [.n 2, .r [(3, .dec true)], .n 7, .r [(2, .call (.p (.bool y_4)) []), (4, .dec false), (7, .dec true), (16, .call (.p (.int .i64 y_9)) []), (20, .dec false), (23, .call (.p (.bool y_12)) []), (26, .dec false), (29, .call (.p (.bool y_15)) []), (31, .dec false)], .n 5, .k [0, 3]] (by kernel_rfl) (Obs.of (by kernel_rfl) (And.intro g_2 (And.intro g_3 (And.intro (value_Valid.spec e_5) (And.intro (nt g_6) (And.intro g_7 (And.intro g_8 (And.intro (value_Compare.spec e_10) (And.intro (nt g_11) (And.intro (bag_Valid.spec e_13) (And.intro (nt g_14) (And.intro (cache_inDays.spec e_16) (nt g_17))))))))))))) (ih _ _ r h)
        · obtain ⟨y_18, e_19, h⟩ := bind_or h
          rcases ite_or h with ⟨g_20, h⟩ | ⟨g_20, h⟩
          · obtain rfl := Option.some.inj h
            exact RunC.out [.n 2, .r [(3, .dec true)], .n 7, .r [(2, .call (.p (.bool y_4)) []), (4, .dec false), (7, .dec false), (23, .call (.p (.bool y_18)) []), (26, .dec true)], .n 3] (by kernel_rfl) (Obs.of (by kernel_rfl) (And.intro g_2 (And.intro g_3 (And.intro (value_Valid.spec e_5) (And.intro (nt g_6) (And.intro (nt g_7) (And.intro (bag_Valid.spec e_19) g_20)))))))
          · obtain ⟨y_21, e_22, h⟩ := bind_or h
            rcases ite_or h with ⟨g_23, h⟩ | ⟨g_23, h⟩
            · obtain rfl := Option.some.inj h
              exact RunC.out [.n 2, .r [(3, .dec true)], .n 7, .r [(2, .call (.p (.bool y_4)) []), (4, .dec false), (7, .dec false), (23, .call (.p (.bool y_18)) []), (26, .dec false), (29, .call (.p (.bool y_21)) []), (31, .dec true)], .n 3] (by kernel_rfl) (Obs.of (by kernel_rfl) (And.intro g_2 (And.intro g_3 (And.intro (value_Valid.spec e_5) (And.intro (nt g_6) (And.intro (nt g_7) (And.intro (bag_Valid.spec e_19) (And.intro (nt g_20) (And.intro (cache_inDays.spec e_22) g_23)))))))))
            · exact RunC.go [.n 2, .r [(3, .dec true)], .n 7, .r [(2, .call (.p (.bool y_4)) []), (4, .dec false), (7, .dec false), (23, .call (.p (.bool y_18)) []), (26, .dec false), (29, .call (.p (.bool y_21)) []), (31, .dec false)], .n 5, .k [0, 3]] (by kernel_rfl) (Obs.of (by kernel_rfl) (And.intro g_2 (And.intro g_3 (And.intro (value_Valid.spec e_5) (And.intro (nt g_6) (And.intro (nt g_7) (And.intro (bag_Valid.spec e_19) (And.intro (nt g_20) (And.intro (cache_inDays.spec e_22) (nt g_23)))))))))) (ih _ _ r h)
    · obtain rfl := Option.some.inj h
      exact RunC.out [.n 2, .r [(3, .dec false)], .n 4] (by kernel_rfl) (Obs.of (by kernel_rfl) (nt g_2))
theorem cache_Valid.run   {k : Nat} {s0 : (List TCached)} {r : Bool} (h : cache_Valid k s0 = some r) : RunC Try.prog Try.f27 cache_Valid.t (cache_Valid.s s0) (.p (.bool r)) [] := by
  unfold cache_Valid at h
  rcases ite_or h with ⟨g_1, h⟩ | ⟨g_1, h⟩
  · obtain rfl := Option.some.inj h
    exact RunC.out [.n 4, .r [(2, .dec true)], .n 3] (by kernel_rfl) (Obs.of (by kernel_rfl) g_1)
  · exact RunC.go [.n 4, .r [(2, .dec false)], .n 7, .k [0, 3]] (by kernel_rfl) (Obs.of (by kernel_rfl) (nt g_1)) (cache_Valid.p1.run k _ _ r h)
theorem cache_Valid.p1.mono   : ∀ (k k' : Nat) (s0 : (List TCached)) (i3 : Int) (r : Bool), k ≤ k' → cache_Valid.p1 k s0 i3 = some r → cache_Valid.p1 k' s0 i3 = some r := by
  intro k
  induction k with
  | zero => intro k' s0 i3 r hk h; simp [cache_Valid.p1] at h
  | succ k ih =>
    intro k' s0 i3 r hk h
    obtain ⟨k', rfl⟩ : ∃ m, k' = m + 1 := ⟨k' - 1, by omega⟩
    replace hk := Nat.le_of_succ_le_succ hk
    rw [cache_Valid.p1] at h ⊢
    rcases ite_or h with ⟨g_2, h⟩ | ⟨g_2, h⟩
    · refine itp g_2 ?_
      obtain ⟨g_3, h⟩ := ite_some h
      refine itp g_3 ?_
      obtain ⟨y_4, e_5, h⟩ := bind_or h
      refine bnd (value_Valid.mono _ _ _ _ hk e_5) ?_
      rcases ite_or h with ⟨g_6, h⟩ | ⟨g_6, h⟩
      · refine itp g_6 ?_
        exact h
      · refine itn g_6 ?_
        rcases ite_or h with ⟨g_7, h⟩ | ⟨g_7, h⟩
        · refine itp g_7 ?_
          obtain ⟨g_8, h⟩ := ite_some h
          refine itp g_8 ?_
          obtain ⟨y_9, e_10, h⟩ := bind_or h
          refine bnd (value_Compare.mono _ _ _ _ _ hk e_10) ?_
          rcases ite_or h with ⟨g_11, h⟩ | ⟨g_11, h⟩
          · refine itp g_11 ?_
            exact h
          · refine itn g_11 ?_
            obtain ⟨y_12, e_13, h⟩ := bind_or h
            refine bnd (bag_Valid.mono _ _ _ _ hk e_13) ?_
            rcases ite_or h with ⟨g_14, h⟩ | ⟨g_14, h⟩
            · refine itp g_14 ?_
              exact h
            · refine itn g_14 ?_
              obtain ⟨y_15, e_16, h⟩ := bind_or h
              refine bnd (cache_inDays.mono _ _ _ _ hk e_16) ?_
              rcases ite_or h with ⟨g_17, h⟩ | ⟨g_17, h⟩
              · refine itp g_17 ?_
                exact h
              · refine itn g_17 ?_
                exact ih _ _ _ r hk h
        · refine itn g_7 ?_
          obtain ⟨y_18, e_19, h⟩ := bind_or h
          refine bnd (bag_Valid.mono _ _ _ _ hk e_19) ?_
          rcases ite_or h with ⟨g_20, h⟩ | ⟨g_20, h⟩
          · refine itp g_20 ?_
            exact h
          · refine itn g_20 ?_
            obtain ⟨y_21, e_22, h⟩ := bind_or h
            refine bnd (cache_inDays.mono _ _ _ _ hk e_22) ?_
            rcases ite_or h with ⟨g_23, h⟩ | ⟨g_23, h⟩
            · refine itp g_23 ?_
              exact h
            · refine itn g_23 ?_
              exact ih _ _ _ r hk h
    · refine itn g_2 ?_
      exact h
theorem cache_Valid.mono   : ∀ (k k' : Nat) (s0 : (List TCached)) (r : Bool), k ≤ k' → cache_Valid k s0 = some r → cache_Valid k' s0 = some r := by
  intro k k' s0 r hk h
  unfold cache_Valid at h ⊢
  rcases ite_or h with ⟨g_1, h⟩ | ⟨g_1, h⟩
  · refine itp g_1 ?_
    exact h
  · refine itn g_1 ?_
    exact cache_Valid.p1.mono _ _ _ _ r hk h
theorem cache_Valid.spec {k : Nat} {s0 : (List TCached)} {r : Bool} (h : cache_Valid k s0 = some r) : Spec Try.prog 27 [.p (eL 5 cCached dCached s0)] (.p (.bool r)) [] :=
  spec_of mix Try.func27 (body := bodyOf Try.f27) (by kernel_rfl) (by kernel_rfl) (cache_Valid.run h)
end Go.Proofs.YtjhnpaenhdbhpabV
set_option linter.unusedVariables false
set_option linter.unusedSimpArgs false
set_option maxRecDepth 100000
namespace Go.Proofs.YtjhnpaenhdbhpabV
open Go Go.RowKit
noncomputable def cache_usable  (k : Nat) (c0 : TCache) (s1 : (List TCached)) (rows2 : (List TEntry)) (day3 : Int) : Option Bool := (cache_Valid k s1).bind fun y_1 => (if y_1 = true then ((bag_Valid k rows2).bind fun y_4 => (if y_4 = true then ((cache_inDays k c0.f3).bind fun y_7 => (if y_7 = true then ((cache_inDays k day3).bind fun y_10 => (some y_10)) else (some false))) else (some false))) else (some false))
noncomputable def cache_usable.t : List Item := [.code (bodyOf Try.f42)]
noncomputable def cache_usable.s (c0 : TCache) (s1 : (List TCached)) (rows2 : (List TEntry)) (day3 : Int) : St := ⟨frOf Try.f42.ntmps 0 [(0, .agg ((cCache c0).map .p)), (1, .p (eL 5 cCached dCached s1)), (2, .p (eL 2 cEntry dEntry rows2)), (3, .p (.int .i64 day3))], []⟩
theorem cache_usable.run   {k : Nat} {c0 : TCache} {s1 : (List TCached)} {rows2 : (List TEntry)} {day3 : Int} {r : Bool} (h : cache_usable k c0 s1 rows2 day3 = some r) : RunC Try.prog Try.f42 cache_usable.t (cache_usable.s c0 s1 rows2 day3) (.p (.bool r)) [] := by
  unfold cache_usable at h
  obtain ⟨y_1, e_2, h⟩ := bind_or h
  rcases ite_or h with ⟨g_3, h⟩ | ⟨g_3, h⟩
  · obtain ⟨y_4, e_5, h⟩ := bind_or h
    rcases ite_or h with ⟨g_6, h⟩ | ⟨g_6, h⟩
    · obtain ⟨y_7, e_8, h⟩ := bind_or h
      rcases ite_or h with ⟨g_9, h⟩ | ⟨g_9, h⟩
      · obtain ⟨y_10, e_11, h⟩ := bind_or h
        obtain rfl := Option.some.inj h
        exact RunC.out [.n 3, .r [(1, .call (.p (.bool y_1)) []), (2, .dec true), (4, .call (.p (.bool y_4)) []), (6, .dec true), (9, .call (.p (.bool y_7)) []), (11, .dec true), (13, .call (.p (.bool y_10)) [])]] (by kernel_rfl) (Obs.of (by kernel_rfl) (And.intro (cache_Valid.spec e_2) (And.intro g_3 (And.intro (bag_Valid.spec e_5) (And.intro g_6 (And.intro (cache_inDays.spec e_8) (And.intro g_9 (cache_inDays.spec e_11))))))))
      · obtain rfl := Option.some.inj h
        exact RunC.out [.n 3, .r [(1, .call (.p (.bool y_1)) []), (2, .dec true), (4, .call (.p (.bool y_4)) []), (6, .dec true), (9, .call (.p (.bool y_7)) []), (11, .dec false)]] (by kernel_rfl) (Obs.of (by kernel_rfl) (And.intro (cache_Valid.spec e_2) (And.intro g_3 (And.intro (bag_Valid.spec e_5) (And.intro g_6 (And.intro (cache_inDays.spec e_8) (nt g_9)))))))
    · obtain rfl := Option.some.inj h
      exact RunC.out [.n 3, .r [(1, .call (.p (.bool y_1)) []), (2, .dec true), (4, .call (.p (.bool y_4)) []), (6, .dec false)]] (by kernel_rfl) (Obs.of (by kernel_rfl) (And.intro (cache_Valid.spec e_2) (And.intro g_3 (And.intro (bag_Valid.spec e_5) (nt g_6)))))
  · obtain rfl := Option.some.inj h
    exact RunC.out [.n 3, .r [(1, .call (.p (.bool y_1)) []), (2, .dec false)]] (by kernel_rfl) (Obs.of (by kernel_rfl) (And.intro (cache_Valid.spec e_2) (nt g_3)))
theorem cache_usable.mono   : ∀ (k k' : Nat) (c0 : TCache) (s1 : (List TCached)) (rows2 : (List TEntry)) (day3 : Int) (r : Bool), k ≤ k' → cache_usable k c0 s1 rows2 day3 = some r → cache_usable k' c0 s1 rows2 day3 = some r := by
  intro k k' c0 s1 rows2 day3 r hk h
  unfold cache_usable at h ⊢
  obtain ⟨y_1, e_2, h⟩ := bind_or h
  refine bnd (cache_Valid.mono _ _ _ _ hk e_2) ?_
  rcases ite_or h with ⟨g_3, h⟩ | ⟨g_3, h⟩
  · refine itp g_3 ?_
    obtain ⟨y_4, e_5, h⟩ := bind_or h
    refine bnd (bag_Valid.mono _ _ _ _ hk e_5) ?_
    rcases ite_or h with ⟨g_6, h⟩ | ⟨g_6, h⟩
    · refine itp g_6 ?_
      obtain ⟨y_7, e_8, h⟩ := bind_or h
      refine bnd (cache_inDays.mono _ _ _ _ hk e_8) ?_
      rcases ite_or h with ⟨g_9, h⟩ | ⟨g_9, h⟩
      · refine itp g_9 ?_
        obtain ⟨y_10, e_11, h⟩ := bind_or h
        refine bnd (cache_inDays.mono _ _ _ _ hk e_11) ?_
        exact h
      · refine itn g_9 ?_
        exact h
    · refine itn g_6 ?_
      exact h
  · refine itn g_3 ?_
    exact h
theorem cache_usable.spec {k : Nat} {c0 : TCache} {s1 : (List TCached)} {rows2 : (List TEntry)} {day3 : Int} {r : Bool} (h : cache_usable k c0 s1 rows2 day3 = some r) : Spec Try.prog 42 [.agg ((cCache c0).map .p), .p (eL 5 cCached dCached s1), .p (eL 2 cEntry dEntry rows2), .p (.int .i64 day3)] (.p (.bool r)) [] :=
  spec_of mix Try.func42 (body := bodyOf Try.f42) (by kernel_rfl) (by kernel_rfl) (cache_usable.run h)
end Go.Proofs.YtjhnpaenhdbhpabV
set_option linter.unusedVariables false
set_option linter.unusedSimpArgs false
set_option maxRecDepth 100000
namespace Go.Proofs.YtjhnpaenhdbhpabV
open Go Go.RowKit
noncomputable def cache_copied.p1  : Nat → (List TEntry) → Int → (List TEntry) → Option (List TEntry)
  | 0, _, _, _ => none
  | k + 1, l0, i4, out3 => if (decide (i4 < ((l0).length : Int))) = true then (if 0 ≤ i4 ∧ i4 < ((l0).length : Int) then (if ((l0.getD i4.toNat dEntry).f0).length ≤ maxLen ∧ ((l0.getD i4.toNat dEntry).f0).length * 32 ≤ 140737488355328 then (if (out3).length + ([(l0.getD i4.toNat dEntry)]).length ≤ maxLen ∧ ((out3).length + ([(l0.getD i4.toNat dEntry)]).length) * 32 ≤ 140737488355328 then (cache_copied.p1 k l0 (IntKind.i64.wrap (i4 + 1)) (out3 ++ ([(l0.getD i4.toNat dEntry)]))) else none) else none) else none) else (some out3)
noncomputable def cache_copied  (k : Nat) (l0 : (List TEntry)) : Option (List TEntry) := cache_copied.p1 k l0 0 ([] : List TEntry)
noncomputable def cache_copied.t : List Item := [.code (bodyOf Try.f39)]
noncomputable def cache_copied.s (l0 : (List TEntry)) : St := ⟨frOf Try.f39.ntmps 0 [(0, .p (eL 2 cEntry dEntry l0))], []⟩
noncomputable def cache_copied.p1.t : List Item := nav 9 [] cache_copied.t
noncomputable def cache_copied.p1.s (l0 : (List TEntry)) (i4 : Int) (out3 : (List TEntry)) : St := ⟨frOf Try.f39.ntmps 0 [(0, .p (eL 2 cEntry dEntry l0)), (3, .sref 0 36 2 (out3).length), (4, .p (.int .i64 i4))], [(oL true 36 2 cEntry dEntry out3)]⟩
theorem cache_copied.p1.run   : ∀ (k : Nat) (l0 : (List TEntry)) (i4 : Int) (out3 : (List TEntry)) (r : (List TEntry)), cache_copied.p1 k l0 i4 out3 = some r → RunC Try.prog Try.f39 cache_copied.p1.t (cache_copied.p1.s l0 i4 out3) (.sref 0 36 2 (r).length) [(oL true 36 2 cEntry dEntry (r))] := by
  intro k
  induction k with
  | zero => intro l0 i4 out3 r h; simp [cache_copied.p1] at h
  | succ k ih =>
    intro l0 i4 out3 r h
    rw [cache_copied.p1] at h
    rcases ite_or h with ⟨g_1, h⟩ | ⟨g_1, h⟩
    · obtain ⟨g_2, h⟩ := ite_some h
      obtain ⟨g_3, h⟩ := ite_some h
      obtain ⟨g_4, h⟩ := ite_some h
      exact RunC.go [.n 2, .r [(3, .dec true)], .n 4, .r [(13, .obj (oL true 36 2 cEntry dEntry [(l0.getD i4.toNat dEntry)])), (14, .obj (oL true 36 2 cEntry dEntry (out3 ++ ([(l0.getD i4.toNat dEntry)]))))], .n 3, .k [0, 3, 4]] (by kernel_rfl) (Obs.of (by kernel_rfl) (And.intro g_1 (And.intro g_2 (And.intro g_3 (And.intro g_2 (And.intro (le_one 36 2 cEntry dEntry (l0.getD i4.toNat dEntry)) (And.intro g_4 (le_app 36 2 cEntry dEntry out3 ([(l0.getD i4.toNat dEntry)]))))))))) (ih _ _ _ r h)
    · obtain rfl := Option.some.inj h
      exact RunC.out [.n 2, .r [(3, .dec false)], .n 4] (by kernel_rfl) (Obs.of (by kernel_rfl) (nt g_1))
theorem cache_copied.run   {k : Nat} {l0 : (List TEntry)} {r : (List TEntry)} (h : cache_copied k l0 = some r) : RunC Try.prog Try.f39 cache_copied.t (cache_copied.s l0) (.sref 0 36 2 (r).length) [(oL true 36 2 cEntry dEntry (r))] := by
  unfold cache_copied at h
  exact RunC.go [.n 1, .r [(0, .obj (oL true 36 2 cEntry dEntry ([] : List TEntry)))], .n 1, .r [(0, .obj (oL true 36 2 cEntry dEntry ([] : List TEntry)))], .n 5, .k [0, 3, 4]] (by kernel_rfl) (Obs.of (by kernel_rfl) (And.intro (le_nil 36 2 cEntry dEntry) (le_nil 36 2 cEntry dEntry))) (cache_copied.p1.run k _ _ _ r h)
theorem cache_copied.p1.mono   : ∀ (k k' : Nat) (l0 : (List TEntry)) (i4 : Int) (out3 : (List TEntry)) (r : (List TEntry)), k ≤ k' → cache_copied.p1 k l0 i4 out3 = some r → cache_copied.p1 k' l0 i4 out3 = some r := by
  intro k
  induction k with
  | zero => intro k' l0 i4 out3 r hk h; simp [cache_copied.p1] at h
  | succ k ih =>
    intro k' l0 i4 out3 r hk h
    obtain ⟨k', rfl⟩ : ∃ m, k' = m + 1 := ⟨k' - 1, by omega⟩
    replace hk := Nat.le_of_succ_le_succ hk
    rw [cache_copied.p1] at h ⊢
    rcases ite_or h with ⟨g_1, h⟩ | ⟨g_1, h⟩
    · refine itp g_1 ?_
      obtain ⟨g_2, h⟩ := ite_some h
      refine itp g_2 ?_
      obtain ⟨g_3, h⟩ := ite_some h
      refine itp g_3 ?_
      obtain ⟨g_4, h⟩ := ite_some h
      refine itp g_4 ?_
      exact ih _ _ _ _ r hk h
    · refine itn g_1 ?_
      exact h
theorem cache_copied.mono   : ∀ (k k' : Nat) (l0 : (List TEntry)) (r : (List TEntry)), k ≤ k' → cache_copied k l0 = some r → cache_copied k' l0 = some r := by
  intro k k' l0 r hk h
  unfold cache_copied at h ⊢
  exact cache_copied.p1.mono _ _ _ _ _ r hk h
theorem cache_copied.spec {k : Nat} {l0 : (List TEntry)} {r : (List TEntry)} (h : cache_copied k l0 = some r) : Spec Try.prog 39 [.p (eL 2 cEntry dEntry l0)] (.sref 0 36 2 (r).length) [(oL true 36 2 cEntry dEntry (r))] :=
  spec_of mix Try.func39 (body := bodyOf Try.f39) (by kernel_rfl) (by kernel_rfl) (cache_copied.run h)
end Go.Proofs.YtjhnpaenhdbhpabV
set_option linter.unusedVariables false
set_option linter.unusedSimpArgs false
set_option maxRecDepth 100000
namespace Go.Proofs.YtjhnpaenhdbhpabV
open Go Go.RowKit
noncomputable def cache_duplicate  (k : Nat) (x0 : TCached) : Option TCached := (cache_copied k x0.f1).bind fun y_1 => (some (TCached.mk x0.f0 y_1 x0.f2))
noncomputable def cache_duplicate.t : List Item := [.code (bodyOf Try.f48)]
noncomputable def cache_duplicate.s (x0 : TCached) : St := ⟨frOf Try.f48.ntmps 0 [(0, .agg ((cCached x0).map .p))], []⟩
theorem cache_duplicate.run   {k : Nat} {x0 : TCached} {r : TCached} (h : cache_duplicate k x0 = some r) : RunC Try.prog Try.f48 cache_duplicate.t (cache_duplicate.s x0) (.agg ((cCached r).map .p)) [] := by
  unfold cache_duplicate at h
  obtain ⟨y_1, e_2, h⟩ := bind_or h
  obtain rfl := Option.some.inj h
  exact RunC.out [.n 3, .r [(2, .call (.sref 0 36 2 (y_1).length) [(oL true 36 2 cEntry dEntry y_1)])], .n 2] (by kernel_rfl) (Obs.of (by kernel_rfl) (cache_copied.spec e_2))
theorem cache_duplicate.mono   : ∀ (k k' : Nat) (x0 : TCached) (r : TCached), k ≤ k' → cache_duplicate k x0 = some r → cache_duplicate k' x0 = some r := by
  intro k k' x0 r hk h
  unfold cache_duplicate at h ⊢
  obtain ⟨y_1, e_2, h⟩ := bind_or h
  refine bnd (cache_copied.mono _ _ _ _ hk e_2) ?_
  exact h
theorem cache_duplicate.spec {k : Nat} {x0 : TCached} {r : TCached} (h : cache_duplicate k x0 = some r) : Spec Try.prog 48 [.agg ((cCached x0).map .p)] (.agg ((cCached r).map .p)) [] :=
  spec_of mix Try.func48 (body := bodyOf Try.f48) (by kernel_rfl) (by kernel_rfl) (cache_duplicate.run h)
end Go.Proofs.YtjhnpaenhdbhpabV
set_option linter.unusedVariables false
set_option linter.unusedSimpArgs false
set_option maxRecDepth 100000
namespace Go.Proofs.YtjhnpaenhdbhpabV
open Go Go.RowKit
noncomputable def cache_Expire.p1  : Nat → (List TCached) → Int → Int → TCache → (List TCached) → Option (List TCached)
  | 0, _, _, _, _, _ => none
  | k + 1, s1, day2, i8, c3b, out7 => if (decide (i8 < ((s1).length : Int))) = true then (if 0 ≤ i8 ∧ i8 < ((s1).length : Int) then (if (decide (day2 ≥ (s1.getD i8.toNat dCached).f2)) = true then (if (decide (day2 < (IntKind.i64.wrap ((s1.getD i8.toNat dCached).f2 + c3b.f3)))) = true then ((cache_duplicate k (s1.getD i8.toNat dCached)).bind fun y_14 => (if (out7).length + ([y_14]).length ≤ maxLen ∧ ((out7).length + ([y_14]).length) * 64 ≤ 140737488355328 then (cache_Expire.p1 k s1 day2 (IntKind.i64.wrap (i8 + 1)) c3b (out7 ++ ([y_14]))) else none)) else (cache_Expire.p1 k s1 day2 (IntKind.i64.wrap (i8 + 1)) c3b out7)) else (cache_Expire.p1 k s1 day2 (IntKind.i64.wrap (i8 + 1)) c3b out7)) else none) else (some out7)
noncomputable def cache_Expire  (k : Nat) (c0 : TCache) (s1 : (List TCached)) (day2 : Int) : Option (List TCached) := (cache_Valid k s1).bind fun y_1 => (if (!y_1) = true then (some ([] : List TCached)) else ((cache_inDays k c0.f3).bind fun y_4 => (if (!y_4) = true then (some ([] : List TCached)) else ((cache_inDays k day2).bind fun y_7 => (if (!y_7) = true then (some ([] : List TCached)) else (cache_Expire.p1 k s1 day2 0 c0 ([] : List TCached)))))))
noncomputable def cache_Expire.t : List Item := [.code (bodyOf Try.f25)]
noncomputable def cache_Expire.s (c0 : TCache) (s1 : (List TCached)) (day2 : Int) : St := ⟨frOf Try.f25.ntmps 0 [(0, .agg ((cCache c0).map .p)), (1, .p (eL 5 cCached dCached s1)), (2, .p (.int .i64 day2))], []⟩
noncomputable def cache_Expire.p1.t : List Item := nav 14 [false] cache_Expire.t
noncomputable def cache_Expire.p1.s (s1 : (List TCached)) (day2 : Int) (i8 : Int) (c3b : TCache) (out7 : (List TCached)) : St := ⟨frOf Try.f25.ntmps 0 [(1, .p (eL 5 cCached dCached s1)), (2, .p (.int .i64 day2)), (3, .ptr 0 0 0), (7, .sref 1 46 5 (out7).length), (8, .p (.int .i64 i8))], [.box ((cCache c3b).map .p), (oL true 46 5 cCached dCached out7)]⟩
theorem cache_Expire.p1.run   : ∀ (k : Nat) (s1 : (List TCached)) (day2 : Int) (i8 : Int) (c3b : TCache) (out7 : (List TCached)) (r : (List TCached)), cache_Expire.p1 k s1 day2 i8 c3b out7 = some r → RunC Try.prog Try.f25 cache_Expire.p1.t (cache_Expire.p1.s s1 day2 i8 c3b out7) (.sref 0 46 5 (r).length) [(oL true 46 5 cCached dCached (r))] := by
  intro k
  induction k with
  | zero => intro s1 day2 i8 c3b out7 r h; simp [cache_Expire.p1] at h
  | succ k ih =>
    intro s1 day2 i8 c3b out7 r h
    rw [cache_Expire.p1] at h
    rcases ite_or h with ⟨g_10, h⟩ | ⟨g_10, h⟩
    · obtain ⟨g_11, h⟩ := ite_some h
      rcases ite_or h with ⟨g_12, h⟩ | ⟨g_12, h⟩
      · rcases ite_or h with ⟨g_13, h⟩ | ⟨g_13, h⟩
        · obtain ⟨y_14, e_15, h⟩ := bind_or h
          obtain ⟨g_16, h⟩ := ite_some h
          exact RunC.go [.n 2, .r [(3, .dec true)], .n 5, .r [(7, .dec true), (18, .dec true)], .n 1, .r [(5, .call (.agg ((cCached y_14).map .p)) []), (6, .obj (oL true 46 5 cCached dCached [y_14])), (7, .obj (oL true 46 5 cCached dCached (out7 ++ ([y_14]))))], .n 3, .k [1, 2, 3, 7, 8]] (by kernel_rfl) (Obs.of (by kernel_rfl) (And.intro g_10 (And.intro g_11 (And.intro g_12 (And.intro g_11 (And.intro g_13 (And.intro g_11 (And.intro (cache_duplicate.spec e_15) (And.intro (le_one 46 5 cCached dCached y_14) (And.intro g_16 (le_app 46 5 cCached dCached out7 ([y_14])))))))))))) (ih _ _ _ _ _ r h)
        · exact RunC.go [.n 2, .r [(3, .dec true)], .n 5, .r [(7, .dec true), (18, .dec false)], .n 5, .k [1, 2, 3, 7, 8]] (by kernel_rfl) (Obs.of (by kernel_rfl) (And.intro g_10 (And.intro g_11 (And.intro g_12 (And.intro g_11 (nt g_13)))))) (ih _ _ _ _ _ r h)
      · exact RunC.go [.n 2, .r [(3, .dec true)], .n 5, .r [(7, .dec false)], .n 5, .k [1, 2, 3, 7, 8]] (by kernel_rfl) (Obs.of (by kernel_rfl) (And.intro g_10 (And.intro g_11 (nt g_12)))) (ih _ _ _ _ _ r h)
    · obtain rfl := Option.some.inj h
      exact RunC.out [.n 2, .r [(3, .dec false)], .n 4] (by kernel_rfl) (Obs.of (by kernel_rfl) (nt g_10))
theorem cache_Expire.run   {k : Nat} {c0 : TCache} {s1 : (List TCached)} {day2 : Int} {r : (List TCached)} (h : cache_Expire k c0 s1 day2 = some r) : RunC Try.prog Try.f25 cache_Expire.t (cache_Expire.s c0 s1 day2) (.sref 0 46 5 (r).length) [(oL true 46 5 cCached dCached (r))] := by
  unfold cache_Expire at h
  obtain ⟨y_1, e_2, h⟩ := bind_or h
  rcases ite_or h with ⟨g_3, h⟩ | ⟨g_3, h⟩
  · obtain rfl := Option.some.inj h
    exact RunC.out [.n 1, .r [(1, .obj (oL true 46 5 cCached dCached ([] : List TCached)))], .n 2, .r [(1, .call (.p (.bool y_1)) []), (3, .dec true)], .n 2, .r [(0, .obj (oL true 46 5 cCached dCached ([] : List TCached)))]] (by kernel_rfl) (Obs.of (by kernel_rfl) (And.intro (le_nil 46 5 cCached dCached) (And.intro (cache_Valid.spec e_2) (And.intro g_3 (le_nil 46 5 cCached dCached)))))
  · obtain ⟨y_4, e_5, h⟩ := bind_or h
    rcases ite_or h with ⟨g_6, h⟩ | ⟨g_6, h⟩
    · obtain rfl := Option.some.inj h
      exact RunC.out [.n 1, .r [(1, .obj (oL true 46 5 cCached dCached ([] : List TCached)))], .n 2, .r [(1, .call (.p (.bool y_1)) []), (3, .dec false), (6, .call (.p (.bool y_4)) []), (9, .dec true)], .n 2, .r [(0, .obj (oL true 46 5 cCached dCached ([] : List TCached)))]] (by kernel_rfl) (Obs.of (by kernel_rfl) (And.intro (le_nil 46 5 cCached dCached) (And.intro (cache_Valid.spec e_2) (And.intro (nt g_3) (And.intro (cache_inDays.spec e_5) (And.intro g_6 (le_nil 46 5 cCached dCached)))))))
    · obtain ⟨y_7, e_8, h⟩ := bind_or h
      rcases ite_or h with ⟨g_9, h⟩ | ⟨g_9, h⟩
      · obtain rfl := Option.some.inj h
        exact RunC.out [.n 1, .r [(1, .obj (oL true 46 5 cCached dCached ([] : List TCached)))], .n 2, .r [(1, .call (.p (.bool y_1)) []), (3, .dec false), (6, .call (.p (.bool y_4)) []), (9, .dec false), (11, .call (.p (.bool y_7)) []), (13, .dec true)], .n 2, .r [(0, .obj (oL true 46 5 cCached dCached ([] : List TCached)))]] (by kernel_rfl) (Obs.of (by kernel_rfl) (And.intro (le_nil 46 5 cCached dCached) (And.intro (cache_Valid.spec e_2) (And.intro (nt g_3) (And.intro (cache_inDays.spec e_5) (And.intro (nt g_6) (And.intro (cache_inDays.spec e_8) (And.intro g_9 (le_nil 46 5 cCached dCached)))))))))
      · exact RunC.go [.n 1, .r [(1, .obj (oL true 46 5 cCached dCached ([] : List TCached)))], .n 2, .r [(1, .call (.p (.bool y_1)) []), (3, .dec false), (6, .call (.p (.bool y_4)) []), (9, .dec false), (11, .call (.p (.bool y_7)) []), (13, .dec false)], .n 3, .r [(0, .obj (oL true 46 5 cCached dCached ([] : List TCached)))], .n 5, .k [1, 2, 3, 7, 8]] (by kernel_rfl) (Obs.of (by kernel_rfl) (And.intro (le_nil 46 5 cCached dCached) (And.intro (cache_Valid.spec e_2) (And.intro (nt g_3) (And.intro (cache_inDays.spec e_5) (And.intro (nt g_6) (And.intro (cache_inDays.spec e_8) (And.intro (nt g_9) (le_nil 46 5 cCached dCached))))))))) (cache_Expire.p1.run k _ _ _ _ _ r h)
theorem cache_Expire.p1.mono   : ∀ (k k' : Nat) (s1 : (List TCached)) (day2 : Int) (i8 : Int) (c3b : TCache) (out7 : (List TCached)) (r : (List TCached)), k ≤ k' → cache_Expire.p1 k s1 day2 i8 c3b out7 = some r → cache_Expire.p1 k' s1 day2 i8 c3b out7 = some r := by
  intro k
  induction k with
  | zero => intro k' s1 day2 i8 c3b out7 r hk h; simp [cache_Expire.p1] at h
  | succ k ih =>
    intro k' s1 day2 i8 c3b out7 r hk h
    obtain ⟨k', rfl⟩ : ∃ m, k' = m + 1 := ⟨k' - 1, by omega⟩
    replace hk := Nat.le_of_succ_le_succ hk
    rw [cache_Expire.p1] at h ⊢
    rcases ite_or h with ⟨g_10, h⟩ | ⟨g_10, h⟩
    · refine itp g_10 ?_
      obtain ⟨g_11, h⟩ := ite_some h
      refine itp g_11 ?_
      rcases ite_or h with ⟨g_12, h⟩ | ⟨g_12, h⟩
      · refine itp g_12 ?_
        rcases ite_or h with ⟨g_13, h⟩ | ⟨g_13, h⟩
        · refine itp g_13 ?_
          obtain ⟨y_14, e_15, h⟩ := bind_or h
          refine bnd (cache_duplicate.mono _ _ _ _ hk e_15) ?_
          obtain ⟨g_16, h⟩ := ite_some h
          refine itp g_16 ?_
          exact ih _ _ _ _ _ _ r hk h
        · refine itn g_13 ?_
          exact ih _ _ _ _ _ _ r hk h
      · refine itn g_12 ?_
        exact ih _ _ _ _ _ _ r hk h
    · refine itn g_10 ?_
      exact h
theorem cache_Expire.mono   : ∀ (k k' : Nat) (c0 : TCache) (s1 : (List TCached)) (day2 : Int) (r : (List TCached)), k ≤ k' → cache_Expire k c0 s1 day2 = some r → cache_Expire k' c0 s1 day2 = some r := by
  intro k k' c0 s1 day2 r hk h
  unfold cache_Expire at h ⊢
  obtain ⟨y_1, e_2, h⟩ := bind_or h
  refine bnd (cache_Valid.mono _ _ _ _ hk e_2) ?_
  rcases ite_or h with ⟨g_3, h⟩ | ⟨g_3, h⟩
  · refine itp g_3 ?_
    exact h
  · refine itn g_3 ?_
    obtain ⟨y_4, e_5, h⟩ := bind_or h
    refine bnd (cache_inDays.mono _ _ _ _ hk e_5) ?_
    rcases ite_or h with ⟨g_6, h⟩ | ⟨g_6, h⟩
    · refine itp g_6 ?_
      exact h
    · refine itn g_6 ?_
      obtain ⟨y_7, e_8, h⟩ := bind_or h
      refine bnd (cache_inDays.mono _ _ _ _ hk e_8) ?_
      rcases ite_or h with ⟨g_9, h⟩ | ⟨g_9, h⟩
      · refine itp g_9 ?_
        exact h
      · refine itn g_9 ?_
        exact cache_Expire.p1.mono _ _ _ _ _ _ _ r hk h
theorem cache_Expire.spec {k : Nat} {c0 : TCache} {s1 : (List TCached)} {day2 : Int} {r : (List TCached)} (h : cache_Expire k c0 s1 day2 = some r) : Spec Try.prog 25 [.agg ((cCache c0).map .p), .p (eL 5 cCached dCached s1), .p (.int .i64 day2)] (.sref 0 46 5 (r).length) [(oL true 46 5 cCached dCached (r))] :=
  spec_of mix Try.func25 (body := bodyOf Try.f25) (by kernel_rfl) (by kernel_rfl) (cache_Expire.run h)
end Go.Proofs.YtjhnpaenhdbhpabV
set_option linter.unusedVariables false
set_option linter.unusedSimpArgs false
set_option maxRecDepth 100000
namespace Go.Proofs.YtjhnpaenhdbhpabV
open Go Go.RowKit
noncomputable def cache_at  (k : Nat) (row0 : (List TValue)) (column1 : Int) : Option TValue := if (decide (column1 < 0)) = true then (some (TValue.mk 0 0 (⟨#[]⟩ : ByteArray))) else (if (decide (column1 ≥ ((row0).length : Int))) = true then (some (TValue.mk 0 0 (⟨#[]⟩ : ByteArray))) else (if 0 ≤ column1 ∧ column1 < ((row0).length : Int) then ((value_Clean k (row0.getD column1.toNat dValue)).bind fun y_4 => (some y_4)) else none))
noncomputable def cache_at.t : List Item := [.code (bodyOf Try.f38)]
noncomputable def cache_at.s (row0 : (List TValue)) (column1 : Int) : St := ⟨frOf Try.f38.ntmps 0 [(0, .p (eL 3 cValue dValue row0)), (1, .p (.int .i64 column1))], []⟩
theorem cache_at.run   {k : Nat} {row0 : (List TValue)} {column1 : Int} {r : TValue} (h : cache_at k row0 column1 = some r) : RunC Try.prog Try.f38 cache_at.t (cache_at.s row0 column1) (.agg ((cValue r).map .p)) [] := by
  unfold cache_at at h
  rcases ite_or h with ⟨g_1, h⟩ | ⟨g_1, h⟩
  · obtain rfl := Option.some.inj h
    exact RunC.out [.n 4, .r [(2, .dec true)], .n 3] (by kernel_rfl) (Obs.of (by kernel_rfl) g_1)
  · rcases ite_or h with ⟨g_2, h⟩ | ⟨g_2, h⟩
    · obtain rfl := Option.some.inj h
      exact RunC.out [.n 4, .r [(2, .dec false), (7, .dec true)], .n 3] (by kernel_rfl) (Obs.of (by kernel_rfl) (And.intro (nt g_1) g_2))
    · obtain ⟨g_3, h⟩ := ite_some h
      obtain ⟨y_4, e_5, h⟩ := bind_or h
      obtain rfl := Option.some.inj h
      exact RunC.out [.n 4, .r [(2, .dec false), (7, .dec false)], .n 3, .r [(4, .call (.agg ((cValue y_4).map .p)) [])]] (by kernel_rfl) (Obs.of (by kernel_rfl) (And.intro (nt g_1) (And.intro (nt g_2) (And.intro g_3 (value_Clean.spec e_5)))))
theorem cache_at.mono   : ∀ (k k' : Nat) (row0 : (List TValue)) (column1 : Int) (r : TValue), k ≤ k' → cache_at k row0 column1 = some r → cache_at k' row0 column1 = some r := by
  intro k k' row0 column1 r hk h
  unfold cache_at at h ⊢
  rcases ite_or h with ⟨g_1, h⟩ | ⟨g_1, h⟩
  · refine itp g_1 ?_
    exact h
  · refine itn g_1 ?_
    rcases ite_or h with ⟨g_2, h⟩ | ⟨g_2, h⟩
    · refine itp g_2 ?_
      exact h
    · refine itn g_2 ?_
      obtain ⟨g_3, h⟩ := ite_some h
      refine itp g_3 ?_
      obtain ⟨y_4, e_5, h⟩ := bind_or h
      refine bnd (value_Clean.mono _ _ _ _ hk e_5) ?_
      exact h
theorem cache_at.spec {k : Nat} {row0 : (List TValue)} {column1 : Int} {r : TValue} (h : cache_at k row0 column1 = some r) : Spec Try.prog 38 [.p (eL 3 cValue dValue row0), .p (.int .i64 column1)] (.agg ((cValue r).map .p)) [] :=
  spec_of mix Try.func38 (body := bodyOf Try.f38) (by kernel_rfl) (by kernel_rfl) (cache_at.run h)
end Go.Proofs.YtjhnpaenhdbhpabV
set_option linter.unusedVariables false
set_option linter.unusedSimpArgs false
set_option maxRecDepth 100000
namespace Go.Proofs.YtjhnpaenhdbhpabV
open Go Go.RowKit
noncomputable def cache_Select.p1  : Nat → (List TEntry) → Int → Int → TValue → (List TEntry) → Option (List TEntry)
  | 0, _, _, _, _, _ => none
  | k + 1, rows0, column1, i9, want7b, out8 => if (decide (i9 < ((rows0).length : Int))) = true then (if 0 ≤ i9 ∧ i9 < ((rows0).length : Int) then ((cache_at k ((rows0.getD i9.toNat dEntry).f0) column1).bind fun y_5 => (if ((y_5.f0 == want7b.f0) && ((y_5.f1 == want7b.f1) && ((y_5.f2.data.toList == want7b.f2.data.toList) && true))) = true then (if (out8).length + ([(rows0.getD i9.toNat dEntry)]).length ≤ maxLen ∧ ((out8).length + ([(rows0.getD i9.toNat dEntry)]).length) * 32 ≤ 140737488355328 then (cache_Select.p1 k rows0 column1 (IntKind.i64.wrap (i9 + 1)) want7b (out8 ++ ([(rows0.getD i9.toNat dEntry)]))) else none) else (cache_Select.p1 k rows0 column1 (IntKind.i64.wrap (i9 + 1)) want7b out8))) else none) else ((cache_copied k out8).bind fun y_9 => (some y_9))
noncomputable def cache_Select  (k : Nat) (rows0 : (List TEntry)) (column1 : Int) (v2 : TValue) : Option (List TEntry) := (value_Clean k v2).bind fun y_1 => (cache_Select.p1 k rows0 column1 0 y_1 ([] : List TEntry))
noncomputable def cache_Select.t : List Item := [.code (bodyOf Try.f14)]
noncomputable def cache_Select.s (rows0 : (List TEntry)) (column1 : Int) (v2 : TValue) : St := ⟨frOf Try.f14.ntmps 0 [(0, .p (eL 2 cEntry dEntry rows0)), (1, .p (.int .i64 column1)), (2, .agg ((cValue v2).map .p))], []⟩
noncomputable def cache_Select.p1.t : List Item := nav 11 [] cache_Select.t
noncomputable def cache_Select.p1.s (rows0 : (List TEntry)) (column1 : Int) (i9 : Int) (want7b : TValue) (out8 : (List TEntry)) : St := ⟨frOf Try.f14.ntmps 0 [(0, .p (eL 2 cEntry dEntry rows0)), (1, .p (.int .i64 column1)), (7, .ptr 0 0 0), (8, .sref 1 36 2 (out8).length), (9, .p (.int .i64 i9))], [.box ((cValue want7b).map .p), (oL true 36 2 cEntry dEntry out8)]⟩
theorem cache_Select.p1.run   : ∀ (k : Nat) (rows0 : (List TEntry)) (column1 : Int) (i9 : Int) (want7b : TValue) (out8 : (List TEntry)) (r : (List TEntry)), cache_Select.p1 k rows0 column1 i9 want7b out8 = some r → RunC Try.prog Try.f14 cache_Select.p1.t (cache_Select.p1.s rows0 column1 i9 want7b out8) (.sref 0 36 2 (r).length) [(oL true 36 2 cEntry dEntry (r))] := by
  intro k
  induction k with
  | zero => intro rows0 column1 i9 want7b out8 r h; simp [cache_Select.p1] at h
  | succ k ih =>
    intro rows0 column1 i9 want7b out8 r h
    rw [cache_Select.p1] at h
    rcases ite_or h with ⟨g_3, h⟩ | ⟨g_3, h⟩
    · obtain ⟨g_4, h⟩ := ite_some h
      obtain ⟨y_5, e_6, h⟩ := bind_or h
      rcases ite_or h with ⟨g_7, h⟩ | ⟨g_7, h⟩
      · obtain ⟨g_8, h⟩ := ite_some h
        exact RunC.go [.n 2, .r [(3, .dec true)], .n 5, .r [(6, .call (.agg ((cValue y_5).map .p)) []), (8, .dec true)], .n 1, .r [(5, .obj (oL true 36 2 cEntry dEntry [(rows0.getD i9.toNat dEntry)])), (6, .obj (oL true 36 2 cEntry dEntry (out8 ++ ([(rows0.getD i9.toNat dEntry)]))))], .n 3, .k [0, 1, 7, 8, 9]] (by kernel_rfl) (Obs.of (by kernel_rfl) (And.intro g_3 (And.intro g_4 (And.intro (cache_at.spec e_6) (And.intro g_7 (And.intro g_4 (And.intro (le_one 36 2 cEntry dEntry (rows0.getD i9.toNat dEntry)) (And.intro g_8 (le_app 36 2 cEntry dEntry out8 ([(rows0.getD i9.toNat dEntry)])))))))))) (ih _ _ _ _ _ r h)
      · exact RunC.go [.n 2, .r [(3, .dec true)], .n 5, .r [(6, .call (.agg ((cValue y_5).map .p)) []), (8, .dec false)], .n 5, .k [0, 1, 7, 8, 9]] (by kernel_rfl) (Obs.of (by kernel_rfl) (And.intro g_3 (And.intro g_4 (And.intro (cache_at.spec e_6) (nt g_7))))) (ih _ _ _ _ _ r h)
    · obtain ⟨y_9, e_10, h⟩ := bind_or h
      obtain rfl := Option.some.inj h
      exact RunC.out [.n 2, .r [(3, .dec false)], .n 3, .r [(1, .call (.sref 0 36 2 (y_9).length) [(oL true 36 2 cEntry dEntry y_9)])]] (by kernel_rfl) (Obs.of (by kernel_rfl) (And.intro (nt g_3) (cache_copied.spec e_10)))
theorem cache_Select.run   {k : Nat} {rows0 : (List TEntry)} {column1 : Int} {v2 : TValue} {r : (List TEntry)} (h : cache_Select k rows0 column1 v2 = some r) : RunC Try.prog Try.f14 cache_Select.t (cache_Select.s rows0 column1 v2) (.sref 0 36 2 (r).length) [(oL true 36 2 cEntry dEntry (r))] := by
  unfold cache_Select at h
  obtain ⟨y_1, e_2, h⟩ := bind_or h
  exact RunC.go [.n 1, .r [(1, .obj (oL true 36 2 cEntry dEntry ([] : List TEntry)))], .n 1, .r [(1, .call (.agg ((cValue y_1).map .p)) [])], .n 1, .r [(0, .obj (oL true 36 2 cEntry dEntry ([] : List TEntry)))], .n 5, .k [0, 1, 7, 8, 9]] (by kernel_rfl) (Obs.of (by kernel_rfl) (And.intro (le_nil 36 2 cEntry dEntry) (And.intro (value_Clean.spec e_2) (le_nil 36 2 cEntry dEntry)))) (cache_Select.p1.run k _ _ _ _ _ r h)
theorem cache_Select.p1.mono   : ∀ (k k' : Nat) (rows0 : (List TEntry)) (column1 : Int) (i9 : Int) (want7b : TValue) (out8 : (List TEntry)) (r : (List TEntry)), k ≤ k' → cache_Select.p1 k rows0 column1 i9 want7b out8 = some r → cache_Select.p1 k' rows0 column1 i9 want7b out8 = some r := by
  intro k
  induction k with
  | zero => intro k' rows0 column1 i9 want7b out8 r hk h; simp [cache_Select.p1] at h
  | succ k ih =>
    intro k' rows0 column1 i9 want7b out8 r hk h
    obtain ⟨k', rfl⟩ : ∃ m, k' = m + 1 := ⟨k' - 1, by omega⟩
    replace hk := Nat.le_of_succ_le_succ hk
    rw [cache_Select.p1] at h ⊢
    rcases ite_or h with ⟨g_3, h⟩ | ⟨g_3, h⟩
    · refine itp g_3 ?_
      obtain ⟨g_4, h⟩ := ite_some h
      refine itp g_4 ?_
      obtain ⟨y_5, e_6, h⟩ := bind_or h
      refine bnd (cache_at.mono _ _ _ _ _ hk e_6) ?_
      rcases ite_or h with ⟨g_7, h⟩ | ⟨g_7, h⟩
      · refine itp g_7 ?_
        obtain ⟨g_8, h⟩ := ite_some h
        refine itp g_8 ?_
        exact ih _ _ _ _ _ _ r hk h
      · refine itn g_7 ?_
        exact ih _ _ _ _ _ _ r hk h
    · refine itn g_3 ?_
      obtain ⟨y_9, e_10, h⟩ := bind_or h
      refine bnd (cache_copied.mono _ _ _ _ hk e_10) ?_
      exact h
theorem cache_Select.mono   : ∀ (k k' : Nat) (rows0 : (List TEntry)) (column1 : Int) (v2 : TValue) (r : (List TEntry)), k ≤ k' → cache_Select k rows0 column1 v2 = some r → cache_Select k' rows0 column1 v2 = some r := by
  intro k k' rows0 column1 v2 r hk h
  unfold cache_Select at h ⊢
  obtain ⟨y_1, e_2, h⟩ := bind_or h
  refine bnd (value_Clean.mono _ _ _ _ hk e_2) ?_
  exact cache_Select.p1.mono _ _ _ _ _ _ _ r hk h
theorem cache_Select.spec {k : Nat} {rows0 : (List TEntry)} {column1 : Int} {v2 : TValue} {r : (List TEntry)} (h : cache_Select k rows0 column1 v2 = some r) : Spec Try.prog 14 [.p (eL 2 cEntry dEntry rows0), .p (.int .i64 column1), .agg ((cValue v2).map .p)] (.sref 0 36 2 (r).length) [(oL true 36 2 cEntry dEntry (r))] :=
  spec_of mix Try.func14 (body := bodyOf Try.f14) (by kernel_rfl) (by kernel_rfl) (cache_Select.run h)
end Go.Proofs.YtjhnpaenhdbhpabV
set_option linter.unusedVariables false
set_option linter.unusedSimpArgs false
set_option maxRecDepth 100000
namespace Go.Proofs.YtjhnpaenhdbhpabV
open Go Go.RowKit
noncomputable def cache_Lookup.p3  : Nat → (List TEntry) → Int → Int → TCache → (List TCached) → TValue → Option ((List TCached) × (List TEntry) × Int)
  | 0, _, _, _, _, _, _ => none
  | k + 1, rows2, day4, i18, c5b, out13, want14b => if (decide (i18 < ((out13).length : Int))) = true then (if 0 ≤ i18 ∧ i18 < ((out13).length : Int) then ((value_Compare k ((out13.getD i18.toNat dCached).f0) want14b).bind fun y_23 => (if (decide (y_23 < 0)) = true then (cache_Lookup.p3 k rows2 day4 (IntKind.i64.wrap (i18 + 1)) c5b out13 want14b) else (if (out13).length + ([(TCached.mk (TValue.mk 0 0 (⟨#[]⟩ : ByteArray)) ([] : List TEntry) 0)]).length ≤ maxLen ∧ ((out13).length + ([(TCached.mk (TValue.mk 0 0 (⟨#[]⟩ : ByteArray)) ([] : List TEntry) 0)]).length) * 64 ≤ 140737488355328 then (if 0 ≤ (IntKind.i64.wrap (i18 + 1)) ∧ (IntKind.i64.wrap (i18 + 1)) ≤ (((out13 ++ ([(TCached.mk (TValue.mk 0 0 (⟨#[]⟩ : ByteArray)) ([] : List TEntry) 0)]))).length : Int) ∧ (((out13 ++ ([(TCached.mk (TValue.mk 0 0 (⟨#[]⟩ : ByteArray)) ([] : List TEntry) 0)]))).length : Int) ≤ (((out13 ++ ([(TCached.mk (TValue.mk 0 0 (⟨#[]⟩ : ByteArray)) ([] : List TEntry) 0)]))).length : Int) then (if 0 ≤ i18 ∧ i18 ≤ (((out13 ++ ([(TCached.mk (TValue.mk 0 0 (⟨#[]⟩ : ByteArray)) ([] : List TEntry) 0)]))).length : Int) ∧ (((out13 ++ ([(TCached.mk (TValue.mk 0 0 (⟨#[]⟩ : ByteArray)) ([] : List TEntry) 0)]))).length : Int) ≤ (((out13 ++ ([(TCached.mk (TValue.mk 0 0 (⟨#[]⟩ : ByteArray)) ([] : List TEntry) 0)]))).length : Int) then ((cache_Select k rows2 c5b.f2 want14b).bind fun y_29 => (if 0 ≤ i18 ∧ i18 < (((out13 ++ ([(TCached.mk (TValue.mk 0 0 (⟨#[]⟩ : ByteArray)) ([] : List TEntry) 0)]))).length : Int) then ((cache_copied k ((((copyL (out13 ++ ([(TCached.mk (TValue.mk 0 0 (⟨#[]⟩ : ByteArray)) ([] : List TEntry) 0)])) (IntKind.i64.wrap (i18 + 1)) (((out13 ++ ([(TCached.mk (TValue.mk 0 0 (⟨#[]⟩ : ByteArray)) ([] : List TEntry) 0)]))).length : Int) (subL (out13 ++ ([(TCached.mk (TValue.mk 0 0 (⟨#[]⟩ : ByteArray)) ([] : List TEntry) 0)])) i18 (((out13 ++ ([(TCached.mk (TValue.mk 0 0 (⟨#[]⟩ : ByteArray)) ([] : List TEntry) 0)]))).length : Int))).set i18.toNat (TCached.mk want14b y_29 day4)).getD i18.toNat dCached).f1)).bind fun y_32 => (some (((copyL (out13 ++ ([(TCached.mk (TValue.mk 0 0 (⟨#[]⟩ : ByteArray)) ([] : List TEntry) 0)])) (IntKind.i64.wrap (i18 + 1)) (((out13 ++ ([(TCached.mk (TValue.mk 0 0 (⟨#[]⟩ : ByteArray)) ([] : List TEntry) 0)]))).length : Int) (subL (out13 ++ ([(TCached.mk (TValue.mk 0 0 (⟨#[]⟩ : ByteArray)) ([] : List TEntry) 0)])) i18 (((out13 ++ ([(TCached.mk (TValue.mk 0 0 (⟨#[]⟩ : ByteArray)) ([] : List TEntry) 0)]))).length : Int))).set i18.toNat (TCached.mk want14b y_29 day4)), y_32, 0))) else none)) else none) else none) else none))) else none) else (if (out13).length + ([(TCached.mk (TValue.mk 0 0 (⟨#[]⟩ : ByteArray)) ([] : List TEntry) 0)]).length ≤ maxLen ∧ ((out13).length + ([(TCached.mk (TValue.mk 0 0 (⟨#[]⟩ : ByteArray)) ([] : List TEntry) 0)]).length) * 64 ≤ 140737488355328 then (if 0 ≤ (IntKind.i64.wrap (i18 + 1)) ∧ (IntKind.i64.wrap (i18 + 1)) ≤ (((out13 ++ ([(TCached.mk (TValue.mk 0 0 (⟨#[]⟩ : ByteArray)) ([] : List TEntry) 0)]))).length : Int) ∧ (((out13 ++ ([(TCached.mk (TValue.mk 0 0 (⟨#[]⟩ : ByteArray)) ([] : List TEntry) 0)]))).length : Int) ≤ (((out13 ++ ([(TCached.mk (TValue.mk 0 0 (⟨#[]⟩ : ByteArray)) ([] : List TEntry) 0)]))).length : Int) then (if 0 ≤ i18 ∧ i18 ≤ (((out13 ++ ([(TCached.mk (TValue.mk 0 0 (⟨#[]⟩ : ByteArray)) ([] : List TEntry) 0)]))).length : Int) ∧ (((out13 ++ ([(TCached.mk (TValue.mk 0 0 (⟨#[]⟩ : ByteArray)) ([] : List TEntry) 0)]))).length : Int) ≤ (((out13 ++ ([(TCached.mk (TValue.mk 0 0 (⟨#[]⟩ : ByteArray)) ([] : List TEntry) 0)]))).length : Int) then ((cache_Select k rows2 c5b.f2 want14b).bind fun y_37 => (if 0 ≤ i18 ∧ i18 < (((out13 ++ ([(TCached.mk (TValue.mk 0 0 (⟨#[]⟩ : ByteArray)) ([] : List TEntry) 0)]))).length : Int) then ((cache_copied k ((((copyL (out13 ++ ([(TCached.mk (TValue.mk 0 0 (⟨#[]⟩ : ByteArray)) ([] : List TEntry) 0)])) (IntKind.i64.wrap (i18 + 1)) (((out13 ++ ([(TCached.mk (TValue.mk 0 0 (⟨#[]⟩ : ByteArray)) ([] : List TEntry) 0)]))).length : Int) (subL (out13 ++ ([(TCached.mk (TValue.mk 0 0 (⟨#[]⟩ : ByteArray)) ([] : List TEntry) 0)])) i18 (((out13 ++ ([(TCached.mk (TValue.mk 0 0 (⟨#[]⟩ : ByteArray)) ([] : List TEntry) 0)]))).length : Int))).set i18.toNat (TCached.mk want14b y_37 day4)).getD i18.toNat dCached).f1)).bind fun y_40 => (some (((copyL (out13 ++ ([(TCached.mk (TValue.mk 0 0 (⟨#[]⟩ : ByteArray)) ([] : List TEntry) 0)])) (IntKind.i64.wrap (i18 + 1)) (((out13 ++ ([(TCached.mk (TValue.mk 0 0 (⟨#[]⟩ : ByteArray)) ([] : List TEntry) 0)]))).length : Int) (subL (out13 ++ ([(TCached.mk (TValue.mk 0 0 (⟨#[]⟩ : ByteArray)) ([] : List TEntry) 0)])) i18 (((out13 ++ ([(TCached.mk (TValue.mk 0 0 (⟨#[]⟩ : ByteArray)) ([] : List TEntry) 0)]))).length : Int))).set i18.toNat (TCached.mk want14b y_37 day4)), y_40, 0))) else none)) else none) else none) else none)
noncomputable def cache_Lookup.p2  : Nat → (List TEntry) → Int → Int → Int → TCache → (List TCached) → TValue → Option ((List TCached) × (List TEntry) × Int)
  | 0, _, _, _, _, _, _, _ => none
  | k + 1, rows2, day4, oldest16, i17, c5b, out13, want14b => if (decide (i17 < ((out13).length : Int))) = true then (if 0 ≤ i17 ∧ i17 < ((out13).length : Int) then (if 0 ≤ oldest16 ∧ oldest16 < ((out13).length : Int) then (if (decide ((out13.getD i17.toNat dCached).f2 < (out13.getD oldest16.toNat dCached).f2)) = true then (cache_Lookup.p2 k rows2 day4 i17 (IntKind.i64.wrap (i17 + 1)) c5b out13 want14b) else (cache_Lookup.p2 k rows2 day4 oldest16 (IntKind.i64.wrap (i17 + 1)) c5b out13 want14b)) else none) else none) else (if 0 ≤ (0 : Int) ∧ (0 : Int) ≤ oldest16 ∧ oldest16 ≤ ((out13).length : Int) then (if 0 ≤ (IntKind.i64.wrap (oldest16 + 1)) ∧ (IntKind.i64.wrap (oldest16 + 1)) ≤ ((out13).length : Int) ∧ ((out13).length : Int) ≤ ((out13).length : Int) then (if (oldest16.toNat - (0 : Int).toNat) + (((out13).length : Int).toNat - (IntKind.i64.wrap (oldest16 + 1)).toNat) ≤ maxLen ∧ ((oldest16.toNat - (0 : Int).toNat) + (((out13).length : Int).toNat - (IntKind.i64.wrap (oldest16 + 1)).toNat)) * 64 ≤ 140737488355328 then (cache_Lookup.p3 k rows2 day4 0 c5b (subL out13 0 oldest16 ++ subL out13 (IntKind.i64.wrap (oldest16 + 1)) ((out13).length : Int)) want14b) else none) else none) else none)
noncomputable def cache_Lookup.p1  : Nat → (List TEntry) → Int → Int → TCache → (List TCached) → TValue → Option ((List TCached) × (List TEntry) × Int)
  | 0, _, _, _, _, _, _ => none
  | k + 1, rows2, day4, i15, c5b, out13, want14b => if (decide (i15 < ((out13).length : Int))) = true then (if 0 ≤ i15 ∧ i15 < ((out13).length : Int) then (if (((out13.getD i15.toNat dCached).f0.f0 == want14b.f0) && (((out13.getD i15.toNat dCached).f0.f1 == want14b.f1) && ((((out13.getD i15.toNat dCached).f0.f2).data.toList == want14b.f2.data.toList) && true))) = true then ((cache_copied k ((out13.getD i15.toNat dCached).f1)).bind fun y_11 => (some (out13, y_11, 0))) else (cache_Lookup.p1 k rows2 day4 (IntKind.i64.wrap (i15 + 1)) c5b out13 want14b)) else none) else (if (decide (((out13).length : Int) ≥ 16)) = true then (cache_Lookup.p2 k rows2 day4 0 1 c5b out13 want14b) else (cache_Lookup.p3 k rows2 day4 0 c5b out13 want14b))
noncomputable def cache_Lookup  (k : Nat) (c0 : TCache) (s1 : (List TCached)) (rows2 : (List TEntry)) (v3 : TValue) (day4 : Int) : Option ((List TCached) × (List TEntry) × Int) := (cache_usable k c0 s1 rows2 day4).bind fun y_1 => (if (!y_1) = true then (some (([] : List TCached), ([] : List TEntry), 1)) else ((cache_Expire k c0 s1 day4).bind fun y_4 => ((value_Clean k v3).bind fun y_6 => (cache_Lookup.p1 k rows2 day4 0 c0 y_4 y_6))))
noncomputable def cache_Lookup.t : List Item := [.code (bodyOf Try.f17)]
noncomputable def cache_Lookup.s (c0 : TCache) (s1 : (List TCached)) (rows2 : (List TEntry)) (v3 : TValue) (day4 : Int) : St := ⟨frOf Try.f17.ntmps 0 [(0, .agg ((cCache c0).map .p)), (1, .p (eL 5 cCached dCached s1)), (2, .p (eL 2 cEntry dEntry rows2)), (3, .agg ((cValue v3).map .p)), (4, .p (.int .i64 day4))], []⟩
noncomputable def cache_Lookup.p1.t : List Item := nav 16 [false] cache_Lookup.t
noncomputable def cache_Lookup.p1.s (rows2 : (List TEntry)) (day4 : Int) (i15 : Int) (c5b : TCache) (out13 : (List TCached)) (want14b : TValue) : St := ⟨frOf Try.f17.ntmps 0 [(2, .p (eL 2 cEntry dEntry rows2)), (4, .p (.int .i64 day4)), (5, .ptr 0 0 0), (13, .sref 1 46 5 (out13).length), (14, .ptr 2 0 0), (15, .p (.int .i64 i15))], [.box ((cCache c5b).map .p), (oL true 46 5 cCached dCached out13), .box ((cValue want14b).map .p)]⟩
noncomputable def cache_Lookup.p2.t : List Item := nav 16 [false, true] cache_Lookup.p1.t
noncomputable def cache_Lookup.p2.s (rows2 : (List TEntry)) (day4 : Int) (oldest16 : Int) (i17 : Int) (c5b : TCache) (out13 : (List TCached)) (want14b : TValue) : St := ⟨frOf Try.f17.ntmps 0 [(2, .p (eL 2 cEntry dEntry rows2)), (4, .p (.int .i64 day4)), (5, .ptr 0 0 0), (13, .sref 1 46 5 (out13).length), (14, .ptr 2 0 0), (16, .p (.int .i64 oldest16)), (17, .p (.int .i64 i17))], [.box ((cCache c5b).map .p), (oL true 46 5 cCached dCached out13), .box ((cValue want14b).map .p)]⟩
noncomputable def cache_Lookup.p3.t : List Item := nav 11 [false] cache_Lookup.p2.t
noncomputable def cache_Lookup.p3.s (rows2 : (List TEntry)) (day4 : Int) (i18 : Int) (c5b : TCache) (out13 : (List TCached)) (want14b : TValue) : St := ⟨frOf Try.f17.ntmps 0 [(2, .p (eL 2 cEntry dEntry rows2)), (4, .p (.int .i64 day4)), (5, .ptr 0 0 0), (13, .sref 1 46 5 (out13).length), (14, .ptr 2 0 0), (18, .p (.int .i64 i18))], [.box ((cCache c5b).map .p), (oL true 46 5 cCached dCached out13), .box ((cValue want14b).map .p)]⟩
theorem cache_Lookup.p3.run   : ∀ (k : Nat) (rows2 : (List TEntry)) (day4 : Int) (i18 : Int) (c5b : TCache) (out13 : (List TCached)) (want14b : TValue) (r : ((List TCached) × (List TEntry) × Int)), cache_Lookup.p3 k rows2 day4 i18 c5b out13 want14b = some r → RunC Try.prog Try.f17 cache_Lookup.p3.t (cache_Lookup.p3.s rows2 day4 i18 c5b out13 want14b) (.tup [.sref 0 46 5 (r.1).length, .sref 1 36 2 (r.2.1).length, .p (.int .i64 r.2.2)]) [(oL true 46 5 cCached dCached (r.1)), (oL true 36 2 cEntry dEntry (r.2.1))] := by
  intro k
  induction k with
  | zero => intro rows2 day4 i18 c5b out13 want14b r h; simp [cache_Lookup.p3] at h
  | succ k ih =>
    intro rows2 day4 i18 c5b out13 want14b r h
    rw [cache_Lookup.p3] at h
    rcases ite_or h with ⟨g_21, h⟩ | ⟨g_21, h⟩
    · obtain ⟨g_22, h⟩ := ite_some h
      obtain ⟨y_23, e_24, h⟩ := bind_or h
      rcases ite_or h with ⟨g_25, h⟩ | ⟨g_25, h⟩
      · exact RunC.go [.n 2, .r [(4, .dec true), (11, .call (.p (.int .i64 y_23)) []), (13, .dec true)], .n 6, .k [2, 4, 5, 13, 14, 18]] (by kernel_rfl) (Obs.of (by kernel_rfl) (And.intro g_21 (And.intro g_22 (And.intro (value_Compare.spec e_24) g_25)))) (ih _ _ _ _ _ _ r h)
      · obtain ⟨g_26, h⟩ := ite_some h
        obtain ⟨g_27, h⟩ := ite_some h
        obtain ⟨g_28, h⟩ := ite_some h
        obtain ⟨y_29, e_30, h⟩ := bind_or h
        obtain ⟨g_31, h⟩ := ite_some h
        obtain ⟨y_32, e_33, h⟩ := bind_or h
        obtain rfl := Option.some.inj h
        exact RunC.out [.n 2, .r [(4, .dec true), (11, .call (.p (.int .i64 y_23)) []), (13, .dec false)], .n 3, .r [(1, .fv (.agg [.p (.int .i64 0), .p (.int .i64 0), .p (.str (⟨#[]⟩ : ByteArray)), .p (eL 2 cEntry dEntry ([] : List TEntry)), .p (.int .i64 0)])), (2, .obj (oL true 46 5 cCached dCached [(TCached.mk (TValue.mk 0 0 (⟨#[]⟩ : ByteArray)) ([] : List TEntry) 0)])), (3, .obj (oL true 46 5 cCached dCached (out13 ++ ([(TCached.mk (TValue.mk 0 0 (⟨#[]⟩ : ByteArray)) ([] : List TEntry) 0)]))))], .n 1, .r [(7, .obj (oL true 46 5 cCached dCached (copyL (out13 ++ ([(TCached.mk (TValue.mk 0 0 (⟨#[]⟩ : ByteArray)) ([] : List TEntry) 0)])) (IntKind.i64.wrap (i18 + 1)) (((out13 ++ ([(TCached.mk (TValue.mk 0 0 (⟨#[]⟩ : ByteArray)) ([] : List TEntry) 0)]))).length : Int) (subL (out13 ++ ([(TCached.mk (TValue.mk 0 0 (⟨#[]⟩ : ByteArray)) ([] : List TEntry) 0)])) i18 (((out13 ++ ([(TCached.mk (TValue.mk 0 0 (⟨#[]⟩ : ByteArray)) ([] : List TEntry) 0)]))).length : Int)))))], .n 1, .r [(7, .call (.sref 0 36 2 (y_29).length) [(oL true 36 2 cEntry dEntry y_29)]), (11, .obj (oL true 46 5 cCached dCached ((copyL (out13 ++ ([(TCached.mk (TValue.mk 0 0 (⟨#[]⟩ : ByteArray)) ([] : List TEntry) 0)])) (IntKind.i64.wrap (i18 + 1)) (((out13 ++ ([(TCached.mk (TValue.mk 0 0 (⟨#[]⟩ : ByteArray)) ([] : List TEntry) 0)]))).length : Int) (subL (out13 ++ ([(TCached.mk (TValue.mk 0 0 (⟨#[]⟩ : ByteArray)) ([] : List TEntry) 0)])) i18 (((out13 ++ ([(TCached.mk (TValue.mk 0 0 (⟨#[]⟩ : ByteArray)) ([] : List TEntry) 0)]))).length : Int))).set i18.toNat (TCached.mk want14b y_29 day4))))], .n 1, .r [(6, .call (.sref 0 36 2 (y_32).length) [(oL true 36 2 cEntry dEntry y_32)])]] (by kernel_rfl) (Obs.of (by kernel_rfl) (And.intro g_21 (And.intro g_22 (And.intro (value_Compare.spec e_24) (And.intro (nt g_25) (And.intro (fle_agg (fls_cons (fle_rfl (.p (.int .i64 0))) (fls_cons (fle_rfl (.p (.int .i64 0))) (fls_cons (fle_rfl (.p (.str (⟨#[]⟩ : ByteArray)))) (fls_cons (fle_nil 2 cEntry dEntry) (fls_cons (fle_rfl (.p (.int .i64 0))) fls_nil)))))) (And.intro (le_one 46 5 cCached dCached (TCached.mk (TValue.mk 0 0 (⟨#[]⟩ : ByteArray)) ([] : List TEntry) 0)) (And.intro (And.intro g_26 (le_app 46 5 cCached dCached out13 ([(TCached.mk (TValue.mk 0 0 (⟨#[]⟩ : ByteArray)) ([] : List TEntry) 0)]))) (And.intro g_27 (And.intro g_28 (And.intro (le_copySS 46 5 cCached dCached (out13 ++ ([(TCached.mk (TValue.mk 0 0 (⟨#[]⟩ : ByteArray)) ([] : List TEntry) 0)])) (out13 ++ ([(TCached.mk (TValue.mk 0 0 (⟨#[]⟩ : ByteArray)) ([] : List TEntry) 0)])) (IntKind.i64.wrap (i18 + 1)) (((out13 ++ ([(TCached.mk (TValue.mk 0 0 (⟨#[]⟩ : ByteArray)) ([] : List TEntry) 0)]))).length : Int) i18 (((out13 ++ ([(TCached.mk (TValue.mk 0 0 (⟨#[]⟩ : ByteArray)) ([] : List TEntry) 0)]))).length : Int) g_27 g_28) (And.intro (cache_Select.spec e_30) (And.intro g_31 (And.intro (le_set 46 5 cCached dCached (copyL (out13 ++ ([(TCached.mk (TValue.mk 0 0 (⟨#[]⟩ : ByteArray)) ([] : List TEntry) 0)])) (IntKind.i64.wrap (i18 + 1)) (((out13 ++ ([(TCached.mk (TValue.mk 0 0 (⟨#[]⟩ : ByteArray)) ([] : List TEntry) 0)]))).length : Int) (subL (out13 ++ ([(TCached.mk (TValue.mk 0 0 (⟨#[]⟩ : ByteArray)) ([] : List TEntry) 0)])) i18 (((out13 ++ ([(TCached.mk (TValue.mk 0 0 (⟨#[]⟩ : ByteArray)) ([] : List TEntry) 0)]))).length : Int))) (TCached.mk want14b y_29 day4) i18.toNat rfl) (And.intro g_31 (cache_copied.spec e_33))))))))))))))))
    · obtain ⟨g_34, h⟩ := ite_some h
      obtain ⟨g_35, h⟩ := ite_some h
      obtain ⟨g_36, h⟩ := ite_some h
      obtain ⟨y_37, e_38, h⟩ := bind_or h
      obtain ⟨g_39, h⟩ := ite_some h
      obtain ⟨y_40, e_41, h⟩ := bind_or h
      obtain rfl := Option.some.inj h
      exact RunC.out [.n 2, .r [(4, .dec false)], .n 3, .r [(1, .fv (.agg [.p (.int .i64 0), .p (.int .i64 0), .p (.str (⟨#[]⟩ : ByteArray)), .p (eL 2 cEntry dEntry ([] : List TEntry)), .p (.int .i64 0)])), (2, .obj (oL true 46 5 cCached dCached [(TCached.mk (TValue.mk 0 0 (⟨#[]⟩ : ByteArray)) ([] : List TEntry) 0)])), (3, .obj (oL true 46 5 cCached dCached (out13 ++ ([(TCached.mk (TValue.mk 0 0 (⟨#[]⟩ : ByteArray)) ([] : List TEntry) 0)]))))], .n 1, .r [(7, .obj (oL true 46 5 cCached dCached (copyL (out13 ++ ([(TCached.mk (TValue.mk 0 0 (⟨#[]⟩ : ByteArray)) ([] : List TEntry) 0)])) (IntKind.i64.wrap (i18 + 1)) (((out13 ++ ([(TCached.mk (TValue.mk 0 0 (⟨#[]⟩ : ByteArray)) ([] : List TEntry) 0)]))).length : Int) (subL (out13 ++ ([(TCached.mk (TValue.mk 0 0 (⟨#[]⟩ : ByteArray)) ([] : List TEntry) 0)])) i18 (((out13 ++ ([(TCached.mk (TValue.mk 0 0 (⟨#[]⟩ : ByteArray)) ([] : List TEntry) 0)]))).length : Int)))))], .n 1, .r [(7, .call (.sref 0 36 2 (y_37).length) [(oL true 36 2 cEntry dEntry y_37)]), (11, .obj (oL true 46 5 cCached dCached ((copyL (out13 ++ ([(TCached.mk (TValue.mk 0 0 (⟨#[]⟩ : ByteArray)) ([] : List TEntry) 0)])) (IntKind.i64.wrap (i18 + 1)) (((out13 ++ ([(TCached.mk (TValue.mk 0 0 (⟨#[]⟩ : ByteArray)) ([] : List TEntry) 0)]))).length : Int) (subL (out13 ++ ([(TCached.mk (TValue.mk 0 0 (⟨#[]⟩ : ByteArray)) ([] : List TEntry) 0)])) i18 (((out13 ++ ([(TCached.mk (TValue.mk 0 0 (⟨#[]⟩ : ByteArray)) ([] : List TEntry) 0)]))).length : Int))).set i18.toNat (TCached.mk want14b y_37 day4))))], .n 1, .r [(6, .call (.sref 0 36 2 (y_40).length) [(oL true 36 2 cEntry dEntry y_40)])]] (by kernel_rfl) (Obs.of (by kernel_rfl) (And.intro (nt g_21) (And.intro (fle_agg (fls_cons (fle_rfl (.p (.int .i64 0))) (fls_cons (fle_rfl (.p (.int .i64 0))) (fls_cons (fle_rfl (.p (.str (⟨#[]⟩ : ByteArray)))) (fls_cons (fle_nil 2 cEntry dEntry) (fls_cons (fle_rfl (.p (.int .i64 0))) fls_nil)))))) (And.intro (le_one 46 5 cCached dCached (TCached.mk (TValue.mk 0 0 (⟨#[]⟩ : ByteArray)) ([] : List TEntry) 0)) (And.intro (And.intro g_34 (le_app 46 5 cCached dCached out13 ([(TCached.mk (TValue.mk 0 0 (⟨#[]⟩ : ByteArray)) ([] : List TEntry) 0)]))) (And.intro g_35 (And.intro g_36 (And.intro (le_copySS 46 5 cCached dCached (out13 ++ ([(TCached.mk (TValue.mk 0 0 (⟨#[]⟩ : ByteArray)) ([] : List TEntry) 0)])) (out13 ++ ([(TCached.mk (TValue.mk 0 0 (⟨#[]⟩ : ByteArray)) ([] : List TEntry) 0)])) (IntKind.i64.wrap (i18 + 1)) (((out13 ++ ([(TCached.mk (TValue.mk 0 0 (⟨#[]⟩ : ByteArray)) ([] : List TEntry) 0)]))).length : Int) i18 (((out13 ++ ([(TCached.mk (TValue.mk 0 0 (⟨#[]⟩ : ByteArray)) ([] : List TEntry) 0)]))).length : Int) g_35 g_36) (And.intro (cache_Select.spec e_38) (And.intro g_39 (And.intro (le_set 46 5 cCached dCached (copyL (out13 ++ ([(TCached.mk (TValue.mk 0 0 (⟨#[]⟩ : ByteArray)) ([] : List TEntry) 0)])) (IntKind.i64.wrap (i18 + 1)) (((out13 ++ ([(TCached.mk (TValue.mk 0 0 (⟨#[]⟩ : ByteArray)) ([] : List TEntry) 0)]))).length : Int) (subL (out13 ++ ([(TCached.mk (TValue.mk 0 0 (⟨#[]⟩ : ByteArray)) ([] : List TEntry) 0)])) i18 (((out13 ++ ([(TCached.mk (TValue.mk 0 0 (⟨#[]⟩ : ByteArray)) ([] : List TEntry) 0)]))).length : Int))) (TCached.mk want14b y_37 day4) i18.toNat rfl) (And.intro g_39 (cache_copied.spec e_41)))))))))))))
theorem cache_Lookup.p2.run   : ∀ (k : Nat) (rows2 : (List TEntry)) (day4 : Int) (oldest16 : Int) (i17 : Int) (c5b : TCache) (out13 : (List TCached)) (want14b : TValue) (r : ((List TCached) × (List TEntry) × Int)), cache_Lookup.p2 k rows2 day4 oldest16 i17 c5b out13 want14b = some r → RunC Try.prog Try.f17 cache_Lookup.p2.t (cache_Lookup.p2.s rows2 day4 oldest16 i17 c5b out13 want14b) (.tup [.sref 0 46 5 (r.1).length, .sref 1 36 2 (r.2.1).length, .p (.int .i64 r.2.2)]) [(oL true 46 5 cCached dCached (r.1)), (oL true 36 2 cEntry dEntry (r.2.1))] := by
  intro k
  induction k with
  | zero => intro rows2 day4 oldest16 i17 c5b out13 want14b r h; simp [cache_Lookup.p2] at h
  | succ k ih =>
    intro rows2 day4 oldest16 i17 c5b out13 want14b r h
    rw [cache_Lookup.p2] at h
    rcases ite_or h with ⟨g_14, h⟩ | ⟨g_14, h⟩
    · obtain ⟨g_15, h⟩ := ite_some h
      obtain ⟨g_16, h⟩ := ite_some h
      rcases ite_or h with ⟨g_17, h⟩ | ⟨g_17, h⟩
      · exact RunC.go [.n 2, .r [(3, .dec true)], .n 5, .r [(10, .dec true)], .n 5, .k [2, 4, 5, 13, 14, 16, 17]] (by kernel_rfl) (Obs.of (by kernel_rfl) (And.intro g_14 (And.intro g_15 (And.intro g_16 g_17)))) (ih _ _ _ _ _ _ _ r h)
      · exact RunC.go [.n 2, .r [(3, .dec true)], .n 5, .r [(10, .dec false)], .n 5, .k [2, 4, 5, 13, 14, 16, 17]] (by kernel_rfl) (Obs.of (by kernel_rfl) (And.intro g_14 (And.intro g_15 (And.intro g_16 (nt g_17))))) (ih _ _ _ _ _ _ _ r h)
    · obtain ⟨g_18, h⟩ := ite_some h
      obtain ⟨g_19, h⟩ := ite_some h
      obtain ⟨g_20, h⟩ := ite_some h
      exact RunC.go [.n 2, .r [(3, .dec false)], .n 2, .r [(7, .obj (oL true 46 5 cCached dCached (subL out13 0 oldest16 ++ subL out13 (IntKind.i64.wrap (oldest16 + 1)) ((out13).length : Int))))], .n 5, .k [2, 4, 5, 13, 14, 18]] (by kernel_rfl) (Obs.of (by kernel_rfl) (And.intro (nt g_14) (And.intro g_18 (And.intro g_19 (And.intro g_20 (le_appSS 46 5 cCached dCached out13 out13 oldest16 (IntKind.i64.wrap (oldest16 + 1)) ((out13).length : Int) g_18 g_19)))))) (cache_Lookup.p3.run k _ _ _ _ _ _ r h)
theorem cache_Lookup.p1.run   : ∀ (k : Nat) (rows2 : (List TEntry)) (day4 : Int) (i15 : Int) (c5b : TCache) (out13 : (List TCached)) (want14b : TValue) (r : ((List TCached) × (List TEntry) × Int)), cache_Lookup.p1 k rows2 day4 i15 c5b out13 want14b = some r → RunC Try.prog Try.f17 cache_Lookup.p1.t (cache_Lookup.p1.s rows2 day4 i15 c5b out13 want14b) (.tup [.sref 0 46 5 (r.1).length, .sref 1 36 2 (r.2.1).length, .p (.int .i64 r.2.2)]) [(oL true 46 5 cCached dCached (r.1)), (oL true 36 2 cEntry dEntry (r.2.1))] := by
  intro k
  induction k with
  | zero => intro rows2 day4 i15 c5b out13 want14b r h; simp [cache_Lookup.p1] at h
  | succ k ih =>
    intro rows2 day4 i15 c5b out13 want14b r h
    rw [cache_Lookup.p1] at h
    rcases ite_or h with ⟨g_8, h⟩ | ⟨g_8, h⟩
    · obtain ⟨g_9, h⟩ := ite_some h
      rcases ite_or h with ⟨g_10, h⟩ | ⟨g_10, h⟩
      · obtain ⟨y_11, e_12, h⟩ := bind_or h
        obtain rfl := Option.some.inj h
        exact RunC.out [.n 2, .r [(3, .dec true)], .n 5, .r [(6, .dec true)], .n 2, .r [(6, .call (.sref 0 36 2 (y_11).length) [(oL true 36 2 cEntry dEntry y_11)])]] (by kernel_rfl) (Obs.of (by kernel_rfl) (And.intro g_8 (And.intro g_9 (And.intro g_10 (And.intro g_9 (cache_copied.spec e_12))))))
      · exact RunC.go [.n 2, .r [(3, .dec true)], .n 5, .r [(6, .dec false)], .n 5, .k [2, 4, 5, 13, 14, 15]] (by kernel_rfl) (Obs.of (by kernel_rfl) (And.intro g_8 (And.intro g_9 (nt g_10)))) (ih _ _ _ _ _ _ r h)
    · rcases ite_or h with ⟨g_13, h⟩ | ⟨g_13, h⟩
      · exact RunC.go [.n 2, .r [(3, .dec false)], .n 4, .r [(2, .dec true)], .n 8, .k [2, 4, 5, 13, 14, 16, 17]] (by kernel_rfl) (Obs.of (by kernel_rfl) (And.intro (nt g_8) g_13)) (cache_Lookup.p2.run k _ _ _ _ _ _ _ r h)
      · exact RunC.go [.n 2, .r [(3, .dec false)], .n 4, .r [(2, .dec false)], .n 7, .k [2, 4, 5, 13, 14, 18]] (by kernel_rfl) (Obs.of (by kernel_rfl) (And.intro (nt g_8) (nt g_13))) (cache_Lookup.p3.run k _ _ _ _ _ _ r h)
theorem cache_Lookup.run   {k : Nat} {c0 : TCache} {s1 : (List TCached)} {rows2 : (List TEntry)} {v3 : TValue} {day4 : Int} {r : ((List TCached) × (List TEntry) × Int)} (h : cache_Lookup k c0 s1 rows2 v3 day4 = some r) : RunC Try.prog Try.f17 cache_Lookup.t (cache_Lookup.s c0 s1 rows2 v3 day4) (.tup [.sref 0 46 5 (r.1).length, .sref 1 36 2 (r.2.1).length, .p (.int .i64 r.2.2)]) [(oL true 46 5 cCached dCached (r.1)), (oL true 36 2 cEntry dEntry (r.2.1))] := by
  unfold cache_Lookup at h
  obtain ⟨y_1, e_2, h⟩ := bind_or h
  rcases ite_or h with ⟨g_3, h⟩ | ⟨g_3, h⟩
  · obtain rfl := Option.some.inj h
    exact RunC.out [.n 1, .r [(2, .obj (oL true 46 5 cCached dCached ([] : List TCached))), (3, .obj (oL true 36 2 cEntry dEntry ([] : List TEntry)))], .n 2, .r [(4, .call (.p (.bool y_1)) []), (5, .dec true)], .n 2, .r [(0, .obj (oL true 46 5 cCached dCached ([] : List TCached))), (1, .obj (oL true 36 2 cEntry dEntry ([] : List TEntry)))]] (by kernel_rfl) (Obs.of (by kernel_rfl) (And.intro (le_nil 46 5 cCached dCached) (And.intro (le_nil 36 2 cEntry dEntry) (And.intro (cache_usable.spec e_2) (And.intro g_3 (And.intro (le_nil 46 5 cCached dCached) (le_nil 36 2 cEntry dEntry)))))))
  · obtain ⟨y_4, e_5, h⟩ := bind_or h
    obtain ⟨y_6, e_7, h⟩ := bind_or h
    exact RunC.go [.n 1, .r [(2, .obj (oL true 46 5 cCached dCached ([] : List TCached))), (3, .obj (oL true 36 2 cEntry dEntry ([] : List TEntry)))], .n 2, .r [(4, .call (.p (.bool y_1)) []), (5, .dec false)], .n 3, .r [(3, .call (.sref 0 46 5 (y_4).length) [(oL true 46 5 cCached dCached y_4)])], .n 1, .r [(1, .call (.agg ((cValue y_6).map .p)) [])], .n 5, .k [2, 4, 5, 13, 14, 15]] (by kernel_rfl) (Obs.of (by kernel_rfl) (And.intro (le_nil 46 5 cCached dCached) (And.intro (le_nil 36 2 cEntry dEntry) (And.intro (cache_usable.spec e_2) (And.intro (nt g_3) (And.intro (cache_Expire.spec e_5) (value_Clean.spec e_7))))))) (cache_Lookup.p1.run k _ _ _ _ _ _ r h)
theorem cache_Lookup.p3.mono   : ∀ (k k' : Nat) (rows2 : (List TEntry)) (day4 : Int) (i18 : Int) (c5b : TCache) (out13 : (List TCached)) (want14b : TValue) (r : ((List TCached) × (List TEntry) × Int)), k ≤ k' → cache_Lookup.p3 k rows2 day4 i18 c5b out13 want14b = some r → cache_Lookup.p3 k' rows2 day4 i18 c5b out13 want14b = some r := by
  intro k
  induction k with
  | zero => intro k' rows2 day4 i18 c5b out13 want14b r hk h; simp [cache_Lookup.p3] at h
  | succ k ih =>
    intro k' rows2 day4 i18 c5b out13 want14b r hk h
    obtain ⟨k', rfl⟩ : ∃ m, k' = m + 1 := ⟨k' - 1, by omega⟩
    replace hk := Nat.le_of_succ_le_succ hk
    rw [cache_Lookup.p3] at h ⊢
    rcases ite_or h with ⟨g_21, h⟩ | ⟨g_21, h⟩
    · refine itp g_21 ?_
      obtain ⟨g_22, h⟩ := ite_some h
      refine itp g_22 ?_
      obtain ⟨y_23, e_24, h⟩ := bind_or h
      refine bnd (value_Compare.mono _ _ _ _ _ hk e_24) ?_
      rcases ite_or h with ⟨g_25, h⟩ | ⟨g_25, h⟩
      · refine itp g_25 ?_
        exact ih _ _ _ _ _ _ _ r hk h
      · refine itn g_25 ?_
        obtain ⟨g_26, h⟩ := ite_some h
        refine itp g_26 ?_
        obtain ⟨g_27, h⟩ := ite_some h
        refine itp g_27 ?_
        obtain ⟨g_28, h⟩ := ite_some h
        refine itp g_28 ?_
        obtain ⟨y_29, e_30, h⟩ := bind_or h
        refine bnd (cache_Select.mono _ _ _ _ _ _ hk e_30) ?_
        obtain ⟨g_31, h⟩ := ite_some h
        refine itp g_31 ?_
        obtain ⟨y_32, e_33, h⟩ := bind_or h
        refine bnd (cache_copied.mono _ _ _ _ hk e_33) ?_
        exact h
    · refine itn g_21 ?_
      obtain ⟨g_34, h⟩ := ite_some h
      refine itp g_34 ?_
      obtain ⟨g_35, h⟩ := ite_some h
      refine itp g_35 ?_
      obtain ⟨g_36, h⟩ := ite_some h
      refine itp g_36 ?_
      obtain ⟨y_37, e_38, h⟩ := bind_or h
      refine bnd (cache_Select.mono _ _ _ _ _ _ hk e_38) ?_
      obtain ⟨g_39, h⟩ := ite_some h
      refine itp g_39 ?_
      obtain ⟨y_40, e_41, h⟩ := bind_or h
      refine bnd (cache_copied.mono _ _ _ _ hk e_41) ?_
      exact h
theorem cache_Lookup.p2.mono   : ∀ (k k' : Nat) (rows2 : (List TEntry)) (day4 : Int) (oldest16 : Int) (i17 : Int) (c5b : TCache) (out13 : (List TCached)) (want14b : TValue) (r : ((List TCached) × (List TEntry) × Int)), k ≤ k' → cache_Lookup.p2 k rows2 day4 oldest16 i17 c5b out13 want14b = some r → cache_Lookup.p2 k' rows2 day4 oldest16 i17 c5b out13 want14b = some r := by
  intro k
  induction k with
  | zero => intro k' rows2 day4 oldest16 i17 c5b out13 want14b r hk h; simp [cache_Lookup.p2] at h
  | succ k ih =>
    intro k' rows2 day4 oldest16 i17 c5b out13 want14b r hk h
    obtain ⟨k', rfl⟩ : ∃ m, k' = m + 1 := ⟨k' - 1, by omega⟩
    replace hk := Nat.le_of_succ_le_succ hk
    rw [cache_Lookup.p2] at h ⊢
    rcases ite_or h with ⟨g_14, h⟩ | ⟨g_14, h⟩
    · refine itp g_14 ?_
      obtain ⟨g_15, h⟩ := ite_some h
      refine itp g_15 ?_
      obtain ⟨g_16, h⟩ := ite_some h
      refine itp g_16 ?_
      rcases ite_or h with ⟨g_17, h⟩ | ⟨g_17, h⟩
      · refine itp g_17 ?_
        exact ih _ _ _ _ _ _ _ _ r hk h
      · refine itn g_17 ?_
        exact ih _ _ _ _ _ _ _ _ r hk h
    · refine itn g_14 ?_
      obtain ⟨g_18, h⟩ := ite_some h
      refine itp g_18 ?_
      obtain ⟨g_19, h⟩ := ite_some h
      refine itp g_19 ?_
      obtain ⟨g_20, h⟩ := ite_some h
      refine itp g_20 ?_
      exact cache_Lookup.p3.mono _ _ _ _ _ _ _ _ r hk h
theorem cache_Lookup.p1.mono   : ∀ (k k' : Nat) (rows2 : (List TEntry)) (day4 : Int) (i15 : Int) (c5b : TCache) (out13 : (List TCached)) (want14b : TValue) (r : ((List TCached) × (List TEntry) × Int)), k ≤ k' → cache_Lookup.p1 k rows2 day4 i15 c5b out13 want14b = some r → cache_Lookup.p1 k' rows2 day4 i15 c5b out13 want14b = some r := by
  intro k
  induction k with
  | zero => intro k' rows2 day4 i15 c5b out13 want14b r hk h; simp [cache_Lookup.p1] at h
  | succ k ih =>
    intro k' rows2 day4 i15 c5b out13 want14b r hk h
    obtain ⟨k', rfl⟩ : ∃ m, k' = m + 1 := ⟨k' - 1, by omega⟩
    replace hk := Nat.le_of_succ_le_succ hk
    rw [cache_Lookup.p1] at h ⊢
    rcases ite_or h with ⟨g_8, h⟩ | ⟨g_8, h⟩
    · refine itp g_8 ?_
      obtain ⟨g_9, h⟩ := ite_some h
      refine itp g_9 ?_
      rcases ite_or h with ⟨g_10, h⟩ | ⟨g_10, h⟩
      · refine itp g_10 ?_
        obtain ⟨y_11, e_12, h⟩ := bind_or h
        refine bnd (cache_copied.mono _ _ _ _ hk e_12) ?_
        exact h
      · refine itn g_10 ?_
        exact ih _ _ _ _ _ _ _ r hk h
    · refine itn g_8 ?_
      rcases ite_or h with ⟨g_13, h⟩ | ⟨g_13, h⟩
      · refine itp g_13 ?_
        exact cache_Lookup.p2.mono _ _ _ _ _ _ _ _ _ r hk h
      · refine itn g_13 ?_
        exact cache_Lookup.p3.mono _ _ _ _ _ _ _ _ r hk h
theorem cache_Lookup.mono   : ∀ (k k' : Nat) (c0 : TCache) (s1 : (List TCached)) (rows2 : (List TEntry)) (v3 : TValue) (day4 : Int) (r : ((List TCached) × (List TEntry) × Int)), k ≤ k' → cache_Lookup k c0 s1 rows2 v3 day4 = some r → cache_Lookup k' c0 s1 rows2 v3 day4 = some r := by
  intro k k' c0 s1 rows2 v3 day4 r hk h
  unfold cache_Lookup at h ⊢
  obtain ⟨y_1, e_2, h⟩ := bind_or h
  refine bnd (cache_usable.mono _ _ _ _ _ _ _ hk e_2) ?_
  rcases ite_or h with ⟨g_3, h⟩ | ⟨g_3, h⟩
  · refine itp g_3 ?_
    exact h
  · refine itn g_3 ?_
    obtain ⟨y_4, e_5, h⟩ := bind_or h
    refine bnd (cache_Expire.mono _ _ _ _ _ _ hk e_5) ?_
    obtain ⟨y_6, e_7, h⟩ := bind_or h
    refine bnd (value_Clean.mono _ _ _ _ hk e_7) ?_
    exact cache_Lookup.p1.mono _ _ _ _ _ _ _ _ r hk h
theorem cache_Lookup.spec {k : Nat} {c0 : TCache} {s1 : (List TCached)} {rows2 : (List TEntry)} {v3 : TValue} {day4 : Int} {r : ((List TCached) × (List TEntry) × Int)} (h : cache_Lookup k c0 s1 rows2 v3 day4 = some r) : Spec Try.prog 17 [.agg ((cCache c0).map .p), .p (eL 5 cCached dCached s1), .p (eL 2 cEntry dEntry rows2), .agg ((cValue v3).map .p), .p (.int .i64 day4)] (.tup [.sref 0 46 5 (r.1).length, .sref 1 36 2 (r.2.1).length, .p (.int .i64 r.2.2)]) [(oL true 46 5 cCached dCached (r.1)), (oL true 36 2 cEntry dEntry (r.2.1))] :=
  spec_of mix Try.func17 (body := bodyOf Try.f17) (by kernel_rfl) (by kernel_rfl) (cache_Lookup.run h)
end Go.Proofs.YtjhnpaenhdbhpabV
set_option linter.unusedVariables false
set_option linter.unusedSimpArgs false
set_option maxRecDepth 100000
namespace Go.Proofs.YtjhnpaenhdbhpabV
open Go Go.RowKit
noncomputable def erasurelaw30_awake  (k : Nat)  : Option Bool := (erasureref01_Int k 7).bind fun y_1 => ((cache_Lookup k (TCache.mk (⟨#[]⟩ : ByteArray) (⟨#[]⟩ : ByteArray) 0 2) ([] : List TCached) ([(TEntry.mk ([y_1]) 3)]) y_1 5).bind fun y_3 => ((cache_Lookup k (TCache.mk (⟨#[]⟩ : ByteArray) (⟨#[]⟩ : ByteArray) 0 2) y_3.1 ([] : List TEntry) y_1 6).bind fun y_5 => ((cache_Lookup k (TCache.mk (⟨#[]⟩ : ByteArray) (⟨#[]⟩ : ByteArray) 0 2) y_5.1 ([] : List TEntry) y_1 7).bind fun y_7 => (if (y_3.2.2 == 0) = true then (if (y_5.2.2 == 0) = true then (if (y_7.2.2 == 0) = true then (if (((y_3.2.1).length : Int) == 1) = true then (if (((y_5.2.1).length : Int) == 1) = true then (some (((y_7.2.1).length : Int) == 0)) else (some false)) else (some false)) else (some false)) else (some false)) else (some false)))))
noncomputable def erasurelaw30_awake.t : List Item := [.code (bodyOf Try.f12)]
noncomputable def erasurelaw30_awake.s  : St := ⟨frOf Try.f12.ntmps 0 [], []⟩
theorem erasurelaw30_awake.run   {k : Nat}  {r : Bool} (h : erasurelaw30_awake k  = some r) : RunC Try.prog Try.f12 erasurelaw30_awake.t (erasurelaw30_awake.s ) (.p (.bool r)) [] := by
  unfold erasurelaw30_awake at h
  obtain ⟨y_1, e_2, h⟩ := bind_or h
  obtain ⟨y_3, e_4, h⟩ := bind_or h
  obtain ⟨y_5, e_6, h⟩ := bind_or h
  obtain ⟨y_7, e_8, h⟩ := bind_or h
  rcases ite_or h with ⟨g_9, h⟩ | ⟨g_9, h⟩
  · rcases ite_or h with ⟨g_10, h⟩ | ⟨g_10, h⟩
    · rcases ite_or h with ⟨g_11, h⟩ | ⟨g_11, h⟩
      · rcases ite_or h with ⟨g_12, h⟩ | ⟨g_12, h⟩
        · rcases ite_or h with ⟨g_13, h⟩ | ⟨g_13, h⟩
          · obtain rfl := Option.some.inj h
            exact RunC.out [.n 5, .r [(0, .call (.agg ((cValue y_1).map .p)) [])], .n 1, .r [(1, .obj (oL true 24 3 cValue dValue [y_1])), (3, .obj (oL true 36 2 cEntry dEntry [(TEntry.mk ([y_1]) 3)]))], .n 1, .r [(3, .callL [.agg ((cCache (TCache.mk (⟨#[]⟩ : ByteArray) (⟨#[]⟩ : ByteArray) 0 2)).map .p), .p (eL 5 cCached dCached ([] : List TCached)), .p (eL 2 cEntry dEntry ([(TEntry.mk ([y_1]) 3)])), .agg ((cValue y_1).map .p), .p (.int .i64 5)] (.tup [.sref 0 46 5 (y_3.1).length, .sref 1 36 2 (y_3.2.1).length, .p (.int .i64 y_3.2.2)]) [(oL true 46 5 cCached dCached y_3.1), (oL true 36 2 cEntry dEntry y_3.2.1)])], .n 1, .r [(3, .callL [.agg ((cCache (TCache.mk (⟨#[]⟩ : ByteArray) (⟨#[]⟩ : ByteArray) 0 2)).map .p), .p (eL 5 cCached dCached y_3.1), .p (eL 2 cEntry dEntry ([] : List TEntry)), .agg ((cValue y_1).map .p), .p (.int .i64 6)] (.tup [.sref 0 46 5 (y_5.1).length, .sref 1 36 2 (y_5.2.1).length, .p (.int .i64 y_5.2.2)]) [(oL true 46 5 cCached dCached y_5.1), (oL true 36 2 cEntry dEntry y_5.2.1)])], .n 1, .r [(3, .callL [.agg ((cCache (TCache.mk (⟨#[]⟩ : ByteArray) (⟨#[]⟩ : ByteArray) 0 2)).map .p), .p (eL 5 cCached dCached y_5.1), .p (eL 2 cEntry dEntry ([] : List TEntry)), .agg ((cValue y_1).map .p), .p (.int .i64 7)] (.tup [.sref 0 46 5 (y_7.1).length, .sref 1 36 2 (y_7.2.1).length, .p (.int .i64 y_7.2.2)]) [(oL true 46 5 cCached dCached y_7.1), (oL true 36 2 cEntry dEntry y_7.2.1)])], .n 1, .r [(2, .dec true), (6, .dec true), (10, .dec true), (15, .dec true), (20, .dec true)]] (by kernel_rfl) (Obs.of (by kernel_rfl) (And.intro (erasureref01_Int.spec e_2) (And.intro (le_one 24 3 cValue dValue y_1) (And.intro (le_one 36 2 cEntry dEntry (TEntry.mk ([y_1]) 3)) (And.intro (And.intro (fls_cons (fle_rfl (.agg ((cCache (TCache.mk (⟨#[]⟩ : ByteArray) (⟨#[]⟩ : ByteArray) 0 2)).map .p))) (fls_cons (fle_nil 5 cCached dCached) (fls_cons (fle_rfl (.p (eL 2 cEntry dEntry ([(TEntry.mk ([y_1]) 3)])))) (fls_cons (fle_rfl (.agg ((cValue y_1).map .p))) (fls_cons (fle_rfl (.p (.int .i64 5))) fls_nil))))) (cache_Lookup.spec e_4)) (And.intro (And.intro (fls_cons (fle_rfl (.agg ((cCache (TCache.mk (⟨#[]⟩ : ByteArray) (⟨#[]⟩ : ByteArray) 0 2)).map .p))) (fls_cons (fle_rfl (.p (eL 5 cCached dCached y_3.1))) (fls_cons (fle_nil 2 cEntry dEntry) (fls_cons (fle_rfl (.agg ((cValue y_1).map .p))) (fls_cons (fle_rfl (.p (.int .i64 6))) fls_nil))))) (cache_Lookup.spec e_6)) (And.intro (And.intro (fls_cons (fle_rfl (.agg ((cCache (TCache.mk (⟨#[]⟩ : ByteArray) (⟨#[]⟩ : ByteArray) 0 2)).map .p))) (fls_cons (fle_rfl (.p (eL 5 cCached dCached y_5.1))) (fls_cons (fle_nil 2 cEntry dEntry) (fls_cons (fle_rfl (.agg ((cValue y_1).map .p))) (fls_cons (fle_rfl (.p (.int .i64 7))) fls_nil))))) (cache_Lookup.spec e_8)) (And.intro g_9 (And.intro g_10 (And.intro g_11 (And.intro g_12 g_13)))))))))))
          · obtain rfl := Option.some.inj h
            exact RunC.out [.n 5, .r [(0, .call (.agg ((cValue y_1).map .p)) [])], .n 1, .r [(1, .obj (oL true 24 3 cValue dValue [y_1])), (3, .obj (oL true 36 2 cEntry dEntry [(TEntry.mk ([y_1]) 3)]))], .n 1, .r [(3, .callL [.agg ((cCache (TCache.mk (⟨#[]⟩ : ByteArray) (⟨#[]⟩ : ByteArray) 0 2)).map .p), .p (eL 5 cCached dCached ([] : List TCached)), .p (eL 2 cEntry dEntry ([(TEntry.mk ([y_1]) 3)])), .agg ((cValue y_1).map .p), .p (.int .i64 5)] (.tup [.sref 0 46 5 (y_3.1).length, .sref 1 36 2 (y_3.2.1).length, .p (.int .i64 y_3.2.2)]) [(oL true 46 5 cCached dCached y_3.1), (oL true 36 2 cEntry dEntry y_3.2.1)])], .n 1, .r [(3, .callL [.agg ((cCache (TCache.mk (⟨#[]⟩ : ByteArray) (⟨#[]⟩ : ByteArray) 0 2)).map .p), .p (eL 5 cCached dCached y_3.1), .p (eL 2 cEntry dEntry ([] : List TEntry)), .agg ((cValue y_1).map .p), .p (.int .i64 6)] (.tup [.sref 0 46 5 (y_5.1).length, .sref 1 36 2 (y_5.2.1).length, .p (.int .i64 y_5.2.2)]) [(oL true 46 5 cCached dCached y_5.1), (oL true 36 2 cEntry dEntry y_5.2.1)])], .n 1, .r [(3, .callL [.agg ((cCache (TCache.mk (⟨#[]⟩ : ByteArray) (⟨#[]⟩ : ByteArray) 0 2)).map .p), .p (eL 5 cCached dCached y_5.1), .p (eL 2 cEntry dEntry ([] : List TEntry)), .agg ((cValue y_1).map .p), .p (.int .i64 7)] (.tup [.sref 0 46 5 (y_7.1).length, .sref 1 36 2 (y_7.2.1).length, .p (.int .i64 y_7.2.2)]) [(oL true 46 5 cCached dCached y_7.1), (oL true 36 2 cEntry dEntry y_7.2.1)])], .n 1, .r [(2, .dec true), (6, .dec true), (10, .dec true), (15, .dec true), (20, .dec false)]] (by kernel_rfl) (Obs.of (by kernel_rfl) (And.intro (erasureref01_Int.spec e_2) (And.intro (le_one 24 3 cValue dValue y_1) (And.intro (le_one 36 2 cEntry dEntry (TEntry.mk ([y_1]) 3)) (And.intro (And.intro (fls_cons (fle_rfl (.agg ((cCache (TCache.mk (⟨#[]⟩ : ByteArray) (⟨#[]⟩ : ByteArray) 0 2)).map .p))) (fls_cons (fle_nil 5 cCached dCached) (fls_cons (fle_rfl (.p (eL 2 cEntry dEntry ([(TEntry.mk ([y_1]) 3)])))) (fls_cons (fle_rfl (.agg ((cValue y_1).map .p))) (fls_cons (fle_rfl (.p (.int .i64 5))) fls_nil))))) (cache_Lookup.spec e_4)) (And.intro (And.intro (fls_cons (fle_rfl (.agg ((cCache (TCache.mk (⟨#[]⟩ : ByteArray) (⟨#[]⟩ : ByteArray) 0 2)).map .p))) (fls_cons (fle_rfl (.p (eL 5 cCached dCached y_3.1))) (fls_cons (fle_nil 2 cEntry dEntry) (fls_cons (fle_rfl (.agg ((cValue y_1).map .p))) (fls_cons (fle_rfl (.p (.int .i64 6))) fls_nil))))) (cache_Lookup.spec e_6)) (And.intro (And.intro (fls_cons (fle_rfl (.agg ((cCache (TCache.mk (⟨#[]⟩ : ByteArray) (⟨#[]⟩ : ByteArray) 0 2)).map .p))) (fls_cons (fle_rfl (.p (eL 5 cCached dCached y_5.1))) (fls_cons (fle_nil 2 cEntry dEntry) (fls_cons (fle_rfl (.agg ((cValue y_1).map .p))) (fls_cons (fle_rfl (.p (.int .i64 7))) fls_nil))))) (cache_Lookup.spec e_8)) (And.intro g_9 (And.intro g_10 (And.intro g_11 (And.intro g_12 (nt g_13))))))))))))
        · obtain rfl := Option.some.inj h
          exact RunC.out [.n 5, .r [(0, .call (.agg ((cValue y_1).map .p)) [])], .n 1, .r [(1, .obj (oL true 24 3 cValue dValue [y_1])), (3, .obj (oL true 36 2 cEntry dEntry [(TEntry.mk ([y_1]) 3)]))], .n 1, .r [(3, .callL [.agg ((cCache (TCache.mk (⟨#[]⟩ : ByteArray) (⟨#[]⟩ : ByteArray) 0 2)).map .p), .p (eL 5 cCached dCached ([] : List TCached)), .p (eL 2 cEntry dEntry ([(TEntry.mk ([y_1]) 3)])), .agg ((cValue y_1).map .p), .p (.int .i64 5)] (.tup [.sref 0 46 5 (y_3.1).length, .sref 1 36 2 (y_3.2.1).length, .p (.int .i64 y_3.2.2)]) [(oL true 46 5 cCached dCached y_3.1), (oL true 36 2 cEntry dEntry y_3.2.1)])], .n 1, .r [(3, .callL [.agg ((cCache (TCache.mk (⟨#[]⟩ : ByteArray) (⟨#[]⟩ : ByteArray) 0 2)).map .p), .p (eL 5 cCached dCached y_3.1), .p (eL 2 cEntry dEntry ([] : List TEntry)), .agg ((cValue y_1).map .p), .p (.int .i64 6)] (.tup [.sref 0 46 5 (y_5.1).length, .sref 1 36 2 (y_5.2.1).length, .p (.int .i64 y_5.2.2)]) [(oL true 46 5 cCached dCached y_5.1), (oL true 36 2 cEntry dEntry y_5.2.1)])], .n 1, .r [(3, .callL [.agg ((cCache (TCache.mk (⟨#[]⟩ : ByteArray) (⟨#[]⟩ : ByteArray) 0 2)).map .p), .p (eL 5 cCached dCached y_5.1), .p (eL 2 cEntry dEntry ([] : List TEntry)), .agg ((cValue y_1).map .p), .p (.int .i64 7)] (.tup [.sref 0 46 5 (y_7.1).length, .sref 1 36 2 (y_7.2.1).length, .p (.int .i64 y_7.2.2)]) [(oL true 46 5 cCached dCached y_7.1), (oL true 36 2 cEntry dEntry y_7.2.1)])], .n 1, .r [(2, .dec true), (6, .dec true), (10, .dec true), (15, .dec false)]] (by kernel_rfl) (Obs.of (by kernel_rfl) (And.intro (erasureref01_Int.spec e_2) (And.intro (le_one 24 3 cValue dValue y_1) (And.intro (le_one 36 2 cEntry dEntry (TEntry.mk ([y_1]) 3)) (And.intro (And.intro (fls_cons (fle_rfl (.agg ((cCache (TCache.mk (⟨#[]⟩ : ByteArray) (⟨#[]⟩ : ByteArray) 0 2)).map .p))) (fls_cons (fle_nil 5 cCached dCached) (fls_cons (fle_rfl (.p (eL 2 cEntry dEntry ([(TEntry.mk ([y_1]) 3)])))) (fls_cons (fle_rfl (.agg ((cValue y_1).map .p))) (fls_cons (fle_rfl (.p (.int .i64 5))) fls_nil))))) (cache_Lookup.spec e_4)) (And.intro (And.intro (fls_cons (fle_rfl (.agg ((cCache (TCache.mk (⟨#[]⟩ : ByteArray) (⟨#[]⟩ : ByteArray) 0 2)).map .p))) (fls_cons (fle_rfl (.p (eL 5 cCached dCached y_3.1))) (fls_cons (fle_nil 2 cEntry dEntry) (fls_cons (fle_rfl (.agg ((cValue y_1).map .p))) (fls_cons (fle_rfl (.p (.int .i64 6))) fls_nil))))) (cache_Lookup.spec e_6)) (And.intro (And.intro (fls_cons (fle_rfl (.agg ((cCache (TCache.mk (⟨#[]⟩ : ByteArray) (⟨#[]⟩ : ByteArray) 0 2)).map .p))) (fls_cons (fle_rfl (.p (eL 5 cCached dCached y_5.1))) (fls_cons (fle_nil 2 cEntry dEntry) (fls_cons (fle_rfl (.agg ((cValue y_1).map .p))) (fls_cons (fle_rfl (.p (.int .i64 7))) fls_nil))))) (cache_Lookup.spec e_8)) (And.intro g_9 (And.intro g_10 (And.intro g_11 (nt g_12)))))))))))
      · obtain rfl := Option.some.inj h
        exact RunC.out [.n 5, .r [(0, .call (.agg ((cValue y_1).map .p)) [])], .n 1, .r [(1, .obj (oL true 24 3 cValue dValue [y_1])), (3, .obj (oL true 36 2 cEntry dEntry [(TEntry.mk ([y_1]) 3)]))], .n 1, .r [(3, .callL [.agg ((cCache (TCache.mk (⟨#[]⟩ : ByteArray) (⟨#[]⟩ : ByteArray) 0 2)).map .p), .p (eL 5 cCached dCached ([] : List TCached)), .p (eL 2 cEntry dEntry ([(TEntry.mk ([y_1]) 3)])), .agg ((cValue y_1).map .p), .p (.int .i64 5)] (.tup [.sref 0 46 5 (y_3.1).length, .sref 1 36 2 (y_3.2.1).length, .p (.int .i64 y_3.2.2)]) [(oL true 46 5 cCached dCached y_3.1), (oL true 36 2 cEntry dEntry y_3.2.1)])], .n 1, .r [(3, .callL [.agg ((cCache (TCache.mk (⟨#[]⟩ : ByteArray) (⟨#[]⟩ : ByteArray) 0 2)).map .p), .p (eL 5 cCached dCached y_3.1), .p (eL 2 cEntry dEntry ([] : List TEntry)), .agg ((cValue y_1).map .p), .p (.int .i64 6)] (.tup [.sref 0 46 5 (y_5.1).length, .sref 1 36 2 (y_5.2.1).length, .p (.int .i64 y_5.2.2)]) [(oL true 46 5 cCached dCached y_5.1), (oL true 36 2 cEntry dEntry y_5.2.1)])], .n 1, .r [(3, .callL [.agg ((cCache (TCache.mk (⟨#[]⟩ : ByteArray) (⟨#[]⟩ : ByteArray) 0 2)).map .p), .p (eL 5 cCached dCached y_5.1), .p (eL 2 cEntry dEntry ([] : List TEntry)), .agg ((cValue y_1).map .p), .p (.int .i64 7)] (.tup [.sref 0 46 5 (y_7.1).length, .sref 1 36 2 (y_7.2.1).length, .p (.int .i64 y_7.2.2)]) [(oL true 46 5 cCached dCached y_7.1), (oL true 36 2 cEntry dEntry y_7.2.1)])], .n 1, .r [(2, .dec true), (6, .dec true), (10, .dec false)]] (by kernel_rfl) (Obs.of (by kernel_rfl) (And.intro (erasureref01_Int.spec e_2) (And.intro (le_one 24 3 cValue dValue y_1) (And.intro (le_one 36 2 cEntry dEntry (TEntry.mk ([y_1]) 3)) (And.intro (And.intro (fls_cons (fle_rfl (.agg ((cCache (TCache.mk (⟨#[]⟩ : ByteArray) (⟨#[]⟩ : ByteArray) 0 2)).map .p))) (fls_cons (fle_nil 5 cCached dCached) (fls_cons (fle_rfl (.p (eL 2 cEntry dEntry ([(TEntry.mk ([y_1]) 3)])))) (fls_cons (fle_rfl (.agg ((cValue y_1).map .p))) (fls_cons (fle_rfl (.p (.int .i64 5))) fls_nil))))) (cache_Lookup.spec e_4)) (And.intro (And.intro (fls_cons (fle_rfl (.agg ((cCache (TCache.mk (⟨#[]⟩ : ByteArray) (⟨#[]⟩ : ByteArray) 0 2)).map .p))) (fls_cons (fle_rfl (.p (eL 5 cCached dCached y_3.1))) (fls_cons (fle_nil 2 cEntry dEntry) (fls_cons (fle_rfl (.agg ((cValue y_1).map .p))) (fls_cons (fle_rfl (.p (.int .i64 6))) fls_nil))))) (cache_Lookup.spec e_6)) (And.intro (And.intro (fls_cons (fle_rfl (.agg ((cCache (TCache.mk (⟨#[]⟩ : ByteArray) (⟨#[]⟩ : ByteArray) 0 2)).map .p))) (fls_cons (fle_rfl (.p (eL 5 cCached dCached y_5.1))) (fls_cons (fle_nil 2 cEntry dEntry) (fls_cons (fle_rfl (.agg ((cValue y_1).map .p))) (fls_cons (fle_rfl (.p (.int .i64 7))) fls_nil))))) (cache_Lookup.spec e_8)) (And.intro g_9 (And.intro g_10 (nt g_11))))))))))
    · obtain rfl := Option.some.inj h
      exact RunC.out [.n 5, .r [(0, .call (.agg ((cValue y_1).map .p)) [])], .n 1, .r [(1, .obj (oL true 24 3 cValue dValue [y_1])), (3, .obj (oL true 36 2 cEntry dEntry [(TEntry.mk ([y_1]) 3)]))], .n 1, .r [(3, .callL [.agg ((cCache (TCache.mk (⟨#[]⟩ : ByteArray) (⟨#[]⟩ : ByteArray) 0 2)).map .p), .p (eL 5 cCached dCached ([] : List TCached)), .p (eL 2 cEntry dEntry ([(TEntry.mk ([y_1]) 3)])), .agg ((cValue y_1).map .p), .p (.int .i64 5)] (.tup [.sref 0 46 5 (y_3.1).length, .sref 1 36 2 (y_3.2.1).length, .p (.int .i64 y_3.2.2)]) [(oL true 46 5 cCached dCached y_3.1), (oL true 36 2 cEntry dEntry y_3.2.1)])], .n 1, .r [(3, .callL [.agg ((cCache (TCache.mk (⟨#[]⟩ : ByteArray) (⟨#[]⟩ : ByteArray) 0 2)).map .p), .p (eL 5 cCached dCached y_3.1), .p (eL 2 cEntry dEntry ([] : List TEntry)), .agg ((cValue y_1).map .p), .p (.int .i64 6)] (.tup [.sref 0 46 5 (y_5.1).length, .sref 1 36 2 (y_5.2.1).length, .p (.int .i64 y_5.2.2)]) [(oL true 46 5 cCached dCached y_5.1), (oL true 36 2 cEntry dEntry y_5.2.1)])], .n 1, .r [(3, .callL [.agg ((cCache (TCache.mk (⟨#[]⟩ : ByteArray) (⟨#[]⟩ : ByteArray) 0 2)).map .p), .p (eL 5 cCached dCached y_5.1), .p (eL 2 cEntry dEntry ([] : List TEntry)), .agg ((cValue y_1).map .p), .p (.int .i64 7)] (.tup [.sref 0 46 5 (y_7.1).length, .sref 1 36 2 (y_7.2.1).length, .p (.int .i64 y_7.2.2)]) [(oL true 46 5 cCached dCached y_7.1), (oL true 36 2 cEntry dEntry y_7.2.1)])], .n 1, .r [(2, .dec true), (6, .dec false)]] (by kernel_rfl) (Obs.of (by kernel_rfl) (And.intro (erasureref01_Int.spec e_2) (And.intro (le_one 24 3 cValue dValue y_1) (And.intro (le_one 36 2 cEntry dEntry (TEntry.mk ([y_1]) 3)) (And.intro (And.intro (fls_cons (fle_rfl (.agg ((cCache (TCache.mk (⟨#[]⟩ : ByteArray) (⟨#[]⟩ : ByteArray) 0 2)).map .p))) (fls_cons (fle_nil 5 cCached dCached) (fls_cons (fle_rfl (.p (eL 2 cEntry dEntry ([(TEntry.mk ([y_1]) 3)])))) (fls_cons (fle_rfl (.agg ((cValue y_1).map .p))) (fls_cons (fle_rfl (.p (.int .i64 5))) fls_nil))))) (cache_Lookup.spec e_4)) (And.intro (And.intro (fls_cons (fle_rfl (.agg ((cCache (TCache.mk (⟨#[]⟩ : ByteArray) (⟨#[]⟩ : ByteArray) 0 2)).map .p))) (fls_cons (fle_rfl (.p (eL 5 cCached dCached y_3.1))) (fls_cons (fle_nil 2 cEntry dEntry) (fls_cons (fle_rfl (.agg ((cValue y_1).map .p))) (fls_cons (fle_rfl (.p (.int .i64 6))) fls_nil))))) (cache_Lookup.spec e_6)) (And.intro (And.intro (fls_cons (fle_rfl (.agg ((cCache (TCache.mk (⟨#[]⟩ : ByteArray) (⟨#[]⟩ : ByteArray) 0 2)).map .p))) (fls_cons (fle_rfl (.p (eL 5 cCached dCached y_5.1))) (fls_cons (fle_nil 2 cEntry dEntry) (fls_cons (fle_rfl (.agg ((cValue y_1).map .p))) (fls_cons (fle_rfl (.p (.int .i64 7))) fls_nil))))) (cache_Lookup.spec e_8)) (And.intro g_9 (nt g_10)))))))))
  · obtain rfl := Option.some.inj h
    exact RunC.out [.n 5, .r [(0, .call (.agg ((cValue y_1).map .p)) [])], .n 1, .r [(1, .obj (oL true 24 3 cValue dValue [y_1])), (3, .obj (oL true 36 2 cEntry dEntry [(TEntry.mk ([y_1]) 3)]))], .n 1, .r [(3, .callL [.agg ((cCache (TCache.mk (⟨#[]⟩ : ByteArray) (⟨#[]⟩ : ByteArray) 0 2)).map .p), .p (eL 5 cCached dCached ([] : List TCached)), .p (eL 2 cEntry dEntry ([(TEntry.mk ([y_1]) 3)])), .agg ((cValue y_1).map .p), .p (.int .i64 5)] (.tup [.sref 0 46 5 (y_3.1).length, .sref 1 36 2 (y_3.2.1).length, .p (.int .i64 y_3.2.2)]) [(oL true 46 5 cCached dCached y_3.1), (oL true 36 2 cEntry dEntry y_3.2.1)])], .n 1, .r [(3, .callL [.agg ((cCache (TCache.mk (⟨#[]⟩ : ByteArray) (⟨#[]⟩ : ByteArray) 0 2)).map .p), .p (eL 5 cCached dCached y_3.1), .p (eL 2 cEntry dEntry ([] : List TEntry)), .agg ((cValue y_1).map .p), .p (.int .i64 6)] (.tup [.sref 0 46 5 (y_5.1).length, .sref 1 36 2 (y_5.2.1).length, .p (.int .i64 y_5.2.2)]) [(oL true 46 5 cCached dCached y_5.1), (oL true 36 2 cEntry dEntry y_5.2.1)])], .n 1, .r [(3, .callL [.agg ((cCache (TCache.mk (⟨#[]⟩ : ByteArray) (⟨#[]⟩ : ByteArray) 0 2)).map .p), .p (eL 5 cCached dCached y_5.1), .p (eL 2 cEntry dEntry ([] : List TEntry)), .agg ((cValue y_1).map .p), .p (.int .i64 7)] (.tup [.sref 0 46 5 (y_7.1).length, .sref 1 36 2 (y_7.2.1).length, .p (.int .i64 y_7.2.2)]) [(oL true 46 5 cCached dCached y_7.1), (oL true 36 2 cEntry dEntry y_7.2.1)])], .n 1, .r [(2, .dec false)]] (by kernel_rfl) (Obs.of (by kernel_rfl) (And.intro (erasureref01_Int.spec e_2) (And.intro (le_one 24 3 cValue dValue y_1) (And.intro (le_one 36 2 cEntry dEntry (TEntry.mk ([y_1]) 3)) (And.intro (And.intro (fls_cons (fle_rfl (.agg ((cCache (TCache.mk (⟨#[]⟩ : ByteArray) (⟨#[]⟩ : ByteArray) 0 2)).map .p))) (fls_cons (fle_nil 5 cCached dCached) (fls_cons (fle_rfl (.p (eL 2 cEntry dEntry ([(TEntry.mk ([y_1]) 3)])))) (fls_cons (fle_rfl (.agg ((cValue y_1).map .p))) (fls_cons (fle_rfl (.p (.int .i64 5))) fls_nil))))) (cache_Lookup.spec e_4)) (And.intro (And.intro (fls_cons (fle_rfl (.agg ((cCache (TCache.mk (⟨#[]⟩ : ByteArray) (⟨#[]⟩ : ByteArray) 0 2)).map .p))) (fls_cons (fle_rfl (.p (eL 5 cCached dCached y_3.1))) (fls_cons (fle_nil 2 cEntry dEntry) (fls_cons (fle_rfl (.agg ((cValue y_1).map .p))) (fls_cons (fle_rfl (.p (.int .i64 6))) fls_nil))))) (cache_Lookup.spec e_6)) (And.intro (And.intro (fls_cons (fle_rfl (.agg ((cCache (TCache.mk (⟨#[]⟩ : ByteArray) (⟨#[]⟩ : ByteArray) 0 2)).map .p))) (fls_cons (fle_rfl (.p (eL 5 cCached dCached y_5.1))) (fls_cons (fle_nil 2 cEntry dEntry) (fls_cons (fle_rfl (.agg ((cValue y_1).map .p))) (fls_cons (fle_rfl (.p (.int .i64 7))) fls_nil))))) (cache_Lookup.spec e_8)) (nt g_9))))))))
theorem erasurelaw30_awake.mono   : ∀ (k k' : Nat)  (r : Bool), k ≤ k' → erasurelaw30_awake k  = some r → erasurelaw30_awake k'  = some r := by
  intro k k'  r hk h
  unfold erasurelaw30_awake at h ⊢
  obtain ⟨y_1, e_2, h⟩ := bind_or h
  refine bnd (erasureref01_Int.mono _ _ _ _ hk e_2) ?_
  obtain ⟨y_3, e_4, h⟩ := bind_or h
  refine bnd (cache_Lookup.mono _ _ _ _ _ _ _ _ hk e_4) ?_
  obtain ⟨y_5, e_6, h⟩ := bind_or h
  refine bnd (cache_Lookup.mono _ _ _ _ _ _ _ _ hk e_6) ?_
  obtain ⟨y_7, e_8, h⟩ := bind_or h
  refine bnd (cache_Lookup.mono _ _ _ _ _ _ _ _ hk e_8) ?_
  rcases ite_or h with ⟨g_9, h⟩ | ⟨g_9, h⟩
  · refine itp g_9 ?_
    rcases ite_or h with ⟨g_10, h⟩ | ⟨g_10, h⟩
    · refine itp g_10 ?_
      rcases ite_or h with ⟨g_11, h⟩ | ⟨g_11, h⟩
      · refine itp g_11 ?_
        rcases ite_or h with ⟨g_12, h⟩ | ⟨g_12, h⟩
        · refine itp g_12 ?_
          rcases ite_or h with ⟨g_13, h⟩ | ⟨g_13, h⟩
          · refine itp g_13 ?_
            exact h
          · refine itn g_13 ?_
            exact h
        · refine itn g_12 ?_
          exact h
      · refine itn g_11 ?_
        exact h
    · refine itn g_10 ?_
      exact h
  · refine itn g_9 ?_
    exact h
theorem erasurelaw30_awake.spec {k : Nat}  {r : Bool} (h : erasurelaw30_awake k  = some r) : Spec Try.prog 12 [] (.p (.bool r)) [] :=
  spec_of mix Try.func12 (body := bodyOf Try.f12) (by kernel_rfl) (by kernel_rfl) (erasurelaw30_awake.run h)
end Go.Proofs.YtjhnpaenhdbhpabV
set_option linter.unusedVariables false
set_option linter.unusedSimpArgs false
set_option maxRecDepth 100000
namespace Go.Proofs.YtjhnpaenhdbhpabV
open Go Go.RowKit
noncomputable def erasureref01_Compare  (k : Nat) (a0 : TValue) (b1 : TValue) : Option Int := (erasureref01_Clean k a0).bind fun y_1 => ((erasureref01_Clean k b1).bind fun y_3 => (if ((y_1.f0 == y_3.f0) && ((y_1.f1 == y_3.f1) && ((y_1.f2.data.toList == y_3.f2.data.toList) && true))) = true then (some 0) else (if (decide (y_1.f0 < y_3.f0)) = true then (some (-1)) else (if (y_1.f0 == y_3.f0) = true then (if (decide (y_1.f1 < y_3.f1)) = true then (some (-1)) else (if (Op.bytesLess y_1.f2.data.toList y_3.f2.data.toList) = true then (some (-1)) else (some 1))) else (some 1)))))
noncomputable def erasureref01_Compare.t : List Item := [.code (bodyOf Try.f47)]
noncomputable def erasureref01_Compare.s (a0 : TValue) (b1 : TValue) : St := ⟨frOf Try.f47.ntmps 0 [(0, .agg ((cValue a0).map .p)), (1, .agg ((cValue b1).map .p))], []⟩
theorem erasureref01_Compare.run   {k : Nat} {a0 : TValue} {b1 : TValue} {r : Int} (h : erasureref01_Compare k a0 b1 = some r) : RunC Try.prog Try.f47 erasureref01_Compare.t (erasureref01_Compare.s a0 b1) (.p (.int .i64 r)) [] := by
  unfold erasureref01_Compare at h
  obtain ⟨y_1, e_2, h⟩ := bind_or h
  obtain ⟨y_3, e_4, h⟩ := bind_or h
  rcases ite_or h with ⟨g_5, h⟩ | ⟨g_5, h⟩
  · obtain rfl := Option.some.inj h
    exact RunC.out [.n 3, .r [(1, .call (.agg ((cValue y_1).map .p)) []), (3, .call (.agg ((cValue y_3).map .p)) [])], .n 2, .r [(2, .dec true)], .n 3] (by kernel_rfl) (Obs.of (by kernel_rfl) (And.intro (erasureref01_Clean.spec e_2) (And.intro (erasureref01_Clean.spec e_4) g_5)))
  · rcases ite_or h with ⟨g_6, h⟩ | ⟨g_6, h⟩
    · obtain rfl := Option.some.inj h
      exact RunC.out [.n 3, .r [(1, .call (.agg ((cValue y_1).map .p)) []), (3, .call (.agg ((cValue y_3).map .p)) [])], .n 2, .r [(2, .dec false)], .n 4, .r [(5, .dec true)], .n 3] (by kernel_rfl) (Obs.of (by kernel_rfl) (And.intro (erasureref01_Clean.spec e_2) (And.intro (erasureref01_Clean.spec e_4) (And.intro (nt g_5) g_6))))
    · rcases ite_or h with ⟨g_7, h⟩ | ⟨g_7, h⟩
      · rcases ite_or h with ⟨g_8, h⟩ | ⟨g_8, h⟩
        · obtain rfl := Option.some.inj h
          exact RunC.out [.n 3, .r [(1, .call (.agg ((cValue y_1).map .p)) []), (3, .call (.agg ((cValue y_3).map .p)) [])], .n 2, .r [(2, .dec false)], .n 4, .r [(5, .dec false), (11, .dec true), (17, .dec true)], .n 3] (by kernel_rfl) (Obs.of (by kernel_rfl) (And.intro (erasureref01_Clean.spec e_2) (And.intro (erasureref01_Clean.spec e_4) (And.intro (nt g_5) (And.intro (nt g_6) (And.intro g_7 g_8))))))
        · rcases ite_or h with ⟨g_9, h⟩ | ⟨g_9, h⟩
          · obtain rfl := Option.some.inj h
            exact RunC.out [.n 3, .r [(1, .call (.agg ((cValue y_1).map .p)) []), (3, .call (.agg ((cValue y_3).map .p)) [])], .n 2, .r [(2, .dec false)], .n 4, .r [(5, .dec false), (11, .dec true), (17, .dec false), (25, .dec true)], .n 3] (by kernel_rfl) (Obs.of (by kernel_rfl) (And.intro (erasureref01_Clean.spec e_2) (And.intro (erasureref01_Clean.spec e_4) (And.intro (nt g_5) (And.intro (nt g_6) (And.intro g_7 (And.intro (nt g_8) g_9)))))))
          · obtain rfl := Option.some.inj h
            exact RunC.out [.n 3, .r [(1, .call (.agg ((cValue y_1).map .p)) []), (3, .call (.agg ((cValue y_3).map .p)) [])], .n 2, .r [(2, .dec false)], .n 4, .r [(5, .dec false), (11, .dec true), (17, .dec false), (25, .dec false)], .n 4] (by kernel_rfl) (Obs.of (by kernel_rfl) (And.intro (erasureref01_Clean.spec e_2) (And.intro (erasureref01_Clean.spec e_4) (And.intro (nt g_5) (And.intro (nt g_6) (And.intro g_7 (And.intro (nt g_8) (nt g_9))))))))
      · obtain rfl := Option.some.inj h
        exact RunC.out [.n 3, .r [(1, .call (.agg ((cValue y_1).map .p)) []), (3, .call (.agg ((cValue y_3).map .p)) [])], .n 2, .r [(2, .dec false)], .n 4, .r [(5, .dec false), (11, .dec false)], .n 4] (by kernel_rfl) (Obs.of (by kernel_rfl) (And.intro (erasureref01_Clean.spec e_2) (And.intro (erasureref01_Clean.spec e_4) (And.intro (nt g_5) (And.intro (nt g_6) (nt g_7))))))
theorem erasureref01_Compare.mono   : ∀ (k k' : Nat) (a0 : TValue) (b1 : TValue) (r : Int), k ≤ k' → erasureref01_Compare k a0 b1 = some r → erasureref01_Compare k' a0 b1 = some r := by
  intro k k' a0 b1 r hk h
  unfold erasureref01_Compare at h ⊢
  obtain ⟨y_1, e_2, h⟩ := bind_or h
  refine bnd (erasureref01_Clean.mono _ _ _ _ hk e_2) ?_
  obtain ⟨y_3, e_4, h⟩ := bind_or h
  refine bnd (erasureref01_Clean.mono _ _ _ _ hk e_4) ?_
  rcases ite_or h with ⟨g_5, h⟩ | ⟨g_5, h⟩
  · refine itp g_5 ?_
    exact h
  · refine itn g_5 ?_
    rcases ite_or h with ⟨g_6, h⟩ | ⟨g_6, h⟩
    · refine itp g_6 ?_
      exact h
    · refine itn g_6 ?_
      rcases ite_or h with ⟨g_7, h⟩ | ⟨g_7, h⟩
      · refine itp g_7 ?_
        rcases ite_or h with ⟨g_8, h⟩ | ⟨g_8, h⟩
        · refine itp g_8 ?_
          exact h
        · refine itn g_8 ?_
          rcases ite_or h with ⟨g_9, h⟩ | ⟨g_9, h⟩
          · refine itp g_9 ?_
            exact h
          · refine itn g_9 ?_
            exact h
      · refine itn g_7 ?_
        exact h
theorem erasureref01_Compare.spec {k : Nat} {a0 : TValue} {b1 : TValue} {r : Int} (h : erasureref01_Compare k a0 b1 = some r) : Spec Try.prog 47 [.agg ((cValue a0).map .p), .agg ((cValue b1).map .p)] (.p (.int .i64 r)) [] :=
  spec_of mix Try.func47 (body := bodyOf Try.f47) (by kernel_rfl) (by kernel_rfl) (erasureref01_Compare.run h)
end Go.Proofs.YtjhnpaenhdbhpabV
set_option linter.unusedVariables false
set_option linter.unusedSimpArgs false
set_option maxRecDepth 100000
namespace Go.Proofs.YtjhnpaenhdbhpabV
open Go Go.RowKit
noncomputable def erasureref01_ValidRow.p1  : Nat → (List TValue) → Int → Option Bool
  | 0, _, _ => none
  | k + 1, r0, i3 => if (decide (i3 < ((r0).length : Int))) = true then (if 0 ≤ i3 ∧ i3 < ((r0).length : Int) then ((erasureref01_Valid k (r0.getD i3.toNat dValue)).bind fun y_4 => (if (!y_4) = true then (some false) else (erasureref01_ValidRow.p1 k r0 (IntKind.i64.wrap (i3 + 1))))) else none) else (some true)
noncomputable def erasureref01_ValidRow  (k : Nat) (r0 : (List TValue)) : Option Bool := if (decide (((r0).length : Int) > 16)) = true then (some false) else (erasureref01_ValidRow.p1 k r0 0)
noncomputable def erasureref01_ValidRow.t : List Item := [.code (bodyOf Try.f55)]
noncomputable def erasureref01_ValidRow.s (r0 : (List TValue)) : St := ⟨frOf Try.f55.ntmps 0 [(0, .p (eL 3 cValue dValue r0))], []⟩
noncomputable def erasureref01_ValidRow.p1.t : List Item := nav 12 [false] erasureref01_ValidRow.t
noncomputable def erasureref01_ValidRow.p1.s (r0 : (List TValue)) (i3 : Int) : St := ⟨frOf Try.f55.ntmps 0 [(0, .p (eL 3 cValue dValue r0)), (3, .p (.int .i64 i3))], []⟩
theorem erasureref01_ValidRow.p1.run   : ∀ (k : Nat) (r0 : (List TValue)) (i3 : Int) (r : Bool), erasureref01_ValidRow.p1 k r0 i3 = some r → RunC Try.prog Try.f55 erasureref01_ValidRow.p1.t (erasureref01_ValidRow.p1.s r0 i3) (.p (.bool r)) [] := by
  intro k
  induction k with
  | zero => intro r0 i3 r h; simp [erasureref01_ValidRow.p1] at h
  | succ k ih =>
    intro r0 i3 r h
    rw [erasureref01_ValidRow.p1] at h
    rcases ite_or h with ⟨g_2, h⟩ | ⟨g_2, h⟩
    · obtain ⟨g_3, h⟩ := ite_some h
      obtain ⟨y_4, e_5, h⟩ := bind_or h
      rcases ite_or h with ⟨g_6, h⟩ | ⟨g_6, h⟩
      · obtain rfl := Option.some.inj h
        exact RunC.out [.n 2, .r [(3, .dec true)], .n 5, .r [(4, .call (.p (.bool y_4)) []), (5, .dec true)], .n 3] (by kernel_rfl) (Obs.of (by kernel_rfl) (And.intro g_2 (And.intro g_3 (And.intro (erasureref01_Valid.spec e_5) g_6))))
      · exact RunC.go [.n 2, .r [(3, .dec true)], .n 5, .r [(4, .call (.p (.bool y_4)) []), (5, .dec false)], .n 5, .k [0, 3]] (by kernel_rfl) (Obs.of (by kernel_rfl) (And.intro g_2 (And.intro g_3 (And.intro (erasureref01_Valid.spec e_5) (nt g_6))))) (ih _ _ r h)
    · obtain rfl := Option.some.inj h
      exact RunC.out [.n 2, .r [(3, .dec false)], .n 4] (by kernel_rfl) (Obs.of (by kernel_rfl) (nt g_2))
theorem erasureref01_ValidRow.run   {k : Nat} {r0 : (List TValue)} {r : Bool} (h : erasureref01_ValidRow k r0 = some r) : RunC Try.prog Try.f55 erasureref01_ValidRow.t (erasureref01_ValidRow.s r0) (.p (.bool r)) [] := by
  unfold erasureref01_ValidRow at h
  rcases ite_or h with ⟨g_1, h⟩ | ⟨g_1, h⟩
  · obtain rfl := Option.some.inj h
    exact RunC.out [.n 4, .r [(2, .dec true)], .n 3] (by kernel_rfl) (Obs.of (by kernel_rfl) g_1)
  · exact RunC.go [.n 4, .r [(2, .dec false)], .n 7, .k [0, 3]] (by kernel_rfl) (Obs.of (by kernel_rfl) (nt g_1)) (erasureref01_ValidRow.p1.run k _ _ r h)
theorem erasureref01_ValidRow.p1.mono   : ∀ (k k' : Nat) (r0 : (List TValue)) (i3 : Int) (r : Bool), k ≤ k' → erasureref01_ValidRow.p1 k r0 i3 = some r → erasureref01_ValidRow.p1 k' r0 i3 = some r := by
  intro k
  induction k with
  | zero => intro k' r0 i3 r hk h; simp [erasureref01_ValidRow.p1] at h
  | succ k ih =>
    intro k' r0 i3 r hk h
    obtain ⟨k', rfl⟩ : ∃ m, k' = m + 1 := ⟨k' - 1, by omega⟩
    replace hk := Nat.le_of_succ_le_succ hk
    rw [erasureref01_ValidRow.p1] at h ⊢
    rcases ite_or h with ⟨g_2, h⟩ | ⟨g_2, h⟩
    · refine itp g_2 ?_
      obtain ⟨g_3, h⟩ := ite_some h
      refine itp g_3 ?_
      obtain ⟨y_4, e_5, h⟩ := bind_or h
      refine bnd (erasureref01_Valid.mono _ _ _ _ hk e_5) ?_
      rcases ite_or h with ⟨g_6, h⟩ | ⟨g_6, h⟩
      · refine itp g_6 ?_
        exact h
      · refine itn g_6 ?_
        exact ih _ _ _ r hk h
    · refine itn g_2 ?_
      exact h
theorem erasureref01_ValidRow.mono   : ∀ (k k' : Nat) (r0 : (List TValue)) (r : Bool), k ≤ k' → erasureref01_ValidRow k r0 = some r → erasureref01_ValidRow k' r0 = some r := by
  intro k k' r0 r hk h
  unfold erasureref01_ValidRow at h ⊢
  rcases ite_or h with ⟨g_1, h⟩ | ⟨g_1, h⟩
  · refine itp g_1 ?_
    exact h
  · refine itn g_1 ?_
    exact erasureref01_ValidRow.p1.mono _ _ _ _ r hk h
theorem erasureref01_ValidRow.spec {k : Nat} {r0 : (List TValue)} {r : Bool} (h : erasureref01_ValidRow k r0 = some r) : Spec Try.prog 55 [.p (eL 3 cValue dValue r0)] (.p (.bool r)) [] :=
  spec_of mix Try.func55 (body := bodyOf Try.f55) (by kernel_rfl) (by kernel_rfl) (erasureref01_ValidRow.run h)
end Go.Proofs.YtjhnpaenhdbhpabV
set_option linter.unusedVariables false
set_option linter.unusedSimpArgs false
set_option maxRecDepth 100000
namespace Go.Proofs.YtjhnpaenhdbhpabV
open Go Go.RowKit
noncomputable def erasureref06_countOK  (k : Nat) (n0 : Int) : Option Bool := if (decide (n0 ≥ (-262144))) = true then (some (decide (n0 ≤ 262144))) else (some false)
noncomputable def erasureref06_countOK.t : List Item := [.code (bodyOf Try.f56)]
noncomputable def erasureref06_countOK.s (n0 : Int) : St := ⟨frOf Try.f56.ntmps 0 [(0, .p (.int .i64 n0))], []⟩
theorem erasureref06_countOK.run   {k : Nat} {n0 : Int} {r : Bool} (h : erasureref06_countOK k n0 = some r) : RunC Try.prog Try.f56 erasureref06_countOK.t (erasureref06_countOK.s n0) (.p (.bool r)) [] := by
  unfold erasureref06_countOK at h
  rcases ite_or h with ⟨g_1, h⟩ | ⟨g_1, h⟩
  · obtain rfl := Option.some.inj h
    exact RunC.out [.n 3, .r [(2, .dec true)]] (by kernel_rfl) (Obs.of (by kernel_rfl) g_1)
  · obtain rfl := Option.some.inj h
    exact RunC.out [.n 3, .r [(2, .dec false)]] (by kernel_rfl) (Obs.of (by kernel_rfl) (nt g_1))
theorem erasureref06_countOK.mono   : ∀ (k k' : Nat) (n0 : Int) (r : Bool), k ≤ k' → erasureref06_countOK k n0 = some r → erasureref06_countOK k' n0 = some r := by
  intro k k' n0 r hk h
  unfold erasureref06_countOK at h ⊢
  rcases ite_or h with ⟨g_1, h⟩ | ⟨g_1, h⟩
  · refine itp g_1 ?_
    exact h
  · refine itn g_1 ?_
    exact h
theorem erasureref06_countOK.spec {k : Nat} {n0 : Int} {r : Bool} (h : erasureref06_countOK k n0 = some r) : Spec Try.prog 56 [.p (.int .i64 n0)] (.p (.bool r)) [] :=
  spec_of mix Try.func56 (body := bodyOf Try.f56) (by kernel_rfl) (by kernel_rfl) (erasureref06_countOK.run h)
end Go.Proofs.YtjhnpaenhdbhpabV
set_option linter.unusedVariables false
set_option linter.unusedSimpArgs false
set_option maxRecDepth 100000
namespace Go.Proofs.YtjhnpaenhdbhpabV
open Go Go.RowKit
noncomputable def erasureref01_CompareRows.p1  : Nat → (List TValue) → (List TValue) → Int → Option Int
  | 0, _, _, _ => none
  | k + 1, a0, b1, i5 => if (decide (i5 < ((a0).length : Int))) = true then (if (decide (i5 < ((b1).length : Int))) = true then (if 0 ≤ i5 ∧ i5 < ((a0).length : Int) then (if 0 ≤ i5 ∧ i5 < ((b1).length : Int) then ((erasureref01_Compare k (a0.getD i5.toNat dValue) (b1.getD i5.toNat dValue)).bind fun y_5 => (if (y_5 != 0) = true then (some y_5) else (erasureref01_CompareRows.p1 k a0 b1 (IntKind.i64.wrap (i5 + 1))))) else none) else none) else (if (decide (((a0).length : Int) < ((b1).length : Int))) = true then (some (-1)) else (if (decide (((a0).length : Int) > ((b1).length : Int))) = true then (some 1) else (some 0)))) else (if (decide (((a0).length : Int) < ((b1).length : Int))) = true then (some (-1)) else (if (decide (((a0).length : Int) > ((b1).length : Int))) = true then (some 1) else (some 0)))
noncomputable def erasureref01_CompareRows  (k : Nat) (a0 : (List TValue)) (b1 : (List TValue)) : Option Int := erasureref01_CompareRows.p1 k a0 b1 0
noncomputable def erasureref01_CompareRows.t : List Item := [.code (bodyOf Try.f62)]
noncomputable def erasureref01_CompareRows.s (a0 : (List TValue)) (b1 : (List TValue)) : St := ⟨frOf Try.f62.ntmps 0 [(0, .p (eL 3 cValue dValue a0)), (1, .p (eL 3 cValue dValue b1))], []⟩
noncomputable def erasureref01_CompareRows.p1.t : List Item := nav 7 [] erasureref01_CompareRows.t
noncomputable def erasureref01_CompareRows.p1.s (a0 : (List TValue)) (b1 : (List TValue)) (i5 : Int) : St := ⟨frOf Try.f62.ntmps 0 [(0, .p (eL 3 cValue dValue a0)), (1, .p (eL 3 cValue dValue b1)), (5, .p (.int .i64 i5))], []⟩
theorem erasureref01_CompareRows.p1.run   : ∀ (k : Nat) (a0 : (List TValue)) (b1 : (List TValue)) (i5 : Int) (r : Int), erasureref01_CompareRows.p1 k a0 b1 i5 = some r → RunC Try.prog Try.f62 erasureref01_CompareRows.p1.t (erasureref01_CompareRows.p1.s a0 b1 i5) (.p (.int .i64 r)) [] := by
  intro k
  induction k with
  | zero => intro a0 b1 i5 r h; simp [erasureref01_CompareRows.p1] at h
  | succ k ih =>
    intro a0 b1 i5 r h
    rw [erasureref01_CompareRows.p1] at h
    rcases ite_or h with ⟨g_1, h⟩ | ⟨g_1, h⟩
    · rcases ite_or h with ⟨g_2, h⟩ | ⟨g_2, h⟩
      · obtain ⟨g_3, h⟩ := ite_some h
        obtain ⟨g_4, h⟩ := ite_some h
        obtain ⟨y_5, e_6, h⟩ := bind_or h
        rcases ite_or h with ⟨g_7, h⟩ | ⟨g_7, h⟩
        · obtain rfl := Option.some.inj h
          exact RunC.out [.n 2, .r [(4, .dec true), (9, .dec true)], .n 5, .r [(8, .call (.p (.int .i64 y_5)) [])], .n 1, .r [(1, .dec true)], .n 3] (by kernel_rfl) (Obs.of (by kernel_rfl) (And.intro g_1 (And.intro g_2 (And.intro g_3 (And.intro g_4 (And.intro (erasureref01_Compare.spec e_6) g_7))))))
        · exact RunC.go [.n 2, .r [(4, .dec true), (9, .dec true)], .n 5, .r [(8, .call (.p (.int .i64 y_5)) [])], .n 1, .r [(1, .dec false)], .n 5, .k [0, 1, 5]] (by kernel_rfl) (Obs.of (by kernel_rfl) (And.intro g_1 (And.intro g_2 (And.intro g_3 (And.intro g_4 (And.intro (erasureref01_Compare.spec e_6) (nt g_7))))))) (ih _ _ _ r h)
      · rcases ite_or h with ⟨g_8, h⟩ | ⟨g_8, h⟩
        · obtain rfl := Option.some.inj h
          exact RunC.out [.n 2, .r [(4, .dec true), (9, .dec false)], .n 5, .r [(5, .dec true)], .n 3] (by kernel_rfl) (Obs.of (by kernel_rfl) (And.intro g_1 (And.intro (nt g_2) g_8)))
        · rcases ite_or h with ⟨g_9, h⟩ | ⟨g_9, h⟩
          · obtain rfl := Option.some.inj h
            exact RunC.out [.n 2, .r [(4, .dec true), (9, .dec false)], .n 5, .r [(5, .dec false)], .n 2, .r [(5, .dec true)], .n 3] (by kernel_rfl) (Obs.of (by kernel_rfl) (And.intro g_1 (And.intro (nt g_2) (And.intro (nt g_8) g_9))))
          · obtain rfl := Option.some.inj h
            exact RunC.out [.n 2, .r [(4, .dec true), (9, .dec false)], .n 5, .r [(5, .dec false)], .n 2, .r [(5, .dec false)], .n 5] (by kernel_rfl) (Obs.of (by kernel_rfl) (And.intro g_1 (And.intro (nt g_2) (And.intro (nt g_8) (nt g_9)))))
    · rcases ite_or h with ⟨g_10, h⟩ | ⟨g_10, h⟩
      · obtain rfl := Option.some.inj h
        exact RunC.out [.n 2, .r [(4, .dec false)], .n 5, .r [(5, .dec true)], .n 3] (by kernel_rfl) (Obs.of (by kernel_rfl) (And.intro (nt g_1) g_10))
      · rcases ite_or h with ⟨g_11, h⟩ | ⟨g_11, h⟩
        · obtain rfl := Option.some.inj h
          exact RunC.out [.n 2, .r [(4, .dec false)], .n 5, .r [(5, .dec false)], .n 2, .r [(5, .dec true)], .n 3] (by kernel_rfl) (Obs.of (by kernel_rfl) (And.intro (nt g_1) (And.intro (nt g_10) g_11)))
        · obtain rfl := Option.some.inj h
          exact RunC.out [.n 2, .r [(4, .dec false)], .n 5, .r [(5, .dec false)], .n 2, .r [(5, .dec false)], .n 5] (by kernel_rfl) (Obs.of (by kernel_rfl) (And.intro (nt g_1) (And.intro (nt g_10) (nt g_11))))
theorem erasureref01_CompareRows.run   {k : Nat} {a0 : (List TValue)} {b1 : (List TValue)} {r : Int} (h : erasureref01_CompareRows k a0 b1 = some r) : RunC Try.prog Try.f62 erasureref01_CompareRows.t (erasureref01_CompareRows.s a0 b1) (.p (.int .i64 r)) [] := by
  unfold erasureref01_CompareRows at h
  exact RunC.go [.n 7, .k [0, 1, 5]] (by kernel_rfl) (Obs.tt (by kernel_rfl)) (erasureref01_CompareRows.p1.run k _ _ _ r h)
theorem erasureref01_CompareRows.p1.mono   : ∀ (k k' : Nat) (a0 : (List TValue)) (b1 : (List TValue)) (i5 : Int) (r : Int), k ≤ k' → erasureref01_CompareRows.p1 k a0 b1 i5 = some r → erasureref01_CompareRows.p1 k' a0 b1 i5 = some r := by
  intro k
  induction k with
  | zero => intro k' a0 b1 i5 r hk h; simp [erasureref01_CompareRows.p1] at h
  | succ k ih =>
    intro k' a0 b1 i5 r hk h
    obtain ⟨k', rfl⟩ : ∃ m, k' = m + 1 := ⟨k' - 1, by omega⟩
    replace hk := Nat.le_of_succ_le_succ hk
    rw [erasureref01_CompareRows.p1] at h ⊢
    rcases ite_or h with ⟨g_1, h⟩ | ⟨g_1, h⟩
    · refine itp g_1 ?_
      rcases ite_or h with ⟨g_2, h⟩ | ⟨g_2, h⟩
      · refine itp g_2 ?_
        obtain ⟨g_3, h⟩ := ite_some h
        refine itp g_3 ?_
        obtain ⟨g_4, h⟩ := ite_some h
        refine itp g_4 ?_
        obtain ⟨y_5, e_6, h⟩ := bind_or h
        refine bnd (erasureref01_Compare.mono _ _ _ _ _ hk e_6) ?_
        rcases ite_or h with ⟨g_7, h⟩ | ⟨g_7, h⟩
        · refine itp g_7 ?_
          exact h
        · refine itn g_7 ?_
          exact ih _ _ _ _ r hk h
      · refine itn g_2 ?_
        rcases ite_or h with ⟨g_8, h⟩ | ⟨g_8, h⟩
        · refine itp g_8 ?_
          exact h
        · refine itn g_8 ?_
          rcases ite_or h with ⟨g_9, h⟩ | ⟨g_9, h⟩
          · refine itp g_9 ?_
            exact h
          · refine itn g_9 ?_
            exact h
    · refine itn g_1 ?_
      rcases ite_or h with ⟨g_10, h⟩ | ⟨g_10, h⟩
      · refine itp g_10 ?_
        exact h
      · refine itn g_10 ?_
        rcases ite_or h with ⟨g_11, h⟩ | ⟨g_11, h⟩
        · refine itp g_11 ?_
          exact h
        · refine itn g_11 ?_
          exact h
theorem erasureref01_CompareRows.mono   : ∀ (k k' : Nat) (a0 : (List TValue)) (b1 : (List TValue)) (r : Int), k ≤ k' → erasureref01_CompareRows k a0 b1 = some r → erasureref01_CompareRows k' a0 b1 = some r := by
  intro k k' a0 b1 r hk h
  unfold erasureref01_CompareRows at h ⊢
  exact erasureref01_CompareRows.p1.mono _ _ _ _ _ r hk h
theorem erasureref01_CompareRows.spec {k : Nat} {a0 : (List TValue)} {b1 : (List TValue)} {r : Int} (h : erasureref01_CompareRows k a0 b1 = some r) : Spec Try.prog 62 [.p (eL 3 cValue dValue a0), .p (eL 3 cValue dValue b1)] (.p (.int .i64 r)) [] :=
  spec_of mix Try.func62 (body := bodyOf Try.f62) (by kernel_rfl) (by kernel_rfl) (erasureref01_CompareRows.run h)
end Go.Proofs.YtjhnpaenhdbhpabV
set_option linter.unusedVariables false
set_option linter.unusedSimpArgs false
set_option maxRecDepth 100000
namespace Go.Proofs.YtjhnpaenhdbhpabV
open Go Go.RowKit
noncomputable def erasureref06_Valid.p1  : Nat → (List TEntry) → Int → Option Bool
  | 0, _, _ => none
  | k + 1, b0, i3 => if (decide (i3 < ((b0).length : Int))) = true then (if 0 ≤ i3 ∧ i3 < ((b0).length : Int) then ((erasureref01_ValidRow k ((b0.getD i3.toNat dEntry).f0)).bind fun y_4 => (if (!y_4) = true then (some false) else ((erasureref06_countOK k ((b0.getD i3.toNat dEntry).f1)).bind fun y_7 => (if (!y_7) = true then (some false) else (if ((b0.getD i3.toNat dEntry).f1 == 0) = true then (some false) else (if (decide (i3 > 0)) = true then (if 0 ≤ (IntKind.i64.wrap (i3 - 1)) ∧ (IntKind.i64.wrap (i3 - 1)) < ((b0).length : Int) then ((erasureref01_CompareRows k ((b0.getD (IntKind.i64.wrap (i3 - 1)).toNat dEntry).f0) ((b0.getD i3.toNat dEntry).f0)).bind fun y_13 => (if (decide (y_13 ≥ 0)) = true then (some false) else (erasureref06_Valid.p1 k b0 (IntKind.i64.wrap (i3 + 1))))) else none) else (erasureref06_Valid.p1 k b0 (IntKind.i64.wrap (i3 + 1))))))))) else none) else (some true)
noncomputable def erasureref06_Valid  (k : Nat) (b0 : (List TEntry)) : Option Bool := if (decide (((b0).length : Int) > 4096)) = true then (some false) else (erasureref06_Valid.p1 k b0 0)
noncomputable def erasureref06_Valid.t : List Item := [.code (bodyOf Try.f44)]
noncomputable def erasureref06_Valid.s (b0 : (List TEntry)) : St := ⟨frOf Try.f44.ntmps 0 [(0, .p (eL 2 cEntry dEntry b0))], []⟩
noncomputable def erasureref06_Valid.p1.t : List Item := nav 12 [false] erasureref06_Valid.t
noncomputable def erasureref06_Valid.p1.s (b0 : (List TEntry)) (i3 : Int) : St := ⟨frOf Try.f44.ntmps 0 [(0, .p (eL 2 cEntry dEntry b0)), (3, .p (.int .i64 i3))], []⟩
theorem erasureref06_Valid.p1.run   : ∀ (k : Nat) (b0 : (List TEntry)) (i3 : Int) (r : Bool), erasureref06_Valid.p1 k b0 i3 = some r → RunC Try.prog Try.f44 erasureref06_Valid.p1.t (erasureref06_Valid.p1.s b0 i3) (.p (.bool r)) [] := by
  intro k
  induction k with
  | zero => intro b0 i3 r h; simp [erasureref06_Valid.p1] at h
  | succ k ih =>
    intro b0 i3 r h
    rw [erasureref06_Valid.p1] at h
    rcases ite_or h with ⟨g_2, h⟩ | ⟨g_2, h⟩
    · obtain ⟨g_3, h⟩ := ite_some h
      obtain ⟨y_4, e_5, h⟩ := bind_or h
      rcases ite_or h with ⟨g_6, h⟩ | ⟨g_6, h⟩
      · obtain rfl := Option.some.inj h
        exact RunC.out [.n 2, .r [(3, .dec true)], .n 5, .r [(5, .call (.p (.bool y_4)) []), (7, .dec true)], .n 3] (by kernel_rfl) (Obs.of (by kernel_rfl) (And.intro g_2 (And.intro g_3 (And.intro (erasureref01_ValidRow.spec e_5) g_6))))
      · obtain ⟨y_7, e_8, h⟩ := bind_or h
        rcases ite_or h with ⟨g_9, h⟩ | ⟨g_9, h⟩
        · obtain rfl := Option.some.inj h
          exact RunC.out [.n 2, .r [(3, .dec true)], .n 5, .r [(5, .call (.p (.bool y_4)) []), (7, .dec false), (13, .call (.p (.bool y_7)) []), (16, .dec true)], .n 3] (by kernel_rfl) (Obs.of (by kernel_rfl) (And.intro g_2 (And.intro g_3 (And.intro (erasureref01_ValidRow.spec e_5) (And.intro (nt g_6) (And.intro g_3 (And.intro (erasureref06_countOK.spec e_8) g_9)))))))
        · rcases ite_or h with ⟨g_10, h⟩ | ⟨g_10, h⟩
          · obtain rfl := Option.some.inj h
            exact RunC.out [.n 2, .r [(3, .dec true)], .n 5, .r [(5, .call (.p (.bool y_4)) []), (7, .dec false), (13, .call (.p (.bool y_7)) []), (16, .dec false), (24, .dec true)], .n 3] (by kernel_rfl) (Obs.of (by kernel_rfl) (And.intro g_2 (And.intro g_3 (And.intro (erasureref01_ValidRow.spec e_5) (And.intro (nt g_6) (And.intro g_3 (And.intro (erasureref06_countOK.spec e_8) (And.intro (nt g_9) (And.intro g_3 g_10)))))))))
          · rcases ite_or h with ⟨g_11, h⟩ | ⟨g_11, h⟩
            · obtain ⟨g_12, h⟩ := ite_some h
              obtain ⟨y_13, e_14, h⟩ := bind_or h
              rcases ite_or h with ⟨g_15, h⟩ | ⟨g_15, h⟩
              · obtain rfl := Option.some.inj h
                exact RunC.out [.n 2, .r [(3, .dec true)], .n 5, .r [(5, .call (.p (.bool y_4)) []), (7, .dec false), (13, .call (.p (.bool y_7)) []), (16, .dec false), (24, .dec false), (27, .dec true), (39, .call (.p (.int .i64 y_13)) []), (42, .dec true)], .n 3] (by kernel_rfl) (Obs.of (by kernel_rfl) (And.intro g_2 (And.intro g_3 (And.intro (erasureref01_ValidRow.spec e_5) (And.intro (nt g_6) (And.intro g_3 (And.intro (erasureref06_countOK.spec e_8) (And.intro (nt g_9) (And.intro g_3 (And.intro (nt g_10) (And.intro g_11 (And.intro g_12 (And.intro g_3 (And.intro (erasureref01_CompareRows.spec e_14) g_15))))))))))))))
              · exact RunC.go [.n 2, .r [(3, .dec true)], .n 5, .r [(5, .call (.p (.bool y_4)) []), (7, .dec false), (13, .call (.p (.bool y_7)) []), (16, .dec false), (24, .dec false), (27, .dec true), (39, .call (.p (.int .i64 y_13)) []), (42, .dec false)], .n 5, .k [0, 3]] (by kernel_rfl) (Obs.of (by kernel_rfl) (And.intro g_2 (And.intro g_3 (And.intro (erasureref01_ValidRow.spec e_5) (And.intro (nt g_6) (And.intro g_3 (And.intro (erasureref06_countOK.spec e_8) (And.intro (nt g_9) (And.intro g_3 (And.intro (nt g_10) (And.intro g_11 (And.intro g_12 (And.intro g_3 (And.intro (erasureref01_CompareRows.spec e_14) (nt g_15))))))))))))))) (ih _ _ r h)
            · exact RunC.go [.n 2, .r [(3, .dec true)], .n 5, .r [(5, .call (.p (.bool y_4)) []), (7, .dec false), (13, .call (.p (.bool y_7)) []), (16, .dec false), (24, .dec false), (27, .dec false)], .n 5, .k [0, 3]] (by kernel_rfl) (Obs.of (by kernel_rfl) (And.intro g_2 (And.intro g_3 (And.intro (erasureref01_ValidRow.spec e_5) (And.intro (nt g_6) (And.intro g_3 (And.intro (erasureref06_countOK.spec e_8) (And.intro (nt g_9) (And.intro g_3 (And.intro (nt g_10) (nt g_11))))))))))) (ih _ _ r h)
    · obtain rfl := Option.some.inj h
      exact RunC.out [.n 2, .r [(3, .dec false)], .n 4] (by kernel_rfl) (Obs.of (by kernel_rfl) (nt g_2))
theorem erasureref06_Valid.run   {k : Nat} {b0 : (List TEntry)} {r : Bool} (h : erasureref06_Valid k b0 = some r) : RunC Try.prog Try.f44 erasureref06_Valid.t (erasureref06_Valid.s b0) (.p (.bool r)) [] := by
  unfold erasureref06_Valid at h
  rcases ite_or h with ⟨g_1, h⟩ | ⟨g_1, h⟩
  · obtain rfl := Option.some.inj h
    exact RunC.out [.n 4, .r [(2, .dec true)], .n 3] (by kernel_rfl) (Obs.of (by kernel_rfl) g_1)
  · exact RunC.go [.n 4, .r [(2, .dec false)], .n 7, .k [0, 3]] (by kernel_rfl) (Obs.of (by kernel_rfl) (nt g_1)) (erasureref06_Valid.p1.run k _ _ r h)
theorem erasureref06_Valid.p1.mono   : ∀ (k k' : Nat) (b0 : (List TEntry)) (i3 : Int) (r : Bool), k ≤ k' → erasureref06_Valid.p1 k b0 i3 = some r → erasureref06_Valid.p1 k' b0 i3 = some r := by
  intro k
  induction k with
  | zero => intro k' b0 i3 r hk h; simp [erasureref06_Valid.p1] at h
  | succ k ih =>
    intro k' b0 i3 r hk h
    obtain ⟨k', rfl⟩ : ∃ m, k' = m + 1 := ⟨k' - 1, by omega⟩
    replace hk := Nat.le_of_succ_le_succ hk
    rw [erasureref06_Valid.p1] at h ⊢
    rcases ite_or h with ⟨g_2, h⟩ | ⟨g_2, h⟩
    · refine itp g_2 ?_
      obtain ⟨g_3, h⟩ := ite_some h
      refine itp g_3 ?_
      obtain ⟨y_4, e_5, h⟩ := bind_or h
      refine bnd (erasureref01_ValidRow.mono _ _ _ _ hk e_5) ?_
      rcases ite_or h with ⟨g_6, h⟩ | ⟨g_6, h⟩
      · refine itp g_6 ?_
        exact h
      · refine itn g_6 ?_
        obtain ⟨y_7, e_8, h⟩ := bind_or h
        refine bnd (erasureref06_countOK.mono _ _ _ _ hk e_8) ?_
        rcases ite_or h with ⟨g_9, h⟩ | ⟨g_9, h⟩
        · refine itp g_9 ?_
          exact h
        · refine itn g_9 ?_
          rcases ite_or h with ⟨g_10, h⟩ | ⟨g_10, h⟩
          · refine itp g_10 ?_
            exact h
          · refine itn g_10 ?_
            rcases ite_or h with ⟨g_11, h⟩ | ⟨g_11, h⟩
            · refine itp g_11 ?_
              obtain ⟨g_12, h⟩ := ite_some h
              refine itp g_12 ?_
              obtain ⟨y_13, e_14, h⟩ := bind_or h
              refine bnd (erasureref01_CompareRows.mono _ _ _ _ _ hk e_14) ?_
              rcases ite_or h with ⟨g_15, h⟩ | ⟨g_15, h⟩
              · refine itp g_15 ?_
                exact h
              · refine itn g_15 ?_
                exact ih _ _ _ r hk h
            · refine itn g_11 ?_
              exact ih _ _ _ r hk h
    · refine itn g_2 ?_
      exact h
theorem erasureref06_Valid.mono   : ∀ (k k' : Nat) (b0 : (List TEntry)) (r : Bool), k ≤ k' → erasureref06_Valid k b0 = some r → erasureref06_Valid k' b0 = some r := by
  intro k k' b0 r hk h
  unfold erasureref06_Valid at h ⊢
  rcases ite_or h with ⟨g_1, h⟩ | ⟨g_1, h⟩
  · refine itp g_1 ?_
    exact h
  · refine itn g_1 ?_
    exact erasureref06_Valid.p1.mono _ _ _ _ r hk h
theorem erasureref06_Valid.spec {k : Nat} {b0 : (List TEntry)} {r : Bool} (h : erasureref06_Valid k b0 = some r) : Spec Try.prog 44 [.p (eL 2 cEntry dEntry b0)] (.p (.bool r)) [] :=
  spec_of mix Try.func44 (body := bodyOf Try.f44) (by kernel_rfl) (by kernel_rfl) (erasureref06_Valid.run h)
end Go.Proofs.YtjhnpaenhdbhpabV
set_option linter.unusedVariables false
set_option linter.unusedSimpArgs false
set_option maxRecDepth 100000
namespace Go.Proofs.YtjhnpaenhdbhpabV
open Go Go.RowKit
noncomputable def erasureref30_Valid.p1  : Nat → (List TCached) → Int → Option Bool
  | 0, _, _ => none
  | k + 1, s0, i3 => if (decide (i3 < ((s0).length : Int))) = true then (if 0 ≤ i3 ∧ i3 < ((s0).length : Int) then ((erasureref01_Valid k ((s0.getD i3.toNat dCached).f0)).bind fun y_3 => (if (!y_3) = true then (some false) else (if (decide (i3 > 0)) = true then (if 0 ≤ (IntKind.i64.wrap (i3 - 1)) ∧ (IntKind.i64.wrap (i3 - 1)) < ((s0).length : Int) then ((erasureref01_Compare k ((s0.getD (IntKind.i64.wrap (i3 - 1)).toNat dCached).f0) ((s0.getD i3.toNat dCached).f0)).bind fun y_8 => (if (decide (y_8 ≥ 0)) = true then (some false) else ((erasureref06_Valid k ((s0.getD i3.toNat dCached).f1)).bind fun y_11 => (if (!y_11) = true then (some false) else (if (decide ((s0.getD i3.toNat dCached).f2 < 0)) = true then (some false) else (if (decide ((s0.getD i3.toNat dCached).f2 > 1048576)) = true then (some false) else (erasureref30_Valid.p1 k s0 (IntKind.i64.wrap (i3 + 1))))))))) else none) else ((erasureref06_Valid k ((s0.getD i3.toNat dCached).f1)).bind fun y_16 => (if (!y_16) = true then (some false) else (if (decide ((s0.getD i3.toNat dCached).f2 < 0)) = true then (some false) else (if (decide ((s0.getD i3.toNat dCached).f2 > 1048576)) = true then (some false) else (erasureref30_Valid.p1 k s0 (IntKind.i64.wrap (i3 + 1)))))))))) else none) else (some (decide (((s0).length : Int) ≤ 16)))
noncomputable def erasureref30_Valid  (k : Nat) (s0 : (List TCached)) : Option Bool := erasureref30_Valid.p1 k s0 0
noncomputable def erasureref30_Valid.t : List Item := [.code (bodyOf Try.f31)]
noncomputable def erasureref30_Valid.s (s0 : (List TCached)) : St := ⟨frOf Try.f31.ntmps 0 [(0, .p (eL 5 cCached dCached s0))], []⟩
noncomputable def erasureref30_Valid.p1.t : List Item := nav 7 [] erasureref30_Valid.t
noncomputable def erasureref30_Valid.p1.s (s0 : (List TCached)) (i3 : Int) : St := ⟨frOf Try.f31.ntmps 0 [(0, .p (eL 5 cCached dCached s0)), (3, .p (.int .i64 i3))], []⟩
theorem erasureref30_Valid.p1.run   : ∀ (k : Nat) (s0 : (List TCached)) (i3 : Int) (r : Bool), erasureref30_Valid.p1 k s0 i3 = some r → RunC Try.prog Try.f31 erasureref30_Valid.p1.t (erasureref30_Valid.p1.s s0 i3) (.p (.bool r)) [] := by
  intro k
  induction k with
  | zero => intro s0 i3 r h; simp [erasureref30_Valid.p1] at h
  | succ k ih =>
    intro s0 i3 r h
    rw [erasureref30_Valid.p1] at h
    rcases ite_or h with ⟨g_1, h⟩ | ⟨g_1, h⟩
    · obtain ⟨g_2, h⟩ := ite_some h
      obtain ⟨y_3, e_4, h⟩ := bind_or h
      rcases ite_or h with ⟨g_5, h⟩ | ⟨g_5, h⟩
      · obtain rfl := Option.some.inj h
        exact RunC.out [.n 2, .r [(3, .dec true)], .n 5, .r [(5, .call (.p (.bool y_3)) []), (7, .dec true)], .n 3] (by kernel_rfl) (Obs.of (by kernel_rfl) (And.intro g_1 (And.intro g_2 (And.intro (erasureref01_Valid.spec e_4) g_5))))
      · rcases ite_or h with ⟨g_6, h⟩ | ⟨g_6, h⟩
        · obtain ⟨g_7, h⟩ := ite_some h
          obtain ⟨y_8, e_9, h⟩ := bind_or h
          rcases ite_or h with ⟨g_10, h⟩ | ⟨g_10, h⟩
          · obtain rfl := Option.some.inj h
            exact RunC.out [.n 2, .r [(3, .dec true)], .n 5, .r [(5, .call (.p (.bool y_3)) []), (7, .dec false), (10, .dec true), (22, .call (.p (.int .i64 y_8)) []), (26, .dec true)], .n 3] (by kernel_rfl) (Obs.of (by kernel_rfl) (And.intro g_1 (And.intro g_2 (And.intro (erasureref01_Valid.spec e_4) (And.intro (nt g_5) (And.intro g_6 (And.intro g_7 (And.intro g_2 (And.intro (erasureref01_Compare.spec e_9) g_10)))))))))
          · obtain ⟨y_11, e_12, h⟩ := bind_or h
            rcases ite_or h with ⟨g_13, h⟩ | ⟨g_13, h⟩
            · obtain rfl := Option.some.inj h
              exact RunC.out [.n 2, .r [(3, .dec true)], .n 5, .r [(5, .call (.p (.bool y_3)) []), (7, .dec false), (10, .dec true), (22, .call (.p (.int .i64 y_8)) []), (26, .dec false), (32, .call (.p (.bool y_11)) []), (35, .dec true)], .n 3] (by kernel_rfl) (Obs.of (by kernel_rfl) (And.intro g_1 (And.intro g_2 (And.intro (erasureref01_Valid.spec e_4) (And.intro (nt g_5) (And.intro g_6 (And.intro g_7 (And.intro g_2 (And.intro (erasureref01_Compare.spec e_9) (And.intro (nt g_10) (And.intro g_2 (And.intro (erasureref06_Valid.spec e_12) g_13))))))))))))
            · rcases ite_or h with ⟨g_14, h⟩ | ⟨g_14, h⟩
              · obtain rfl := Option.some.inj h
                exact RunC.out [.n 2, .r [(3, .dec true)], .n 5, .r [(5, .call (.p (.bool y_3)) []), (7, .dec false), (10, .dec true), (22, .call (.p (.int .i64 y_8)) []), (26, .dec false), (32, .call (.p (.bool y_11)) []), (35, .dec false), (43, .dec true)], .n 3] (by kernel_rfl) (Obs.of (by kernel_rfl) (And.intro g_1 (And.intro g_2 (And.intro (erasureref01_Valid.spec e_4) (And.intro (nt g_5) (And.intro g_6 (And.intro g_7 (And.intro g_2 (And.intro (erasureref01_Compare.spec e_9) (And.intro (nt g_10) (And.intro g_2 (And.intro (erasureref06_Valid.spec e_12) (And.intro (nt g_13) (And.intro g_2 g_14))))))))))))))
              · rcases ite_or h with ⟨g_15, h⟩ | ⟨g_15, h⟩
                · obtain rfl := Option.some.inj h
                  exact RunC.out [.n 2, .r [(3, .dec true)], .n 5, .r [(5, .call (.p (.bool y_3)) []), (7, .dec false), (10, .dec true), (22, .call (.p (.int .i64 y_8)) []), (26, .dec false), (32, .call (.p (.bool y_11)) []), (35, .dec false), (43, .dec false), (50, .dec true)], .n 3] (by kernel_rfl) (Obs.of (by kernel_rfl) (And.intro g_1 (And.intro g_2 (And.intro (erasureref01_Valid.spec e_4) (And.intro (nt g_5) (And.intro g_6 (And.intro g_7 (And.intro g_2 (And.intro (erasureref01_Compare.spec e_9) (And.intro (nt g_10) (And.intro g_2 (And.intro (erasureref06_Valid.spec e_12) (And.intro (nt g_13) (And.intro g_2 (And.intro (nt g_14) (And.intro g_2 g_15))))))))))))))))
                · exact RunC.go [.n 2, .r [(3, .dec true)], .n 5, .r [(5, .call (.p (.bool y_3)) []), (7, .dec false), (10, .dec true), (22, .call (.p (.int .i64 y_8)) []), (26, .dec false), (32, .call (.p (.bool y_11)) []), (35, .dec false), (43, .dec false), (50, .dec false)], .n 5, .k [0, 3]] (by kernel_rfl) (Obs.of (by kernel_rfl) (And.intro g_1 (And.intro g_2 (And.intro (erasureref01_Valid.spec e_4) (And.intro (nt g_5) (And.intro g_6 (And.intro g_7 (And.intro g_2 (And.intro (erasureref01_Compare.spec e_9) (And.intro (nt g_10) (And.intro g_2 (And.intro (erasureref06_Valid.spec e_12) (And.intro (nt g_13) (And.intro g_2 (And.intro (nt g_14) (And.intro g_2 (nt g_15))))))))))))))))) (ih _ _ r h)
        · obtain ⟨y_16, e_17, h⟩ := bind_or h
          rcases ite_or h with ⟨g_18, h⟩ | ⟨g_18, h⟩
          · obtain rfl := Option.some.inj h
            exact RunC.out [.n 2, .r [(3, .dec true)], .n 5, .r [(5, .call (.p (.bool y_3)) []), (7, .dec false), (10, .dec false), (32, .call (.p (.bool y_16)) []), (35, .dec true)], .n 3] (by kernel_rfl) (Obs.of (by kernel_rfl) (And.intro g_1 (And.intro g_2 (And.intro (erasureref01_Valid.spec e_4) (And.intro (nt g_5) (And.intro (nt g_6) (And.intro g_2 (And.intro (erasureref06_Valid.spec e_17) g_18))))))))
          · rcases ite_or h with ⟨g_19, h⟩ | ⟨g_19, h⟩
            · obtain rfl := Option.some.inj h
              exact RunC.out [.n 2, .r [(3, .dec true)], .n 5, .r [(5, .call (.p (.bool y_3)) []), (7, .dec false), (10, .dec false), (32, .call (.p (.bool y_16)) []), (35, .dec false), (43, .dec true)], .n 3] (by kernel_rfl) (Obs.of (by kernel_rfl) (And.intro g_1 (And.intro g_2 (And.intro (erasureref01_Valid.spec e_4) (And.intro (nt g_5) (And.intro (nt g_6) (And.intro g_2 (And.intro (erasureref06_Valid.spec e_17) (And.intro (nt g_18) (And.intro g_2 g_19))))))))))
            · rcases ite_or h with ⟨g_20, h⟩ | ⟨g_20, h⟩
              · obtain rfl := Option.some.inj h
                exact RunC.out [.n 2, .r [(3, .dec true)], .n 5, .r [(5, .call (.p (.bool y_3)) []), (7, .dec false), (10, .dec false), (32, .call (.p (.bool y_16)) []), (35, .dec false), (43, .dec false), (50, .dec true)], .n 3] (by kernel_rfl) (Obs.of (by kernel_rfl) (And.intro g_1 (And.intro g_2 (And.intro (erasureref01_Valid.spec e_4) (And.intro (nt g_5) (And.intro (nt g_6) (And.intro g_2 (And.intro (erasureref06_Valid.spec e_17) (And.intro (nt g_18) (And.intro g_2 (And.intro (nt g_19) (And.intro g_2 g_20))))))))))))
              · exact RunC.go [.n 2, .r [(3, .dec true)], .n 5, .r [(5, .call (.p (.bool y_3)) []), (7, .dec false), (10, .dec false), (32, .call (.p (.bool y_16)) []), (35, .dec false), (43, .dec false), (50, .dec false)], .n 5, .k [0, 3]] (by kernel_rfl) (Obs.of (by kernel_rfl) (And.intro g_1 (And.intro g_2 (And.intro (erasureref01_Valid.spec e_4) (And.intro (nt g_5) (And.intro (nt g_6) (And.intro g_2 (And.intro (erasureref06_Valid.spec e_17) (And.intro (nt g_18) (And.intro g_2 (And.intro (nt g_19) (And.intro g_2 (nt g_20))))))))))))) (ih _ _ r h)
    · obtain rfl := Option.some.inj h
      exact RunC.out [.n 2, .r [(3, .dec false)], .n 4] (by kernel_rfl) (Obs.of (by kernel_rfl) (nt g_1))
theorem erasureref30_Valid.run   {k : Nat} {s0 : (List TCached)} {r : Bool} (h : erasureref30_Valid k s0 = some r) : RunC Try.prog Try.f31 erasureref30_Valid.t (erasureref30_Valid.s s0) (.p (.bool r)) [] := by
  unfold erasureref30_Valid at h
  exact RunC.go [.n 7, .k [0, 3]] (by kernel_rfl) (Obs.tt (by kernel_rfl)) (erasureref30_Valid.p1.run k _ _ r h)
theorem erasureref30_Valid.p1.mono   : ∀ (k k' : Nat) (s0 : (List TCached)) (i3 : Int) (r : Bool), k ≤ k' → erasureref30_Valid.p1 k s0 i3 = some r → erasureref30_Valid.p1 k' s0 i3 = some r := by
  intro k
  induction k with
  | zero => intro k' s0 i3 r hk h; simp [erasureref30_Valid.p1] at h
  | succ k ih =>
    intro k' s0 i3 r hk h
    obtain ⟨k', rfl⟩ : ∃ m, k' = m + 1 := ⟨k' - 1, by omega⟩
    replace hk := Nat.le_of_succ_le_succ hk
    rw [erasureref30_Valid.p1] at h ⊢
    rcases ite_or h with ⟨g_1, h⟩ | ⟨g_1, h⟩
    · refine itp g_1 ?_
      obtain ⟨g_2, h⟩ := ite_some h
      refine itp g_2 ?_
      obtain ⟨y_3, e_4, h⟩ := bind_or h
      refine bnd (erasureref01_Valid.mono _ _ _ _ hk e_4) ?_
      rcases ite_or h with ⟨g_5, h⟩ | ⟨g_5, h⟩
      · refine itp g_5 ?_
        exact h
      · refine itn g_5 ?_
        rcases ite_or h with ⟨g_6, h⟩ | ⟨g_6, h⟩
        · refine itp g_6 ?_
          obtain ⟨g_7, h⟩ := ite_some h
          refine itp g_7 ?_
          obtain ⟨y_8, e_9, h⟩ := bind_or h
          refine bnd (erasureref01_Compare.mono _ _ _ _ _ hk e_9) ?_
          rcases ite_or h with ⟨g_10, h⟩ | ⟨g_10, h⟩
          · refine itp g_10 ?_
            exact h
          · refine itn g_10 ?_
            obtain ⟨y_11, e_12, h⟩ := bind_or h
            refine bnd (erasureref06_Valid.mono _ _ _ _ hk e_12) ?_
            rcases ite_or h with ⟨g_13, h⟩ | ⟨g_13, h⟩
            · refine itp g_13 ?_
              exact h
            · refine itn g_13 ?_
              rcases ite_or h with ⟨g_14, h⟩ | ⟨g_14, h⟩
              · refine itp g_14 ?_
                exact h
              · refine itn g_14 ?_
                rcases ite_or h with ⟨g_15, h⟩ | ⟨g_15, h⟩
                · refine itp g_15 ?_
                  exact h
                · refine itn g_15 ?_
                  exact ih _ _ _ r hk h
        · refine itn g_6 ?_
          obtain ⟨y_16, e_17, h⟩ := bind_or h
          refine bnd (erasureref06_Valid.mono _ _ _ _ hk e_17) ?_
          rcases ite_or h with ⟨g_18, h⟩ | ⟨g_18, h⟩
          · refine itp g_18 ?_
            exact h
          · refine itn g_18 ?_
            rcases ite_or h with ⟨g_19, h⟩ | ⟨g_19, h⟩
            · refine itp g_19 ?_
              exact h
            · refine itn g_19 ?_
              rcases ite_or h with ⟨g_20, h⟩ | ⟨g_20, h⟩
              · refine itp g_20 ?_
                exact h
              · refine itn g_20 ?_
                exact ih _ _ _ r hk h
    · refine itn g_1 ?_
      exact h
theorem erasureref30_Valid.mono   : ∀ (k k' : Nat) (s0 : (List TCached)) (r : Bool), k ≤ k' → erasureref30_Valid k s0 = some r → erasureref30_Valid k' s0 = some r := by
  intro k k' s0 r hk h
  unfold erasureref30_Valid at h ⊢
  exact erasureref30_Valid.p1.mono _ _ _ _ r hk h
theorem erasureref30_Valid.spec {k : Nat} {s0 : (List TCached)} {r : Bool} (h : erasureref30_Valid k s0 = some r) : Spec Try.prog 31 [.p (eL 5 cCached dCached s0)] (.p (.bool r)) [] :=
  spec_of mix Try.func31 (body := bodyOf Try.f31) (by kernel_rfl) (by kernel_rfl) (erasureref30_Valid.run h)
end Go.Proofs.YtjhnpaenhdbhpabV
set_option linter.unusedVariables false
set_option linter.unusedSimpArgs false
set_option maxRecDepth 100000
namespace Go.Proofs.YtjhnpaenhdbhpabV
open Go Go.RowKit
noncomputable def cache_Refill.p1  : Nat → (List TCached) → (List TEntry) → Int → Int → TCache → (List TCached) → Option (List TCached)
  | 0, _, _, _, _, _, _ => none
  | k + 1, s1, rows2, day3, i10, c4b, out9 => if (decide (i10 < ((s1).length : Int))) = true then (if 0 ≤ i10 ∧ i10 < ((s1).length : Int) then ((cache_Select k rows2 c4b.f2 ((s1.getD i10.toNat dCached).f0)).bind fun y_6 => (if (decide (((y_6).length : Int) > 0)) = true then (if (out9).length + ([(TCached.mk ((s1.getD i10.toNat dCached).f0) y_6 day3)]).length ≤ maxLen ∧ ((out9).length + ([(TCached.mk ((s1.getD i10.toNat dCached).f0) y_6 day3)]).length) * 64 ≤ 140737488355328 then (cache_Refill.p1 k s1 rows2 day3 (IntKind.i64.wrap (i10 + 1)) c4b (out9 ++ ([(TCached.mk ((s1.getD i10.toNat dCached).f0) y_6 day3)]))) else none) else (cache_Refill.p1 k s1 rows2 day3 (IntKind.i64.wrap (i10 + 1)) c4b out9))) else none) else (some out9)
noncomputable def cache_Refill  (k : Nat) (c0 : TCache) (s1 : (List TCached)) (rows2 : (List TEntry)) (day3 : Int) : Option (List TCached) := (cache_usable k c0 s1 rows2 day3).bind fun y_1 => (if (!y_1) = true then (some ([] : List TCached)) else (cache_Refill.p1 k s1 rows2 day3 0 c0 ([] : List TCached)))
noncomputable def cache_Refill.t : List Item := [.code (bodyOf Try.f21)]
noncomputable def cache_Refill.s (c0 : TCache) (s1 : (List TCached)) (rows2 : (List TEntry)) (day3 : Int) : St := ⟨frOf Try.f21.ntmps 0 [(0, .agg ((cCache c0).map .p)), (1, .p (eL 5 cCached dCached s1)), (2, .p (eL 2 cEntry dEntry rows2)), (3, .p (.int .i64 day3))], []⟩
noncomputable def cache_Refill.p1.t : List Item := nav 14 [false] cache_Refill.t
noncomputable def cache_Refill.p1.s (s1 : (List TCached)) (rows2 : (List TEntry)) (day3 : Int) (i10 : Int) (c4b : TCache) (out9 : (List TCached)) : St := ⟨frOf Try.f21.ntmps 0 [(1, .p (eL 5 cCached dCached s1)), (2, .p (eL 2 cEntry dEntry rows2)), (3, .p (.int .i64 day3)), (4, .ptr 0 0 0), (9, .sref 1 46 5 (out9).length), (10, .p (.int .i64 i10))], [.box ((cCache c4b).map .p), (oL true 46 5 cCached dCached out9)]⟩
theorem cache_Refill.p1.run   : ∀ (k : Nat) (s1 : (List TCached)) (rows2 : (List TEntry)) (day3 : Int) (i10 : Int) (c4b : TCache) (out9 : (List TCached)) (r : (List TCached)), cache_Refill.p1 k s1 rows2 day3 i10 c4b out9 = some r → RunC Try.prog Try.f21 cache_Refill.p1.t (cache_Refill.p1.s s1 rows2 day3 i10 c4b out9) (.sref 0 46 5 (r).length) [(oL true 46 5 cCached dCached (r))] := by
  intro k
  induction k with
  | zero => intro s1 rows2 day3 i10 c4b out9 r h; simp [cache_Refill.p1] at h
  | succ k ih =>
    intro s1 rows2 day3 i10 c4b out9 r h
    rw [cache_Refill.p1] at h
    rcases ite_or h with ⟨g_4, h⟩ | ⟨g_4, h⟩
    · obtain ⟨g_5, h⟩ := ite_some h
      obtain ⟨y_6, e_7, h⟩ := bind_or h
      rcases ite_or h with ⟨g_8, h⟩ | ⟨g_8, h⟩
      · obtain ⟨g_9, h⟩ := ite_some h
        exact RunC.go [.n 2, .r [(3, .dec true)], .n 5, .r [(8, .call (.sref 0 36 2 (y_6).length) [(oL true 36 2 cEntry dEntry y_6)])], .n 1, .r [(2, .dec true)], .n 1, .r [(9, .obj (oL true 46 5 cCached dCached [(TCached.mk ((s1.getD i10.toNat dCached).f0) y_6 day3)])), (10, .obj (oL true 46 5 cCached dCached (out9 ++ ([(TCached.mk ((s1.getD i10.toNat dCached).f0) y_6 day3)]))))], .n 3, .k [1, 2, 3, 4, 9, 10]] (by kernel_rfl) (Obs.of (by kernel_rfl) (And.intro g_4 (And.intro g_5 (And.intro (cache_Select.spec e_7) (And.intro g_8 (And.intro g_5 (And.intro (le_one 46 5 cCached dCached (TCached.mk ((s1.getD i10.toNat dCached).f0) y_6 day3)) (And.intro g_9 (le_app 46 5 cCached dCached out9 ([(TCached.mk ((s1.getD i10.toNat dCached).f0) y_6 day3)])))))))))) (ih _ _ _ _ _ _ r h)
      · exact RunC.go [.n 2, .r [(3, .dec true)], .n 5, .r [(8, .call (.sref 0 36 2 (y_6).length) [(oL true 36 2 cEntry dEntry y_6)])], .n 1, .r [(2, .dec false)], .n 5, .k [1, 2, 3, 4, 9, 10]] (by kernel_rfl) (Obs.of (by kernel_rfl) (And.intro g_4 (And.intro g_5 (And.intro (cache_Select.spec e_7) (nt g_8))))) (ih _ _ _ _ _ _ r h)
    · obtain rfl := Option.some.inj h
      exact RunC.out [.n 2, .r [(3, .dec false)], .n 4] (by kernel_rfl) (Obs.of (by kernel_rfl) (nt g_4))
theorem cache_Refill.run   {k : Nat} {c0 : TCache} {s1 : (List TCached)} {rows2 : (List TEntry)} {day3 : Int} {r : (List TCached)} (h : cache_Refill k c0 s1 rows2 day3 = some r) : RunC Try.prog Try.f21 cache_Refill.t (cache_Refill.s c0 s1 rows2 day3) (.sref 0 46 5 (r).length) [(oL true 46 5 cCached dCached (r))] := by
  unfold cache_Refill at h
  obtain ⟨y_1, e_2, h⟩ := bind_or h
  rcases ite_or h with ⟨g_3, h⟩ | ⟨g_3, h⟩
  · obtain rfl := Option.some.inj h
    exact RunC.out [.n 1, .r [(1, .obj (oL true 46 5 cCached dCached ([] : List TCached)))], .n 2, .r [(4, .call (.p (.bool y_1)) []), (5, .dec true)], .n 2, .r [(0, .obj (oL true 46 5 cCached dCached ([] : List TCached)))]] (by kernel_rfl) (Obs.of (by kernel_rfl) (And.intro (le_nil 46 5 cCached dCached) (And.intro (cache_usable.spec e_2) (And.intro g_3 (le_nil 46 5 cCached dCached)))))
  · exact RunC.go [.n 1, .r [(1, .obj (oL true 46 5 cCached dCached ([] : List TCached)))], .n 2, .r [(4, .call (.p (.bool y_1)) []), (5, .dec false)], .n 3, .r [(0, .obj (oL true 46 5 cCached dCached ([] : List TCached)))], .n 5, .k [1, 2, 3, 4, 9, 10]] (by kernel_rfl) (Obs.of (by kernel_rfl) (And.intro (le_nil 46 5 cCached dCached) (And.intro (cache_usable.spec e_2) (And.intro (nt g_3) (le_nil 46 5 cCached dCached))))) (cache_Refill.p1.run k _ _ _ _ _ _ r h)
theorem cache_Refill.p1.mono   : ∀ (k k' : Nat) (s1 : (List TCached)) (rows2 : (List TEntry)) (day3 : Int) (i10 : Int) (c4b : TCache) (out9 : (List TCached)) (r : (List TCached)), k ≤ k' → cache_Refill.p1 k s1 rows2 day3 i10 c4b out9 = some r → cache_Refill.p1 k' s1 rows2 day3 i10 c4b out9 = some r := by
  intro k
  induction k with
  | zero => intro k' s1 rows2 day3 i10 c4b out9 r hk h; simp [cache_Refill.p1] at h
  | succ k ih =>
    intro k' s1 rows2 day3 i10 c4b out9 r hk h
    obtain ⟨k', rfl⟩ : ∃ m, k' = m + 1 := ⟨k' - 1, by omega⟩
    replace hk := Nat.le_of_succ_le_succ hk
    rw [cache_Refill.p1] at h ⊢
    rcases ite_or h with ⟨g_4, h⟩ | ⟨g_4, h⟩
    · refine itp g_4 ?_
      obtain ⟨g_5, h⟩ := ite_some h
      refine itp g_5 ?_
      obtain ⟨y_6, e_7, h⟩ := bind_or h
      refine bnd (cache_Select.mono _ _ _ _ _ _ hk e_7) ?_
      rcases ite_or h with ⟨g_8, h⟩ | ⟨g_8, h⟩
      · refine itp g_8 ?_
        obtain ⟨g_9, h⟩ := ite_some h
        refine itp g_9 ?_
        exact ih _ _ _ _ _ _ _ r hk h
      · refine itn g_8 ?_
        exact ih _ _ _ _ _ _ _ r hk h
    · refine itn g_4 ?_
      exact h
theorem cache_Refill.mono   : ∀ (k k' : Nat) (c0 : TCache) (s1 : (List TCached)) (rows2 : (List TEntry)) (day3 : Int) (r : (List TCached)), k ≤ k' → cache_Refill k c0 s1 rows2 day3 = some r → cache_Refill k' c0 s1 rows2 day3 = some r := by
  intro k k' c0 s1 rows2 day3 r hk h
  unfold cache_Refill at h ⊢
  obtain ⟨y_1, e_2, h⟩ := bind_or h
  refine bnd (cache_usable.mono _ _ _ _ _ _ _ hk e_2) ?_
  rcases ite_or h with ⟨g_3, h⟩ | ⟨g_3, h⟩
  · refine itp g_3 ?_
    exact h
  · refine itn g_3 ?_
    exact cache_Refill.p1.mono _ _ _ _ _ _ _ _ r hk h
theorem cache_Refill.spec {k : Nat} {c0 : TCache} {s1 : (List TCached)} {rows2 : (List TEntry)} {day3 : Int} {r : (List TCached)} (h : cache_Refill k c0 s1 rows2 day3 = some r) : Spec Try.prog 21 [.agg ((cCache c0).map .p), .p (eL 5 cCached dCached s1), .p (eL 2 cEntry dEntry rows2), .p (.int .i64 day3)] (.sref 0 46 5 (r).length) [(oL true 46 5 cCached dCached (r))] :=
  spec_of mix Try.func21 (body := bodyOf Try.f21) (by kernel_rfl) (by kernel_rfl) (cache_Refill.run h)
end Go.Proofs.YtjhnpaenhdbhpabV
set_option linter.unusedVariables false
set_option linter.unusedSimpArgs false
set_option maxRecDepth 100000
namespace Go.Proofs.YtjhnpaenhdbhpabV
open Go Go.RowKit
noncomputable def erasurelaw30_small.p1  : Nat → (List TCached) → Int → Option Bool
  | 0, _, _ => none
  | k + 1, s0, i3 => if (decide (i3 < ((s0).length : Int))) = true then (if 0 ≤ i3 ∧ i3 < ((s0).length : Int) then ((erasurelaw30_short k ((s0.getD i3.toNat dCached).f1)).bind fun y_3 => (if (!y_3) = true then (some false) else (erasurelaw30_small.p1 k s0 (IntKind.i64.wrap (i3 + 1))))) else none) else (some (decide (((s0).length : Int) ≤ 30)))
noncomputable def erasurelaw30_small  (k : Nat) (s0 : (List TCached)) : Option Bool := erasurelaw30_small.p1 k s0 0
noncomputable def erasurelaw30_small.t : List Item := [.code (bodyOf Try.f30)]
noncomputable def erasurelaw30_small.s (s0 : (List TCached)) : St := ⟨frOf Try.f30.ntmps 0 [(0, .p (eL 5 cCached dCached s0))], []⟩
noncomputable def erasurelaw30_small.p1.t : List Item := nav 7 [] erasurelaw30_small.t
noncomputable def erasurelaw30_small.p1.s (s0 : (List TCached)) (i3 : Int) : St := ⟨frOf Try.f30.ntmps 0 [(0, .p (eL 5 cCached dCached s0)), (3, .p (.int .i64 i3))], []⟩
theorem erasurelaw30_small.p1.run   : ∀ (k : Nat) (s0 : (List TCached)) (i3 : Int) (r : Bool), erasurelaw30_small.p1 k s0 i3 = some r → RunC Try.prog Try.f30 erasurelaw30_small.p1.t (erasurelaw30_small.p1.s s0 i3) (.p (.bool r)) [] := by
  intro k
  induction k with
  | zero => intro s0 i3 r h; simp [erasurelaw30_small.p1] at h
  | succ k ih =>
    intro s0 i3 r h
    rw [erasurelaw30_small.p1] at h
    rcases ite_or h with ⟨g_1, h⟩ | ⟨g_1, h⟩
    · obtain ⟨g_2, h⟩ := ite_some h
      obtain ⟨y_3, e_4, h⟩ := bind_or h
      rcases ite_or h with ⟨g_5, h⟩ | ⟨g_5, h⟩
      · obtain rfl := Option.some.inj h
        exact RunC.out [.n 2, .r [(3, .dec true)], .n 5, .r [(5, .call (.p (.bool y_3)) []), (6, .dec true)], .n 3] (by kernel_rfl) (Obs.of (by kernel_rfl) (And.intro g_1 (And.intro g_2 (And.intro (erasurelaw30_short.spec e_4) g_5))))
      · exact RunC.go [.n 2, .r [(3, .dec true)], .n 5, .r [(5, .call (.p (.bool y_3)) []), (6, .dec false)], .n 5, .k [0, 3]] (by kernel_rfl) (Obs.of (by kernel_rfl) (And.intro g_1 (And.intro g_2 (And.intro (erasurelaw30_short.spec e_4) (nt g_5))))) (ih _ _ r h)
    · obtain rfl := Option.some.inj h
      exact RunC.out [.n 2, .r [(3, .dec false)], .n 4] (by kernel_rfl) (Obs.of (by kernel_rfl) (nt g_1))
theorem erasurelaw30_small.run   {k : Nat} {s0 : (List TCached)} {r : Bool} (h : erasurelaw30_small k s0 = some r) : RunC Try.prog Try.f30 erasurelaw30_small.t (erasurelaw30_small.s s0) (.p (.bool r)) [] := by
  unfold erasurelaw30_small at h
  exact RunC.go [.n 7, .k [0, 3]] (by kernel_rfl) (Obs.tt (by kernel_rfl)) (erasurelaw30_small.p1.run k _ _ r h)
theorem erasurelaw30_small.p1.mono   : ∀ (k k' : Nat) (s0 : (List TCached)) (i3 : Int) (r : Bool), k ≤ k' → erasurelaw30_small.p1 k s0 i3 = some r → erasurelaw30_small.p1 k' s0 i3 = some r := by
  intro k
  induction k with
  | zero => intro k' s0 i3 r hk h; simp [erasurelaw30_small.p1] at h
  | succ k ih =>
    intro k' s0 i3 r hk h
    obtain ⟨k', rfl⟩ : ∃ m, k' = m + 1 := ⟨k' - 1, by omega⟩
    replace hk := Nat.le_of_succ_le_succ hk
    rw [erasurelaw30_small.p1] at h ⊢
    rcases ite_or h with ⟨g_1, h⟩ | ⟨g_1, h⟩
    · refine itp g_1 ?_
      obtain ⟨g_2, h⟩ := ite_some h
      refine itp g_2 ?_
      obtain ⟨y_3, e_4, h⟩ := bind_or h
      refine bnd (erasurelaw30_short.mono _ _ _ _ hk e_4) ?_
      rcases ite_or h with ⟨g_5, h⟩ | ⟨g_5, h⟩
      · refine itp g_5 ?_
        exact h
      · refine itn g_5 ?_
        exact ih _ _ _ r hk h
    · refine itn g_1 ?_
      exact h
theorem erasurelaw30_small.mono   : ∀ (k k' : Nat) (s0 : (List TCached)) (r : Bool), k ≤ k' → erasurelaw30_small k s0 = some r → erasurelaw30_small k' s0 = some r := by
  intro k k' s0 r hk h
  unfold erasurelaw30_small at h ⊢
  exact erasurelaw30_small.p1.mono _ _ _ _ r hk h
theorem erasurelaw30_small.spec {k : Nat} {s0 : (List TCached)} {r : Bool} (h : erasurelaw30_small k s0 = some r) : Spec Try.prog 30 [.p (eL 5 cCached dCached s0)] (.p (.bool r)) [] :=
  spec_of mix Try.func30 (body := bodyOf Try.f30) (by kernel_rfl) (by kernel_rfl) (erasurelaw30_small.run h)
end Go.Proofs.YtjhnpaenhdbhpabV
set_option linter.unusedVariables false
set_option linter.unusedSimpArgs false
set_option linter.constructorNameAsVariable false
namespace Go.Proofs.YtjhnpaenhdbhpabV
open Go Go.RowKit
open Go.Shelf Go.Lib Go.Sort
abbrev SE {β : Type} (F : Nat → Prop) (w : World) (sz : Nat) (c : β → List AV) (xs : List β) :=
  { p : List Value × β // p.1.length = sz ∧ (∀ v ∈ p.1, v.oneCell' = true) ∧ (∀ j, j < sz → ∃ v, p.1[j]? = some v ∧ Rep F w ((c p.2).getD j .u) v) ∧ p.2 ∈ xs }
theorem mk_elems {β : Type} {F : Nat → Prop} {w : World} {sz : Nat} {c : β → List AV} (d : β) {xs : List β} : ∀ (zs : List β) (cells : List Value), (∀ x ∈ zs, x ∈ xs) → cells.length = zs.length * sz → (∀ v ∈ cells, v.oneCell' = true) →
    (∀ i, i < zs.length → ∀ j, j < sz → ∃ v, cells[i * sz + j]? = some v ∧ Rep F w ((c (zs.getD i d)).getD j .u) v) → ∃ D : List (SE F w sz c xs), D.map (·.1.2) = zs ∧ D.flatMap (·.1.1) = cells
  | [], cells, _, hl, _, _ => ⟨[], rfl, by simp at hl; simp [hl]⟩
  | z :: zs, cells, hm, hl, h1, hr => by
    have hl' : cells.length = zs.length * sz + sz := by rw [hl, List.length_cons, Nat.add_mul, Nat.one_mul]
    obtain ⟨D, hD1, hD2⟩ := mk_elems (F := F) (w := w) (sz := sz) (c := c) d (xs := xs) zs (cells.drop sz) (fun x hx => hm x (List.mem_cons_of_mem _ hx)) (by rw [List.length_drop]; omega) (fun v hv => h1 v (List.mem_of_mem_drop hv))
      (fun i hi j hj => by
        obtain ⟨v, g1, g2⟩ := hr (i + 1) (by simpa using hi) j hj
        refine ⟨v, ?_, by simpa using g2⟩
        rw [List.getElem?_drop, show sz + (i * sz + j) = (i + 1) * sz + j from by rw [Nat.add_mul, Nat.one_mul]; omega]
        exact g1)
    refine ⟨⟨(cells.take sz, z), by rw [List.length_take]; omega, fun v hv => h1 v (List.mem_of_mem_take hv), fun j hj => ?_, hm z (List.mem_cons_self ..)⟩ :: D, by simp [hD1], by simp [hD2]⟩
    obtain ⟨v, g1, g2⟩ := hr 0 (by simp) j hj
    refine ⟨v, ?_, by simpa using g2⟩
    rw [List.getElem?_take, if_pos hj]
    simpa using g1
theorem get_flat {α : Type} {sz : Nat} {f : α → List Value} (hs : ∀ x, (f x).length = sz) : ∀ (D : List α) (i j : Nat), j < sz → (h : i < D.length) → (D.flatMap f)[i * sz + j]? = (f D[i])[j]?
  | [], i, j, _, h => by simp at h
  | x :: D, i, j, hj, h => by
    cases i with
    | zero => simp [List.getElem?_append, hs, hj]
    | succ i =>
      rw [List.flatMap_cons, List.getElem?_append_right (by rw [hs, Nat.add_mul]; omega), hs, show (i + 1) * sz + j - sz = i * sz + j from by rw [Nat.add_mul, Nat.one_mul]; omega]
      have := get_flat hs D i j hj (by simpa using h)
      simpa using this
theorem len_flat {α : Type} {sz : Nat} {f : α → List Value} (hs : ∀ x, (f x).length = sz) : ∀ (D : List α), (D.flatMap f).length = D.length * sz
  | [] => by simp
  | x :: D => by rw [List.flatMap_cons, List.length_append, hs, len_flat hs D, List.length_cons, Nat.add_mul, Nat.one_mul, Nat.add_comm]
theorem flatK_list {α : Type} [Inhabited α] {sz : Nat} {f : α → List Value} (hs : ∀ x, (f x).length = sz) (h0 : 0 < sz) (D : Array α) : flatK f sz D = (D.toList.flatMap f).toArray := by
  have hsz : (flatK f sz D).size = D.size * sz := by simp [flatK]
  apply Array.ext_getElem?
  intro t
  by_cases ht : t < D.size * sz
  · have hi : t / sz < D.size := (Nat.div_lt_iff_lt_mul h0).2 ht
    have hj : t % sz < sz := Nat.mod_lt _ h0
    have e : t / sz * sz + t % sz = t := by rw [Nat.mul_comm]; exact Nat.div_add_mod t sz
    have := get_flat hs D.toList (t / sz) (t % sz) hj (by simpa using hi)
    rw [e] at this
    rw [show ((D.toList.flatMap f).toArray)[t]? = (D.toList.flatMap f)[t]? from by simp, this]
    have hlen : t % sz < (f D[t / sz]).length := by rw [hs]; exact hj
    simp [flatK, ht, hi, hlen]
  · rw [Array.getElem?_eq_none (by omega), Array.getElem?_eq_none (by rw [List.size_toArray, len_flat hs]; simpa using Nat.not_lt.1 ht)]
structure Laid (w w' : World) (blk : Nat) (e : TypeId) (cur : Array Value) (cells : List Value) : Prop where
  os : w'.os = w.os
  tape : w'.tape = w.tape
  output : w'.output = w.output
  drawn : w.drawn ≤ w'.drawn
  size : w.heap.size ≤ w'.heap.size
  other : ∀ b, b < w.heap.size → b ≠ blk → w'.heap[b]? = w.heap[b]?
  row : w'.heap[blk]? = some (.cells (cells ++ cur.toList.drop cells.length).toArray e (0, 0))
theorem putCells_list (d : Array Value) (cur : Array Value) (h : d.size ≤ cur.size) : putCells id 0 d cur = (d.toList ++ cur.toList.drop d.size).toArray := by
  apply Array.ext_getElem?
  intro t
  simp only [putCells, Array.getElem?_mapIdx, List.getElem?_toArray, List.getElem?_append, Array.length_toList, List.getElem?_drop, Array.getElem?_toList, Nat.zero_le, true_and, Nat.zero_add, Nat.sub_zero, id]
  by_cases ht : t < d.size
  · rw [if_pos ht, Array.getElem?_eq_getElem (by omega), Array.getElem?_eq_getElem ht]
    simp [ht]
  · rw [if_neg ht, show d.size + (t - d.size) = t from by omega]
    cases cur[t]? with
    | none => rfl
    | some x => simp [ht]
theorem laid_sortK {α : Type} [Inhabited α] {f : α → List Value} {sz : Nat} (hs : ∀ x, (f x).length = sz) (h0 : 0 < sz) {w : World} {blk : Nat} {e : TypeId} {cur : Array Value} (hb : w.heap[blk]? = some (.cells cur e (0, 0))) {D : Array α} (hD : D.size * sz ≤ cur.size) (n : Nat) (os : Array Obj) :
    Laid w (sortWorldK f sz w blk 0 n D os) blk e cur (D.toList.flatMap f) := by
  have hlt := (Array.getElem?_eq_some_iff.1 hb).1
  refine ⟨rfl, rfl, rfl, Nat.le_add_right _ _, by simp [sortWorldK, grow, putRowK, putRow, mapBlock, Sort.ahead], fun b hb' hne => ?_, ?_⟩
  · unfold sortWorldK
    rw [heap_grow_old _ _ (by simpa [putRowK, putRow, mapBlock, Sort.ahead] using hb')]
    simp [putRowK, putRow, mapBlock, Sort.ahead, Array.getElem?_modify, Ne.symm hne]
  · unfold sortWorldK
    rw [heap_grow_old _ _ (by simpa [putRowK, putRow, mapBlock, Sort.ahead] using hlt)]
    simp only [putRowK, putRow, mapBlock, Sort.ahead, Array.getElem?_modify, if_true, hb, Option.map_some]
    rw [flatK_list hs h0]
    show some (Obj.cells (putCells id 0 _ cur) e (0, 0)) = _
    rw [putCells_list _ _ (by simpa [len_flat hs] using hD)]
    simp
theorem sorted_one {α β : Type} [Inhabited α] (p : α → β) (cf : β → β → Int) {xs ys : List β} (hT : ∀ x ∈ xs, ∀ y ∈ xs, ¬ cf y x < 0 → ¬ cf x y < 0 → x = y) (hy : ys.Perm xs) (hs : ys.Pairwise fun a b => ¬ cf b a < 0)
    {D D' : Array α} (hx : D.toList.map p = xs) (hP : PermIn 0 D.size D D') (hS : SortedIn (ltOf fun x y => cf (p x) (p y)) 0 D.size D') : D'.toList.map p = ys := by
  obtain ⟨hsz, _, hperm⟩ := hP
  have e1 : D'.extract 0 D.size = D' := by rw [← hsz]; exact Array.extract_size
  rw [e1, Array.extract_size] at hperm
  have hp2 : (D'.toList.map p).Perm xs := by rw [← hx]; exact hperm.map p
  refine List.Perm.eq_of_pairwise (le := fun a b => ¬ cf b a < 0) ?_ ?_ hs (hp2.trans hy.symm)
  · intro a b ha hb h1 h2
    exact hT a (hp2.mem_iff.1 ha) b (hy.mem_iff.1 hb) h1 h2
  · rw [List.pairwise_iff_getElem]
    intro i j hi hj hij
    have hi' : i < D'.size := by simpa using hi
    have hj' : j < D'.size := by simpa using hj
    have := hS i j (Nat.zero_le _) hij (by omega)
    rw [getElem!_pos D' j hj', getElem!_pos D' i hi'] at this
    simp only [ltOf, decide_eq_false_iff_not] at this
    simpa using this
theorem sort_end {β : Type} {E : En} {F : Nat → Prop} {w w' : World} {κ : Nat → Value} {sz : Nat} (e : TypeId) (c : β → List AV) (d : β) {xs ys : List β} {bk cap : Nat} {cur : Array Value} (h0 : 0 < sz) (hI : Inv E ⟨F, w, κ, [oL true e sz c d xs]⟩) (hκ : κ 0 = .slice (some ⟨bk, 0, none⟩) xs.length cap)
    (hcap : xs.length ≤ cap ∧ cap ≤ maxLen ∧ cur.size = cap * sz) {D' : List (SE F w sz c xs)} (hD : D'.map (·.1.2) = ys) (hlen : ys.length = xs.length) (hL : Laid w w' bk e cur (D'.flatMap (·.1.1))) :
    Inv E ⟨F, w', κ, [oL true e sz c d ys]⟩ ∧ RelV ⟨F, w', κ, [oL true e sz c d ys]⟩ (.sref 0 e sz ys.length) (κ 0) := by
  have hDl : D'.length = xs.length := by rw [← hlen, ← hD]; simp
  have hfl : (D'.flatMap (·.1.1)).length = xs.length * sz := by rw [len_flat (fun x => x.2.1), hDl]
  have hblk : blk (κ 0) = some bk := by rw [hκ]; rfl
  have hc : Chg (fun b => blk (κ 0) = some b) w w' := ⟨hL.os, hL.tape, hL.output, hL.drawn, hL.size, fun b hb hn => hL.other b hb (fun e => hn (by rw [e]; exact hblk))⟩
  have hmut : (look [oL true e sz c d xs] 0).mut = true := rfl
  obtain ⟨i1, l1⟩ := hI.put (w' := w') (id := 0) (o := oL true e sz c d ys) hmut hc (.inr ⟨rfl, by rw [← hlen]; exact ⟨true, _, rfl⟩⟩) (fun hle => by
    refine ⟨h0, D'.flatMap (·.1.1), ⟨by rw [hfl, hlen], .inr ⟨bk, cap, _, by rw [hlen]; exact hκ, Nat.zero_le _, hL.row, by omega, hcap.2.1, ?_, ?_⟩⟩, fun i hi j hj => ?_, fun u hu => ?_, fun b hb => ⟨fun _ => ?_, fun h => by simp at h⟩⟩
    · have := Nat.mul_le_mul_right sz hcap.1
      have e1 : (D'.flatMap (·.1.1) ++ cur.toList.drop (D'.flatMap (·.1.1)).length).length = cap * sz := by
        have hcs : cur.toList.length = cap * sz := by simpa using hcap.2.2
        rw [List.length_append, List.length_drop, hfl, hcs]
        omega
      exact e1
    · rw [hlen]
      show List.take _ (_ ++ _) = _
      rw [← hfl]
      exact List.take_left
    · have hi' : i < D'.length := by omega
      obtain ⟨v, g1, g2⟩ := (D'[i]).2.2.2.1 j hj
      refine ⟨v, by rw [get_flat (fun x => x.2.1) D' i j hj hi']; exact g1, ?_⟩
      have e2 : ys.getD i d = (D'[i]).1.2 := by
        have : ys[i]? = some (D'[i]).1.2 := by rw [← hD]; simp [hi']
        simp [List.getD_eq_getElem?_getD, this]
      show Rep F w' ((c (ys.getD i d)).getD j .u) v
      rw [e2]
      exact Rep.mono hle.F hle.w _ _ g2
    · obtain ⟨x, hx, hu⟩ := List.mem_flatMap.1 hu
      exact x.2.2.1 u hu
    · exact hI.notF (i := 0) hmut b hb)
  refine ⟨i1, ?_⟩
  simp only [RelV]
  exact ⟨⟨_, _, by rw [hlen]; exact hκ, .inr ⟨_, rfl⟩⟩, rfl, rfl, rfl, rfl⟩
structure CmpOK {β : Type} (cf : β → β → Int) (xs : List β) : Prop where
  irrefl : ∀ x ∈ xs, ¬ cf x x < 0
  trans : ∀ x ∈ xs, ∀ y ∈ xs, ∀ z ∈ xs, cf x y < 0 → cf y z < 0 → cf x z < 0
  ntrans : ∀ x ∈ xs, ∀ y ∈ xs, ∀ z ∈ xs, ¬ cf x y < 0 → ¬ cf y z < 0 → ¬ cf x z < 0
  anti : ∀ x ∈ xs, ∀ y ∈ xs, ¬ cf y x < 0 → ¬ cf x y < 0 → x = y
theorem grow_of_chg {W w' : World} (h : Chg (fun _ => False) W w') : ∃ q os', w' = grow (W.drewN q) os' := by
  refine ⟨w'.drawn - W.drawn, w'.heap.extract W.heap.size w'.heap.size, ?_⟩
  have hh : w'.heap = W.heap ++ w'.heap.extract W.heap.size w'.heap.size := by
    apply Array.ext_getElem?
    intro b
    by_cases hb : b < W.heap.size
    · rw [Array.getElem?_append_left hb]
      exact h.block b hb (fun h => h)
    · rw [Array.getElem?_append_right (by omega), Array.getElem?_extract]
      rw [show W.heap.size + (b - W.heap.size) = b from by omega]
      by_cases hb2 : b < w'.heap.size
      · rw [if_pos (by omega)]
      · rw [if_neg (by omega), Array.getElem?_eq_none (by omega)]
  have hd := h.drawn
  cases w'
  cases W
  simp only [grow, World.drewN] at *
  have e1 := h.os; have e2 := h.tape; have e3 := h.output
  simp only at e1 e2 e3 hh hd
  subst e1 e2 e3
  simp only [World.mk.injEq, true_and]
  exact ⟨hh, by omega, trivial⟩
theorem sort_args {β : Type} {c : β → List AV} {d : β} {e sz g : Nat} {xs : List β} {F : Nat → Prop} {w : World} {κ : Nat → Value} {vs : Array Value} (hv : RelVs ⟨F, w, κ, [oL true e sz c d xs]⟩ [.sref 0 e sz xs.length, .fn g []] vs.toList) :
    vs = #[κ 0, .func (.func g) #[] #[]] := by
  simp only [RelVs, RelV] at hv
  obtain ⟨v, l1, hvs, ⟨_, hv2⟩, fv, l2, hvs2, ⟨us, hfv, hus⟩, hnil⟩ := hv
  subst hnil hvs2
  have hv3 : v = κ 0 := hv2.2.2.2
  have hus' : us = #[] := Array.toList_inj.1 (by simpa using hus)
  subst hus'
  rw [hv3, hfv] at hvs
  exact Array.toList_inj.1 (by simpa using hvs)
theorem sort_cmp {β : Type} {P : Program} {g sz : Nat} {c : β → List AV} {cf : β → β → Int} {xs : List β} {F : Nat → Prop} {w W : World} (hFW : ∀ b, F b → W.heap[b]? = w.heap[b]?) (hlt : ∀ b, F b → b < W.heap.size) (x y : SE F w sz c xs) {args : List FV} {vs : Array Value} (κ : Nat → Value)
    (hspec : Spec P g args (.p (.int .i64 (cf x.1.2 y.1.2))) []) (hargs : RelVs ⟨F, W, κ, []⟩ args vs.toList) :
    Calls P g vs W fun e w' => e = .returned (.int .i64 (cf x.1.2 y.1.2)) ∧ ∃ q os', w' = grow (W.drewN q) os' := by
  refine (hspec W F κ vs hlt hargs).mono fun e w' ⟨v, F', κ', he, hI, hr⟩ => ?_
  simp only [RelV, Rep] at hr
  exact ⟨by rw [he, hr], grow_of_chg hI.chg⟩
theorem se_agg {β : Type} {sz : Nat} {c : β → List AV} (hc : ∀ x, (c x).length = sz) {xs : List β} {F : Nat → Prop} {w W : World} (hFW : ∀ b, F b → W.heap[b]? = w.heap[b]?) (x : SE F w sz c xs) (κ : Nat → Value) : RelV ⟨F, W, κ, []⟩ (.agg ((c x.1.2).map .p)) (.agg x.1.1.toArray) := by
  simp only [RelV]
  refine ⟨_, rfl, RelVs.of_get (by simp [hc, x.2.1]) fun i v hv hi => ?_⟩
  have hi' : i < sz := by rw [List.length_map, hc] at hi; exact hi
  obtain ⟨u, h1, h2⟩ := x.2.2.2.1 i hi'
  have : u = v := by
    have hv' : x.1.1[i]? = some v := by simpa using hv
    rw [h1] at hv'
    exact Option.some.inj hv'
  subst this
  have he : ((c x.1.2).map FV.p)[i] = .p ((c x.1.2).getD i .u) := by
    rw [List.getElem_map, List.getD_eq_getElem?_getD, List.getElem?_eq_getElem (by rw [hc]; exact hi')]
    rfl
  rw [he]
  simp only [RelV]
  exact Rep.mono (fun _ h => h) hFW _ _ h2
theorem swo_of {α β : Type} (p : α → β) {cf : β → β → Int} {xs : List β} (h : CmpOK cf xs) (hp : ∀ a, p a ∈ xs) : SWO (ltOf fun x y : α => cf (p x) (p y)) where
  irrefl x := by simpa [ltOf] using h.irrefl _ (hp x)
  trans x y z h1 h2 := by
    simp only [ltOf, decide_eq_true_eq] at *
    exact h.trans _ (hp x) _ (hp y) _ (hp z) h1 h2
  ntrans x y z h1 h2 := by
    simp only [ltOf, decide_eq_false_iff_not] at *
    exact h.ntrans _ (hp x) _ (hp y) _ (hp z) h1 h2
set_option maxHeartbeats 1000000 in
theorem sortK_specX {β : Type} {P : Program} {ρ : Ren} (L : SlLaysF0.n6 P ρ) {sz : Nat} (h0 : 0 < sz) (aE : ∀ w, (isAgg (ρ.t 24)).run P w = .ok true w) (zE : ∀ w, (Go.sizeOf (ρ.t 24)).run P w = .ok sz w) (e : TypeId) (c : β → List AV) (d : β) (hc : ∀ x, (c x).length = sz) {g : Nat}
    (eg : ∀ args w, (callFunc g args).run P w = .ok (.enter g args) w) (cf : β → β → Int) {xs ys : List β} (hspec : ∀ x ∈ xs, ∀ y ∈ xs, Spec P g [.agg ((c x).map .p), .agg ((c y).map .p)] (.p (.int .i64 (cf x y))) []) (hO : CmpOK cf xs) (hy : ys.Perm xs)
    (hs : ys.Pairwise fun a b => ¬ cf b a < 0) (hsz : xs.length < 4611686018427387904) :
    SpecX P (ρ.f 6) [.sref 0 e sz xs.length, .fn g []] [oL true e sz c d xs] [0] 0 (.sref 0 e sz ys.length) [oL true e sz c d ys] := by
  intro E w F κ vs hI hv
  obtain rfl := sort_args hv
  have hlen := hy.length_eq
  have hobj : RelO ⟨F, w, κ, [oL true e sz c d xs]⟩ (κ 0) (oL true e sz c d xs) := hI.objs 0
  obtain ⟨_, cells, hown, hrep, hone, hF⟩ := hobj
  rcases hown.2 with ⟨hk, hn⟩ | ⟨bk, cap, cur, hk, _, hb, hnc, hcm, hcs, ht⟩
  · have hx : xs = [] := List.eq_nil_of_length_eq_zero hn
    subst hx
    have hy' : ys = [] := List.eq_nil_of_length_eq_zero (by simpa using hlen)
    subst hy'
    have hcall := AnyF.slices_SortFunc_none L none 0 (.func (.func g) #[] #[]) w
    rw [hk]
    refine hcall.mono fun ex w' ⟨he, hw⟩ => ?_
    subst hw
    refine ⟨[], F, κ, rfl, he, hI, ?_⟩
    show RelV _ _ (.slice none 0 0)
    simp only [RelV]
    exact ⟨⟨none, 0, rfl, .inl rfl⟩, rfl, rfl, rfl, hk.symm⟩
  · obtain ⟨D, hD1, hD2⟩ := mk_elems (F := F) (w := w) (sz := sz) (c := c) d (xs := xs) xs cells (fun _ h => h) hown.1 hone hrep
    have hDl : D.length = xs.length := by have := congrArg List.length hD1; simpa using this
    have hmut : (look [oL true e sz c d xs] 0).mut = true := rfl
    have hblk : blk (κ 0) = some bk := by rw [hk]; rfl
    have hbF : ¬ F bk := hI.notF (i := 0) hmut bk hblk
    have hlt : bk < w.heap.size := (Array.getElem?_eq_some_iff.1 hb).1
    rcases hxn : xs with _ | ⟨x0, xs'⟩
    ·
      have hx : xs.length = 0 := by rw [hxn]; rfl
      subst hxn
      have hy' : ys = [] := List.eq_nil_of_length_eq_zero (by simpa using hlen)
      subst hy'
      have hcall := AnyF.slices_SortFunc_none L (some ⟨bk, 0, none⟩) cap (.func (.func g) #[] #[]) w
      rw [hk]
      refine hcall.mono fun ex w' ⟨he, hw⟩ => ?_
      subst hw
      refine ⟨[], F, κ, rfl, he, hI, ?_⟩
      show RelV _ _ (.slice (some ⟨bk, 0, none⟩) 0 cap)
      simp only [RelV]
      exact ⟨⟨_, _, rfl, .inr ⟨_, rfl⟩⟩, rfl, rfl, rfl, hk.symm⟩
    · skip
      have hx0 : 0 < xs.length := by rw [hxn]; simp
      haveI : Inhabited (SE F w sz c xs) := ⟨D[0]'(by omega)⟩
      have hk1 : ∀ x : SE F w sz c xs, (x.1.1).length = sz := fun x => x.2.1
      have hfl : flatK (fun x : SE F w sz c xs => x.1.1) sz D.toArray = cells.toArray := by rw [flatK_list hk1 h0]; rw [← hD2]
      have hcl : cells.length = xs.length * sz := hown.1
      have hH : HoldsK (fun x : SE F w sz c xs => x.1.1) sz w bk 0 D.toArray := by
        unfold HoldsK
        rw [hfl]
        intro j hj
        have hj' : j < cells.length := by simpa using hj
        have e1 : cells[j]? = cur[j]? := by
          rw [← ht, List.getElem?_take, if_pos (by omega)]
          simp
        have hb' : w.heap[bk]? = some (.cells cur e (0, 0)) := hb
        refine ⟨?_, by simp [World.frozen?, hb']⟩
        rw [Nat.zero_add, cell_of_row _ bk _ cur e (0, 0) hb', ← e1]
        simp [hj']
      have hcmp : CmpLays P g #[] (fun x : SE F w sz c xs => x.1.1) sz (fun x y => cf x.1.2 y.1.2) bk 0 D.toArray.size w := by
        intro m os dk hdk x y
        have hLd := laid_sortK (f := fun x : SE F w sz c xs => x.1.1) hk1 h0 hb (D := dk) (by rw [hdk, List.size_toArray, hDl, hcs]; exact Nat.mul_le_mul_right _ hnc) m os
        generalize sortWorldK (fun x : SE F w sz c xs => x.1.1) sz w bk 0 m dk os = W at hLd
        have hFW : ∀ b, F b → W.heap[b]? = w.heap[b]? := fun b hb' => hLd.other b (hI.lt b hb') (fun e => hbF (e ▸ hb'))
        refine sort_cmp hFW (fun b hb' => Nat.lt_of_lt_of_le (hI.lt b hb') hLd.size) x y κ (hspec _ x.2.2.2.2 _ y.2.2.2.2) ?_
        show RelVs _ _ [_, _]
        simp only [RelVs]
        exact ⟨_, _, rfl, se_agg hc hFW x κ, _, _, rfl, se_agg hc hFW y κ, rfl⟩
      have hcall := AnyQ.slices_SortFunc L sz aE zE (fun x : SE F w sz c xs => x.1.1) hk1 (fun x => x.2.2.1) (fun x y => cf x.1.2 y.1.2) (swo_of (fun x : SE F w sz c xs => x.1.2) hO (fun x => x.2.2.2.2)) g #[] bk 0 cap D.toArray w eg hcmp hH hlt (by rw [List.size_toArray, hDl]; exact hsz)
      rw [List.size_toArray, hDl] at hcall
      rw [hk]
      refine hcall.mono fun ex w' ⟨he, d', n, os, hp, hso, hw⟩ => ?_
      have hsize : d'.size = xs.length := by rw [hp.1, List.size_toArray, hDl]
      have hLd := laid_sortK (f := fun x : SE F w sz c xs => x.1.1) hk1 h0 hb (D := d') (by rw [hsize, hcs]; exact Nat.mul_le_mul_right _ hnc) n os
      rw [← hw] at hLd
      have hP : PermIn 0 D.toArray.size D.toArray d' := by rw [List.size_toArray, hDl]; exact hp
      have hS : SortedIn (ltOf fun x y : SE F w sz c xs => cf x.1.2 y.1.2) 0 D.toArray.size d' := by rw [List.size_toArray, hDl]; exact hso
      have hone' := sorted_one (fun x : SE F w sz c xs => x.1.2) cf (xs := xs) (ys := ys) hO.anti hy hs (D := D.toArray) (D' := d') (by simpa using hD1) hP hS
      obtain ⟨q1, q2⟩ := sort_end (w' := w') (D' := d'.toList) e c d h0 hI hk ⟨hnc, hcm, hcs⟩ hone' hlen hLd
      refine ⟨[], F, κ, rfl, he, q1, ?_⟩
      rw [← hk]
      exact q2
end Go.Proofs.YtjhnpaenhdbhpabV
set_option linter.unusedVariables false
set_option linter.unusedSimpArgs false
set_option linter.constructorNameAsVariable false
namespace Go.Proofs.YtjhnpaenhdbhpabV
open Go Go.RowKit
structure SortedBy {β : Type} (f : Nat → β → β → Option Int) (xs ys : List β) : Prop where mk ::
  h : ∃ cf : β → β → Int, (∀ x ∈ xs, ∀ y ∈ xs, ∃ k, f k x y = some (cf x y)) ∧ CmpOK cf xs ∧ ys.Perm xs ∧ (ys.Pairwise fun a b => ¬ cf b a < 0) ∧ xs.length < 4611686018427387904
noncomputable def sortC {β : Type} (f : Nat → β → β → Option Int) (xs : List β) : Option (List β) := @dite _ (∃ ys, SortedBy f xs ys) (Classical.propDecidable _) (fun h => some (Classical.choose h)) (fun _ => none)
theorem sortC_ok {β : Type} {f : Nat → β → β → Option Int} {xs ys : List β} (h : sortC f xs = some ys) : SortedBy f xs ys := by
  unfold sortC at h
  split at h
  · rename_i hh
    injection h with h
    rw [← h]
    exact Classical.choose_spec hh
  · cases h
theorem SortedBy.one {β : Type} {f : Nat → β → β → Option Int} (hm : ∀ x y k k' r, k ≤ k' → f k x y = some r → f k' x y = some r) {xs ys zs : List β} (h1 : SortedBy f xs ys) (h2 : SortedBy f xs zs) : ys = zs := by
  obtain ⟨⟨cf, a1, a2, a3, a4, _⟩⟩ := h1
  obtain ⟨⟨cg, b1, b2, b3, b4, _⟩⟩ := h2
  have e : ∀ x ∈ xs, ∀ y ∈ xs, cf x y = cg x y := fun x hx y hy => by
    obtain ⟨k, hk⟩ := a1 x hx y hy
    obtain ⟨k', hk'⟩ := b1 x hx y hy
    have g1 := hm x y k (max k k') _ (Nat.le_max_left _ _) hk
    have g2 := hm x y k' (max k k') _ (Nat.le_max_right _ _) hk'
    rw [g1] at g2
    exact Option.some.inj g2
  refine List.Perm.eq_of_pairwise (le := fun a b => ¬ cf b a < 0) (fun a b ha hb q1 q2 => a2.anti a (a3.mem_iff.1 ha) b (b3.mem_iff.1 hb) q1 q2) a4 ?_ (a3.trans b3.symm)
  rw [List.pairwise_iff_getElem] at b4 ⊢
  intro i j hi hj hij
  have := b4 i j hi hj hij
  rw [e _ (b3.mem_iff.1 (List.getElem_mem hj)) _ (b3.mem_iff.1 (List.getElem_mem hi))]
  exact this
theorem sortC_eq {β : Type} {f : Nat → β → β → Option Int} (hm : ∀ x y k k' r, k ≤ k' → f k x y = some r → f k' x y = some r) {xs ys : List β} (h : SortedBy f xs ys) : sortC f xs = some ys := by
  unfold sortC
  rw [dif_pos ⟨ys, h⟩]
  congr 1
  exact SortedBy.one hm (Classical.choose_spec _) h
theorem sortK_call {β : Type} {P : Program} {ρ : Go.Shelf.Ren} (L : SlLaysF0.n6 P ρ) {n : FuncId} (hn : ρ.f 6 = n) {sz : Nat} (h0 : 0 < sz) (aE : ∀ w, (isAgg (ρ.t 24)).run P w = .ok true w) (zE : ∀ w, (Go.sizeOf (ρ.t 24)).run P w = .ok sz w) (e : TypeId) (c : β → List AV) (d : β) (hc : ∀ x, (c x).length = sz) {g : Nat}
    (eg : ∀ args w, (callFunc g args).run P w = .ok (.enter g args) w) {f : Nat → β → β → Option Int} (hsp : ∀ k x y r, f k x y = some r → Spec P g [.agg ((c x).map .p), .agg ((c y).map .p)] (.p (.int .i64 r)) []) {xs ys : List β} (h : sortC f xs = some ys) :
    SpecX P n [.sref 0 e sz xs.length, .fn g []] [oL true e sz c d xs] [0] 0 (.sref 0 e sz ys.length) [oL true e sz c d ys] := by
  obtain ⟨⟨cf, h1, h2, h3, h4, h5⟩⟩ := sortC_ok h
  subst hn
  exact sortK_specX L h0 aE zE e c d hc eg cf (fun x hx y hy => by obtain ⟨k, hk⟩ := h1 x hx y hy; exact hsp k x y _ hk) h2 h3 h4 h5
end Go.Proofs.YtjhnpaenhdbhpabV
set_option maxRecDepth 100000
namespace Go.Proofs.YtjhnpaenhdbhpabV
open Go Go.RowKit Go.Shelf
def sl53_ren : Go.Shelf.Ren := ⟨fun | 6 => 53 | 15 => 68 | 14 => 67 | 28 => 84 | 29 => 85 | 20 => 76 | 21 => 77 | 22 => 78 | 23 => 79 | 24 => 80 | 25 => 81 | 26 => 82 | 27 => 83 | 46 => 86 | 47 => 87 | 48 => 88 | 49 => 89 | 50 => 90 | 57 => 91 | n => n, fun | 22 => 33 | 24 => 24 | 25 => 70 | 3 => 3 | 39 => 43 | 0 => 0 | 53 => 98 | 55 => 100 | 4 => 4 | 46 => 91 | 45 => 90 | 50 => 95 | 5 => 5 | 9 => 9 | 66 => 101 | 70 => 105 | 76 => 107 | 77 => 108 | n => n, fun n => n⟩
theorem sl53 : SlLaysF0.n6 Try.prog sl53_ren where
  mixed := by kernel_rfl
  f6 := ⟨"slices.SortFunc[[]erasure/api.Value,erasure/api.Value]", by decide, Try.func53.trans (congrArg some (by kernel_rfl))⟩
  f14 := ⟨"slices.pdqsortCmpFunc[erasure/api.Value]", by decide, Try.func67.trans (congrArg some (by kernel_rfl))⟩
  f15 := Try.func68.trans (congrArg some (by kernel_rfl))
  f20 := ⟨"slices.insertionSortCmpFunc[erasure/api.Value]", by decide, Try.func76.trans (congrArg some (by kernel_rfl))⟩
  f21 := ⟨"slices.heapSortCmpFunc[erasure/api.Value]", by decide, Try.func77.trans (congrArg some (by kernel_rfl))⟩
  f22 := ⟨"slices.breakPatternsCmpFunc[erasure/api.Value]", by decide, Try.func78.trans (congrArg some (by kernel_rfl))⟩
  f23 := ⟨"slices.choosePivotCmpFunc[erasure/api.Value]", by decide, Try.func79.trans (congrArg some (by kernel_rfl))⟩
  f24 := ⟨"slices.reverseRangeCmpFunc[erasure/api.Value]", by decide, Try.func80.trans (congrArg some (by kernel_rfl))⟩
  f25 := ⟨"slices.partialInsertionSortCmpFunc[erasure/api.Value]", by decide, Try.func81.trans (congrArg some (by kernel_rfl))⟩
  f26 := ⟨"slices.partitionEqualCmpFunc[erasure/api.Value]", by decide, Try.func82.trans (congrArg some (by kernel_rfl))⟩
  f27 := ⟨"slices.partitionCmpFunc[erasure/api.Value]", by decide, Try.func83.trans (congrArg some (by kernel_rfl))⟩
  f28 := Try.func84.trans (congrArg some (by kernel_rfl))
  f29 := Try.func85.trans (congrArg some (by kernel_rfl))
  f46 := ⟨"slices.siftDownCmpFunc[erasure/api.Value]", by decide, Try.func86.trans (congrArg some (by kernel_rfl))⟩
  f47 := Try.func87.trans (congrArg some (by kernel_rfl))
  f48 := Try.func88.trans (congrArg some (by kernel_rfl))
  f49 := ⟨"slices.medianAdjacentCmpFunc[erasure/api.Value]", by decide, Try.func89.trans (congrArg some (by kernel_rfl))⟩
  f50 := ⟨"slices.medianCmpFunc[erasure/api.Value]", by decide, Try.func90.trans (congrArg some (by kernel_rfl))⟩
  f57 := ⟨"slices.order2CmpFunc[erasure/api.Value]", by decide, Try.func91.trans (congrArg some (by kernel_rfl))⟩
  t0 := Try.underlying0
  a0 := Try.isAgg0
  z0 := Try.sizeOf0
  v0 := Try.zeroValue0
  t3 := Try.underlying3
  a3 := Try.isAgg3
  z3 := Try.sizeOf3
  v3 := Try.zeroValue3
  t4 := Try.underlying4
  a4 := Try.isAgg4
  z4 := Try.sizeOf4
  v4 := Try.zeroValue4
  t5 := Try.underlying5
  a5 := Try.isAgg5
  z5 := Try.sizeOf5
  v5 := Try.zeroValue5
  t9 := Try.underlying9
  a9 := Try.isAgg9
  z9 := Try.sizeOf9
  v9 := Try.zeroValue9
  t22 := Try.underlying33
  a22 := Try.isAgg33
  z22 := Try.sizeOf33
  v22 := Try.zeroValue33
  t25 := Try.underlying70
  a25 := Try.isAgg70
  z25 := Try.sizeOf70
  v25 := Try.zeroValue70
  t39 := Try.underlying43
  a39 := Try.isAgg43
  z39 := Try.sizeOf43
  v39 := Try.zeroValue43
  t45 := Try.underlying90
  a45 := Try.isAgg90
  z45 := Try.sizeOf90
  v45 := Try.zeroValue90
  t46 := Try.underlying91
  a46 := Try.isAgg91
  z46 := Try.sizeOf91
  v46 := Try.zeroValue91
  t50 := Try.underlying95
  a50 := Try.isAgg95
  z50 := Try.sizeOf95
  v50 := Try.zeroValue95
  t53 := Try.underlying98
  a53 := Try.isAgg98
  z53 := Try.sizeOf98
  v53 := Try.zeroValue98
  t55 := Try.underlying100
  a55 := Try.isAgg100
  z55 := Try.sizeOf100
  v55 := Try.zeroValue100
  t66 := Try.underlying101
  a66 := Try.isAgg101
  z66 := Try.sizeOf101
  v66 := Try.zeroValue101
  t70 := Try.underlying105
  a70 := Try.isAgg105
  z70 := Try.sizeOf105
  v70 := Try.zeroValue105
  t76 := Try.underlying107
  a76 := Try.isAgg107
  z76 := Try.sizeOf107
  v76 := Try.zeroValue107
  t77 := Try.underlying108
  a77 := Try.isAgg108
  z77 := Try.sizeOf108
  v77 := Try.zeroValue108
end Go.Proofs.YtjhnpaenhdbhpabV
set_option linter.unusedVariables false
set_option linter.unusedSimpArgs false
set_option maxRecDepth 100000
namespace Go.Proofs.YtjhnpaenhdbhpabV
open Go Go.RowKit
noncomputable def cache_Touched.p2 (rec1 : Int → Int → Int → (List (TValue × Bool)) → (List TValue) → (List (List TEntry)) → Option (List TValue)) : Nat → Int → (List TEntry) → Int → Int → Int → (List (TValue × Bool)) → (List TValue) → (List (List TEntry)) → Option (List TValue)
  | 0, _, _, _, _, _, _, _, _ => none
  | k + 1, column2, l10, i11, v17, v18, seen7b, out8, v16 => if (decide (i11 < ((l10).length : Int))) = true then (if 0 ≤ i11 ∧ i11 < ((l10).length : Int) then ((cache_at k ((l10.getD i11.toNat dEntry).f0) column2).bind fun y_5 => (if (!(getM seen7b y_5 false)) = true then (if (out8).length + ([y_5]).length ≤ maxLen ∧ ((out8).length + ([y_5]).length) * 32 ≤ 140737488355328 then (cache_Touched.p2 rec1 k column2 l10 (IntKind.i64.wrap (i11 + 1)) v17 v18 (putM seen7b y_5 true) (out8 ++ ([y_5])) v16) else none) else (cache_Touched.p2 rec1 k column2 l10 (IntKind.i64.wrap (i11 + 1)) v17 v18 seen7b out8 v16))) else none) else (rec1 column2 v17 (IntKind.i64.wrap (v18 + 1)) seen7b out8 v16)
noncomputable def cache_Touched.p1  : Nat → Int → Int → Int → (List (TValue × Bool)) → (List TValue) → (List (List TEntry)) → Option (List TValue)
  | 0, _, _, _, _, _, _ => none
  | k + 1, column2, v17, v18, seen7b, out8, v16 => if (decide (v18 < v17)) = true then (if 0 ≤ v18 ∧ v18 < ((v16).length : Int) then (cache_Touched.p2 (cache_Touched.p1 k) k column2 (v16.getD v18.toNat ([] : List TEntry)) 0 v17 v18 seen7b out8 v16) else none) else ((sortC (fun k x y => value_Compare k x y) out8).bind fun y_9 => (some y_9))
noncomputable def cache_Touched  (k : Nat) (minus0 : (List TEntry)) (plus1 : (List TEntry)) (column2 : Int) : Option (List TValue) := cache_Touched.p1 k column2 (([minus0, plus1]).length : Int) 0 ([] : (List (TValue × Bool))) ([] : List TValue) ([minus0, plus1])
noncomputable def cache_Touched.t : List Item := [.code (bodyOf Try.f32)]
noncomputable def cache_Touched.s (minus0 : (List TEntry)) (plus1 : (List TEntry)) (column2 : Int) : St := ⟨frOf Try.f32.ntmps 0 [(0, .p (eL 2 cEntry dEntry minus0)), (1, .p (eL 2 cEntry dEntry plus1)), (2, .p (.int .i64 column2))], []⟩
noncomputable def cache_Touched.p1.t : List Item := nav 11 [] cache_Touched.t
noncomputable def cache_Touched.p1.s (column2 : Int) (v17 : Int) (v18 : Int) (seen7b : (List (TValue × Bool))) (out8 : (List TValue)) (v16 : (List (List TEntry))) : St := ⟨frOf Try.f32.ntmps 0 [(2, .p (.int .i64 column2)), (7, .mref 0 0), (8, .sref 1 24 3 (out8).length), (16, .sref 2 22 1 (v16).length), (17, .p (.int .i64 v17)), (18, .p (.int .i64 v18))], [.reg (.map (mE (pvT cValue) pvB seen7b)), (oL true 24 3 cValue dValue out8), (oL true 22 1 (cL 2 cEntry dEntry) ([] : List TEntry) v16)]⟩
noncomputable def cache_Touched.p2.t : List Item := nav 13 [true] cache_Touched.p1.t
noncomputable def cache_Touched.p2.s (column2 : Int) (l10 : (List TEntry)) (i11 : Int) (v17 : Int) (v18 : Int) (seen7b : (List (TValue × Bool))) (out8 : (List TValue)) (v16 : (List (List TEntry))) : St := ⟨frOf Try.f32.ntmps 0 [(2, .p (.int .i64 column2)), (7, .mref 0 0), (8, .sref 1 24 3 (out8).length), (10, .p (eL 2 cEntry dEntry l10)), (11, .p (.int .i64 i11)), (16, .sref 2 22 1 (v16).length), (17, .p (.int .i64 v17)), (18, .p (.int .i64 v18))], [.reg (.map (mE (pvT cValue) pvB seen7b)), (oL true 24 3 cValue dValue out8), (oL true 22 1 (cL 2 cEntry dEntry) ([] : List TEntry) v16)]⟩
theorem cache_Touched.p2.run {rec1 : Int → Int → Int → (List (TValue × Bool)) → (List TValue) → (List (List TEntry)) → Option (List TValue)} (hrec1 : ∀ (column2 : Int) (v17 : Int) (v18 : Int) (seen7b : (List (TValue × Bool))) (out8 : (List TValue)) (v16 : (List (List TEntry))) r, rec1 column2 v17 v18 seen7b out8 v16 = some r → RunC Try.prog Try.f32 cache_Touched.p1.t (cache_Touched.p1.s column2 v17 v18 seen7b out8 v16) (.sref 0 24 3 (r).length) [(oL true 24 3 cValue dValue (r))]) : ∀ (k : Nat) (column2 : Int) (l10 : (List TEntry)) (i11 : Int) (v17 : Int) (v18 : Int) (seen7b : (List (TValue × Bool))) (out8 : (List TValue)) (v16 : (List (List TEntry))) (r : (List TValue)), cache_Touched.p2 rec1 k column2 l10 i11 v17 v18 seen7b out8 v16 = some r → RunC Try.prog Try.f32 cache_Touched.p2.t (cache_Touched.p2.s column2 l10 i11 v17 v18 seen7b out8 v16) (.sref 0 24 3 (r).length) [(oL true 24 3 cValue dValue (r))] := by
  intro k
  induction k with
  | zero => intro column2 l10 i11 v17 v18 seen7b out8 v16 r h; simp [cache_Touched.p2] at h
  | succ k ih =>
    intro column2 l10 i11 v17 v18 seen7b out8 v16 r h
    rw [cache_Touched.p2] at h
    rcases ite_or h with ⟨g_3, h⟩ | ⟨g_3, h⟩
    · obtain ⟨g_4, h⟩ := ite_some h
      obtain ⟨y_5, e_6, h⟩ := bind_or h
      rcases ite_or h with ⟨g_7, h⟩ | ⟨g_7, h⟩
      · obtain ⟨g_8, h⟩ := ite_some h
        exact RunC.go [.n 2, .r [(3, .dec true)], .n 5, .r [(6, .call (.agg ((cValue y_5).map .p)) [])], .n 1, .r [(2, .fv (.p (.bool (getM seen7b y_5 false)))), (3, .dec true)], .n 2, .r [(2, .mp (mE (pvT cValue) pvB (putM seen7b y_5 true)))], .r [(2, .obj (oL true 24 3 cValue dValue [y_5])), (3, .obj (oL true 24 3 cValue dValue (out8 ++ ([y_5]))))], .n 3, .k [2, 7, 8, 10, 11, 16, 17, 18]] (by kernel_rfl) (Obs.of (by kernel_rfl) (And.intro g_3 (And.intro g_4 (And.intro (cache_at.spec e_6) (And.intro (le_get (P := Try.prog) (kt := 24) (q := pvB) inj_Value (fun _ => by kernel_rfl) y_5 false seen7b) (And.intro g_7 (And.intro (le_put (P := Try.prog) (kt := 24) (q := pvB) inj_Value (fun _ => by kernel_rfl) y_5 true seen7b) (And.intro (le_one 24 3 cValue dValue y_5) (And.intro g_8 (le_app 24 3 cValue dValue out8 ([y_5]))))))))))) (ih _ _ _ _ _ _ _ _ r h)
      · exact RunC.go [.n 2, .r [(3, .dec true)], .n 5, .r [(6, .call (.agg ((cValue y_5).map .p)) [])], .n 1, .r [(2, .fv (.p (.bool (getM seen7b y_5 false)))), (3, .dec false)], .n 5, .k [2, 7, 8, 10, 11, 16, 17, 18]] (by kernel_rfl) (Obs.of (by kernel_rfl) (And.intro g_3 (And.intro g_4 (And.intro (cache_at.spec e_6) (And.intro (le_get (P := Try.prog) (kt := 24) (q := pvB) inj_Value (fun _ => by kernel_rfl) y_5 false seen7b) (nt g_7)))))) (ih _ _ _ _ _ _ _ _ r h)
    · exact RunC.go [.n 2, .r [(3, .dec false)], .n 5, .k [2, 7, 8, 16, 17, 18]] (by kernel_rfl) (Obs.of (by kernel_rfl) (nt g_3)) (hrec1 _ _ _ _ _ _ r h)
theorem cache_Touched.p1.run   : ∀ (k : Nat) (column2 : Int) (v17 : Int) (v18 : Int) (seen7b : (List (TValue × Bool))) (out8 : (List TValue)) (v16 : (List (List TEntry))) (r : (List TValue)), cache_Touched.p1 k column2 v17 v18 seen7b out8 v16 = some r → RunC Try.prog Try.f32 cache_Touched.p1.t (cache_Touched.p1.s column2 v17 v18 seen7b out8 v16) (.sref 0 24 3 (r).length) [(oL true 24 3 cValue dValue (r))] := by
  intro k
  induction k with
  | zero => intro column2 v17 v18 seen7b out8 v16 r h; simp [cache_Touched.p1] at h
  | succ k ih =>
    intro column2 v17 v18 seen7b out8 v16 r h
    rw [cache_Touched.p1] at h
    rcases ite_or h with ⟨g_1, h⟩ | ⟨g_1, h⟩
    · obtain ⟨g_2, h⟩ := ite_some h
      exact RunC.go [.n 1, .r [(0, .dec true)], .n 11, .k [2, 7, 8, 10, 11, 16, 17, 18]] (by kernel_rfl) (Obs.of (by kernel_rfl) (And.intro g_1 g_2)) (cache_Touched.p2.run ih k _ _ _ _ _ _ _ _ r h)
    · obtain ⟨y_9, e_10, h⟩ := bind_or h
      obtain rfl := Option.some.inj h
      exact RunC.out [.n 1, .r [(0, .dec false)], .n 4, .r [(1, .callX [1] [0] (.sref 0 24 3 (y_9).length) [(oL true 24 3 cValue dValue y_9)])], .n 2] (by kernel_rfl) (Obs.of (by kernel_rfl) (And.intro (nt g_1) (sortK_call sl53 rfl (by decide) Try.isAgg24 Try.sizeOf24 24 cValue dValue (fun _ => rfl) (enters_of Try.func43 (by kernel_rfl) rfl) (fun k x y r h => value_Compare.spec h) e_10)))
theorem cache_Touched.run   {k : Nat} {minus0 : (List TEntry)} {plus1 : (List TEntry)} {column2 : Int} {r : (List TValue)} (h : cache_Touched k minus0 plus1 column2 = some r) : RunC Try.prog Try.f32 cache_Touched.t (cache_Touched.s minus0 plus1 column2) (.sref 0 24 3 (r).length) [(oL true 24 3 cValue dValue (r))] := by
  unfold cache_Touched at h
  exact RunC.go [.n 1, .r [(0, .obj (oL true 24 3 cValue dValue ([] : List TValue)))], .n 1, .r [(0, .mp (mE (pvT cValue) pvB ([] : (List (TValue × Bool)))))], .n 1, .r [(0, .obj (oL true 24 3 cValue dValue ([] : List TValue)))], .n 2, .r [(2, .obj (oL true 22 1 (cL 2 cEntry dEntry) ([] : List TEntry) [minus0, plus1]))], .n 2, .k [2, 7, 8, 16, 17, 18]] (by kernel_rfl) (Obs.of (by kernel_rfl) (And.intro (le_nil 24 3 cValue dValue) (And.intro (le_mnil (pvT cValue) pvB) (And.intro (le_nil 24 3 cValue dValue) (le_lit 22 1 (cL 2 cEntry dEntry) ([] : List TEntry) [minus0, plus1] (fun _ => rfl)))))) (cache_Touched.p1.run k _ _ _ _ _ _ r h)
theorem cache_Touched.p2.mono {rec1 rec1' : Int → Int → Int → (List (TValue × Bool)) → (List TValue) → (List (List TEntry)) → Option (List TValue)} (hm1 : ∀ (column2 : Int) (v17 : Int) (v18 : Int) (seen7b : (List (TValue × Bool))) (out8 : (List TValue)) (v16 : (List (List TEntry))) r, rec1 column2 v17 v18 seen7b out8 v16 = some r → rec1' column2 v17 v18 seen7b out8 v16 = some r) : ∀ (k k' : Nat) (column2 : Int) (l10 : (List TEntry)) (i11 : Int) (v17 : Int) (v18 : Int) (seen7b : (List (TValue × Bool))) (out8 : (List TValue)) (v16 : (List (List TEntry))) (r : (List TValue)), k ≤ k' → cache_Touched.p2 rec1 k column2 l10 i11 v17 v18 seen7b out8 v16 = some r → cache_Touched.p2 rec1' k' column2 l10 i11 v17 v18 seen7b out8 v16 = some r := by
  intro k
  induction k with
  | zero => intro k' column2 l10 i11 v17 v18 seen7b out8 v16 r hk h; simp [cache_Touched.p2] at h
  | succ k ih =>
    intro k' column2 l10 i11 v17 v18 seen7b out8 v16 r hk h
    obtain ⟨k', rfl⟩ : ∃ m, k' = m + 1 := ⟨k' - 1, by omega⟩
    replace hk := Nat.le_of_succ_le_succ hk
    rw [cache_Touched.p2] at h ⊢
    rcases ite_or h with ⟨g_3, h⟩ | ⟨g_3, h⟩
    · refine itp g_3 ?_
      obtain ⟨g_4, h⟩ := ite_some h
      refine itp g_4 ?_
      obtain ⟨y_5, e_6, h⟩ := bind_or h
      refine bnd (cache_at.mono _ _ _ _ _ hk e_6) ?_
      rcases ite_or h with ⟨g_7, h⟩ | ⟨g_7, h⟩
      · refine itp g_7 ?_
        obtain ⟨g_8, h⟩ := ite_some h
        refine itp g_8 ?_
        exact ih _ _ _ _ _ _ _ _ _ r hk h
      · refine itn g_7 ?_
        exact ih _ _ _ _ _ _ _ _ _ r hk h
    · refine itn g_3 ?_
      exact hm1 _ _ _ _ _ _ r h
theorem cache_Touched.p1.mono   : ∀ (k k' : Nat) (column2 : Int) (v17 : Int) (v18 : Int) (seen7b : (List (TValue × Bool))) (out8 : (List TValue)) (v16 : (List (List TEntry))) (r : (List TValue)), k ≤ k' → cache_Touched.p1 k column2 v17 v18 seen7b out8 v16 = some r → cache_Touched.p1 k' column2 v17 v18 seen7b out8 v16 = some r := by
  intro k
  induction k with
  | zero => intro k' column2 v17 v18 seen7b out8 v16 r hk h; simp [cache_Touched.p1] at h
  | succ k ih =>
    intro k' column2 v17 v18 seen7b out8 v16 r hk h
    obtain ⟨k', rfl⟩ : ∃ m, k' = m + 1 := ⟨k' - 1, by omega⟩
    replace hk := Nat.le_of_succ_le_succ hk
    rw [cache_Touched.p1] at h ⊢
    rcases ite_or h with ⟨g_1, h⟩ | ⟨g_1, h⟩
    · refine itp g_1 ?_
      obtain ⟨g_2, h⟩ := ite_some h
      refine itp g_2 ?_
      exact cache_Touched.p2.mono (fun x0 x1 x2 x3 x4 x5 r h => ih _ x0 x1 x2 x3 x4 x5 r hk h) _ _ _ _ _ _ _ _ _ _ r hk h
    · refine itn g_1 ?_
      obtain ⟨y_9, e_10, h⟩ := bind_or h
      refine bnd e_10 ?_
      exact h
theorem cache_Touched.mono   : ∀ (k k' : Nat) (minus0 : (List TEntry)) (plus1 : (List TEntry)) (column2 : Int) (r : (List TValue)), k ≤ k' → cache_Touched k minus0 plus1 column2 = some r → cache_Touched k' minus0 plus1 column2 = some r := by
  intro k k' minus0 plus1 column2 r hk h
  unfold cache_Touched at h ⊢
  exact cache_Touched.p1.mono _ _ _ _ _ _ _ _ r hk h
theorem cache_Touched.spec {k : Nat} {minus0 : (List TEntry)} {plus1 : (List TEntry)} {column2 : Int} {r : (List TValue)} (h : cache_Touched k minus0 plus1 column2 = some r) : Spec Try.prog 32 [.p (eL 2 cEntry dEntry minus0), .p (eL 2 cEntry dEntry plus1), .p (.int .i64 column2)] (.sref 0 24 3 (r).length) [(oL true 24 3 cValue dValue (r))] :=
  spec_of mix Try.func32 (body := bodyOf Try.f32) (by kernel_rfl) (by kernel_rfl) (cache_Touched.run h)
end Go.Proofs.YtjhnpaenhdbhpabV
