/- Part of the proof of CacheFresh: printed by programs of this repo out of the translation, and by hand. Each theorem's conditions stand in its statement. -/
import Derived.Shelf.SlSortCmp.NoneTotal
import Derived.Orders
import Derived.Below
import Derived.Laws.AppendOwn
import Derived.Laws.OwnMore
import Derived.KernelRfl
import Derived.Test.YtjhnpaenhdbhpacProg
import Derived.Test.YtjhnpaenhdbhpacMCacheFresha
import Derived.Test.YtjhnpaenhdbhpacMCacheFreshb
set_option linter.unusedVariables false
set_option linter.unusedSimpArgs false
set_option maxRecDepth 100000
namespace Go.Proofs.YtjhnpaenhdbhpacV
open Go Go.RowKit
noncomputable def value_Compare  (k : Nat) (a0 : TValue) (b1 : TValue) : Option Int := (value_Clean k a0).bind fun y_1 => ((value_Clean k b1).bind fun y_3 => (if (y_1.f0 != y_3.f0) = true then ((cmp_Compare_int k y_1.f0 y_3.f0).bind fun y_6 => (some y_6)) else (if (y_1.f0 == 1) = true then ((cmp_Compare_int64 k y_1.f1 y_3.f1).bind fun y_9 => (some y_9)) else ((cmp_Compare_string k y_1.f2 y_3.f2).bind fun y_11 => (some y_11)))))
noncomputable def value_Compare.t : List Item := [.code (bodyOf Try.f31)]
noncomputable def value_Compare.s (a0 : TValue) (b1 : TValue) : St := ⟨frOf Try.f31.ntmps 0 [(0, .agg ((cValue a0).map .p)), (1, .agg ((cValue b1).map .p))], []⟩
theorem value_Compare.run   {k : Nat} {a0 : TValue} {b1 : TValue} {r : Int} (h : value_Compare k a0 b1 = some r) : RunC Try.prog Try.f31 value_Compare.t (value_Compare.s a0 b1) (.p (.int .i64 r)) [] := by
  unfold value_Compare at h
  obtain ⟨y_1, e_2, h⟩ := bind_or h
  obtain ⟨y_3, e_4, h⟩ := bind_or h
  rcases ite_or h with ⟨g_5, h⟩ | ⟨g_5, h⟩
  · obtain ⟨y_6, e_7, h⟩ := bind_or h
    obtain rfl := Option.some.inj h
    exact RunC.out [.n 3, .r [(1, .call (.agg ((cValue y_1).map .p)) []), (3, .call (.agg ((cValue y_3).map .p)) [])], .n 2, .r [(4, .dec true)], .n 2, .r [(4, .call (.p (.int .i64 y_6)) [])]] (by kernel_rfl) (Obs.of (by kernel_rfl) (And.intro (value_Clean.spec e_2) (And.intro (value_Clean.spec e_4) (And.intro g_5 (cmp_Compare_int.spec e_7)))))
  · rcases ite_or h with ⟨g_8, h⟩ | ⟨g_8, h⟩
    · obtain ⟨y_9, e_10, h⟩ := bind_or h
      obtain rfl := Option.some.inj h
      exact RunC.out [.n 3, .r [(1, .call (.agg ((cValue y_1).map .p)) []), (3, .call (.agg ((cValue y_3).map .p)) [])], .n 2, .r [(4, .dec false)], .n 4, .r [(2, .dec true)], .n 2, .r [(4, .call (.p (.int .i64 y_9)) [])]] (by kernel_rfl) (Obs.of (by kernel_rfl) (And.intro (value_Clean.spec e_2) (And.intro (value_Clean.spec e_4) (And.intro (nt g_5) (And.intro g_8 (cmp_Compare_int64.spec e_10))))))
    · obtain ⟨y_11, e_12, h⟩ := bind_or h
      obtain rfl := Option.some.inj h
      exact RunC.out [.n 3, .r [(1, .call (.agg ((cValue y_1).map .p)) []), (3, .call (.agg ((cValue y_3).map .p)) [])], .n 2, .r [(4, .dec false)], .n 4, .r [(2, .dec false)], .n 3, .r [(4, .call (.p (.int .i64 y_11)) [])]] (by kernel_rfl) (Obs.of (by kernel_rfl) (And.intro (value_Clean.spec e_2) (And.intro (value_Clean.spec e_4) (And.intro (nt g_5) (And.intro (nt g_8) (cmp_Compare_string.spec e_12))))))
theorem value_Compare.mono   : ∀ (k k' : Nat) (a0 : TValue) (b1 : TValue) (r : Int), k ≤ k' → value_Compare k a0 b1 = some r → value_Compare k' a0 b1 = some r := by
  intro k k' a0 b1 r hk h
  unfold value_Compare at h ⊢
  obtain ⟨y_1, e_2, h⟩ := bind_or h
  refine bnd (value_Clean.mono _ _ _ _ hk e_2) ?_
  obtain ⟨y_3, e_4, h⟩ := bind_or h
  refine bnd (value_Clean.mono _ _ _ _ hk e_4) ?_
  rcases ite_or h with ⟨g_5, h⟩ | ⟨g_5, h⟩
  · refine itp g_5 ?_
    obtain ⟨y_6, e_7, h⟩ := bind_or h
    refine bnd (cmp_Compare_int.mono _ _ _ _ _ hk e_7) ?_
    exact h
  · refine itn g_5 ?_
    rcases ite_or h with ⟨g_8, h⟩ | ⟨g_8, h⟩
    · refine itp g_8 ?_
      obtain ⟨y_9, e_10, h⟩ := bind_or h
      refine bnd (cmp_Compare_int64.mono _ _ _ _ _ hk e_10) ?_
      exact h
    · refine itn g_8 ?_
      obtain ⟨y_11, e_12, h⟩ := bind_or h
      refine bnd (cmp_Compare_string.mono _ _ _ _ _ hk e_12) ?_
      exact h
theorem value_Compare.spec {k : Nat} {a0 : TValue} {b1 : TValue} {r : Int} (h : value_Compare k a0 b1 = some r) : Spec Try.prog 31 [.agg ((cValue a0).map .p), .agg ((cValue b1).map .p)] (.p (.int .i64 r)) [] :=
  spec_of mix Try.func31 (body := bodyOf Try.f31) (by kernel_rfl) (by kernel_rfl) (value_Compare.run h)
end Go.Proofs.YtjhnpaenhdbhpacV
set_option linter.unusedVariables false
set_option linter.unusedSimpArgs false
set_option maxRecDepth 100000
namespace Go.Proofs.YtjhnpaenhdbhpacV
open Go Go.RowKit
noncomputable def slices_CompareFunc_api_Value__value_Compare.p1  : Nat → (List TValue) → (List TValue) → (List TValue) → Int → Int → Option Int
  | 0, _, _, _, _, _ => none
  | k + 1, s10, s21, v11, v12, v13 => if (decide (v13 < v12)) = true then (if 0 ≤ v13 ∧ v13 < ((v11).length : Int) then (if (decide (v13 ≥ ((s21).length : Int))) = true then (some 1) else (if 0 ≤ v13 ∧ v13 < ((s21).length : Int) then ((value_Compare k (v11.getD v13.toNat dValue) (s21.getD v13.toNat dValue)).bind fun y_5 => (if (y_5 != 0) = true then (some y_5) else (slices_CompareFunc_api_Value__value_Compare.p1 k s10 s21 v11 v12 (IntKind.i64.wrap (v13 + 1))))) else none)) else none) else (if (decide (((s10).length : Int) < ((s21).length : Int))) = true then (some (-1)) else (some 0))
noncomputable def slices_CompareFunc_api_Value__value_Compare  (k : Nat) (s10 : (List TValue)) (s21 : (List TValue)) : Option Int := slices_CompareFunc_api_Value__value_Compare.p1 k s10 s21 s10 ((s10).length : Int) 0
noncomputable def slices_CompareFunc_api_Value__value_Compare.t : List Item := [.code (bodyOf Try.f58)]
noncomputable def slices_CompareFunc_api_Value__value_Compare.s (s10 : (List TValue)) (s21 : (List TValue)) : St := ⟨frOf Try.f58.ntmps 0 [(0, .p (eL 3 cValue dValue s10)), (1, .p (eL 3 cValue dValue s21)), (2, .fn 31 [])], []⟩
noncomputable def slices_CompareFunc_api_Value__value_Compare.p1.t : List Item := nav 7 [] slices_CompareFunc_api_Value__value_Compare.t
noncomputable def slices_CompareFunc_api_Value__value_Compare.p1.s (s10 : (List TValue)) (s21 : (List TValue)) (v11 : (List TValue)) (v12 : Int) (v13 : Int) : St := ⟨frOf Try.f58.ntmps 0 [(0, .p (eL 3 cValue dValue s10)), (1, .p (eL 3 cValue dValue s21)), (2, .fn 31 []), (11, .p (eL 3 cValue dValue v11)), (12, .p (.int .i64 v12)), (13, .p (.int .i64 v13))], []⟩
theorem slices_CompareFunc_api_Value__value_Compare.p1.run   : ∀ (k : Nat) (s10 : (List TValue)) (s21 : (List TValue)) (v11 : (List TValue)) (v12 : Int) (v13 : Int) (r : Int), slices_CompareFunc_api_Value__value_Compare.p1 k s10 s21 v11 v12 v13 = some r → RunC Try.prog Try.f58 slices_CompareFunc_api_Value__value_Compare.p1.t (slices_CompareFunc_api_Value__value_Compare.p1.s s10 s21 v11 v12 v13) (.p (.int .i64 r)) [] := by
  intro k
  induction k with
  | zero => intro s10 s21 v11 v12 v13 r h; simp [slices_CompareFunc_api_Value__value_Compare.p1] at h
  | succ k ih =>
    intro s10 s21 v11 v12 v13 r h
    rw [slices_CompareFunc_api_Value__value_Compare.p1] at h
    rcases ite_or h with ⟨g_1, h⟩ | ⟨g_1, h⟩
    · obtain ⟨g_2, h⟩ := ite_some h
      rcases ite_or h with ⟨g_3, h⟩ | ⟨g_3, h⟩
      · obtain rfl := Option.some.inj h
        exact RunC.out [.n 1, .r [(0, .dec true)], .n 9, .r [(3, .dec true)], .n 3] (by kernel_rfl) (Obs.of (by kernel_rfl) (And.intro g_1 (And.intro g_2 g_3)))
      · obtain ⟨g_4, h⟩ := ite_some h
        obtain ⟨y_5, e_6, h⟩ := bind_or h
        rcases ite_or h with ⟨g_7, h⟩ | ⟨g_7, h⟩
        · obtain rfl := Option.some.inj h
          exact RunC.out [.n 1, .r [(0, .dec true)], .n 9, .r [(3, .dec false)], .n 5, .r [(3, .call (.p (.int .i64 y_5)) [])], .n 1, .r [(1, .dec true)], .n 3] (by kernel_rfl) (Obs.of (by kernel_rfl) (And.intro g_1 (And.intro g_2 (And.intro (nt g_3) (And.intro g_4 (And.intro (value_Compare.spec e_6) g_7))))))
        · exact RunC.go [.n 1, .r [(0, .dec true)], .n 9, .r [(3, .dec false)], .n 5, .r [(3, .call (.p (.int .i64 y_5)) [])], .n 1, .r [(1, .dec false)], .n 5, .k [0, 1, 2, 11, 12, 13]] (by kernel_rfl) (Obs.of (by kernel_rfl) (And.intro g_1 (And.intro g_2 (And.intro (nt g_3) (And.intro g_4 (And.intro (value_Compare.spec e_6) (nt g_7))))))) (ih _ _ _ _ _ r h)
    · rcases ite_or h with ⟨g_8, h⟩ | ⟨g_8, h⟩
      · obtain rfl := Option.some.inj h
        exact RunC.out [.n 1, .r [(0, .dec false)], .n 5, .r [(4, .dec true)], .n 3] (by kernel_rfl) (Obs.of (by kernel_rfl) (And.intro (nt g_1) g_8))
      · obtain rfl := Option.some.inj h
        exact RunC.out [.n 1, .r [(0, .dec false)], .n 5, .r [(4, .dec false)], .n 4] (by kernel_rfl) (Obs.of (by kernel_rfl) (And.intro (nt g_1) (nt g_8)))
theorem slices_CompareFunc_api_Value__value_Compare.run   {k : Nat} {s10 : (List TValue)} {s21 : (List TValue)} {r : Int} (h : slices_CompareFunc_api_Value__value_Compare k s10 s21 = some r) : RunC Try.prog Try.f58 slices_CompareFunc_api_Value__value_Compare.t (slices_CompareFunc_api_Value__value_Compare.s s10 s21) (.p (.int .i64 r)) [] := by
  unfold slices_CompareFunc_api_Value__value_Compare at h
  exact RunC.go [.n 7, .k [0, 1, 2, 11, 12, 13]] (by kernel_rfl) (Obs.tt (by kernel_rfl)) (slices_CompareFunc_api_Value__value_Compare.p1.run k _ _ _ _ _ r h)
theorem slices_CompareFunc_api_Value__value_Compare.p1.mono   : ∀ (k k' : Nat) (s10 : (List TValue)) (s21 : (List TValue)) (v11 : (List TValue)) (v12 : Int) (v13 : Int) (r : Int), k ≤ k' → slices_CompareFunc_api_Value__value_Compare.p1 k s10 s21 v11 v12 v13 = some r → slices_CompareFunc_api_Value__value_Compare.p1 k' s10 s21 v11 v12 v13 = some r := by
  intro k
  induction k with
  | zero => intro k' s10 s21 v11 v12 v13 r hk h; simp [slices_CompareFunc_api_Value__value_Compare.p1] at h
  | succ k ih =>
    intro k' s10 s21 v11 v12 v13 r hk h
    obtain ⟨k', rfl⟩ : ∃ m, k' = m + 1 := ⟨k' - 1, by omega⟩
    replace hk := Nat.le_of_succ_le_succ hk
    rw [slices_CompareFunc_api_Value__value_Compare.p1] at h ⊢
    rcases ite_or h with ⟨g_1, h⟩ | ⟨g_1, h⟩
    · refine itp g_1 ?_
      obtain ⟨g_2, h⟩ := ite_some h
      refine itp g_2 ?_
      rcases ite_or h with ⟨g_3, h⟩ | ⟨g_3, h⟩
      · refine itp g_3 ?_
        exact h
      · refine itn g_3 ?_
        obtain ⟨g_4, h⟩ := ite_some h
        refine itp g_4 ?_
        obtain ⟨y_5, e_6, h⟩ := bind_or h
        refine bnd (value_Compare.mono _ _ _ _ _ hk e_6) ?_
        rcases ite_or h with ⟨g_7, h⟩ | ⟨g_7, h⟩
        · refine itp g_7 ?_
          exact h
        · refine itn g_7 ?_
          exact ih _ _ _ _ _ _ r hk h
    · refine itn g_1 ?_
      rcases ite_or h with ⟨g_8, h⟩ | ⟨g_8, h⟩
      · refine itp g_8 ?_
        exact h
      · refine itn g_8 ?_
        exact h
theorem slices_CompareFunc_api_Value__value_Compare.mono   : ∀ (k k' : Nat) (s10 : (List TValue)) (s21 : (List TValue)) (r : Int), k ≤ k' → slices_CompareFunc_api_Value__value_Compare k s10 s21 = some r → slices_CompareFunc_api_Value__value_Compare k' s10 s21 = some r := by
  intro k k' s10 s21 r hk h
  unfold slices_CompareFunc_api_Value__value_Compare at h ⊢
  exact slices_CompareFunc_api_Value__value_Compare.p1.mono _ _ _ _ _ _ _ r hk h
theorem slices_CompareFunc_api_Value__value_Compare.spec {k : Nat} {s10 : (List TValue)} {s21 : (List TValue)} {r : Int} (h : slices_CompareFunc_api_Value__value_Compare k s10 s21 = some r) : Spec Try.prog 58 [.p (eL 3 cValue dValue s10), .p (eL 3 cValue dValue s21), .fn 31 []] (.p (.int .i64 r)) [] :=
  spec_of mix Try.func58 (body := bodyOf Try.f58) (by kernel_rfl) (by kernel_rfl) (slices_CompareFunc_api_Value__value_Compare.run h)
end Go.Proofs.YtjhnpaenhdbhpacV
set_option linter.unusedVariables false
set_option linter.unusedSimpArgs false
set_option maxRecDepth 100000
namespace Go.Proofs.YtjhnpaenhdbhpacV
open Go Go.RowKit
noncomputable def value_CompareRows  (k : Nat) (a0 : (List TValue)) (b1 : (List TValue)) : Option Int := (slices_CompareFunc_api_Value__value_Compare k a0 b1).bind fun y_1 => (some y_1)
noncomputable def value_CompareRows.t : List Item := [.code (bodyOf Try.f41)]
noncomputable def value_CompareRows.s (a0 : (List TValue)) (b1 : (List TValue)) : St := ⟨frOf Try.f41.ntmps 0 [(0, .p (eL 3 cValue dValue a0)), (1, .p (eL 3 cValue dValue b1))], []⟩
theorem value_CompareRows.run   {k : Nat} {a0 : (List TValue)} {b1 : (List TValue)} {r : Int} (h : value_CompareRows k a0 b1 = some r) : RunC Try.prog Try.f41 value_CompareRows.t (value_CompareRows.s a0 b1) (.p (.int .i64 r)) [] := by
  unfold value_CompareRows at h
  obtain ⟨y_1, e_2, h⟩ := bind_or h
  obtain rfl := Option.some.inj h
  exact RunC.out [.n 3, .r [(2, .call (.p (.int .i64 y_1)) [])]] (by kernel_rfl) (Obs.of (by kernel_rfl) (slices_CompareFunc_api_Value__value_Compare.spec e_2))
theorem value_CompareRows.mono   : ∀ (k k' : Nat) (a0 : (List TValue)) (b1 : (List TValue)) (r : Int), k ≤ k' → value_CompareRows k a0 b1 = some r → value_CompareRows k' a0 b1 = some r := by
  intro k k' a0 b1 r hk h
  unfold value_CompareRows at h ⊢
  obtain ⟨y_1, e_2, h⟩ := bind_or h
  refine bnd (slices_CompareFunc_api_Value__value_Compare.mono _ _ _ _ _ hk e_2) ?_
  exact h
theorem value_CompareRows.spec {k : Nat} {a0 : (List TValue)} {b1 : (List TValue)} {r : Int} (h : value_CompareRows k a0 b1 = some r) : Spec Try.prog 41 [.p (eL 3 cValue dValue a0), .p (eL 3 cValue dValue b1)] (.p (.int .i64 r)) [] :=
  spec_of mix Try.func41 (body := bodyOf Try.f41) (by kernel_rfl) (by kernel_rfl) (value_CompareRows.run h)
end Go.Proofs.YtjhnpaenhdbhpacV
set_option linter.unusedVariables false
set_option linter.unusedSimpArgs false
set_option maxRecDepth 100000
namespace Go.Proofs.YtjhnpaenhdbhpacV
open Go Go.RowKit
noncomputable def bag_Valid.p1  : Nat → (List TEntry) → (List TEntry) → Int → Int → Option Bool
  | 0, _, _, _, _ => none
  | k + 1, b0, v5, v6, v7 => if (decide (v7 < v6)) = true then (if 0 ≤ v7 ∧ v7 < ((v5).length : Int) then ((bag_entryFits k (v5.getD v7.toNat dEntry)).bind fun y_3 => (if (!y_3) = true then (some false) else (if ((v5.getD v7.toNat dEntry).f1 == 0) = true then (some false) else (if (decide (v7 > 0)) = true then (if 0 ≤ (IntKind.i64.wrap (v7 - 1)) ∧ (IntKind.i64.wrap (v7 - 1)) < ((b0).length : Int) then ((value_CompareRows k ((b0.getD (IntKind.i64.wrap (v7 - 1)).toNat dEntry).f0) ((v5.getD v7.toNat dEntry).f0)).bind fun y_9 => (if (decide (y_9 ≥ 0)) = true then (some false) else (bag_Valid.p1 k b0 v5 v6 (IntKind.i64.wrap (v7 + 1))))) else none) else (bag_Valid.p1 k b0 v5 v6 (IntKind.i64.wrap (v7 + 1))))))) else none) else (some (decide (((b0).length : Int) ≤ 4096)))
noncomputable def bag_Valid  (k : Nat) (b0 : (List TEntry)) : Option Bool := bag_Valid.p1 k b0 b0 ((b0).length : Int) 0
noncomputable def bag_Valid.t : List Item := [.code (bodyOf Try.f21)]
noncomputable def bag_Valid.s (b0 : (List TEntry)) : St := ⟨frOf Try.f21.ntmps 0 [(0, .p (eL 2 cEntry dEntry b0))], []⟩
noncomputable def bag_Valid.p1.t : List Item := nav 7 [] bag_Valid.t
noncomputable def bag_Valid.p1.s (b0 : (List TEntry)) (v5 : (List TEntry)) (v6 : Int) (v7 : Int) : St := ⟨frOf Try.f21.ntmps 0 [(0, .p (eL 2 cEntry dEntry b0)), (5, .p (eL 2 cEntry dEntry v5)), (6, .p (.int .i64 v6)), (7, .p (.int .i64 v7))], []⟩
theorem bag_Valid.p1.run   : ∀ (k : Nat) (b0 : (List TEntry)) (v5 : (List TEntry)) (v6 : Int) (v7 : Int) (r : Bool), bag_Valid.p1 k b0 v5 v6 v7 = some r → RunC Try.prog Try.f21 bag_Valid.p1.t (bag_Valid.p1.s b0 v5 v6 v7) (.p (.bool r)) [] := by
  intro k
  induction k with
  | zero => intro b0 v5 v6 v7 r h; simp [bag_Valid.p1] at h
  | succ k ih =>
    intro b0 v5 v6 v7 r h
    rw [bag_Valid.p1] at h
    rcases ite_or h with ⟨g_1, h⟩ | ⟨g_1, h⟩
    · obtain ⟨g_2, h⟩ := ite_some h
      obtain ⟨y_3, e_4, h⟩ := bind_or h
      rcases ite_or h with ⟨g_5, h⟩ | ⟨g_5, h⟩
      · obtain rfl := Option.some.inj h
        exact RunC.out [.n 1, .r [(0, .dec true)], .n 8, .r [(1, .call (.p (.bool y_3)) []), (3, .dec true)], .n 3] (by kernel_rfl) (Obs.of (by kernel_rfl) (And.intro g_1 (And.intro g_2 (And.intro (bag_entryFits.spec e_4) g_5))))
      · rcases ite_or h with ⟨g_6, h⟩ | ⟨g_6, h⟩
        · obtain rfl := Option.some.inj h
          exact RunC.out [.n 1, .r [(0, .dec true)], .n 8, .r [(1, .call (.p (.bool y_3)) []), (3, .dec false), (8, .dec true)], .n 3] (by kernel_rfl) (Obs.of (by kernel_rfl) (And.intro g_1 (And.intro g_2 (And.intro (bag_entryFits.spec e_4) (And.intro (nt g_5) g_6)))))
        · rcases ite_or h with ⟨g_7, h⟩ | ⟨g_7, h⟩
          · obtain ⟨g_8, h⟩ := ite_some h
            obtain ⟨y_9, e_10, h⟩ := bind_or h
            rcases ite_or h with ⟨g_11, h⟩ | ⟨g_11, h⟩
            · obtain rfl := Option.some.inj h
              exact RunC.out [.n 1, .r [(0, .dec true)], .n 8, .r [(1, .call (.p (.bool y_3)) []), (3, .dec false), (8, .dec false), (11, .dec true), (20, .call (.p (.int .i64 y_9)) []), (23, .dec true)], .n 3] (by kernel_rfl) (Obs.of (by kernel_rfl) (And.intro g_1 (And.intro g_2 (And.intro (bag_entryFits.spec e_4) (And.intro (nt g_5) (And.intro (nt g_6) (And.intro g_7 (And.intro g_8 (And.intro (value_CompareRows.spec e_10) g_11)))))))))
            · exact RunC.go [.n 1, .r [(0, .dec true)], .n 8, .r [(1, .call (.p (.bool y_3)) []), (3, .dec false), (8, .dec false), (11, .dec true), (20, .call (.p (.int .i64 y_9)) []), (23, .dec false)], .n 5, .k [0, 5, 6, 7]] (by kernel_rfl) (Obs.of (by kernel_rfl) (And.intro g_1 (And.intro g_2 (And.intro (bag_entryFits.spec e_4) (And.intro (nt g_5) (And.intro (nt g_6) (And.intro g_7 (And.intro g_8 (And.intro (value_CompareRows.spec e_10) (nt g_11)))))))))) (ih _ _ _ _ r h)
          · exact RunC.go [.n 1, .r [(0, .dec true)], .n 8, .r [(1, .call (.p (.bool y_3)) []), (3, .dec false), (8, .dec false), (11, .dec false)], .n 5, .k [0, 5, 6, 7]] (by kernel_rfl) (Obs.of (by kernel_rfl) (And.intro g_1 (And.intro g_2 (And.intro (bag_entryFits.spec e_4) (And.intro (nt g_5) (And.intro (nt g_6) (nt g_7))))))) (ih _ _ _ _ r h)
    · obtain rfl := Option.some.inj h
      exact RunC.out [.n 1, .r [(0, .dec false)], .n 5] (by kernel_rfl) (Obs.of (by kernel_rfl) (nt g_1))
theorem bag_Valid.run   {k : Nat} {b0 : (List TEntry)} {r : Bool} (h : bag_Valid k b0 = some r) : RunC Try.prog Try.f21 bag_Valid.t (bag_Valid.s b0) (.p (.bool r)) [] := by
  unfold bag_Valid at h
  exact RunC.go [.n 7, .k [0, 5, 6, 7]] (by kernel_rfl) (Obs.tt (by kernel_rfl)) (bag_Valid.p1.run k _ _ _ _ r h)
theorem bag_Valid.p1.mono   : ∀ (k k' : Nat) (b0 : (List TEntry)) (v5 : (List TEntry)) (v6 : Int) (v7 : Int) (r : Bool), k ≤ k' → bag_Valid.p1 k b0 v5 v6 v7 = some r → bag_Valid.p1 k' b0 v5 v6 v7 = some r := by
  intro k
  induction k with
  | zero => intro k' b0 v5 v6 v7 r hk h; simp [bag_Valid.p1] at h
  | succ k ih =>
    intro k' b0 v5 v6 v7 r hk h
    obtain ⟨k', rfl⟩ : ∃ m, k' = m + 1 := ⟨k' - 1, by omega⟩
    replace hk := Nat.le_of_succ_le_succ hk
    rw [bag_Valid.p1] at h ⊢
    rcases ite_or h with ⟨g_1, h⟩ | ⟨g_1, h⟩
    · refine itp g_1 ?_
      obtain ⟨g_2, h⟩ := ite_some h
      refine itp g_2 ?_
      obtain ⟨y_3, e_4, h⟩ := bind_or h
      refine bnd (bag_entryFits.mono _ _ _ _ hk e_4) ?_
      rcases ite_or h with ⟨g_5, h⟩ | ⟨g_5, h⟩
      · refine itp g_5 ?_
        exact h
      · refine itn g_5 ?_
        rcases ite_or h with ⟨g_6, h⟩ | ⟨g_6, h⟩
        · refine itp g_6 ?_
          exact h
        · refine itn g_6 ?_
          rcases ite_or h with ⟨g_7, h⟩ | ⟨g_7, h⟩
          · refine itp g_7 ?_
            obtain ⟨g_8, h⟩ := ite_some h
            refine itp g_8 ?_
            obtain ⟨y_9, e_10, h⟩ := bind_or h
            refine bnd (value_CompareRows.mono _ _ _ _ _ hk e_10) ?_
            rcases ite_or h with ⟨g_11, h⟩ | ⟨g_11, h⟩
            · refine itp g_11 ?_
              exact h
            · refine itn g_11 ?_
              exact ih _ _ _ _ _ r hk h
          · refine itn g_7 ?_
            exact ih _ _ _ _ _ r hk h
    · refine itn g_1 ?_
      exact h
theorem bag_Valid.mono   : ∀ (k k' : Nat) (b0 : (List TEntry)) (r : Bool), k ≤ k' → bag_Valid k b0 = some r → bag_Valid k' b0 = some r := by
  intro k k' b0 r hk h
  unfold bag_Valid at h ⊢
  exact bag_Valid.p1.mono _ _ _ _ _ _ r hk h
theorem bag_Valid.spec {k : Nat} {b0 : (List TEntry)} {r : Bool} (h : bag_Valid k b0 = some r) : Spec Try.prog 21 [.p (eL 2 cEntry dEntry b0)] (.p (.bool r)) [] :=
  spec_of mix Try.func21 (body := bodyOf Try.f21) (by kernel_rfl) (by kernel_rfl) (bag_Valid.run h)
end Go.Proofs.YtjhnpaenhdbhpacV
set_option linter.unusedVariables false
set_option linter.unusedSimpArgs false
set_option maxRecDepth 100000
namespace Go.Proofs.YtjhnpaenhdbhpacV
open Go Go.RowKit
noncomputable def slices_Clone_api_Entry.p1  (k : Nat) (ord : List Nat) (s0 : (List TEntry)) : Option (List TEntry) := nilW s0 ord (fun ord => some ([] : List TEntry)) (fun ord => if (([] : List TEntry)).length + (s0).length ≤ maxLen ∧ ((([] : List TEntry)).length + (s0).length) * 32 ≤ 140737488355328 then (some (([] : List TEntry) ++ s0)) else none)
noncomputable def slices_Clone_api_Entry_w  (k : Nat) (ord : List Nat) (s0 : (List TEntry)) : Option (List TEntry) := slices_Clone_api_Entry.p1 k ord s0
noncomputable def slices_Clone_api_Entry_w.t : List Item := [.code (bodyOf Try.f22)]
noncomputable def slices_Clone_api_Entry_w.s (s0 : (List TEntry)) : St := ⟨frOf Try.f22.ntmps 0 [(0, .p (eL 2 cEntry dEntry s0))], []⟩
noncomputable def slices_Clone_api_Entry.p1.t : List Item := nav 4 [] slices_Clone_api_Entry_w.t
noncomputable def slices_Clone_api_Entry.p1.s (s0 : (List TEntry)) : St := ⟨frOf Try.f22.ntmps 0 [(0, .p (eL 2 cEntry dEntry s0))], []⟩
theorem slices_Clone_api_Entry.p1.run   {k : Nat} {s0 : (List TEntry)} {r : (List TEntry)} (h : (∀ ord, slices_Clone_api_Entry.p1 k ord s0 = some r)) : RunN Try.prog Try.f22 slices_Clone_api_Entry.p1.t (slices_Clone_api_Entry.p1.s s0) (.sref 0 42 2 (r).length) [(oL true 42 2 cEntry dEntry (r))] := by
  unfold slices_Clone_api_Entry.p1 at h
  refine RunN.nilq (k := nav 1 [] slices_Clone_api_Entry.p1.t) (a := 3) (b := 4) (n := s0.length) (t := 24) (x := .p (eL 2 cEntry dEntry s0)) (by kernel_rfl) Try.underlying24 (fun g_1 => ?_) ?_
  · replace h := nilW_yes h g_1
    obtain rfl := Option.some.inj (h [])
    exact .out (RunC.out [.n 2, .r [(0, .obj (oL true 42 2 cEntry dEntry ([] : List TEntry)))]] (by kernel_rfl) (Obs.of (by kernel_rfl) (le_nil 42 2 cEntry dEntry)))
  · replace h := nilW_no h
    obtain ⟨g_2, h⟩ := iteW_some h
    obtain rfl := Option.some.inj (h [])
    exact .out (RunC.out [.n 3, .r [(0, .obj (oL true 42 2 cEntry dEntry ([] : List TEntry))), (2, .obj (oL true 42 2 cEntry dEntry (([] : List TEntry) ++ s0)))]] (by kernel_rfl) (Obs.of (by kernel_rfl) (And.intro (le_build0 42 2 cEntry dEntry) (And.intro g_2 (le_app 42 2 cEntry dEntry ([] : List TEntry) s0)))))
theorem slices_Clone_api_Entry_w.run   {k : Nat} {s0 : (List TEntry)} {r : (List TEntry)} (h : (∀ ord, slices_Clone_api_Entry_w k ord s0 = some r)) : RunN Try.prog Try.f22 slices_Clone_api_Entry_w.t (slices_Clone_api_Entry_w.s s0) (.sref 0 42 2 (r).length) [(oL true 42 2 cEntry dEntry (r))] := by
  unfold slices_Clone_api_Entry_w at h
  exact RunN.go [.n 1, .r [(0, .obj (oL true 42 2 cEntry dEntry ([] : List TEntry)))], .n 2, .k [0]] (by kernel_rfl) (Obs.of (by kernel_rfl) (le_nil 42 2 cEntry dEntry)) (slices_Clone_api_Entry.p1.run h)
theorem slices_Clone_api_Entry.p1.mono   : ∀ (k k' : Nat) (ord : List Nat) (s0 : (List TEntry)) (r : (List TEntry)), k ≤ k' → slices_Clone_api_Entry.p1 k ord s0 = some r → slices_Clone_api_Entry.p1 k' ord s0 = some r := by
  intro k k' ord s0 r hk h
  unfold slices_Clone_api_Entry.p1 at h ⊢
  refine nilW_mono (fun ord h => ?_) (fun ord h => ?_) h
  · exact h
  · obtain ⟨g_2, h⟩ := ite_some h
    refine itp g_2 ?_
    exact h
theorem slices_Clone_api_Entry_w.mono   : ∀ (k k' : Nat) (ord : List Nat) (s0 : (List TEntry)) (r : (List TEntry)), k ≤ k' → slices_Clone_api_Entry_w k ord s0 = some r → slices_Clone_api_Entry_w k' ord s0 = some r := by
  intro k k' ord s0 r hk h
  unfold slices_Clone_api_Entry_w at h ⊢
  exact slices_Clone_api_Entry.p1.mono _ _ _ _ r hk h
noncomputable def slices_Clone_api_Entry (k : Nat) (s0 : (List TEntry)) : Option (List TEntry) := allW fun ord => slices_Clone_api_Entry_w k ord s0
theorem slices_Clone_api_Entry.mono : ∀ (k k' : Nat) (s0 : (List TEntry)) (r : (List TEntry)), k ≤ k' → slices_Clone_api_Entry k s0 = some r → slices_Clone_api_Entry k' s0 = some r := by
  intro k k' s0 r hk h
  exact allW_mono (fun ord r h => slices_Clone_api_Entry_w.mono k k' ord s0 r hk h) h
theorem slices_Clone_api_Entry.spec {k : Nat} {s0 : (List TEntry)} {r : (List TEntry)} (h : slices_Clone_api_Entry k s0 = some r) : Spec Try.prog 22 [.p (eL 2 cEntry dEntry s0)] (.sref 0 42 2 (r).length) [(oL true 42 2 cEntry dEntry (r))] :=
  spec_ofN mix Try.func22 (body := bodyOf Try.f22) (by kernel_rfl) (by kernel_rfl) (slices_Clone_api_Entry_w.run (allW_spec h))
end Go.Proofs.YtjhnpaenhdbhpacV
set_option linter.unusedVariables false
set_option linter.unusedSimpArgs false
set_option maxRecDepth 100000
namespace Go.Proofs.YtjhnpaenhdbhpacV
open Go Go.RowKit
noncomputable def value_EncodeRow.p2 (rec1 : (List TValue) → Int → Int → (List Int) → Option ByteArray) : Nat → Int → Int → (List TValue) → Int → Int → (List Int) → Option ByteArray
  | 0, _, _, _, _, _, _ => none
  | k + 1, n6, i7, v10, v11, v12, out3 => if (decide (i7 ≥ 0)) = true then (if 0 ≤ (IntKind.i64.wrap (8 * i7)) then (if (out3).length + ([(IntKind.u8.wrap (n6.fdiv (2 ^ min (IntKind.i64.wrap (8 * i7)).toNat IntKind.u64.bits)))]).length ≤ maxLen ∧ ((out3).length + ([(IntKind.u8.wrap (n6.fdiv (2 ^ min (IntKind.i64.wrap (8 * i7)).toNat IntKind.u64.bits)))]).length) * 1 ≤ 140737488355328 then (value_EncodeRow.p2 rec1 k n6 (IntKind.i64.wrap (i7 - 1)) v10 v11 v12 (out3 ++ ([(IntKind.u8.wrap (n6.fdiv (2 ^ min (IntKind.i64.wrap (8 * i7)).toNat IntKind.u64.bits)))]))) else none) else none) else (rec1 v10 v11 (IntKind.i64.wrap (v12 + 1)) out3)
noncomputable def value_EncodeRow.p3 (rec1 : (List TValue) → Int → Int → (List Int) → Option ByteArray) : Nat → (List TValue) → Int → Int → (List Int) → Int → Int → (List Int) → Option ByteArray
  | 0, _, _, _, _, _, _, _ => none
  | k + 1, v10, v11, v12, v51, v52, v53, out3 => if (decide (v53 < v52)) = true then (if 0 ≤ v53 ∧ v53 < ((v51).length : Int) then (if (out3).length + ([(v51.getD v53.toNat (0 : Int))]).length ≤ maxLen ∧ ((out3).length + ([(v51.getD v53.toNat (0 : Int))]).length) * 1 ≤ 140737488355328 then (if ((v51.getD v53.toNat (0 : Int)) == 0) = true then (if ((out3 ++ ([(v51.getD v53.toNat (0 : Int))]))).length + ([255]).length ≤ maxLen ∧ (((out3 ++ ([(v51.getD v53.toNat (0 : Int))]))).length + ([255]).length) * 1 ≤ 140737488355328 then (value_EncodeRow.p3 rec1 k v10 v11 v12 v51 v52 (IntKind.i64.wrap (v53 + 1)) ((out3 ++ ([(v51.getD v53.toNat (0 : Int))])) ++ ([255]))) else none) else (value_EncodeRow.p3 rec1 k v10 v11 v12 v51 v52 (IntKind.i64.wrap (v53 + 1)) (out3 ++ ([(v51.getD v53.toNat (0 : Int))])))) else none) else none) else (if (out3).length + ([0, 0]).length ≤ maxLen ∧ ((out3).length + ([0, 0]).length) * 1 ≤ 140737488355328 then (rec1 v10 v11 (IntKind.i64.wrap (v12 + 1)) (out3 ++ ([0, 0]))) else none)
noncomputable def value_EncodeRow.p1  : Nat → (List TValue) → Int → Int → (List Int) → Option ByteArray
  | 0, _, _, _, _ => none
  | k + 1, v10, v11, v12, out3 => if (decide (v12 < v11)) = true then (if 0 ≤ v12 ∧ v12 < ((v10).length : Int) then ((value_Clean k (v10.getD v12.toNat dValue)).bind fun y_3 => (if (y_3.f0 == 1) = true then (if (out3).length + ([2]).length ≤ maxLen ∧ ((out3).length + ([2]).length) * 1 ≤ 140737488355328 then (value_EncodeRow.p2 (value_EncodeRow.p1 k) k (IntKind.u64.wrap (IntKind.i64.wrap (y_3.f1 + 4294967296))) 4 v10 v11 v12 (out3 ++ ([2]))) else none) else (if (y_3.f0 == 2) = true then (if (out3).length + ([3]).length ≤ maxLen ∧ ((out3).length + ([3]).length) * 1 ≤ 140737488355328 then (value_EncodeRow.p3 (value_EncodeRow.p1 k) k v10 v11 v12 (strL y_3.f2) (((strL y_3.f2)).length : Int) 0 (out3 ++ ([3]))) else none) else (if (out3).length + ([1]).length ≤ maxLen ∧ ((out3).length + ([1]).length) * 1 ≤ 140737488355328 then (value_EncodeRow.p1 k v10 v11 (IntKind.i64.wrap (v12 + 1)) (out3 ++ ([1]))) else none)))) else none) else (some (byteL out3))
noncomputable def value_EncodeRow  (k : Nat) (r0 : (List TValue)) : Option ByteArray := value_EncodeRow.p1 k r0 ((r0).length : Int) 0 ([] : List Int)
noncomputable def value_EncodeRow.t : List Item := [.code (bodyOf Try.f42)]
noncomputable def value_EncodeRow.s (r0 : (List TValue)) : St := ⟨frOf Try.f42.ntmps 0 [(0, .p (eL 3 cValue dValue r0))], []⟩
noncomputable def value_EncodeRow.p1.t : List Item := nav 9 [] value_EncodeRow.t
noncomputable def value_EncodeRow.p1.s (v10 : (List TValue)) (v11 : Int) (v12 : Int) (out3 : (List Int)) : St := ⟨frOf Try.f42.ntmps 0 [(3, .sref 0 5 1 (out3).length), (10, .p (eL 3 cValue dValue v10)), (11, .p (.int .i64 v11)), (12, .p (.int .i64 v12))], [(oL true 5 1 (cI .u8) (0 : Int) out3)]⟩
noncomputable def value_EncodeRow.p2.t : List Item := nav 25 [true, true] value_EncodeRow.p1.t
noncomputable def value_EncodeRow.p2.s (n6 : Int) (i7 : Int) (v10 : (List TValue)) (v11 : Int) (v12 : Int) (out3 : (List Int)) : St := ⟨frOf Try.f42.ntmps 0 [(3, .sref 0 5 1 (out3).length), (6, .p (.int .u64 n6)), (7, .p (.int .i64 i7)), (10, .p (eL 3 cValue dValue v10)), (11, .p (.int .i64 v11)), (12, .p (.int .i64 v12))], [(oL true 5 1 (cI .u8) (0 : Int) out3)]⟩
noncomputable def value_EncodeRow.p3.t : List Item := nav 27 [true, false, true] value_EncodeRow.p1.t
noncomputable def value_EncodeRow.p3.s (v10 : (List TValue)) (v11 : Int) (v12 : Int) (v51 : (List Int)) (v52 : Int) (v53 : Int) (out3 : (List Int)) : St := ⟨frOf Try.f42.ntmps 0 [(3, .sref 0 5 1 (out3).length), (10, .p (eL 3 cValue dValue v10)), (11, .p (.int .i64 v11)), (12, .p (.int .i64 v12)), (51, .p (eL 1 (cI .u8) (0 : Int) v51)), (52, .p (.int .i64 v52)), (53, .p (.int .i64 v53))], [(oL true 5 1 (cI .u8) (0 : Int) out3)]⟩
theorem value_EncodeRow.p2.run {rec1 : (List TValue) → Int → Int → (List Int) → Option ByteArray} (hrec1 : ∀ (v10 : (List TValue)) (v11 : Int) (v12 : Int) (out3 : (List Int)) r, rec1 v10 v11 v12 out3 = some r → RunC Try.prog Try.f42 value_EncodeRow.p1.t (value_EncodeRow.p1.s v10 v11 v12 out3) (.p (.str r)) []) : ∀ (k : Nat) (n6 : Int) (i7 : Int) (v10 : (List TValue)) (v11 : Int) (v12 : Int) (out3 : (List Int)) (r : ByteArray), value_EncodeRow.p2 rec1 k n6 i7 v10 v11 v12 out3 = some r → RunC Try.prog Try.f42 value_EncodeRow.p2.t (value_EncodeRow.p2.s n6 i7 v10 v11 v12 out3) (.p (.str r)) [] := by
  intro k
  induction k with
  | zero => intro n6 i7 v10 v11 v12 out3 r h; simp [value_EncodeRow.p2] at h
  | succ k ih =>
    intro n6 i7 v10 v11 v12 out3 r h
    rw [value_EncodeRow.p2] at h
    rcases ite_or h with ⟨g_7, h⟩ | ⟨g_7, h⟩
    · obtain ⟨g_8, h⟩ := ite_some h
      obtain ⟨g_9, h⟩ := ite_some h
      exact RunC.go [.n 2, .r [(1, .dec true)], .n 4, .r [(6, .obj (oL true 5 1 (cI .u8) (0 : Int) [(IntKind.u8.wrap (n6.fdiv (2 ^ min (IntKind.i64.wrap (8 * i7)).toNat IntKind.u64.bits)))])), (7, .obj (oL true 5 1 (cI .u8) (0 : Int) (out3 ++ ([(IntKind.u8.wrap (n6.fdiv (2 ^ min (IntKind.i64.wrap (8 * i7)).toNat IntKind.u64.bits)))]))))], .n 3, .k [3, 6, 7, 10, 11, 12]] (by kernel_rfl) (Obs.of (by kernel_rfl) (And.intro g_7 (And.intro g_8 (And.intro (le_one 5 1 (cI .u8) (0 : Int) (IntKind.u8.wrap (n6.fdiv (2 ^ min (IntKind.i64.wrap (8 * i7)).toNat IntKind.u64.bits)))) (And.intro g_9 (le_app 5 1 (cI .u8) (0 : Int) out3 ([(IntKind.u8.wrap (n6.fdiv (2 ^ min (IntKind.i64.wrap (8 * i7)).toNat IntKind.u64.bits)))]))))))) (ih _ _ _ _ _ _ r h)
    · exact RunC.go [.n 2, .r [(1, .dec false)], .n 6, .k [3, 10, 11, 12]] (by kernel_rfl) (Obs.of (by kernel_rfl) (nt g_7)) (hrec1 _ _ _ _ r h)
theorem value_EncodeRow.p3.run {rec1 : (List TValue) → Int → Int → (List Int) → Option ByteArray} (hrec1 : ∀ (v10 : (List TValue)) (v11 : Int) (v12 : Int) (out3 : (List Int)) r, rec1 v10 v11 v12 out3 = some r → RunC Try.prog Try.f42 value_EncodeRow.p1.t (value_EncodeRow.p1.s v10 v11 v12 out3) (.p (.str r)) []) : ∀ (k : Nat) (v10 : (List TValue)) (v11 : Int) (v12 : Int) (v51 : (List Int)) (v52 : Int) (v53 : Int) (out3 : (List Int)) (r : ByteArray), value_EncodeRow.p3 rec1 k v10 v11 v12 v51 v52 v53 out3 = some r → RunC Try.prog Try.f42 value_EncodeRow.p3.t (value_EncodeRow.p3.s v10 v11 v12 v51 v52 v53 out3) (.p (.str r)) [] := by
  intro k
  induction k with
  | zero => intro v10 v11 v12 v51 v52 v53 out3 r h; simp [value_EncodeRow.p3] at h
  | succ k ih =>
    intro v10 v11 v12 v51 v52 v53 out3 r h
    rw [value_EncodeRow.p3] at h
    rcases ite_or h with ⟨g_12, h⟩ | ⟨g_12, h⟩
    · obtain ⟨g_13, h⟩ := ite_some h
      obtain ⟨g_14, h⟩ := ite_some h
      rcases ite_or h with ⟨g_15, h⟩ | ⟨g_15, h⟩
      · obtain ⟨g_16, h⟩ := ite_some h
        exact RunC.go [.n 1, .r [(0, .dec true)], .n 8, .r [(2, .obj (oL true 5 1 (cI .u8) (0 : Int) [(v51.getD v53.toNat (0 : Int))])), (3, .obj (oL true 5 1 (cI .u8) (0 : Int) (out3 ++ ([(v51.getD v53.toNat (0 : Int))]))))], .n 1, .r [(1, .dec true)], .n 1, .r [(1, .obj (oL true 5 1 (cI .u8) (0 : Int) [255])), (2, .obj (oL true 5 1 (cI .u8) (0 : Int) ((out3 ++ ([(v51.getD v53.toNat (0 : Int))])) ++ ([255]))))], .n 3, .k [3, 10, 11, 12, 51, 52, 53]] (by kernel_rfl) (Obs.of (by kernel_rfl) (And.intro g_12 (And.intro g_13 (And.intro (le_one 5 1 (cI .u8) (0 : Int) (v51.getD v53.toNat (0 : Int))) (And.intro (And.intro g_14 (le_app 5 1 (cI .u8) (0 : Int) out3 ([(v51.getD v53.toNat (0 : Int))]))) (And.intro g_15 (And.intro (le_one 5 1 (cI .u8) (0 : Int) 255) (And.intro g_16 (le_app 5 1 (cI .u8) (0 : Int) (out3 ++ ([(v51.getD v53.toNat (0 : Int))])) ([255])))))))))) (ih _ _ _ _ _ _ _ r h)
      · exact RunC.go [.n 1, .r [(0, .dec true)], .n 8, .r [(2, .obj (oL true 5 1 (cI .u8) (0 : Int) [(v51.getD v53.toNat (0 : Int))])), (3, .obj (oL true 5 1 (cI .u8) (0 : Int) (out3 ++ ([(v51.getD v53.toNat (0 : Int))]))))], .n 1, .r [(1, .dec false)], .n 5, .k [3, 10, 11, 12, 51, 52, 53]] (by kernel_rfl) (Obs.of (by kernel_rfl) (And.intro g_12 (And.intro g_13 (And.intro (le_one 5 1 (cI .u8) (0 : Int) (v51.getD v53.toNat (0 : Int))) (And.intro (And.intro g_14 (le_app 5 1 (cI .u8) (0 : Int) out3 ([(v51.getD v53.toNat (0 : Int))]))) (nt g_15)))))) (ih _ _ _ _ _ _ _ r h)
    · obtain ⟨g_17, h⟩ := ite_some h
      exact RunC.go [.n 1, .r [(0, .dec false)], .n 3, .r [(1, .obj (oL true 5 1 (cI .u8) (0 : Int) [0, 0])), (2, .obj (oL true 5 1 (cI .u8) (0 : Int) (out3 ++ ([0, 0]))))], .n 4, .k [3, 10, 11, 12]] (by kernel_rfl) (Obs.of (by kernel_rfl) (And.intro (nt g_12) (And.intro (le_lit 5 1 (cI .u8) (0 : Int) [0, 0] (fun _ => rfl)) (And.intro g_17 (le_app 5 1 (cI .u8) (0 : Int) out3 ([0, 0])))))) (hrec1 _ _ _ _ r h)
theorem value_EncodeRow.p1.run   : ∀ (k : Nat) (v10 : (List TValue)) (v11 : Int) (v12 : Int) (out3 : (List Int)) (r : ByteArray), value_EncodeRow.p1 k v10 v11 v12 out3 = some r → RunC Try.prog Try.f42 value_EncodeRow.p1.t (value_EncodeRow.p1.s v10 v11 v12 out3) (.p (.str r)) [] := by
  intro k
  induction k with
  | zero => intro v10 v11 v12 out3 r h; simp [value_EncodeRow.p1] at h
  | succ k ih =>
    intro v10 v11 v12 out3 r h
    rw [value_EncodeRow.p1] at h
    rcases ite_or h with ⟨g_1, h⟩ | ⟨g_1, h⟩
    · obtain ⟨g_2, h⟩ := ite_some h
      obtain ⟨y_3, e_4, h⟩ := bind_or h
      rcases ite_or h with ⟨g_5, h⟩ | ⟨g_5, h⟩
      · obtain ⟨g_6, h⟩ := ite_some h
        exact RunC.go [.n 1, .r [(0, .dec true)], .n 8, .r [(1, .call (.agg ((cValue y_3).map .p)) [])], .n 4, .r [(1, .dec true)], .n 2, .r [(1, .obj (oL true 5 1 (cI .u8) (0 : Int) [2])), (2, .obj (oL true 5 1 (cI .u8) (0 : Int) (out3 ++ ([2]))))], .n 6, .k [3, 6, 7, 10, 11, 12]] (by kernel_rfl) (Obs.of (by kernel_rfl) (And.intro g_1 (And.intro g_2 (And.intro (value_Clean.spec e_4) (And.intro g_5 (And.intro (le_one 5 1 (cI .u8) (0 : Int) 2) (And.intro g_6 (le_app 5 1 (cI .u8) (0 : Int) out3 ([2]))))))))) (value_EncodeRow.p2.run ih k _ _ _ _ _ _ r h)
      · rcases ite_or h with ⟨g_10, h⟩ | ⟨g_10, h⟩
        · obtain ⟨g_11, h⟩ := ite_some h
          exact RunC.go [.n 1, .r [(0, .dec true)], .n 8, .r [(1, .call (.agg ((cValue y_3).map .p)) [])], .n 4, .r [(1, .dec false)], .n 2, .r [(1, .dec true)], .n 2, .r [(1, .obj (oL true 5 1 (cI .u8) (0 : Int) [3])), (2, .obj (oL true 5 1 (cI .u8) (0 : Int) (out3 ++ ([3]))))], .n 2, .r [(2, .av (eL 1 (cI .u8) (0 : Int) (strL y_3.f2)))], .n 2, .k [3, 10, 11, 12, 51, 52, 53]] (by kernel_rfl) (Obs.of (by kernel_rfl) (And.intro g_1 (And.intro g_2 (And.intro (value_Clean.spec e_4) (And.intro (nt g_5) (And.intro g_10 (And.intro (le_one 5 1 (cI .u8) (0 : Int) 3) (And.intro (And.intro g_11 (le_app 5 1 (cI .u8) (0 : Int) out3 ([3]))) (av_str y_3.f2))))))))) (value_EncodeRow.p3.run ih k _ _ _ _ _ _ _ r h)
        · obtain ⟨g_18, h⟩ := ite_some h
          exact RunC.go [.n 1, .r [(0, .dec true)], .n 8, .r [(1, .call (.agg ((cValue y_3).map .p)) [])], .n 4, .r [(1, .dec false)], .n 2, .r [(1, .dec false)], .n 1, .r [(1, .obj (oL true 5 1 (cI .u8) (0 : Int) [1])), (2, .obj (oL true 5 1 (cI .u8) (0 : Int) (out3 ++ ([1]))))], .n 4, .k [3, 10, 11, 12]] (by kernel_rfl) (Obs.of (by kernel_rfl) (And.intro g_1 (And.intro g_2 (And.intro (value_Clean.spec e_4) (And.intro (nt g_5) (And.intro (nt g_10) (And.intro (le_one 5 1 (cI .u8) (0 : Int) 1) (And.intro g_18 (le_app 5 1 (cI .u8) (0 : Int) out3 ([1])))))))))) (ih _ _ _ _ r h)
    · obtain rfl := Option.some.inj h
      exact RunC.out [.n 1, .r [(0, .dec false)], .n 4, .r [(1, .av (.str (byteL out3)))]] (by kernel_rfl) (Obs.of (by kernel_rfl) (And.intro (nt g_1) (av_bytes out3)))
theorem value_EncodeRow.run   {k : Nat} {r0 : (List TValue)} {r : ByteArray} (h : value_EncodeRow k r0 = some r) : RunC Try.prog Try.f42 value_EncodeRow.t (value_EncodeRow.s r0) (.p (.str r)) [] := by
  unfold value_EncodeRow at h
  exact RunC.go [.n 3, .r [(0, .obj (oL true 5 1 (cI .u8) (0 : Int) ([] : List Int)))], .n 5, .k [3, 10, 11, 12]] (by kernel_rfl) (Obs.of (by kernel_rfl) (le_nil 5 1 (cI .u8) (0 : Int))) (value_EncodeRow.p1.run k _ _ _ _ r h)
theorem value_EncodeRow.p2.mono {rec1 rec1' : (List TValue) → Int → Int → (List Int) → Option ByteArray} (hm1 : ∀ (v10 : (List TValue)) (v11 : Int) (v12 : Int) (out3 : (List Int)) r, rec1 v10 v11 v12 out3 = some r → rec1' v10 v11 v12 out3 = some r) : ∀ (k k' : Nat) (n6 : Int) (i7 : Int) (v10 : (List TValue)) (v11 : Int) (v12 : Int) (out3 : (List Int)) (r : ByteArray), k ≤ k' → value_EncodeRow.p2 rec1 k n6 i7 v10 v11 v12 out3 = some r → value_EncodeRow.p2 rec1' k' n6 i7 v10 v11 v12 out3 = some r := by
  intro k
  induction k with
  | zero => intro k' n6 i7 v10 v11 v12 out3 r hk h; simp [value_EncodeRow.p2] at h
  | succ k ih =>
    intro k' n6 i7 v10 v11 v12 out3 r hk h
    obtain ⟨k', rfl⟩ : ∃ m, k' = m + 1 := ⟨k' - 1, by omega⟩
    replace hk := Nat.le_of_succ_le_succ hk
    rw [value_EncodeRow.p2] at h ⊢
    rcases ite_or h with ⟨g_7, h⟩ | ⟨g_7, h⟩
    · refine itp g_7 ?_
      obtain ⟨g_8, h⟩ := ite_some h
      refine itp g_8 ?_
      obtain ⟨g_9, h⟩ := ite_some h
      refine itp g_9 ?_
      exact ih _ _ _ _ _ _ _ r hk h
    · refine itn g_7 ?_
      exact hm1 _ _ _ _ r h
theorem value_EncodeRow.p3.mono {rec1 rec1' : (List TValue) → Int → Int → (List Int) → Option ByteArray} (hm1 : ∀ (v10 : (List TValue)) (v11 : Int) (v12 : Int) (out3 : (List Int)) r, rec1 v10 v11 v12 out3 = some r → rec1' v10 v11 v12 out3 = some r) : ∀ (k k' : Nat) (v10 : (List TValue)) (v11 : Int) (v12 : Int) (v51 : (List Int)) (v52 : Int) (v53 : Int) (out3 : (List Int)) (r : ByteArray), k ≤ k' → value_EncodeRow.p3 rec1 k v10 v11 v12 v51 v52 v53 out3 = some r → value_EncodeRow.p3 rec1' k' v10 v11 v12 v51 v52 v53 out3 = some r := by
  intro k
  induction k with
  | zero => intro k' v10 v11 v12 v51 v52 v53 out3 r hk h; simp [value_EncodeRow.p3] at h
  | succ k ih =>
    intro k' v10 v11 v12 v51 v52 v53 out3 r hk h
    obtain ⟨k', rfl⟩ : ∃ m, k' = m + 1 := ⟨k' - 1, by omega⟩
    replace hk := Nat.le_of_succ_le_succ hk
    rw [value_EncodeRow.p3] at h ⊢
    rcases ite_or h with ⟨g_12, h⟩ | ⟨g_12, h⟩
    · refine itp g_12 ?_
      obtain ⟨g_13, h⟩ := ite_some h
      refine itp g_13 ?_
      obtain ⟨g_14, h⟩ := ite_some h
      refine itp g_14 ?_
      rcases ite_or h with ⟨g_15, h⟩ | ⟨g_15, h⟩
      · refine itp g_15 ?_
        obtain ⟨g_16, h⟩ := ite_some h
        refine itp g_16 ?_
        exact ih _ _ _ _ _ _ _ _ r hk h
      · refine itn g_15 ?_
        exact ih _ _ _ _ _ _ _ _ r hk h
    · refine itn g_12 ?_
      obtain ⟨g_17, h⟩ := ite_some h
      refine itp g_17 ?_
      exact hm1 _ _ _ _ r h
theorem value_EncodeRow.p1.mono   : ∀ (k k' : Nat) (v10 : (List TValue)) (v11 : Int) (v12 : Int) (out3 : (List Int)) (r : ByteArray), k ≤ k' → value_EncodeRow.p1 k v10 v11 v12 out3 = some r → value_EncodeRow.p1 k' v10 v11 v12 out3 = some r := by
  intro k
  induction k with
  | zero => intro k' v10 v11 v12 out3 r hk h; simp [value_EncodeRow.p1] at h
  | succ k ih =>
    intro k' v10 v11 v12 out3 r hk h
    obtain ⟨k', rfl⟩ : ∃ m, k' = m + 1 := ⟨k' - 1, by omega⟩
    replace hk := Nat.le_of_succ_le_succ hk
    rw [value_EncodeRow.p1] at h ⊢
    rcases ite_or h with ⟨g_1, h⟩ | ⟨g_1, h⟩
    · refine itp g_1 ?_
      obtain ⟨g_2, h⟩ := ite_some h
      refine itp g_2 ?_
      obtain ⟨y_3, e_4, h⟩ := bind_or h
      refine bnd (value_Clean.mono _ _ _ _ hk e_4) ?_
      rcases ite_or h with ⟨g_5, h⟩ | ⟨g_5, h⟩
      · refine itp g_5 ?_
        obtain ⟨g_6, h⟩ := ite_some h
        refine itp g_6 ?_
        exact value_EncodeRow.p2.mono (fun x0 x1 x2 x3 r h => ih _ x0 x1 x2 x3 r hk h) _ _ _ _ _ _ _ _ r hk h
      · refine itn g_5 ?_
        rcases ite_or h with ⟨g_10, h⟩ | ⟨g_10, h⟩
        · refine itp g_10 ?_
          obtain ⟨g_11, h⟩ := ite_some h
          refine itp g_11 ?_
          exact value_EncodeRow.p3.mono (fun x0 x1 x2 x3 r h => ih _ x0 x1 x2 x3 r hk h) _ _ _ _ _ _ _ _ _ r hk h
        · refine itn g_10 ?_
          obtain ⟨g_18, h⟩ := ite_some h
          refine itp g_18 ?_
          exact ih _ _ _ _ _ r hk h
    · refine itn g_1 ?_
      exact h
theorem value_EncodeRow.mono   : ∀ (k k' : Nat) (r0 : (List TValue)) (r : ByteArray), k ≤ k' → value_EncodeRow k r0 = some r → value_EncodeRow k' r0 = some r := by
  intro k k' r0 r hk h
  unfold value_EncodeRow at h ⊢
  exact value_EncodeRow.p1.mono _ _ _ _ _ _ r hk h
theorem value_EncodeRow.spec {k : Nat} {r0 : (List TValue)} {r : ByteArray} (h : value_EncodeRow k r0 = some r) : Spec Try.prog 42 [.p (eL 3 cValue dValue r0)] (.p (.str r)) [] :=
  spec_of mix Try.func42 (body := bodyOf Try.f42) (by kernel_rfl) (by kernel_rfl) (value_EncodeRow.run h)
end Go.Proofs.YtjhnpaenhdbhpacV
set_option linter.unusedVariables false
set_option linter.unusedSimpArgs false
set_option maxRecDepth 100000
namespace Go.Proofs.YtjhnpaenhdbhpacV
open Go Go.RowKit
noncomputable def value_decodeText.p1  : Nat → ByteArray → Int → (List Int) → Option (ByteArray × ByteArray × Bool)
  | 0, _, _, _ => none
  | k + 1, s0, i6, out5 => if (decide ((IntKind.i64.wrap (i6 + 1)) < (s0.size : Int))) = true then (if 0 ≤ i6 ∧ i6 < (s0.size : Int) then (if (((s0.data.getD i6.toNat 0).toNat : Int) != 0) = true then (if (out5).length + ([((s0.data.getD i6.toNat 0).toNat : Int)]).length ≤ maxLen ∧ ((out5).length + ([((s0.data.getD i6.toNat 0).toNat : Int)]).length) * 1 ≤ 140737488355328 then (value_decodeText.p1 k s0 (IntKind.i64.wrap (i6 + 1)) (out5 ++ ([((s0.data.getD i6.toNat 0).toNat : Int)]))) else none) else (if 0 ≤ (IntKind.i64.wrap (i6 + 1)) ∧ (IntKind.i64.wrap (i6 + 1)) < (s0.size : Int) then (if (((s0.data.getD (IntKind.i64.wrap (i6 + 1)).toNat 0).toNat : Int) == 0) = true then (if 0 ≤ (IntKind.i64.wrap (i6 + 2)) ∧ (IntKind.i64.wrap (i6 + 2)) ≤ (s0.size : Int) ∧ (s0.size : Int) ≤ (s0.size : Int) then (some ((byteL out5), (s0.extract (IntKind.i64.wrap (i6 + 2)).toNat (s0.size : Int).toNat), true)) else none) else (if (((s0.data.getD (IntKind.i64.wrap (i6 + 1)).toNat 0).toNat : Int) == 255) = true then (if (out5).length + ([0]).length ≤ maxLen ∧ ((out5).length + ([0]).length) * 1 ≤ 140737488355328 then (value_decodeText.p1 k s0 (IntKind.i64.wrap ((IntKind.i64.wrap (i6 + 1)) + 1)) (out5 ++ ([0]))) else none) else (some ((⟨#[]⟩ : ByteArray), (⟨#[]⟩ : ByteArray), false)))) else none)) else none) else (some ((⟨#[]⟩ : ByteArray), (⟨#[]⟩ : ByteArray), false))
noncomputable def value_decodeText  (k : Nat) (s0 : ByteArray) : Option (ByteArray × ByteArray × Bool) := value_decodeText.p1 k s0 0 ([] : List Int)
noncomputable def value_decodeText.t : List Item := [.code (bodyOf Try.f76)]
noncomputable def value_decodeText.s (s0 : ByteArray) : St := ⟨frOf Try.f76.ntmps 0 [(0, .p (.str s0))], []⟩
noncomputable def value_decodeText.p1.t : List Item := nav 9 [] value_decodeText.t
noncomputable def value_decodeText.p1.s (s0 : ByteArray) (i6 : Int) (out5 : (List Int)) : St := ⟨frOf Try.f76.ntmps 0 [(0, .p (.str s0)), (5, .sref 0 5 1 (out5).length), (6, .p (.int .i64 i6))], [(oL true 5 1 (cI .u8) (0 : Int) out5)]⟩
theorem value_decodeText.p1.run   : ∀ (k : Nat) (s0 : ByteArray) (i6 : Int) (out5 : (List Int)) (r : (ByteArray × ByteArray × Bool)), value_decodeText.p1 k s0 i6 out5 = some r → RunC Try.prog Try.f76 value_decodeText.p1.t (value_decodeText.p1.s s0 i6 out5) (.tup [.p (.str r.1), .p (.str r.2.1), .p (.bool r.2.2)]) [] := by
  intro k
  induction k with
  | zero => intro s0 i6 out5 r h; simp [value_decodeText.p1] at h
  | succ k ih =>
    intro s0 i6 out5 r h
    rw [value_decodeText.p1] at h
    rcases ite_or h with ⟨g_1, h⟩ | ⟨g_1, h⟩
    · obtain ⟨g_2, h⟩ := ite_some h
      rcases ite_or h with ⟨g_3, h⟩ | ⟨g_3, h⟩
      · obtain ⟨g_4, h⟩ := ite_some h
        exact RunC.go [.n 2, .r [(4, .dec true)], .n 6, .r [(3, .dec true)], .n 2, .r [(4, .obj (oL true 5 1 (cI .u8) (0 : Int) [((s0.data.getD i6.toNat 0).toNat : Int)])), (5, .obj (oL true 5 1 (cI .u8) (0 : Int) (out5 ++ ([((s0.data.getD i6.toNat 0).toNat : Int)]))))], .n 3, .k [0, 5, 6]] (by kernel_rfl) (Obs.of (by kernel_rfl) (And.intro g_1 (And.intro g_2 (And.intro g_3 (And.intro g_2 (And.intro (le_one 5 1 (cI .u8) (0 : Int) ((s0.data.getD i6.toNat 0).toNat : Int)) (And.intro g_4 (le_app 5 1 (cI .u8) (0 : Int) out5 ([((s0.data.getD i6.toNat 0).toNat : Int)]))))))))) (ih _ _ _ r h)
      · obtain ⟨g_5, h⟩ := ite_some h
        rcases ite_or h with ⟨g_6, h⟩ | ⟨g_6, h⟩
        · obtain ⟨g_7, h⟩ := ite_some h
          obtain rfl := Option.some.inj h
          exact RunC.out [.n 2, .r [(4, .dec true)], .n 6, .r [(3, .dec false)], .n 6, .r [(1, .dec true)], .n 2, .r [(1, .av (.str (byteL out5)))]] (by kernel_rfl) (Obs.of (by kernel_rfl) (And.intro g_1 (And.intro g_2 (And.intro (nt g_3) (And.intro g_5 (And.intro g_6 (And.intro (av_bytes out5) g_7)))))))
        · rcases ite_or h with ⟨g_8, h⟩ | ⟨g_8, h⟩
          · obtain ⟨g_9, h⟩ := ite_some h
            exact RunC.go [.n 2, .r [(4, .dec true)], .n 6, .r [(3, .dec false)], .n 6, .r [(1, .dec false)], .n 2, .r [(1, .dec true)], .n 2, .r [(1, .obj (oL true 5 1 (cI .u8) (0 : Int) [0])), (2, .obj (oL true 5 1 (cI .u8) (0 : Int) (out5 ++ ([0]))))], .n 5, .k [0, 5, 6]] (by kernel_rfl) (Obs.of (by kernel_rfl) (And.intro g_1 (And.intro g_2 (And.intro (nt g_3) (And.intro g_5 (And.intro (nt g_6) (And.intro g_8 (And.intro (le_one 5 1 (cI .u8) (0 : Int) 0) (And.intro g_9 (le_app 5 1 (cI .u8) (0 : Int) out5 ([0]))))))))))) (ih _ _ _ r h)
          · obtain rfl := Option.some.inj h
            exact RunC.out [.n 2, .r [(4, .dec true)], .n 6, .r [(3, .dec false)], .n 6, .r [(1, .dec false)], .n 2, .r [(1, .dec false)], .n 3] (by kernel_rfl) (Obs.of (by kernel_rfl) (And.intro g_1 (And.intro g_2 (And.intro (nt g_3) (And.intro g_5 (And.intro (nt g_6) (nt g_8)))))))
    · obtain rfl := Option.some.inj h
      exact RunC.out [.n 2, .r [(4, .dec false)], .n 4] (by kernel_rfl) (Obs.of (by kernel_rfl) (nt g_1))
theorem value_decodeText.run   {k : Nat} {s0 : ByteArray} {r : (ByteArray × ByteArray × Bool)} (h : value_decodeText k s0 = some r) : RunC Try.prog Try.f76 value_decodeText.t (value_decodeText.s s0) (.tup [.p (.str r.1), .p (.str r.2.1), .p (.bool r.2.2)]) [] := by
  unfold value_decodeText at h
  exact RunC.go [.n 3, .r [(0, .obj (oL true 5 1 (cI .u8) (0 : Int) ([] : List Int)))], .n 5, .k [0, 5, 6]] (by kernel_rfl) (Obs.of (by kernel_rfl) (le_nil 5 1 (cI .u8) (0 : Int))) (value_decodeText.p1.run k _ _ _ r h)
theorem value_decodeText.p1.mono   : ∀ (k k' : Nat) (s0 : ByteArray) (i6 : Int) (out5 : (List Int)) (r : (ByteArray × ByteArray × Bool)), k ≤ k' → value_decodeText.p1 k s0 i6 out5 = some r → value_decodeText.p1 k' s0 i6 out5 = some r := by
  intro k
  induction k with
  | zero => intro k' s0 i6 out5 r hk h; simp [value_decodeText.p1] at h
  | succ k ih =>
    intro k' s0 i6 out5 r hk h
    obtain ⟨k', rfl⟩ : ∃ m, k' = m + 1 := ⟨k' - 1, by omega⟩
    replace hk := Nat.le_of_succ_le_succ hk
    rw [value_decodeText.p1] at h ⊢
    rcases ite_or h with ⟨g_1, h⟩ | ⟨g_1, h⟩
    · refine itp g_1 ?_
      obtain ⟨g_2, h⟩ := ite_some h
      refine itp g_2 ?_
      rcases ite_or h with ⟨g_3, h⟩ | ⟨g_3, h⟩
      · refine itp g_3 ?_
        obtain ⟨g_4, h⟩ := ite_some h
        refine itp g_4 ?_
        exact ih _ _ _ _ r hk h
      · refine itn g_3 ?_
        obtain ⟨g_5, h⟩ := ite_some h
        refine itp g_5 ?_
        rcases ite_or h with ⟨g_6, h⟩ | ⟨g_6, h⟩
        · refine itp g_6 ?_
          obtain ⟨g_7, h⟩ := ite_some h
          refine itp g_7 ?_
          exact h
        · refine itn g_6 ?_
          rcases ite_or h with ⟨g_8, h⟩ | ⟨g_8, h⟩
          · refine itp g_8 ?_
            obtain ⟨g_9, h⟩ := ite_some h
            refine itp g_9 ?_
            exact ih _ _ _ _ r hk h
          · refine itn g_8 ?_
            exact h
    · refine itn g_1 ?_
      exact h
theorem value_decodeText.mono   : ∀ (k k' : Nat) (s0 : ByteArray) (r : (ByteArray × ByteArray × Bool)), k ≤ k' → value_decodeText k s0 = some r → value_decodeText k' s0 = some r := by
  intro k k' s0 r hk h
  unfold value_decodeText at h ⊢
  exact value_decodeText.p1.mono _ _ _ _ _ r hk h
theorem value_decodeText.spec {k : Nat} {s0 : ByteArray} {r : (ByteArray × ByteArray × Bool)} (h : value_decodeText k s0 = some r) : Spec Try.prog 76 [.p (.str s0)] (.tup [.p (.str r.1), .p (.str r.2.1), .p (.bool r.2.2)]) [] :=
  spec_of mix Try.func76 (body := bodyOf Try.f76) (by kernel_rfl) (by kernel_rfl) (value_decodeText.run h)
end Go.Proofs.YtjhnpaenhdbhpacV
set_option linter.unusedVariables false
set_option linter.unusedSimpArgs false
set_option maxRecDepth 100000
namespace Go.Proofs.YtjhnpaenhdbhpacV
open Go Go.RowKit
noncomputable def value_decode.p1  : Nat → ByteArray → Int → (List Int) → Int → Int → TValue → Option (TValue × ByteArray × Bool)
  | 0, _, _, _, _, _, _ => none
  | k + 1, s0, n5, v26, v27, v28, v2b => if (decide (v28 < v27)) = true then (if 0 ≤ v28 ∧ v28 < ((v26).length : Int) then (value_decode.p1 k s0 (Go.bits .or .i64 (IntKind.i64.wrap (n5 * 2 ^ min (8 : Int).toNat IntKind.i64.bits)) (IntKind.i64.wrap (v26.getD v28.toNat (0 : Int)))) v26 v27 (IntKind.i64.wrap (v28 + 1)) v2b) else none) else (if 0 ≤ (6 : Int) ∧ (6 : Int) ≤ (s0.size : Int) ∧ (s0.size : Int) ≤ (s0.size : Int) then (some ((TValue.mk 1 (IntKind.i64.wrap (n5 - 4294967296)) (⟨#[]⟩ : ByteArray)), (s0.extract (6 : Int).toNat (s0.size : Int).toNat), true)) else none)
noncomputable def value_decode  (k : Nat) (s0 : ByteArray) : Option (TValue × ByteArray × Bool) := if 0 ≤ (0 : Int) ∧ (0 : Int) < (s0.size : Int) then (if (((s0.data.getD (0 : Int).toNat 0).toNat : Int) == 1) = true then (if 0 ≤ (1 : Int) ∧ (1 : Int) ≤ (s0.size : Int) ∧ (s0.size : Int) ≤ (s0.size : Int) then (some ((TValue.mk 0 0 (⟨#[]⟩ : ByteArray)), (s0.extract (1 : Int).toNat (s0.size : Int).toNat), true)) else none) else (if (((s0.data.getD (0 : Int).toNat 0).toNat : Int) == 2) = true then (if (decide ((s0.size : Int) < 6)) = true then (some ((TValue.mk 0 0 (⟨#[]⟩ : ByteArray)), (⟨#[]⟩ : ByteArray), false)) else (if 0 ≤ (1 : Int) ∧ (1 : Int) ≤ (6 : Int) ∧ (6 : Int) ≤ (s0.size : Int) then (value_decode.p1 k s0 0 (strL (s0.extract (1 : Int).toNat (6 : Int).toNat)) (((strL (s0.extract (1 : Int).toNat (6 : Int).toNat))).length : Int) 0 (TValue.mk 0 0 (⟨#[]⟩ : ByteArray))) else none)) else (if (((s0.data.getD (0 : Int).toNat 0).toNat : Int) == 3) = true then (if 0 ≤ (1 : Int) ∧ (1 : Int) ≤ (s0.size : Int) ∧ (s0.size : Int) ≤ (s0.size : Int) then ((value_decodeText k (s0.extract (1 : Int).toNat (s0.size : Int).toNat)).bind fun y_12 => (some ((TValue.mk 2 0 y_12.1), y_12.2.1, y_12.2.2))) else none) else (some ((TValue.mk 0 0 (⟨#[]⟩ : ByteArray)), (⟨#[]⟩ : ByteArray), false))))) else none
noncomputable def value_decode.t : List Item := [.code (bodyOf Try.f59)]
noncomputable def value_decode.s (s0 : ByteArray) : St := ⟨frOf Try.f59.ntmps 0 [(0, .p (.str s0))], []⟩
noncomputable def value_decode.p1.t : List Item := nav 24 [false, true, false] value_decode.t
noncomputable def value_decode.p1.s (s0 : ByteArray) (n5 : Int) (v26 : (List Int)) (v27 : Int) (v28 : Int) (v2b : TValue) : St := ⟨frOf Try.f59.ntmps 0 [(0, .p (.str s0)), (2, .ptr 0 0 0), (5, .p (.int .i64 n5)), (26, .p (eL 1 (cI .u8) (0 : Int) v26)), (27, .p (.int .i64 v27)), (28, .p (.int .i64 v28))], [.box ((cValue v2b).map .p)]⟩
theorem value_decode.p1.run   : ∀ (k : Nat) (s0 : ByteArray) (n5 : Int) (v26 : (List Int)) (v27 : Int) (v28 : Int) (v2b : TValue) (r : (TValue × ByteArray × Bool)), value_decode.p1 k s0 n5 v26 v27 v28 v2b = some r → RunC Try.prog Try.f59 value_decode.p1.t (value_decode.p1.s s0 n5 v26 v27 v28 v2b) (.tup [.agg ((cValue r.1).map .p), .p (.str r.2.1), .p (.bool r.2.2)]) [] := by
  intro k
  induction k with
  | zero => intro s0 n5 v26 v27 v28 v2b r h; simp [value_decode.p1] at h
  | succ k ih =>
    intro s0 n5 v26 v27 v28 v2b r h
    rw [value_decode.p1] at h
    rcases ite_or h with ⟨g_7, h⟩ | ⟨g_7, h⟩
    · obtain ⟨g_8, h⟩ := ite_some h
      exact RunC.go [.n 1, .r [(0, .dec true)], .n 11, .k [0, 2, 5, 26, 27, 28]] (by kernel_rfl) (Obs.of (by kernel_rfl) (And.intro g_7 (And.intro g_8 (show 0 ≤ (8 : Int) from (by decide))))) (ih _ _ _ _ _ _ r h)
    · obtain ⟨g_9, h⟩ := ite_some h
      obtain rfl := Option.some.inj h
      exact RunC.out [.n 1, .r [(0, .dec false)], .n 5] (by kernel_rfl) (Obs.of (by kernel_rfl) (And.intro (nt g_7) g_9))
theorem value_decode.run   {k : Nat} {s0 : ByteArray} {r : (TValue × ByteArray × Bool)} (h : value_decode k s0 = some r) : RunC Try.prog Try.f59 value_decode.t (value_decode.s s0) (.tup [.agg ((cValue r.1).map .p), .p (.str r.2.1), .p (.bool r.2.2)]) [] := by
  unfold value_decode at h
  obtain ⟨g_1, h⟩ := ite_some h
  rcases ite_or h with ⟨g_2, h⟩ | ⟨g_2, h⟩
  · obtain ⟨g_3, h⟩ := ite_some h
    obtain rfl := Option.some.inj h
    exact RunC.out [.n 7, .r [(1, .dec true)], .n 3] (by kernel_rfl) (Obs.of (by kernel_rfl) (And.intro g_1 (And.intro g_2 g_3)))
  · rcases ite_or h with ⟨g_4, h⟩ | ⟨g_4, h⟩
    · rcases ite_or h with ⟨g_5, h⟩ | ⟨g_5, h⟩
      · obtain rfl := Option.some.inj h
        exact RunC.out [.n 7, .r [(1, .dec false)], .n 2, .r [(1, .dec true)], .n 3, .r [(2, .dec true)], .n 3] (by kernel_rfl) (Obs.of (by kernel_rfl) (And.intro g_1 (And.intro (nt g_2) (And.intro g_4 g_5))))
      · obtain ⟨g_6, h⟩ := ite_some h
        exact RunC.go [.n 7, .r [(1, .dec false)], .n 2, .r [(1, .dec true)], .n 3, .r [(2, .dec false)], .n 6, .r [(2, .av (eL 1 (cI .u8) (0 : Int) (strL (s0.extract (1 : Int).toNat (6 : Int).toNat))))], .n 2, .k [0, 2, 5, 26, 27, 28]] (by kernel_rfl) (Obs.of (by kernel_rfl) (And.intro g_1 (And.intro (nt g_2) (And.intro g_4 (And.intro (nt g_5) (And.intro g_6 (av_str (s0.extract (1 : Int).toNat (6 : Int).toNat)))))))) (value_decode.p1.run k _ _ _ _ _ _ r h)
    · rcases ite_or h with ⟨g_10, h⟩ | ⟨g_10, h⟩
      · obtain ⟨g_11, h⟩ := ite_some h
        obtain ⟨y_12, e_13, h⟩ := bind_or h
        obtain rfl := Option.some.inj h
        exact RunC.out [.n 7, .r [(1, .dec false)], .n 2, .r [(1, .dec false)], .n 2, .r [(1, .dec true)], .n 2, .r [(2, .call (.tup [.p (.str y_12.1), .p (.str y_12.2.1), .p (.bool y_12.2.2)]) [])], .n 2] (by kernel_rfl) (Obs.of (by kernel_rfl) (And.intro g_1 (And.intro (nt g_2) (And.intro (nt g_4) (And.intro g_10 (And.intro g_11 (value_decodeText.spec e_13)))))))
      · obtain rfl := Option.some.inj h
        exact RunC.out [.n 7, .r [(1, .dec false)], .n 2, .r [(1, .dec false)], .n 2, .r [(1, .dec false)], .n 5] (by kernel_rfl) (Obs.of (by kernel_rfl) (And.intro g_1 (And.intro (nt g_2) (And.intro (nt g_4) (nt g_10)))))
theorem value_decode.p1.mono   : ∀ (k k' : Nat) (s0 : ByteArray) (n5 : Int) (v26 : (List Int)) (v27 : Int) (v28 : Int) (v2b : TValue) (r : (TValue × ByteArray × Bool)), k ≤ k' → value_decode.p1 k s0 n5 v26 v27 v28 v2b = some r → value_decode.p1 k' s0 n5 v26 v27 v28 v2b = some r := by
  intro k
  induction k with
  | zero => intro k' s0 n5 v26 v27 v28 v2b r hk h; simp [value_decode.p1] at h
  | succ k ih =>
    intro k' s0 n5 v26 v27 v28 v2b r hk h
    obtain ⟨k', rfl⟩ : ∃ m, k' = m + 1 := ⟨k' - 1, by omega⟩
    replace hk := Nat.le_of_succ_le_succ hk
    rw [value_decode.p1] at h ⊢
    rcases ite_or h with ⟨g_7, h⟩ | ⟨g_7, h⟩
    · refine itp g_7 ?_
      obtain ⟨g_8, h⟩ := ite_some h
      refine itp g_8 ?_
      exact ih _ _ _ _ _ _ _ r hk h
    · refine itn g_7 ?_
      obtain ⟨g_9, h⟩ := ite_some h
      refine itp g_9 ?_
      exact h
theorem value_decode.mono   : ∀ (k k' : Nat) (s0 : ByteArray) (r : (TValue × ByteArray × Bool)), k ≤ k' → value_decode k s0 = some r → value_decode k' s0 = some r := by
  intro k k' s0 r hk h
  unfold value_decode at h ⊢
  obtain ⟨g_1, h⟩ := ite_some h
  refine itp g_1 ?_
  rcases ite_or h with ⟨g_2, h⟩ | ⟨g_2, h⟩
  · refine itp g_2 ?_
    obtain ⟨g_3, h⟩ := ite_some h
    refine itp g_3 ?_
    exact h
  · refine itn g_2 ?_
    rcases ite_or h with ⟨g_4, h⟩ | ⟨g_4, h⟩
    · refine itp g_4 ?_
      rcases ite_or h with ⟨g_5, h⟩ | ⟨g_5, h⟩
      · refine itp g_5 ?_
        exact h
      · refine itn g_5 ?_
        obtain ⟨g_6, h⟩ := ite_some h
        refine itp g_6 ?_
        exact value_decode.p1.mono _ _ _ _ _ _ _ _ r hk h
    · refine itn g_4 ?_
      rcases ite_or h with ⟨g_10, h⟩ | ⟨g_10, h⟩
      · refine itp g_10 ?_
        obtain ⟨g_11, h⟩ := ite_some h
        refine itp g_11 ?_
        obtain ⟨y_12, e_13, h⟩ := bind_or h
        refine bnd (value_decodeText.mono _ _ _ _ hk e_13) ?_
        exact h
      · refine itn g_10 ?_
        exact h
theorem value_decode.spec {k : Nat} {s0 : ByteArray} {r : (TValue × ByteArray × Bool)} (h : value_decode k s0 = some r) : Spec Try.prog 59 [.p (.str s0)] (.tup [.agg ((cValue r.1).map .p), .p (.str r.2.1), .p (.bool r.2.2)]) [] :=
  spec_of mix Try.func59 (body := bodyOf Try.f59) (by kernel_rfl) (by kernel_rfl) (value_decode.run h)
end Go.Proofs.YtjhnpaenhdbhpacV
set_option linter.unusedVariables false
set_option linter.unusedSimpArgs false
set_option maxRecDepth 100000
namespace Go.Proofs.YtjhnpaenhdbhpacV
open Go Go.RowKit
noncomputable def value_DecodeRow.p1  : Nat → ByteArray → (List TValue) → Option ((List TValue) × Int)
  | 0, _, _ => none
  | k + 1, s0, row4 => if (!(s0.data.toList == (⟨#[]⟩ : ByteArray).data.toList)) = true then ((value_decode k s0).bind fun y_2 => (if (!y_2.2.2) = true then (some (([] : List TValue), 1)) else (if (row4).length + ([y_2.1]).length ≤ maxLen ∧ ((row4).length + ([y_2.1]).length) * 32 ≤ 140737488355328 then (value_DecodeRow.p1 k y_2.2.1 (row4 ++ ([y_2.1]))) else none))) else ((value_ValidRow k row4).bind fun y_6 => (if (!y_6) = true then (some (([] : List TValue), 1)) else (some (row4, 0))))
noncomputable def value_DecodeRow  (k : Nat) (s0 : ByteArray) : Option ((List TValue) × Int) := value_DecodeRow.p1 k s0 ([] : List TValue)
noncomputable def value_DecodeRow.t : List Item := [.code (bodyOf Try.f43)]
noncomputable def value_DecodeRow.s (s0 : ByteArray) : St := ⟨frOf Try.f43.ntmps 0 [(0, .p (.str s0))], []⟩
noncomputable def value_DecodeRow.p1.t : List Item := nav 7 [] value_DecodeRow.t
noncomputable def value_DecodeRow.p1.s (s0 : ByteArray) (row4 : (List TValue)) : St := ⟨frOf Try.f43.ntmps 0 [(0, .p (.str s0)), (4, .sref 0 44 3 (row4).length)], [(oL true 44 3 cValue dValue row4)]⟩
theorem value_DecodeRow.p1.run   : ∀ (k : Nat) (s0 : ByteArray) (row4 : (List TValue)) (r : ((List TValue) × Int)), value_DecodeRow.p1 k s0 row4 = some r → RunC Try.prog Try.f43 value_DecodeRow.p1.t (value_DecodeRow.p1.s s0 row4) (.tup [.sref 0 44 3 (r.1).length, .p (.int .i64 r.2)]) [(oL true 44 3 cValue dValue (r.1))] := by
  intro k
  induction k with
  | zero => intro s0 row4 r h; simp [value_DecodeRow.p1] at h
  | succ k ih =>
    intro s0 row4 r h
    rw [value_DecodeRow.p1] at h
    rcases ite_or h with ⟨g_1, h⟩ | ⟨g_1, h⟩
    · obtain ⟨y_2, e_3, h⟩ := bind_or h
      rcases ite_or h with ⟨g_4, h⟩ | ⟨g_4, h⟩
      · obtain rfl := Option.some.inj h
        exact RunC.out [.n 2, .r [(1, .dec true)], .n 4, .r [(1, .call (.tup [.agg ((cValue y_2.1).map .p), .p (.str y_2.2.1), .p (.bool y_2.2.2)]) [])], .n 2, .r [(1, .dec true)], .n 2, .r [(0, .obj (oL true 44 3 cValue dValue ([] : List TValue)))]] (by kernel_rfl) (Obs.of (by kernel_rfl) (And.intro g_1 (And.intro (value_decode.spec e_3) (And.intro g_4 (le_nil 44 3 cValue dValue)))))
      · obtain ⟨g_5, h⟩ := ite_some h
        exact RunC.go [.n 2, .r [(1, .dec true)], .n 4, .r [(1, .call (.tup [.agg ((cValue y_2.1).map .p), .p (.str y_2.2.1), .p (.bool y_2.2.2)]) [])], .n 2, .r [(1, .dec false)], .n 3, .r [(2, .obj (oL true 44 3 cValue dValue [y_2.1])), (3, .obj (oL true 44 3 cValue dValue (row4 ++ ([y_2.1]))))], .n 3, .k [0, 4]] (by kernel_rfl) (Obs.of (by kernel_rfl) (And.intro g_1 (And.intro (value_decode.spec e_3) (And.intro (nt g_4) (And.intro (le_one 44 3 cValue dValue y_2.1) (And.intro g_5 (le_app 44 3 cValue dValue row4 ([y_2.1])))))))) (ih _ _ r h)
    · obtain ⟨y_6, e_7, h⟩ := bind_or h
      rcases ite_or h with ⟨g_8, h⟩ | ⟨g_8, h⟩
      · obtain rfl := Option.some.inj h
        exact RunC.out [.n 2, .r [(1, .dec false)], .n 4, .r [(1, .call (.p (.bool y_6)) []), (2, .dec true)], .n 2, .r [(0, .obj (oL true 44 3 cValue dValue ([] : List TValue)))]] (by kernel_rfl) (Obs.of (by kernel_rfl) (And.intro (nt g_1) (And.intro (value_ValidRow.spec e_7) (And.intro g_8 (le_nil 44 3 cValue dValue)))))
      · obtain rfl := Option.some.inj h
        exact RunC.out [.n 2, .r [(1, .dec false)], .n 4, .r [(1, .call (.p (.bool y_6)) []), (2, .dec false)], .n 4] (by kernel_rfl) (Obs.of (by kernel_rfl) (And.intro (nt g_1) (And.intro (value_ValidRow.spec e_7) (nt g_8))))
theorem value_DecodeRow.run   {k : Nat} {s0 : ByteArray} {r : ((List TValue) × Int)} (h : value_DecodeRow k s0 = some r) : RunC Try.prog Try.f43 value_DecodeRow.t (value_DecodeRow.s s0) (.tup [.sref 0 44 3 (r.1).length, .p (.int .i64 r.2)]) [(oL true 44 3 cValue dValue (r.1))] := by
  unfold value_DecodeRow at h
  exact RunC.go [.n 1, .r [(0, .obj (oL true 44 3 cValue dValue ([] : List TValue)))], .n 1, .r [(0, .obj (oL true 44 3 cValue dValue ([] : List TValue)))], .n 3, .k [0, 4]] (by kernel_rfl) (Obs.of (by kernel_rfl) (And.intro (le_nil 44 3 cValue dValue) (le_nil 44 3 cValue dValue))) (value_DecodeRow.p1.run k _ _ r h)
theorem value_DecodeRow.p1.mono   : ∀ (k k' : Nat) (s0 : ByteArray) (row4 : (List TValue)) (r : ((List TValue) × Int)), k ≤ k' → value_DecodeRow.p1 k s0 row4 = some r → value_DecodeRow.p1 k' s0 row4 = some r := by
  intro k
  induction k with
  | zero => intro k' s0 row4 r hk h; simp [value_DecodeRow.p1] at h
  | succ k ih =>
    intro k' s0 row4 r hk h
    obtain ⟨k', rfl⟩ : ∃ m, k' = m + 1 := ⟨k' - 1, by omega⟩
    replace hk := Nat.le_of_succ_le_succ hk
    rw [value_DecodeRow.p1] at h ⊢
    rcases ite_or h with ⟨g_1, h⟩ | ⟨g_1, h⟩
    · refine itp g_1 ?_
      obtain ⟨y_2, e_3, h⟩ := bind_or h
      refine bnd (value_decode.mono _ _ _ _ hk e_3) ?_
      rcases ite_or h with ⟨g_4, h⟩ | ⟨g_4, h⟩
      · refine itp g_4 ?_
        exact h
      · refine itn g_4 ?_
        obtain ⟨g_5, h⟩ := ite_some h
        refine itp g_5 ?_
        exact ih _ _ _ r hk h
    · refine itn g_1 ?_
      obtain ⟨y_6, e_7, h⟩ := bind_or h
      refine bnd (value_ValidRow.mono _ _ _ _ hk e_7) ?_
      rcases ite_or h with ⟨g_8, h⟩ | ⟨g_8, h⟩
      · refine itp g_8 ?_
        exact h
      · refine itn g_8 ?_
        exact h
theorem value_DecodeRow.mono   : ∀ (k k' : Nat) (s0 : ByteArray) (r : ((List TValue) × Int)), k ≤ k' → value_DecodeRow k s0 = some r → value_DecodeRow k' s0 = some r := by
  intro k k' s0 r hk h
  unfold value_DecodeRow at h ⊢
  exact value_DecodeRow.p1.mono _ _ _ _ r hk h
theorem value_DecodeRow.spec {k : Nat} {s0 : ByteArray} {r : ((List TValue) × Int)} (h : value_DecodeRow k s0 = some r) : Spec Try.prog 43 [.p (.str s0)] (.tup [.sref 0 44 3 (r.1).length, .p (.int .i64 r.2)]) [(oL true 44 3 cValue dValue (r.1))] :=
  spec_of mix Try.func43 (body := bodyOf Try.f43) (by kernel_rfl) (by kernel_rfl) (value_DecodeRow.run h)
end Go.Proofs.YtjhnpaenhdbhpacV
set_option linter.unusedVariables false
set_option linter.unusedSimpArgs false
set_option maxRecDepth 100000
namespace Go.Proofs.YtjhnpaenhdbhpacV
open Go Go.RowKit
noncomputable def bag_collect_1  (k : Nat) (a0 : TEntry) (b1 : TEntry) : Option Int := (value_CompareRows k a0.f0 b1.f0).bind fun y_1 => (some y_1)
noncomputable def bag_collect_1.t : List Item := [.code (bodyOf Try.f46)]
noncomputable def bag_collect_1.s (a0 : TEntry) (b1 : TEntry) : St := ⟨frOf Try.f46.ntmps 0 [(0, .agg ((cEntry a0).map .p)), (1, .agg ((cEntry b1).map .p))], []⟩
theorem bag_collect_1.run   {k : Nat} {a0 : TEntry} {b1 : TEntry} {r : Int} (h : bag_collect_1 k a0 b1 = some r) : RunC Try.prog Try.f46 bag_collect_1.t (bag_collect_1.s a0 b1) (.p (.int .i64 r)) [] := by
  unfold bag_collect_1 at h
  obtain ⟨y_1, e_2, h⟩ := bind_or h
  obtain rfl := Option.some.inj h
  exact RunC.out [.n 3, .r [(4, .call (.p (.int .i64 y_1)) [])]] (by kernel_rfl) (Obs.of (by kernel_rfl) (value_CompareRows.spec e_2))
theorem bag_collect_1.mono   : ∀ (k k' : Nat) (a0 : TEntry) (b1 : TEntry) (r : Int), k ≤ k' → bag_collect_1 k a0 b1 = some r → bag_collect_1 k' a0 b1 = some r := by
  intro k k' a0 b1 r hk h
  unfold bag_collect_1 at h ⊢
  obtain ⟨y_1, e_2, h⟩ := bind_or h
  refine bnd (value_CompareRows.mono _ _ _ _ _ hk e_2) ?_
  exact h
theorem bag_collect_1.spec {k : Nat} {a0 : TEntry} {b1 : TEntry} {r : Int} (h : bag_collect_1 k a0 b1 = some r) : Spec Try.prog 46 [.agg ((cEntry a0).map .p), .agg ((cEntry b1).map .p)] (.p (.int .i64 r)) [] :=
  spec_of mix Try.func46 (body := bodyOf Try.f46) (by kernel_rfl) (by kernel_rfl) (bag_collect_1.run h)
end Go.Proofs.YtjhnpaenhdbhpacV
set_option linter.unusedVariables false
set_option linter.unusedSimpArgs false
set_option linter.constructorNameAsVariable false
namespace Go.Proofs.YtjhnpaenhdbhpacV
open Go Go.RowKit
open Go.Shelf Go.Lib Go.Sort
abbrev SE {β : Type} (F : Nat → Prop) (w : World) (sz : Nat) (c : β → List AV) (xs : List β) :=
  { p : List Value × β // p.1.length = sz ∧ (∀ v ∈ p.1, v.oneCell' = true) ∧ (∀ j, j < sz → ∃ v, p.1[j]? = some v ∧ Rep F w ((c p.2).getD j .u) v) ∧ p.2 ∈ xs }
theorem mk_elems {β : Type} {F : Nat → Prop} {w : World} {sz : Nat} {c : β → List AV} (d : β) {xs : List β} : ∀ (zs : List β) (cells : List Value), (∀ x ∈ zs, x ∈ xs) → cells.length = zs.length * sz → (∀ v ∈ cells, v.oneCell' = true) →
    (∀ i, i < zs.length → ∀ j, j < sz → ∃ v, cells[i * sz + j]? = some v ∧ Rep F w ((c (zs.getD i d)).getD j .u) v) → ∃ D : List (SE F w sz c xs), D.map (·.1.2) = zs ∧ D.flatMap (·.1.1) = cells
  | [], cells, _, hl, _, _ => ⟨[], rfl, by simp at hl; simp [hl]⟩
  | z :: zs, cells, hm, hl, h1, hr => by
    have hl' : cells.length = zs.length * sz + sz := by rw [hl, List.length_cons, Nat.add_mul, Nat.one_mul]
    obtain ⟨D, hD1, hD2⟩ := mk_elems (F := F) (w := w) (sz := sz) (c := c) d (xs := xs) zs (cells.drop sz) (fun x hx => hm x (List.mem_cons_of_mem _ hx)) (by rw [List.length_drop]; omega) (fun v hv => h1 v (List.mem_of_mem_drop hv))
      (fun i hi j hj => by
        obtain ⟨v, g1, g2⟩ := hr (i + 1) (by simpa using hi) j hj
        refine ⟨v, ?_, by simpa using g2⟩
        rw [List.getElem?_drop, show sz + (i * sz + j) = (i + 1) * sz + j from by rw [Nat.add_mul, Nat.one_mul]; omega]
        exact g1)
    refine ⟨⟨(cells.take sz, z), by rw [List.length_take]; omega, fun v hv => h1 v (List.mem_of_mem_take hv), fun j hj => ?_, hm z (List.mem_cons_self ..)⟩ :: D, by simp [hD1], by simp [hD2]⟩
    obtain ⟨v, g1, g2⟩ := hr 0 (by simp) j hj
    refine ⟨v, ?_, by simpa using g2⟩
    rw [List.getElem?_take, if_pos hj]
    simpa using g1
theorem get_flat {α : Type} {sz : Nat} {f : α → List Value} (hs : ∀ x, (f x).length = sz) : ∀ (D : List α) (i j : Nat), j < sz → (h : i < D.length) → (D.flatMap f)[i * sz + j]? = (f D[i])[j]?
  | [], i, j, _, h => by simp at h
  | x :: D, i, j, hj, h => by
    cases i with
    | zero => simp [List.getElem?_append, hs, hj]
    | succ i =>
      rw [List.flatMap_cons, List.getElem?_append_right (by rw [hs, Nat.add_mul]; omega), hs, show (i + 1) * sz + j - sz = i * sz + j from by rw [Nat.add_mul, Nat.one_mul]; omega]
      have := get_flat hs D i j hj (by simpa using h)
      simpa using this
theorem len_flat {α : Type} {sz : Nat} {f : α → List Value} (hs : ∀ x, (f x).length = sz) : ∀ (D : List α), (D.flatMap f).length = D.length * sz
  | [] => by simp
  | x :: D => by rw [List.flatMap_cons, List.length_append, hs, len_flat hs D, List.length_cons, Nat.add_mul, Nat.one_mul, Nat.add_comm]
theorem flatK_list {α : Type} [Inhabited α] {sz : Nat} {f : α → List Value} (hs : ∀ x, (f x).length = sz) (h0 : 0 < sz) (D : Array α) : flatK f sz D = (D.toList.flatMap f).toArray := by
  have hsz : (flatK f sz D).size = D.size * sz := by simp [flatK]
  apply Array.ext_getElem?
  intro t
  by_cases ht : t < D.size * sz
  · have hi : t / sz < D.size := (Nat.div_lt_iff_lt_mul h0).2 ht
    have hj : t % sz < sz := Nat.mod_lt _ h0
    have e : t / sz * sz + t % sz = t := by rw [Nat.mul_comm]; exact Nat.div_add_mod t sz
    have := get_flat hs D.toList (t / sz) (t % sz) hj (by simpa using hi)
    rw [e] at this
    rw [show ((D.toList.flatMap f).toArray)[t]? = (D.toList.flatMap f)[t]? from by simp, this]
    have hlen : t % sz < (f D[t / sz]).length := by rw [hs]; exact hj
    simp [flatK, ht, hi, hlen]
  · rw [Array.getElem?_eq_none (by omega), Array.getElem?_eq_none (by rw [List.size_toArray, len_flat hs]; simpa using Nat.not_lt.1 ht)]
structure Laid (w w' : World) (blk : Nat) (e : TypeId) (cur : Array Value) (cells : List Value) : Prop where
  os : w'.os = w.os
  tape : w'.tape = w.tape
  output : w'.output = w.output
  drawn : w.drawn ≤ w'.drawn
  size : w.heap.size ≤ w'.heap.size
  other : ∀ b, b < w.heap.size → b ≠ blk → w'.heap[b]? = w.heap[b]?
  row : w'.heap[blk]? = some (.cells (cells ++ cur.toList.drop cells.length).toArray e (0, 0))
theorem putCells_list (d : Array Value) (cur : Array Value) (h : d.size ≤ cur.size) : putCells id 0 d cur = (d.toList ++ cur.toList.drop d.size).toArray := by
  apply Array.ext_getElem?
  intro t
  simp only [putCells, Array.getElem?_mapIdx, List.getElem?_toArray, List.getElem?_append, Array.length_toList, List.getElem?_drop, Array.getElem?_toList, Nat.zero_le, true_and, Nat.zero_add, Nat.sub_zero, id]
  by_cases ht : t < d.size
  · rw [if_pos ht, Array.getElem?_eq_getElem (by omega), Array.getElem?_eq_getElem ht]
    simp [ht]
  · rw [if_neg ht, show d.size + (t - d.size) = t from by omega]
    cases cur[t]? with
    | none => rfl
    | some x => simp [ht]
theorem laid_sortK {α : Type} [Inhabited α] {f : α → List Value} {sz : Nat} (hs : ∀ x, (f x).length = sz) (h0 : 0 < sz) {w : World} {blk : Nat} {e : TypeId} {cur : Array Value} (hb : w.heap[blk]? = some (.cells cur e (0, 0))) {D : Array α} (hD : D.size * sz ≤ cur.size) (n : Nat) (os : Array Obj) :
    Laid w (sortWorldK f sz w blk 0 n D os) blk e cur (D.toList.flatMap f) := by
  have hlt := (Array.getElem?_eq_some_iff.1 hb).1
  refine ⟨rfl, rfl, rfl, Nat.le_add_right _ _, by simp [sortWorldK, grow, putRowK, putRow, mapBlock, Sort.ahead], fun b hb' hne => ?_, ?_⟩
  · unfold sortWorldK
    rw [heap_grow_old _ _ (by simpa [putRowK, putRow, mapBlock, Sort.ahead] using hb')]
    simp [putRowK, putRow, mapBlock, Sort.ahead, Array.getElem?_modify, Ne.symm hne]
  · unfold sortWorldK
    rw [heap_grow_old _ _ (by simpa [putRowK, putRow, mapBlock, Sort.ahead] using hlt)]
    simp only [putRowK, putRow, mapBlock, Sort.ahead, Array.getElem?_modify, if_true, hb, Option.map_some]
    rw [flatK_list hs h0]
    show some (Obj.cells (putCells id 0 _ cur) e (0, 0)) = _
    rw [putCells_list _ _ (by simpa [len_flat hs] using hD)]
    simp
theorem sorted_one {α β : Type} [Inhabited α] (p : α → β) (cf : β → β → Int) {xs ys : List β} (hT : ∀ x ∈ xs, ∀ y ∈ xs, ¬ cf y x < 0 → ¬ cf x y < 0 → x = y) (hy : ys.Perm xs) (hs : ys.Pairwise fun a b => ¬ cf b a < 0)
    {D D' : Array α} (hx : D.toList.map p = xs) (hP : PermIn 0 D.size D D') (hS : SortedIn (ltOf fun x y => cf (p x) (p y)) 0 D.size D') : D'.toList.map p = ys := by
  obtain ⟨hsz, _, hperm⟩ := hP
  have e1 : D'.extract 0 D.size = D' := by rw [← hsz]; exact Array.extract_size
  rw [e1, Array.extract_size] at hperm
  have hp2 : (D'.toList.map p).Perm xs := by rw [← hx]; exact hperm.map p
  refine List.Perm.eq_of_pairwise (le := fun a b => ¬ cf b a < 0) ?_ ?_ hs (hp2.trans hy.symm)
  · intro a b ha hb h1 h2
    exact hT a (hp2.mem_iff.1 ha) b (hy.mem_iff.1 hb) h1 h2
  · rw [List.pairwise_iff_getElem]
    intro i j hi hj hij
    have hi' : i < D'.size := by simpa using hi
    have hj' : j < D'.size := by simpa using hj
    have := hS i j (Nat.zero_le _) hij (by omega)
    rw [getElem!_pos D' j hj', getElem!_pos D' i hi'] at this
    simp only [ltOf, decide_eq_false_iff_not] at this
    simpa using this
theorem sort_end {β : Type} {E : En} {F : Nat → Prop} {w w' : World} {κ : Nat → Value} {sz : Nat} (e : TypeId) (c : β → List AV) (d : β) {xs ys : List β} {bk cap : Nat} {cur : Array Value} (h0 : 0 < sz) (hI : Inv E ⟨F, w, κ, [oL true e sz c d xs]⟩) (hκ : κ 0 = .slice (some ⟨bk, 0, none⟩) xs.length cap)
    (hcap : xs.length ≤ cap ∧ cap ≤ maxLen ∧ cur.size = cap * sz) {D' : List (SE F w sz c xs)} (hD : D'.map (·.1.2) = ys) (hlen : ys.length = xs.length) (hL : Laid w w' bk e cur (D'.flatMap (·.1.1))) :
    Inv E ⟨F, w', κ, [oL true e sz c d ys]⟩ ∧ RelV ⟨F, w', κ, [oL true e sz c d ys]⟩ (.sref 0 e sz ys.length) (κ 0) := by
  have hDl : D'.length = xs.length := by rw [← hlen, ← hD]; simp
  have hfl : (D'.flatMap (·.1.1)).length = xs.length * sz := by rw [len_flat (fun x => x.2.1), hDl]
  have hblk : blk (κ 0) = some bk := by rw [hκ]; rfl
  have hc : Chg (fun b => blk (κ 0) = some b) w w' := ⟨hL.os, hL.tape, hL.output, hL.drawn, hL.size, fun b hb hn => hL.other b hb (fun e => hn (by rw [e]; exact hblk))⟩
  have hmut : (look [oL true e sz c d xs] 0).mut = true := rfl
  obtain ⟨i1, l1⟩ := hI.put (w' := w') (id := 0) (o := oL true e sz c d ys) hmut hc (.inr ⟨rfl, by rw [← hlen]; exact ⟨true, _, rfl⟩⟩) (fun hle => by
    refine ⟨h0, D'.flatMap (·.1.1), ⟨by rw [hfl, hlen], .inr ⟨bk, cap, _, by rw [hlen]; exact hκ, Nat.zero_le _, hL.row, by omega, hcap.2.1, ?_, ?_⟩⟩, fun i hi j hj => ?_, fun u hu => ?_, fun b hb => ⟨fun _ => ?_, fun h => by simp at h⟩⟩
    · have := Nat.mul_le_mul_right sz hcap.1
      have e1 : (D'.flatMap (·.1.1) ++ cur.toList.drop (D'.flatMap (·.1.1)).length).length = cap * sz := by
        have hcs : cur.toList.length = cap * sz := by simpa using hcap.2.2
        rw [List.length_append, List.length_drop, hfl, hcs]
        omega
      exact e1
    · rw [hlen]
      show List.take _ (_ ++ _) = _
      rw [← hfl]
      exact List.take_left
    · have hi' : i < D'.length := by omega
      obtain ⟨v, g1, g2⟩ := (D'[i]).2.2.2.1 j hj
      refine ⟨v, by rw [get_flat (fun x => x.2.1) D' i j hj hi']; exact g1, ?_⟩
      have e2 : ys.getD i d = (D'[i]).1.2 := by
        have : ys[i]? = some (D'[i]).1.2 := by rw [← hD]; simp [hi']
        simp [List.getD_eq_getElem?_getD, this]
      show Rep F w' ((c (ys.getD i d)).getD j .u) v
      rw [e2]
      exact Rep.mono hle.F hle.w _ _ g2
    · obtain ⟨x, hx, hu⟩ := List.mem_flatMap.1 hu
      exact x.2.2.1 u hu
    · exact hI.notF (i := 0) hmut b hb)
  refine ⟨i1, ?_⟩
  simp only [RelV]
  exact ⟨⟨_, _, by rw [hlen]; exact hκ, .inr ⟨_, rfl⟩⟩, rfl, rfl, rfl, rfl⟩
structure CmpOK {β : Type} (cf : β → β → Int) (xs : List β) : Prop where
  irrefl : ∀ x ∈ xs, ¬ cf x x < 0
  trans : ∀ x ∈ xs, ∀ y ∈ xs, ∀ z ∈ xs, cf x y < 0 → cf y z < 0 → cf x z < 0
  ntrans : ∀ x ∈ xs, ∀ y ∈ xs, ∀ z ∈ xs, ¬ cf x y < 0 → ¬ cf y z < 0 → ¬ cf x z < 0
  anti : ∀ x ∈ xs, ∀ y ∈ xs, ¬ cf y x < 0 → ¬ cf x y < 0 → x = y
theorem grow_of_chg {W w' : World} (h : Chg (fun _ => False) W w') : ∃ q os', w' = grow (W.drewN q) os' := by
  refine ⟨w'.drawn - W.drawn, w'.heap.extract W.heap.size w'.heap.size, ?_⟩
  have hh : w'.heap = W.heap ++ w'.heap.extract W.heap.size w'.heap.size := by
    apply Array.ext_getElem?
    intro b
    by_cases hb : b < W.heap.size
    · rw [Array.getElem?_append_left hb]
      exact h.block b hb (fun h => h)
    · rw [Array.getElem?_append_right (by omega), Array.getElem?_extract]
      rw [show W.heap.size + (b - W.heap.size) = b from by omega]
      by_cases hb2 : b < w'.heap.size
      · rw [if_pos (by omega)]
      · rw [if_neg (by omega), Array.getElem?_eq_none (by omega)]
  have hd := h.drawn
  cases w'
  cases W
  simp only [grow, World.drewN] at *
  have e1 := h.os; have e2 := h.tape; have e3 := h.output
  simp only at e1 e2 e3 hh hd
  subst e1 e2 e3
  simp only [World.mk.injEq, true_and]
  exact ⟨hh, by omega, trivial⟩
theorem sort_args {β : Type} {c : β → List AV} {d : β} {e sz g : Nat} {xs : List β} {F : Nat → Prop} {w : World} {κ : Nat → Value} {vs : Array Value} (hv : RelVs ⟨F, w, κ, [oL true e sz c d xs]⟩ [.sref 0 e sz xs.length, .fn g []] vs.toList) :
    vs = #[κ 0, .func (.func g) #[] #[]] := by
  simp only [RelVs, RelV] at hv
  obtain ⟨v, l1, hvs, ⟨_, hv2⟩, fv, l2, hvs2, ⟨us, hfv, hus⟩, hnil⟩ := hv
  subst hnil hvs2
  have hv3 : v = κ 0 := hv2.2.2.2
  have hus' : us = #[] := Array.toList_inj.1 (by simpa using hus)
  subst hus'
  rw [hv3, hfv] at hvs
  exact Array.toList_inj.1 (by simpa using hvs)
theorem sort_cmp {β : Type} {P : Program} {g sz : Nat} {c : β → List AV} {cf : β → β → Int} {xs : List β} {F : Nat → Prop} {w W : World} (hFW : ∀ b, F b → W.heap[b]? = w.heap[b]?) (hlt : ∀ b, F b → b < W.heap.size) (x y : SE F w sz c xs) {args : List FV} {vs : Array Value} (κ : Nat → Value)
    (hspec : Spec P g args (.p (.int .i64 (cf x.1.2 y.1.2))) []) (hargs : RelVs ⟨F, W, κ, []⟩ args vs.toList) :
    Calls P g vs W fun e w' => e = .returned (.int .i64 (cf x.1.2 y.1.2)) ∧ ∃ q os', w' = grow (W.drewN q) os' := by
  refine (hspec W F κ vs hlt hargs).mono fun e w' ⟨v, F', κ', he, hI, hr⟩ => ?_
  simp only [RelV, Rep] at hr
  exact ⟨by rw [he, hr], grow_of_chg hI.chg⟩
theorem se_agg {β : Type} {sz : Nat} {c : β → List AV} (hc : ∀ x, (c x).length = sz) {xs : List β} {F : Nat → Prop} {w W : World} (hFW : ∀ b, F b → W.heap[b]? = w.heap[b]?) (x : SE F w sz c xs) (κ : Nat → Value) : RelV ⟨F, W, κ, []⟩ (.agg ((c x.1.2).map .p)) (.agg x.1.1.toArray) := by
  simp only [RelV]
  refine ⟨_, rfl, RelVs.of_get (by simp [hc, x.2.1]) fun i v hv hi => ?_⟩
  have hi' : i < sz := by rw [List.length_map, hc] at hi; exact hi
  obtain ⟨u, h1, h2⟩ := x.2.2.2.1 i hi'
  have : u = v := by
    have hv' : x.1.1[i]? = some v := by simpa using hv
    rw [h1] at hv'
    exact Option.some.inj hv'
  subst this
  have he : ((c x.1.2).map FV.p)[i] = .p ((c x.1.2).getD i .u) := by
    rw [List.getElem_map, List.getD_eq_getElem?_getD, List.getElem?_eq_getElem (by rw [hc]; exact hi')]
    rfl
  rw [he]
  simp only [RelV]
  exact Rep.mono (fun _ h => h) hFW _ _ h2
theorem swo_of {α β : Type} (p : α → β) {cf : β → β → Int} {xs : List β} (h : CmpOK cf xs) (hp : ∀ a, p a ∈ xs) : SWO (ltOf fun x y : α => cf (p x) (p y)) where
  irrefl x := by simpa [ltOf] using h.irrefl _ (hp x)
  trans x y z h1 h2 := by
    simp only [ltOf, decide_eq_true_eq] at *
    exact h.trans _ (hp x) _ (hp y) _ (hp z) h1 h2
  ntrans x y z h1 h2 := by
    simp only [ltOf, decide_eq_false_iff_not] at *
    exact h.ntrans _ (hp x) _ (hp y) _ (hp z) h1 h2
set_option maxHeartbeats 1000000 in
theorem sortK_specX {β : Type} {P : Program} {ρ : Ren} (L : SlLaysF0.n6 P ρ) {sz : Nat} (h0 : 0 < sz) (aE : ∀ w, (isAgg (ρ.t 24)).run P w = .ok true w) (zE : ∀ w, (Go.sizeOf (ρ.t 24)).run P w = .ok sz w) (e : TypeId) (c : β → List AV) (d : β) (hc : ∀ x, (c x).length = sz) {g : Nat}
    (eg : ∀ args w, (callFunc g args).run P w = .ok (.enter g args) w) (cf : β → β → Int) {xs ys : List β} (hspec : ∀ x ∈ xs, ∀ y ∈ xs, Spec P g [.agg ((c x).map .p), .agg ((c y).map .p)] (.p (.int .i64 (cf x y))) []) (hO : CmpOK cf xs) (hy : ys.Perm xs)
    (hs : ys.Pairwise fun a b => ¬ cf b a < 0) (hsz : xs.length < 4611686018427387904) :
    SpecX P (ρ.f 6) [.sref 0 e sz xs.length, .fn g []] [oL true e sz c d xs] [0] 0 (.sref 0 e sz ys.length) [oL true e sz c d ys] := by
  intro E w F κ vs hI hv
  obtain rfl := sort_args hv
  have hlen := hy.length_eq
  have hobj : RelO ⟨F, w, κ, [oL true e sz c d xs]⟩ (κ 0) (oL true e sz c d xs) := hI.objs 0
  obtain ⟨_, cells, hown, hrep, hone, hF⟩ := hobj
  rcases hown.2 with ⟨hk, hn⟩ | ⟨bk, cap, cur, hk, _, hb, hnc, hcm, hcs, ht⟩
  · have hx : xs = [] := List.eq_nil_of_length_eq_zero hn
    subst hx
    have hy' : ys = [] := List.eq_nil_of_length_eq_zero (by simpa using hlen)
    subst hy'
    have hcall := AnyF.slices_SortFunc_none L none 0 (.func (.func g) #[] #[]) w
    rw [hk]
    refine hcall.mono fun ex w' ⟨he, hw⟩ => ?_
    subst hw
    refine ⟨[], F, κ, rfl, he, hI, ?_⟩
    show RelV _ _ (.slice none 0 0)
    simp only [RelV]
    exact ⟨⟨none, 0, rfl, .inl rfl⟩, rfl, rfl, rfl, hk.symm⟩
  · obtain ⟨D, hD1, hD2⟩ := mk_elems (F := F) (w := w) (sz := sz) (c := c) d (xs := xs) xs cells (fun _ h => h) hown.1 hone hrep
    have hDl : D.length = xs.length := by have := congrArg List.length hD1; simpa using this
    have hmut : (look [oL true e sz c d xs] 0).mut = true := rfl
    have hblk : blk (κ 0) = some bk := by rw [hk]; rfl
    have hbF : ¬ F bk := hI.notF (i := 0) hmut bk hblk
    have hlt : bk < w.heap.size := (Array.getElem?_eq_some_iff.1 hb).1
    rcases hxn : xs with _ | ⟨x0, xs'⟩
    ·
      have hx : xs.length = 0 := by rw [hxn]; rfl
      subst hxn
      have hy' : ys = [] := List.eq_nil_of_length_eq_zero (by simpa using hlen)
      subst hy'
      have hcall := AnyF.slices_SortFunc_none L (some ⟨bk, 0, none⟩) cap (.func (.func g) #[] #[]) w
      rw [hk]
      refine hcall.mono fun ex w' ⟨he, hw⟩ => ?_
      subst hw
      refine ⟨[], F, κ, rfl, he, hI, ?_⟩
      show RelV _ _ (.slice (some ⟨bk, 0, none⟩) 0 cap)
      simp only [RelV]
      exact ⟨⟨_, _, rfl, .inr ⟨_, rfl⟩⟩, rfl, rfl, rfl, hk.symm⟩
    · skip
      have hx0 : 0 < xs.length := by rw [hxn]; simp
      haveI : Inhabited (SE F w sz c xs) := ⟨D[0]'(by omega)⟩
      have hk1 : ∀ x : SE F w sz c xs, (x.1.1).length = sz := fun x => x.2.1
      have hfl : flatK (fun x : SE F w sz c xs => x.1.1) sz D.toArray = cells.toArray := by rw [flatK_list hk1 h0]; rw [← hD2]
      have hcl : cells.length = xs.length * sz := hown.1
      have hH : HoldsK (fun x : SE F w sz c xs => x.1.1) sz w bk 0 D.toArray := by
        unfold HoldsK
        rw [hfl]
        intro j hj
        have hj' : j < cells.length := by simpa using hj
        have e1 : cells[j]? = cur[j]? := by
          rw [← ht, List.getElem?_take, if_pos (by omega)]
          simp
        have hb' : w.heap[bk]? = some (.cells cur e (0, 0)) := hb
        refine ⟨?_, by simp [World.frozen?, hb']⟩
        rw [Nat.zero_add, cell_of_row _ bk _ cur e (0, 0) hb', ← e1]
        simp [hj']
      have hcmp : CmpLays P g #[] (fun x : SE F w sz c xs => x.1.1) sz (fun x y => cf x.1.2 y.1.2) bk 0 D.toArray.size w := by
        intro m os dk hdk x y
        have hLd := laid_sortK (f := fun x : SE F w sz c xs => x.1.1) hk1 h0 hb (D := dk) (by rw [hdk, List.size_toArray, hDl, hcs]; exact Nat.mul_le_mul_right _ hnc) m os
        generalize sortWorldK (fun x : SE F w sz c xs => x.1.1) sz w bk 0 m dk os = W at hLd
        have hFW : ∀ b, F b → W.heap[b]? = w.heap[b]? := fun b hb' => hLd.other b (hI.lt b hb') (fun e => hbF (e ▸ hb'))
        refine sort_cmp hFW (fun b hb' => Nat.lt_of_lt_of_le (hI.lt b hb') hLd.size) x y κ (hspec _ x.2.2.2.2 _ y.2.2.2.2) ?_
        show RelVs _ _ [_, _]
        simp only [RelVs]
        exact ⟨_, _, rfl, se_agg hc hFW x κ, _, _, rfl, se_agg hc hFW y κ, rfl⟩
      have hcall := AnyQ.slices_SortFunc L sz aE zE (fun x : SE F w sz c xs => x.1.1) hk1 (fun x => x.2.2.1) (fun x y => cf x.1.2 y.1.2) (swo_of (fun x : SE F w sz c xs => x.1.2) hO (fun x => x.2.2.2.2)) g #[] bk 0 cap D.toArray w eg hcmp hH hlt (by rw [List.size_toArray, hDl]; exact hsz)
      rw [List.size_toArray, hDl] at hcall
      rw [hk]
      refine hcall.mono fun ex w' ⟨he, d', n, os, hp, hso, hw⟩ => ?_
      have hsize : d'.size = xs.length := by rw [hp.1, List.size_toArray, hDl]
      have hLd := laid_sortK (f := fun x : SE F w sz c xs => x.1.1) hk1 h0 hb (D := d') (by rw [hsize, hcs]; exact Nat.mul_le_mul_right _ hnc) n os
      rw [← hw] at hLd
      have hP : PermIn 0 D.toArray.size D.toArray d' := by rw [List.size_toArray, hDl]; exact hp
      have hS : SortedIn (ltOf fun x y : SE F w sz c xs => cf x.1.2 y.1.2) 0 D.toArray.size d' := by rw [List.size_toArray, hDl]; exact hso
      have hone' := sorted_one (fun x : SE F w sz c xs => x.1.2) cf (xs := xs) (ys := ys) hO.anti hy hs (D := D.toArray) (D' := d') (by simpa using hD1) hP hS
      obtain ⟨q1, q2⟩ := sort_end (w' := w') (D' := d'.toList) e c d h0 hI hk ⟨hnc, hcm, hcs⟩ hone' hlen hLd
      refine ⟨[], F, κ, rfl, he, q1, ?_⟩
      rw [← hk]
      exact q2
end Go.Proofs.YtjhnpaenhdbhpacV
set_option linter.unusedVariables false
set_option linter.unusedSimpArgs false
set_option linter.constructorNameAsVariable false
namespace Go.Proofs.YtjhnpaenhdbhpacV
open Go Go.RowKit
structure SortedBy {β : Type} (f : Nat → β → β → Option Int) (xs ys : List β) : Prop where mk ::
  h : ∃ cf : β → β → Int, (∀ x ∈ xs, ∀ y ∈ xs, ∃ k, f k x y = some (cf x y)) ∧ CmpOK cf xs ∧ ys.Perm xs ∧ (ys.Pairwise fun a b => ¬ cf b a < 0) ∧ xs.length < 4611686018427387904
noncomputable def sortC {β : Type} (f : Nat → β → β → Option Int) (xs : List β) : Option (List β) := @dite _ (∃ ys, SortedBy f xs ys) (Classical.propDecidable _) (fun h => some (Classical.choose h)) (fun _ => none)
theorem sortC_ok {β : Type} {f : Nat → β → β → Option Int} {xs ys : List β} (h : sortC f xs = some ys) : SortedBy f xs ys := by
  unfold sortC at h
  split at h
  · rename_i hh
    injection h with h
    rw [← h]
    exact Classical.choose_spec hh
  · cases h
theorem SortedBy.one {β : Type} {f : Nat → β → β → Option Int} (hm : ∀ x y k k' r, k ≤ k' → f k x y = some r → f k' x y = some r) {xs ys zs : List β} (h1 : SortedBy f xs ys) (h2 : SortedBy f xs zs) : ys = zs := by
  obtain ⟨⟨cf, a1, a2, a3, a4, _⟩⟩ := h1
  obtain ⟨⟨cg, b1, b2, b3, b4, _⟩⟩ := h2
  have e : ∀ x ∈ xs, ∀ y ∈ xs, cf x y = cg x y := fun x hx y hy => by
    obtain ⟨k, hk⟩ := a1 x hx y hy
    obtain ⟨k', hk'⟩ := b1 x hx y hy
    have g1 := hm x y k (max k k') _ (Nat.le_max_left _ _) hk
    have g2 := hm x y k' (max k k') _ (Nat.le_max_right _ _) hk'
    rw [g1] at g2
    exact Option.some.inj g2
  refine List.Perm.eq_of_pairwise (le := fun a b => ¬ cf b a < 0) (fun a b ha hb q1 q2 => a2.anti a (a3.mem_iff.1 ha) b (b3.mem_iff.1 hb) q1 q2) a4 ?_ (a3.trans b3.symm)
  rw [List.pairwise_iff_getElem] at b4 ⊢
  intro i j hi hj hij
  have := b4 i j hi hj hij
  rw [e _ (b3.mem_iff.1 (List.getElem_mem hj)) _ (b3.mem_iff.1 (List.getElem_mem hi))]
  exact this
theorem sortC_eq {β : Type} {f : Nat → β → β → Option Int} (hm : ∀ x y k k' r, k ≤ k' → f k x y = some r → f k' x y = some r) {xs ys : List β} (h : SortedBy f xs ys) : sortC f xs = some ys := by
  unfold sortC
  rw [dif_pos ⟨ys, h⟩]
  congr 1
  exact SortedBy.one hm (Classical.choose_spec _) h
theorem sortK_call {β : Type} {P : Program} {ρ : Go.Shelf.Ren} (L : SlLaysF0.n6 P ρ) {n : FuncId} (hn : ρ.f 6 = n) {sz : Nat} (h0 : 0 < sz) (aE : ∀ w, (isAgg (ρ.t 24)).run P w = .ok true w) (zE : ∀ w, (Go.sizeOf (ρ.t 24)).run P w = .ok sz w) (e : TypeId) (c : β → List AV) (d : β) (hc : ∀ x, (c x).length = sz) {g : Nat}
    (eg : ∀ args w, (callFunc g args).run P w = .ok (.enter g args) w) {f : Nat → β → β → Option Int} (hsp : ∀ k x y r, f k x y = some r → Spec P g [.agg ((c x).map .p), .agg ((c y).map .p)] (.p (.int .i64 r)) []) {xs ys : List β} (h : sortC f xs = some ys) :
    SpecX P n [.sref 0 e sz xs.length, .fn g []] [oL true e sz c d xs] [0] 0 (.sref 0 e sz ys.length) [oL true e sz c d ys] := by
  obtain ⟨⟨cf, h1, h2, h3, h4, h5⟩⟩ := sortC_ok h
  subst hn
  exact sortK_specX L h0 aE zE e c d hc eg cf (fun x hx y hy => by obtain ⟨k, hk⟩ := h1 x hx y hy; exact hsp k x y _ hk) h2 h3 h4 h5
end Go.Proofs.YtjhnpaenhdbhpacV
set_option maxRecDepth 100000
namespace Go.Proofs.YtjhnpaenhdbhpacV
open Go Go.RowKit Go.Shelf
def sl45_ren : Go.Shelf.Ren := ⟨fun | 6 => 45 | 15 => 51 | 14 => 60 | 28 => 70 | 29 => 71 | 20 => 77 | 21 => 78 | 22 => 79 | 23 => 80 | 24 => 81 | 25 => 82 | 26 => 83 | 27 => 84 | 46 => 90 | 47 => 86 | 48 => 87 | 49 => 91 | 50 => 92 | 57 => 94 | n => n, fun | 22 => 24 | 24 => 42 | 25 => 74 | 3 => 3 | 39 => 79 | 0 => 0 | 53 => 98 | 55 => 85 | 4 => 4 | 46 => 91 | 45 => 90 | 50 => 95 | 5 => 5 | 9 => 9 | 66 => 108 | 70 => 112 | 76 => 116 | 77 => 117 | n => n, fun n => n⟩
theorem sl45 : SlLaysF0.n6 Try.prog sl45_ren where
  mixed := by kernel_rfl
  f6 := ⟨"slices.SortFunc[[]erasure/api.Entry,erasure/api.Entry]", by decide, Try.func45.trans (congrArg some (by kernel_rfl))⟩
  f14 := ⟨"slices.pdqsortCmpFunc[erasure/api.Entry]", by decide, Try.func60.trans (congrArg some (by kernel_rfl))⟩
  f15 := Try.func51.trans (congrArg some (by kernel_rfl))
  f20 := ⟨"slices.insertionSortCmpFunc[erasure/api.Entry]", by decide, Try.func77.trans (congrArg some (by kernel_rfl))⟩
  f21 := ⟨"slices.heapSortCmpFunc[erasure/api.Entry]", by decide, Try.func78.trans (congrArg some (by kernel_rfl))⟩
  f22 := ⟨"slices.breakPatternsCmpFunc[erasure/api.Entry]", by decide, Try.func79.trans (congrArg some (by kernel_rfl))⟩
  f23 := ⟨"slices.choosePivotCmpFunc[erasure/api.Entry]", by decide, Try.func80.trans (congrArg some (by kernel_rfl))⟩
  f24 := ⟨"slices.reverseRangeCmpFunc[erasure/api.Entry]", by decide, Try.func81.trans (congrArg some (by kernel_rfl))⟩
  f25 := ⟨"slices.partialInsertionSortCmpFunc[erasure/api.Entry]", by decide, Try.func82.trans (congrArg some (by kernel_rfl))⟩
  f26 := ⟨"slices.partitionEqualCmpFunc[erasure/api.Entry]", by decide, Try.func83.trans (congrArg some (by kernel_rfl))⟩
  f27 := ⟨"slices.partitionCmpFunc[erasure/api.Entry]", by decide, Try.func84.trans (congrArg some (by kernel_rfl))⟩
  f28 := Try.func70.trans (congrArg some (by kernel_rfl))
  f29 := Try.func71.trans (congrArg some (by kernel_rfl))
  f46 := ⟨"slices.siftDownCmpFunc[erasure/api.Entry]", by decide, Try.func90.trans (congrArg some (by kernel_rfl))⟩
  f47 := Try.func86.trans (congrArg some (by kernel_rfl))
  f48 := Try.func87.trans (congrArg some (by kernel_rfl))
  f49 := ⟨"slices.medianAdjacentCmpFunc[erasure/api.Entry]", by decide, Try.func91.trans (congrArg some (by kernel_rfl))⟩
  f50 := ⟨"slices.medianCmpFunc[erasure/api.Entry]", by decide, Try.func92.trans (congrArg some (by kernel_rfl))⟩
  f57 := ⟨"slices.order2CmpFunc[erasure/api.Entry]", by decide, Try.func94.trans (congrArg some (by kernel_rfl))⟩
  t0 := Try.underlying0
  a0 := Try.isAgg0
  z0 := Try.sizeOf0
  v0 := Try.zeroValue0
  t3 := Try.underlying3
  a3 := Try.isAgg3
  z3 := Try.sizeOf3
  v3 := Try.zeroValue3
  t4 := Try.underlying4
  a4 := Try.isAgg4
  z4 := Try.sizeOf4
  v4 := Try.zeroValue4
  t5 := Try.underlying5
  a5 := Try.isAgg5
  z5 := Try.sizeOf5
  v5 := Try.zeroValue5
  t9 := Try.underlying9
  a9 := Try.isAgg9
  z9 := Try.sizeOf9
  v9 := Try.zeroValue9
  t22 := Try.underlying24
  a22 := Try.isAgg24
  z22 := Try.sizeOf24
  v22 := Try.zeroValue24
  t25 := Try.underlying74
  a25 := Try.isAgg74
  z25 := Try.sizeOf74
  v25 := Try.zeroValue74
  t39 := Try.underlying79
  a39 := Try.isAgg79
  z39 := Try.sizeOf79
  v39 := Try.zeroValue79
  t45 := Try.underlying90
  a45 := Try.isAgg90
  z45 := Try.sizeOf90
  v45 := Try.zeroValue90
  t46 := Try.underlying91
  a46 := Try.isAgg91
  z46 := Try.sizeOf91
  v46 := Try.zeroValue91
  t50 := Try.underlying95
  a50 := Try.isAgg95
  z50 := Try.sizeOf95
  v50 := Try.zeroValue95
  t53 := Try.underlying98
  a53 := Try.isAgg98
  z53 := Try.sizeOf98
  v53 := Try.zeroValue98
  t55 := Try.underlying85
  a55 := Try.isAgg85
  z55 := Try.sizeOf85
  v55 := Try.zeroValue85
  t66 := Try.underlying108
  a66 := Try.isAgg108
  z66 := Try.sizeOf108
  v66 := Try.zeroValue108
  t70 := Try.underlying112
  a70 := Try.isAgg112
  z70 := Try.sizeOf112
  v70 := Try.zeroValue112
  t76 := Try.underlying116
  a76 := Try.isAgg116
  z76 := Try.sizeOf116
  v76 := Try.zeroValue116
  t77 := Try.underlying117
  a77 := Try.isAgg117
  z77 := Try.sizeOf117
  v77 := Try.zeroValue117
end Go.Proofs.YtjhnpaenhdbhpacV
set_option linter.unusedVariables false
set_option linter.unusedSimpArgs false
set_option maxRecDepth 100000
namespace Go.Proofs.YtjhnpaenhdbhpacV
open Go Go.RowKit
noncomputable def bag_collect.p3 (rec2 : List Nat → Bool → (List TEntry) → (List Nat) → (Option Nat) → (List (ByteArray × Int)) → Option ((List TEntry) × Int)) (k : Nat) (ord : List Nat) (overflow8 : Bool) (out7 : (List TEntry)) (v30bs : (List Nat)) (v30bc : (Option Nat)) (o2b : (List (ByteArray × Int))) : Option ((List TEntry) × Int) := nxtW o2b.length v30bs ord (fun ord => if (decide (((out7).length : Int) > 4096)) = true then (some (([] : List TEntry), 8)) else (if overflow8 = true then (some (([] : List TEntry), 9)) else ((sortC (fun k x y => bag_collect_1 k x y) out7).bind fun y_17 => (some (y_17, 0))))) (fun ord iy_5 => if ((o2b.getD iy_5 ((⟨#[]⟩ : ByteArray), (0 : Int))).2 == 0) = true then (rec2 ord overflow8 out7 (v30bs ++ [iy_5]) (some iy_5) o2b) else ((value_DecodeRow k ((o2b.getD iy_5 ((⟨#[]⟩ : ByteArray), (0 : Int))).1)).bind fun y_9 => (if (out7).length + ([(TEntry.mk y_9.1 ((o2b.getD iy_5 ((⟨#[]⟩ : ByteArray), (0 : Int))).2))]).length ≤ maxLen ∧ ((out7).length + ([(TEntry.mk y_9.1 ((o2b.getD iy_5 ((⟨#[]⟩ : ByteArray), (0 : Int))).2))]).length) * 32 ≤ 140737488355328 then (if overflow8 = true then (rec2 ord true (out7 ++ ([(TEntry.mk y_9.1 ((o2b.getD iy_5 ((⟨#[]⟩ : ByteArray), (0 : Int))).2))])) (v30bs ++ [iy_5]) (some iy_5) o2b) else ((bag_countFits k ((o2b.getD iy_5 ((⟨#[]⟩ : ByteArray), (0 : Int))).2)).bind fun y_13 => (rec2 ord (!y_13) (out7 ++ ([(TEntry.mk y_9.1 ((o2b.getD iy_5 ((⟨#[]⟩ : ByteArray), (0 : Int))).2))])) (v30bs ++ [iy_5]) (some iy_5) o2b))) else none)))
noncomputable def bag_collect.p2  : Nat → List Nat → Bool → (List TEntry) → (List Nat) → (Option Nat) → (List (ByteArray × Int)) → Option ((List TEntry) × Int)
  | 0, _, _, _, _, _, _ => none
  | k + 1, ord, overflow8, out7, v30bs, v30bc, o2b => bag_collect.p3 (bag_collect.p2 k) k ord overflow8 out7 v30bs v30bc o2b
noncomputable def bag_collect.p1  : Nat → List Nat → (List TEntry) → Int → Int → (List (ByteArray × Int)) → Option ((List TEntry) × Int)
  | 0, _, _, _, _, _ => none
  | k + 1, ord, v14, v15, v16, sums4b => if (decide (v16 < v15)) = true then (if 0 ≤ v16 ∧ v16 < ((v14).length : Int) then ((value_EncodeRow k ((v14.getD v16.toNat dEntry).f0)).bind fun y_3 => (bag_collect.p1 k ord v14 v15 (IntKind.i64.wrap (v16 + 1)) (putM sums4b y_3 (IntKind.i64.wrap ((getM sums4b y_3 (0 : Int)) + (v14.getD v16.toNat dEntry).f1))))) else none) else (bag_collect.p2 k ord false ([] : List TEntry) ([]) none sums4b)
noncomputable def bag_collect_w  (k : Nat) (ord : List Nat) (l0 : (List TEntry)) : Option ((List TEntry) × Int) := bag_collect.p1 k ord l0 ((l0).length : Int) 0 ([] : (List (ByteArray × Int)))
noncomputable def bag_collect_w.t : List Item := [.code (bodyOf Try.f23)]
noncomputable def bag_collect_w.s (l0 : (List TEntry)) : St := ⟨frOf Try.f23.ntmps 0 [(0, .p (eL 2 cEntry dEntry l0))], []⟩
noncomputable def bag_collect.p1.t : List Item := nav 9 [] bag_collect_w.t
noncomputable def bag_collect.p1.s (v14 : (List TEntry)) (v15 : Int) (v16 : Int) (sums4b : (List (ByteArray × Int))) : St := ⟨frOf Try.f23.ntmps 0 [(4, .mref 0 0), (14, .p (eL 2 cEntry dEntry v14)), (15, .p (.int .i64 v15)), (16, .p (.int .i64 v16))], [.reg (.map (mE pvS (pvI .i64) sums4b))]⟩
noncomputable def bag_collect.p2.t : List Item := nav 14 [false] bag_collect.p1.t
noncomputable def bag_collect.p2.s (overflow8 : Bool) (out7 : (List TEntry)) (v30bs : (List Nat)) (v30bc : (Option Nat)) (o2b : (List (ByteArray × Int))) : St := ⟨frOf Try.f23.ntmps 0 [(7, .sref 0 42 2 (out7).length), (8, .p (.bool overflow8)), (30, .mref 1 2)], [(oL true 42 2 cEntry dEntry out7), .reg (.iter 2 ((mE pvS (pvI .i64) o2b).length) v30bs v30bc), .reg (.map (mE pvS (pvI .i64) o2b))]⟩
noncomputable def bag_collect.p3.t : List Item := nav 1 [] bag_collect.p2.t
noncomputable def bag_collect.p3.s (overflow8 : Bool) (out7 : (List TEntry)) (v30bs : (List Nat)) (v30bc : (Option Nat)) (o2b : (List (ByteArray × Int))) : St := ⟨frOf Try.f23.ntmps 0 [(7, .sref 0 42 2 (out7).length), (8, .p (.bool overflow8)), (30, .mref 1 2)], [(oL true 42 2 cEntry dEntry out7), .reg (.iter 2 ((mE pvS (pvI .i64) o2b).length) v30bs v30bc), .reg (.map (mE pvS (pvI .i64) o2b))]⟩
theorem bag_collect.p3.run {rec2 : List Nat → Bool → (List TEntry) → (List Nat) → (Option Nat) → (List (ByteArray × Int)) → Option ((List TEntry) × Int)} (hrec2 : ∀ (overflow8 : Bool) (out7 : (List TEntry)) (v30bs : (List Nat)) (v30bc : (Option Nat)) (o2b : (List (ByteArray × Int))) r, (∀ ord, rec2 ord overflow8 out7 v30bs v30bc o2b = some r) → RunN Try.prog Try.f23 bag_collect.p2.t (bag_collect.p2.s overflow8 out7 v30bs v30bc o2b) (.tup [.sref 0 42 2 (r.1).length, .p (.int .i64 r.2)]) [(oL true 42 2 cEntry dEntry (r.1))]) {k : Nat} {overflow8 : Bool} {out7 : (List TEntry)} {v30bs : (List Nat)} {v30bc : (Option Nat)} {o2b : (List (ByteArray × Int))} {r : ((List TEntry) × Int)} (h : (∀ ord, bag_collect.p3 rec2 k ord overflow8 out7 v30bs v30bc o2b = some r)) : RunN Try.prog Try.f23 bag_collect.p3.t (bag_collect.p3.s overflow8 out7 v30bs v30bc o2b) (.tup [.sref 0 42 2 (r.1).length, .p (.int .i64 r.2)]) [(oL true 42 2 cEntry dEntry (r.1))] := by
  unfold bag_collect.p3 at h
  refine RunN.nxt (k := nav 1 [] bag_collect.p3.t) (a := 31) (b := 32) (id := 1) (m := 2) (n := (mE pvS (pvI .i64) o2b).length) (seen := v30bs) (es := (mE pvS (pvI .i64) o2b)) (by kernel_rfl) rfl (fun iy_5 g_6 e_7 => ?_) (fun hall => ?_)
  · replace g_6 : iy_5 < o2b.length := by rw [len_mE] at g_6; exact g_6
    replace h := nxtW_each h g_6 e_7
    rcases iteW_or h with ⟨g_8, h⟩ | ⟨g_8, h⟩
    · exact RunN.go [.n 5, .r [(0, .fv (.tup [.p (.str ((o2b.getD iy_5 ((⟨#[]⟩ : ByteArray), (0 : Int))).1)), .p (.int .i64 ((o2b.getD iy_5 ((⟨#[]⟩ : ByteArray), (0 : Int))).2))]))], .n 2, .r [(1, .dec true)], .n 3, .k [7, 8, 30]] (by kernel_rfl) (Obs.of (by kernel_rfl) (And.intro (le_ent (p := pvS) (q := (pvI .i64)) o2b iy_5 ((⟨#[]⟩ : ByteArray), (0 : Int)) g_6) g_8)) (hrec2 _ _ _ _ _ r h)
    · obtain ⟨y_9, e_10, h⟩ := bindW_or h
      obtain ⟨g_11, h⟩ := iteW_some h
      rcases iteW_or h with ⟨g_12, h⟩ | ⟨g_12, h⟩
      · exact RunN.go [.n 5, .r [(0, .fv (.tup [.p (.str ((o2b.getD iy_5 ((⟨#[]⟩ : ByteArray), (0 : Int))).1)), .p (.int .i64 ((o2b.getD iy_5 ((⟨#[]⟩ : ByteArray), (0 : Int))).2))]))], .n 2, .r [(1, .dec false)], .n 3, .r [(1, .call (.tup [.sref 0 44 3 (y_9.1).length, .p (.int .i64 y_9.2)]) [(oL true 44 3 cValue dValue y_9.1)])], .n 1, .r [(4, .obj (oL true 42 2 cEntry dEntry [(TEntry.mk y_9.1 ((o2b.getD iy_5 ((⟨#[]⟩ : ByteArray), (0 : Int))).2))])), (5, .obj (oL true 42 2 cEntry dEntry (out7 ++ ([(TEntry.mk y_9.1 ((o2b.getD iy_5 ((⟨#[]⟩ : ByteArray), (0 : Int))).2))]))))], .r [(1, .dec true)], .n 2, .k [7, 8, 30]] (by kernel_rfl) (Obs.of (by kernel_rfl) (And.intro (le_ent (p := pvS) (q := (pvI .i64)) o2b iy_5 ((⟨#[]⟩ : ByteArray), (0 : Int)) g_6) (And.intro (nt g_8) (And.intro (value_DecodeRow.spec e_10) (And.intro (le_one 42 2 cEntry dEntry (TEntry.mk y_9.1 ((o2b.getD iy_5 ((⟨#[]⟩ : ByteArray), (0 : Int))).2))) (And.intro (And.intro g_11 (le_app 42 2 cEntry dEntry out7 ([(TEntry.mk y_9.1 ((o2b.getD iy_5 ((⟨#[]⟩ : ByteArray), (0 : Int))).2))]))) g_12)))))) (hrec2 _ _ _ _ _ r h)
      · obtain ⟨y_13, e_14, h⟩ := bindW_or h
        exact RunN.go [.n 5, .r [(0, .fv (.tup [.p (.str ((o2b.getD iy_5 ((⟨#[]⟩ : ByteArray), (0 : Int))).1)), .p (.int .i64 ((o2b.getD iy_5 ((⟨#[]⟩ : ByteArray), (0 : Int))).2))]))], .n 2, .r [(1, .dec false)], .n 3, .r [(1, .call (.tup [.sref 0 44 3 (y_9.1).length, .p (.int .i64 y_9.2)]) [(oL true 44 3 cValue dValue y_9.1)])], .n 1, .r [(4, .obj (oL true 42 2 cEntry dEntry [(TEntry.mk y_9.1 ((o2b.getD iy_5 ((⟨#[]⟩ : ByteArray), (0 : Int))).2))])), (5, .obj (oL true 42 2 cEntry dEntry (out7 ++ ([(TEntry.mk y_9.1 ((o2b.getD iy_5 ((⟨#[]⟩ : ByteArray), (0 : Int))).2))]))))], .r [(1, .dec false), (3, .call (.p (.bool y_13)) [])], .n 2, .k [7, 8, 30]] (by kernel_rfl) (Obs.of (by kernel_rfl) (And.intro (le_ent (p := pvS) (q := (pvI .i64)) o2b iy_5 ((⟨#[]⟩ : ByteArray), (0 : Int)) g_6) (And.intro (nt g_8) (And.intro (value_DecodeRow.spec e_10) (And.intro (le_one 42 2 cEntry dEntry (TEntry.mk y_9.1 ((o2b.getD iy_5 ((⟨#[]⟩ : ByteArray), (0 : Int))).2))) (And.intro (And.intro g_11 (le_app 42 2 cEntry dEntry out7 ([(TEntry.mk y_9.1 ((o2b.getD iy_5 ((⟨#[]⟩ : ByteArray), (0 : Int))).2))]))) (And.intro (nt g_12) (bag_countFits.spec e_14)))))))) (hrec2 _ _ _ _ _ r h)
  · replace h := nxtW_over h (fun i hi => hall i (by rw [len_mE]; exact hi))
    rcases iteW_or h with ⟨g_15, h⟩ | ⟨g_15, h⟩
    · obtain rfl := Option.some.inj (h [])
      exact .out (RunC.out [.n 6, .r [(3, .dec true)], .n 2, .r [(0, .obj (oL true 42 2 cEntry dEntry ([] : List TEntry)))]] (by kernel_rfl) (Obs.of (by kernel_rfl) (And.intro g_15 (le_nil 42 2 cEntry dEntry))))
    · rcases iteW_or h with ⟨g_16, h⟩ | ⟨g_16, h⟩
      · obtain rfl := Option.some.inj (h [])
        exact .out (RunC.out [.n 6, .r [(3, .dec false)], .n 2, .r [(1, .dec true)], .n 2, .r [(0, .obj (oL true 42 2 cEntry dEntry ([] : List TEntry)))]] (by kernel_rfl) (Obs.of (by kernel_rfl) (And.intro (nt g_15) (And.intro g_16 (le_nil 42 2 cEntry dEntry)))))
      · obtain ⟨y_17, e_18, h⟩ := bindW_or h
        obtain rfl := Option.some.inj (h [])
        exact .out (RunC.out [.n 6, .r [(3, .dec false)], .n 2, .r [(1, .dec false)], .n 4, .r [(1, .callX [0] [0] (.sref 0 42 2 (y_17).length) [(oL true 42 2 cEntry dEntry y_17)])], .n 2] (by kernel_rfl) (Obs.of (by kernel_rfl) (And.intro (nt g_15) (And.intro (nt g_16) (sortK_call sl45 rfl (by decide) Try.isAgg42 Try.sizeOf42 42 cEntry dEntry (fun _ => rfl) (enters_of Try.func46 (by kernel_rfl) rfl) (fun k x y r h => bag_collect_1.spec h) e_18)))))
theorem bag_collect.p2.run   : ∀ (k : Nat) (overflow8 : Bool) (out7 : (List TEntry)) (v30bs : (List Nat)) (v30bc : (Option Nat)) (o2b : (List (ByteArray × Int))) (r : ((List TEntry) × Int)), (∀ ord, bag_collect.p2 k ord overflow8 out7 v30bs v30bc o2b = some r) → RunN Try.prog Try.f23 bag_collect.p2.t (bag_collect.p2.s overflow8 out7 v30bs v30bc o2b) (.tup [.sref 0 42 2 (r.1).length, .p (.int .i64 r.2)]) [(oL true 42 2 cEntry dEntry (r.1))] := by
  intro k
  induction k with
  | zero => intro overflow8 out7 v30bs v30bc o2b r h; have h1 := h []; simp [bag_collect.p2] at h1
  | succ k ih =>
    intro overflow8 out7 v30bs v30bc o2b r h
    simp only [bag_collect.p2] at h
    exact RunN.go [.n 1, .k [7, 8, 30]] (by kernel_rfl) (Obs.tt (by kernel_rfl)) (bag_collect.p3.run ih h)
theorem bag_collect.p1.run   : ∀ (k : Nat) (v14 : (List TEntry)) (v15 : Int) (v16 : Int) (sums4b : (List (ByteArray × Int))) (r : ((List TEntry) × Int)), (∀ ord, bag_collect.p1 k ord v14 v15 v16 sums4b = some r) → RunN Try.prog Try.f23 bag_collect.p1.t (bag_collect.p1.s v14 v15 v16 sums4b) (.tup [.sref 0 42 2 (r.1).length, .p (.int .i64 r.2)]) [(oL true 42 2 cEntry dEntry (r.1))] := by
  intro k
  induction k with
  | zero => intro v14 v15 v16 sums4b r h; have h1 := h []; simp [bag_collect.p1] at h1
  | succ k ih =>
    intro v14 v15 v16 sums4b r h
    simp only [bag_collect.p1] at h
    rcases iteW_or h with ⟨g_1, h⟩ | ⟨g_1, h⟩
    · obtain ⟨g_2, h⟩ := iteW_some h
      obtain ⟨y_3, e_4, h⟩ := bindW_or h
      exact RunN.go [.n 1, .r [(0, .dec true)], .n 7, .r [(3, .call (.p (.str y_3)) []), (4, .fv (.p (.int .i64 (getM sums4b y_3 (0 : Int))))), (8, .mp (mE pvS (pvI .i64) (putM sums4b y_3 (IntKind.i64.wrap ((getM sums4b y_3 (0 : Int)) + (v14.getD v16.toNat dEntry).f1)))))], .n 3, .k [4, 14, 15, 16]] (by kernel_rfl) (Obs.of (by kernel_rfl) (And.intro g_1 (And.intro g_2 (And.intro (value_EncodeRow.spec e_4) (And.intro (le_get (P := Try.prog) (kt := 9) (q := (pvI .i64)) inj_S (fun _ => by kernel_rfl) y_3 (0 : Int) sums4b) (le_put (P := Try.prog) (kt := 9) (q := (pvI .i64)) inj_S (fun _ => by kernel_rfl) y_3 (IntKind.i64.wrap ((getM sums4b y_3 (0 : Int)) + (v14.getD v16.toNat dEntry).f1)) sums4b)))))) (ih _ _ _ _ r h)
    · exact RunN.go [.n 1, .r [(0, .dec false)], .n 4, .r [(0, .obj (oL true 42 2 cEntry dEntry ([] : List TEntry)))], .n 7, .k [7, 8, 30]] (by kernel_rfl) (Obs.of (by kernel_rfl) (And.intro (nt g_1) (le_nil 42 2 cEntry dEntry))) (bag_collect.p2.run k _ _ _ _ _ r h)
theorem bag_collect_w.run   {k : Nat} {l0 : (List TEntry)} {r : ((List TEntry) × Int)} (h : (∀ ord, bag_collect_w k ord l0 = some r)) : RunN Try.prog Try.f23 bag_collect_w.t (bag_collect_w.s l0) (.tup [.sref 0 42 2 (r.1).length, .p (.int .i64 r.2)]) [(oL true 42 2 cEntry dEntry (r.1))] := by
  unfold bag_collect_w at h
  exact RunN.go [.n 1, .r [(0, .obj (oL true 42 2 cEntry dEntry ([] : List TEntry)))], .n 1, .r [(0, .mp (mE pvS (pvI .i64) ([] : (List (ByteArray × Int)))))], .n 5, .k [4, 14, 15, 16]] (by kernel_rfl) (Obs.of (by kernel_rfl) (And.intro (le_nil 42 2 cEntry dEntry) (le_mnil pvS (pvI .i64)))) (bag_collect.p1.run k _ _ _ _ r h)
theorem bag_collect.p3.mono {rec2 rec2' : List Nat → Bool → (List TEntry) → (List Nat) → (Option Nat) → (List (ByteArray × Int)) → Option ((List TEntry) × Int)} (hm2 : ∀ (ord : List Nat) (overflow8 : Bool) (out7 : (List TEntry)) (v30bs : (List Nat)) (v30bc : (Option Nat)) (o2b : (List (ByteArray × Int))) r, rec2 ord overflow8 out7 v30bs v30bc o2b = some r → rec2' ord overflow8 out7 v30bs v30bc o2b = some r) : ∀ (k k' : Nat) (ord : List Nat) (overflow8 : Bool) (out7 : (List TEntry)) (v30bs : (List Nat)) (v30bc : (Option Nat)) (o2b : (List (ByteArray × Int))) (r : ((List TEntry) × Int)), k ≤ k' → bag_collect.p3 rec2 k ord overflow8 out7 v30bs v30bc o2b = some r → bag_collect.p3 rec2' k' ord overflow8 out7 v30bs v30bc o2b = some r := by
  intro k k' ord overflow8 out7 v30bs v30bc o2b r hk h
  unfold bag_collect.p3 at h ⊢
  refine nxtW_mono (fun ord h => ?_) (fun ord iy_5 h => ?_) h
  · rcases ite_or h with ⟨g_15, h⟩ | ⟨g_15, h⟩
    · refine itp g_15 ?_
      exact h
    · refine itn g_15 ?_
      rcases ite_or h with ⟨g_16, h⟩ | ⟨g_16, h⟩
      · refine itp g_16 ?_
        exact h
      · refine itn g_16 ?_
        obtain ⟨y_17, e_18, h⟩ := bind_or h
        refine bnd e_18 ?_
        exact h
  · rcases ite_or h with ⟨g_8, h⟩ | ⟨g_8, h⟩
    · refine itp g_8 ?_
      exact hm2 _ _ _ _ _ _ r h
    · refine itn g_8 ?_
      obtain ⟨y_9, e_10, h⟩ := bind_or h
      refine bnd (value_DecodeRow.mono _ _ _ _ hk e_10) ?_
      obtain ⟨g_11, h⟩ := ite_some h
      refine itp g_11 ?_
      rcases ite_or h with ⟨g_12, h⟩ | ⟨g_12, h⟩
      · refine itp g_12 ?_
        exact hm2 _ _ _ _ _ _ r h
      · refine itn g_12 ?_
        obtain ⟨y_13, e_14, h⟩ := bind_or h
        refine bnd (bag_countFits.mono _ _ _ _ hk e_14) ?_
        exact hm2 _ _ _ _ _ _ r h
theorem bag_collect.p2.mono   : ∀ (k k' : Nat) (ord : List Nat) (overflow8 : Bool) (out7 : (List TEntry)) (v30bs : (List Nat)) (v30bc : (Option Nat)) (o2b : (List (ByteArray × Int))) (r : ((List TEntry) × Int)), k ≤ k' → bag_collect.p2 k ord overflow8 out7 v30bs v30bc o2b = some r → bag_collect.p2 k' ord overflow8 out7 v30bs v30bc o2b = some r := by
  intro k
  induction k with
  | zero => intro k' ord overflow8 out7 v30bs v30bc o2b r hk h; simp [bag_collect.p2] at h
  | succ k ih =>
    intro k' ord overflow8 out7 v30bs v30bc o2b r hk h
    obtain ⟨k', rfl⟩ : ∃ m, k' = m + 1 := ⟨k' - 1, by omega⟩
    replace hk := Nat.le_of_succ_le_succ hk
    rw [bag_collect.p2] at h ⊢
    exact bag_collect.p3.mono (fun x0 x1 x2 x3 x4 x5 r h => ih _ x0 x1 x2 x3 x4 x5 r hk h) _ _ _ _ _ _ _ _ r hk h
theorem bag_collect.p1.mono   : ∀ (k k' : Nat) (ord : List Nat) (v14 : (List TEntry)) (v15 : Int) (v16 : Int) (sums4b : (List (ByteArray × Int))) (r : ((List TEntry) × Int)), k ≤ k' → bag_collect.p1 k ord v14 v15 v16 sums4b = some r → bag_collect.p1 k' ord v14 v15 v16 sums4b = some r := by
  intro k
  induction k with
  | zero => intro k' ord v14 v15 v16 sums4b r hk h; simp [bag_collect.p1] at h
  | succ k ih =>
    intro k' ord v14 v15 v16 sums4b r hk h
    obtain ⟨k', rfl⟩ : ∃ m, k' = m + 1 := ⟨k' - 1, by omega⟩
    replace hk := Nat.le_of_succ_le_succ hk
    rw [bag_collect.p1] at h ⊢
    rcases ite_or h with ⟨g_1, h⟩ | ⟨g_1, h⟩
    · refine itp g_1 ?_
      obtain ⟨g_2, h⟩ := ite_some h
      refine itp g_2 ?_
      obtain ⟨y_3, e_4, h⟩ := bind_or h
      refine bnd (value_EncodeRow.mono _ _ _ _ hk e_4) ?_
      exact ih _ _ _ _ _ _ r hk h
    · refine itn g_1 ?_
      exact bag_collect.p2.mono _ _ _ _ _ _ _ _ r hk h
theorem bag_collect_w.mono   : ∀ (k k' : Nat) (ord : List Nat) (l0 : (List TEntry)) (r : ((List TEntry) × Int)), k ≤ k' → bag_collect_w k ord l0 = some r → bag_collect_w k' ord l0 = some r := by
  intro k k' ord l0 r hk h
  unfold bag_collect_w at h ⊢
  exact bag_collect.p1.mono _ _ _ _ _ _ _ r hk h
noncomputable def bag_collect (k : Nat) (l0 : (List TEntry)) : Option ((List TEntry) × Int) := allW fun ord => bag_collect_w k ord l0
theorem bag_collect.mono : ∀ (k k' : Nat) (l0 : (List TEntry)) (r : ((List TEntry) × Int)), k ≤ k' → bag_collect k l0 = some r → bag_collect k' l0 = some r := by
  intro k k' l0 r hk h
  exact allW_mono (fun ord r h => bag_collect_w.mono k k' ord l0 r hk h) h
theorem bag_collect.spec {k : Nat} {l0 : (List TEntry)} {r : ((List TEntry) × Int)} (h : bag_collect k l0 = some r) : Spec Try.prog 23 [.p (eL 2 cEntry dEntry l0)] (.tup [.sref 0 42 2 (r.1).length, .p (.int .i64 r.2)]) [(oL true 42 2 cEntry dEntry (r.1))] :=
  spec_ofN mix Try.func23 (body := bodyOf Try.f23) (by kernel_rfl) (by kernel_rfl) (bag_collect_w.run (allW_spec h))
end Go.Proofs.YtjhnpaenhdbhpacV
set_option linter.unusedVariables false
set_option linter.unusedSimpArgs false
set_option maxRecDepth 100000
namespace Go.Proofs.YtjhnpaenhdbhpacV
open Go Go.RowKit
noncomputable def bag_Subtract.p1  : Nat → (List TEntry) → Int → Int → (List TEntry) → Option ((List TEntry) × Int)
  | 0, _, _, _, _ => none
  | k + 1, v19, v20, v21, l6 => if (decide (v21 < v20)) = true then (if 0 ≤ v21 ∧ v21 < ((v19).length : Int) then (if (l6).length + ([(TEntry.mk ((v19.getD v21.toNat dEntry).f0) (IntKind.i64.wrap (0 - (v19.getD v21.toNat dEntry).f1)))]).length ≤ maxLen ∧ ((l6).length + ([(TEntry.mk ((v19.getD v21.toNat dEntry).f0) (IntKind.i64.wrap (0 - (v19.getD v21.toNat dEntry).f1)))]).length) * 32 ≤ 140737488355328 then (bag_Subtract.p1 k v19 v20 (IntKind.i64.wrap (v21 + 1)) (l6 ++ ([(TEntry.mk ((v19.getD v21.toNat dEntry).f0) (IntKind.i64.wrap (0 - (v19.getD v21.toNat dEntry).f1)))]))) else none) else none) else ((bag_collect k l6).bind fun y_12 => (some (y_12.1, y_12.2)))
noncomputable def bag_Subtract  (k : Nat) (a0 : (List TEntry)) (b1 : (List TEntry)) : Option ((List TEntry) × Int) := (bag_Valid k a0).bind fun y_1 => (if (!y_1) = true then (some (([] : List TEntry), 1)) else ((bag_Valid k b1).bind fun y_4 => (if (!y_4) = true then (some (([] : List TEntry), 1)) else ((slices_Clone_api_Entry k a0).bind fun y_7 => (bag_Subtract.p1 k b1 ((b1).length : Int) 0 y_7)))))
noncomputable def bag_Subtract.t : List Item := [.code (bodyOf Try.f8)]
noncomputable def bag_Subtract.s (a0 : (List TEntry)) (b1 : (List TEntry)) : St := ⟨frOf Try.f8.ntmps 0 [(0, .p (eL 2 cEntry dEntry a0)), (1, .p (eL 2 cEntry dEntry b1))], []⟩
noncomputable def bag_Subtract.p1.t : List Item := nav 14 [false] bag_Subtract.t
noncomputable def bag_Subtract.p1.s (v19 : (List TEntry)) (v20 : Int) (v21 : Int) (l6 : (List TEntry)) : St := ⟨frOf Try.f8.ntmps 0 [(6, .sref 0 42 2 (l6).length), (19, .p (eL 2 cEntry dEntry v19)), (20, .p (.int .i64 v20)), (21, .p (.int .i64 v21))], [(oL true 42 2 cEntry dEntry l6)]⟩
theorem bag_Subtract.p1.run   : ∀ (k : Nat) (v19 : (List TEntry)) (v20 : Int) (v21 : Int) (l6 : (List TEntry)) (r : ((List TEntry) × Int)), bag_Subtract.p1 k v19 v20 v21 l6 = some r → RunC Try.prog Try.f8 bag_Subtract.p1.t (bag_Subtract.p1.s v19 v20 v21 l6) (.tup [.sref 0 42 2 (r.1).length, .p (.int .i64 r.2)]) [(oL true 42 2 cEntry dEntry (r.1))] := by
  intro k
  induction k with
  | zero => intro v19 v20 v21 l6 r h; simp [bag_Subtract.p1] at h
  | succ k ih =>
    intro v19 v20 v21 l6 r h
    rw [bag_Subtract.p1] at h
    rcases ite_or h with ⟨g_9, h⟩ | ⟨g_9, h⟩
    · obtain ⟨g_10, h⟩ := ite_some h
      obtain ⟨g_11, h⟩ := ite_some h
      exact RunC.go [.n 1, .r [(0, .dec true)], .n 7, .r [(7, .obj (oL true 42 2 cEntry dEntry [(TEntry.mk ((v19.getD v21.toNat dEntry).f0) (IntKind.i64.wrap (0 - (v19.getD v21.toNat dEntry).f1)))])), (8, .obj (oL true 42 2 cEntry dEntry (l6 ++ ([(TEntry.mk ((v19.getD v21.toNat dEntry).f0) (IntKind.i64.wrap (0 - (v19.getD v21.toNat dEntry).f1)))]))))], .n 3, .k [6, 19, 20, 21]] (by kernel_rfl) (Obs.of (by kernel_rfl) (And.intro g_9 (And.intro g_10 (And.intro (le_one 42 2 cEntry dEntry (TEntry.mk ((v19.getD v21.toNat dEntry).f0) (IntKind.i64.wrap (0 - (v19.getD v21.toNat dEntry).f1)))) (And.intro g_11 (le_app 42 2 cEntry dEntry l6 ([(TEntry.mk ((v19.getD v21.toNat dEntry).f0) (IntKind.i64.wrap (0 - (v19.getD v21.toNat dEntry).f1)))]))))))) (ih _ _ _ _ r h)
    · obtain ⟨y_12, e_13, h⟩ := bind_or h
      obtain rfl := Option.some.inj h
      exact RunC.out [.n 1, .r [(0, .dec false)], .n 4, .r [(1, .call (.tup [.sref 0 42 2 (y_12.1).length, .p (.int .i64 y_12.2)]) [(oL true 42 2 cEntry dEntry y_12.1)])]] (by kernel_rfl) (Obs.of (by kernel_rfl) (And.intro (nt g_9) (bag_collect.spec e_13)))
theorem bag_Subtract.run   {k : Nat} {a0 : (List TEntry)} {b1 : (List TEntry)} {r : ((List TEntry) × Int)} (h : bag_Subtract k a0 b1 = some r) : RunC Try.prog Try.f8 bag_Subtract.t (bag_Subtract.s a0 b1) (.tup [.sref 0 42 2 (r.1).length, .p (.int .i64 r.2)]) [(oL true 42 2 cEntry dEntry (r.1))] := by
  unfold bag_Subtract at h
  obtain ⟨y_1, e_2, h⟩ := bind_or h
  rcases ite_or h with ⟨g_3, h⟩ | ⟨g_3, h⟩
  · obtain rfl := Option.some.inj h
    exact RunC.out [.n 1, .r [(0, .obj (oL true 42 2 cEntry dEntry ([] : List TEntry)))], .n 2, .r [(1, .call (.p (.bool y_1)) []), (3, .dec true)], .n 2, .r [(0, .obj (oL true 42 2 cEntry dEntry ([] : List TEntry)))]] (by kernel_rfl) (Obs.of (by kernel_rfl) (And.intro (le_nil 42 2 cEntry dEntry) (And.intro (bag_Valid.spec e_2) (And.intro g_3 (le_nil 42 2 cEntry dEntry)))))
  · obtain ⟨y_4, e_5, h⟩ := bind_or h
    rcases ite_or h with ⟨g_6, h⟩ | ⟨g_6, h⟩
    · obtain rfl := Option.some.inj h
      exact RunC.out [.n 1, .r [(0, .obj (oL true 42 2 cEntry dEntry ([] : List TEntry)))], .n 2, .r [(1, .call (.p (.bool y_1)) []), (3, .dec false), (5, .call (.p (.bool y_4)) []), (7, .dec true)], .n 2, .r [(0, .obj (oL true 42 2 cEntry dEntry ([] : List TEntry)))]] (by kernel_rfl) (Obs.of (by kernel_rfl) (And.intro (le_nil 42 2 cEntry dEntry) (And.intro (bag_Valid.spec e_2) (And.intro (nt g_3) (And.intro (bag_Valid.spec e_5) (And.intro g_6 (le_nil 42 2 cEntry dEntry)))))))
    · obtain ⟨y_7, e_8, h⟩ := bind_or h
      exact RunC.go [.n 1, .r [(0, .obj (oL true 42 2 cEntry dEntry ([] : List TEntry)))], .n 2, .r [(1, .call (.p (.bool y_1)) []), (3, .dec false), (5, .call (.p (.bool y_4)) []), (7, .dec false)], .n 3, .r [(1, .call (.sref 0 42 2 (y_7).length) [(oL true 42 2 cEntry dEntry y_7)])], .n 5, .k [6, 19, 20, 21]] (by kernel_rfl) (Obs.of (by kernel_rfl) (And.intro (le_nil 42 2 cEntry dEntry) (And.intro (bag_Valid.spec e_2) (And.intro (nt g_3) (And.intro (bag_Valid.spec e_5) (And.intro (nt g_6) (slices_Clone_api_Entry.spec e_8))))))) (bag_Subtract.p1.run k _ _ _ _ r h)
theorem bag_Subtract.p1.mono   : ∀ (k k' : Nat) (v19 : (List TEntry)) (v20 : Int) (v21 : Int) (l6 : (List TEntry)) (r : ((List TEntry) × Int)), k ≤ k' → bag_Subtract.p1 k v19 v20 v21 l6 = some r → bag_Subtract.p1 k' v19 v20 v21 l6 = some r := by
  intro k
  induction k with
  | zero => intro k' v19 v20 v21 l6 r hk h; simp [bag_Subtract.p1] at h
  | succ k ih =>
    intro k' v19 v20 v21 l6 r hk h
    obtain ⟨k', rfl⟩ : ∃ m, k' = m + 1 := ⟨k' - 1, by omega⟩
    replace hk := Nat.le_of_succ_le_succ hk
    rw [bag_Subtract.p1] at h ⊢
    rcases ite_or h with ⟨g_9, h⟩ | ⟨g_9, h⟩
    · refine itp g_9 ?_
      obtain ⟨g_10, h⟩ := ite_some h
      refine itp g_10 ?_
      obtain ⟨g_11, h⟩ := ite_some h
      refine itp g_11 ?_
      exact ih _ _ _ _ _ r hk h
    · refine itn g_9 ?_
      obtain ⟨y_12, e_13, h⟩ := bind_or h
      refine bnd (bag_collect.mono _ _ _ _ hk e_13) ?_
      exact h
theorem bag_Subtract.mono   : ∀ (k k' : Nat) (a0 : (List TEntry)) (b1 : (List TEntry)) (r : ((List TEntry) × Int)), k ≤ k' → bag_Subtract k a0 b1 = some r → bag_Subtract k' a0 b1 = some r := by
  intro k k' a0 b1 r hk h
  unfold bag_Subtract at h ⊢
  obtain ⟨y_1, e_2, h⟩ := bind_or h
  refine bnd (bag_Valid.mono _ _ _ _ hk e_2) ?_
  rcases ite_or h with ⟨g_3, h⟩ | ⟨g_3, h⟩
  · refine itp g_3 ?_
    exact h
  · refine itn g_3 ?_
    obtain ⟨y_4, e_5, h⟩ := bind_or h
    refine bnd (bag_Valid.mono _ _ _ _ hk e_5) ?_
    rcases ite_or h with ⟨g_6, h⟩ | ⟨g_6, h⟩
    · refine itp g_6 ?_
      exact h
    · refine itn g_6 ?_
      obtain ⟨y_7, e_8, h⟩ := bind_or h
      refine bnd (slices_Clone_api_Entry.mono _ _ _ _ hk e_8) ?_
      exact bag_Subtract.p1.mono _ _ _ _ _ _ r hk h
theorem bag_Subtract.spec {k : Nat} {a0 : (List TEntry)} {b1 : (List TEntry)} {r : ((List TEntry) × Int)} (h : bag_Subtract k a0 b1 = some r) : Spec Try.prog 8 [.p (eL 2 cEntry dEntry a0), .p (eL 2 cEntry dEntry b1)] (.tup [.sref 0 42 2 (r.1).length, .p (.int .i64 r.2)]) [(oL true 42 2 cEntry dEntry (r.1))] :=
  spec_of mix Try.func8 (body := bodyOf Try.f8) (by kernel_rfl) (by kernel_rfl) (bag_Subtract.run h)
end Go.Proofs.YtjhnpaenhdbhpacV
set_option linter.unusedVariables false
set_option linter.unusedSimpArgs false
set_option maxRecDepth 100000
namespace Go.Proofs.YtjhnpaenhdbhpacV
open Go Go.RowKit
noncomputable def erasurelaw30_short.p1  : Nat → (List TEntry) → Int → Option Bool
  | 0, _, _ => none
  | k + 1, l0, i3 => if (decide (i3 < ((l0).length : Int))) = true then (if 0 ≤ i3 ∧ i3 < ((l0).length : Int) then (if (decide ((((l0.getD i3.toNat dEntry).f0).length : Int) > 20)) = true then (some false) else (erasurelaw30_short.p1 k l0 (IntKind.i64.wrap (i3 + 1)))) else none) else (some (decide (((l0).length : Int) ≤ 40)))
noncomputable def erasurelaw30_short  (k : Nat) (l0 : (List TEntry)) : Option Bool := erasurelaw30_short.p1 k l0 0
noncomputable def erasurelaw30_short.t : List Item := [.code (bodyOf Try.f4)]
noncomputable def erasurelaw30_short.s (l0 : (List TEntry)) : St := ⟨frOf Try.f4.ntmps 0 [(0, .p (eL 2 cEntry dEntry l0))], []⟩
noncomputable def erasurelaw30_short.p1.t : List Item := nav 7 [] erasurelaw30_short.t
noncomputable def erasurelaw30_short.p1.s (l0 : (List TEntry)) (i3 : Int) : St := ⟨frOf Try.f4.ntmps 0 [(0, .p (eL 2 cEntry dEntry l0)), (3, .p (.int .i64 i3))], []⟩
theorem erasurelaw30_short.p1.run   : ∀ (k : Nat) (l0 : (List TEntry)) (i3 : Int) (r : Bool), erasurelaw30_short.p1 k l0 i3 = some r → RunC Try.prog Try.f4 erasurelaw30_short.p1.t (erasurelaw30_short.p1.s l0 i3) (.p (.bool r)) [] := by
  intro k
  induction k with
  | zero => intro l0 i3 r h; simp [erasurelaw30_short.p1] at h
  | succ k ih =>
    intro l0 i3 r h
    rw [erasurelaw30_short.p1] at h
    rcases ite_or h with ⟨g_1, h⟩ | ⟨g_1, h⟩
    · obtain ⟨g_2, h⟩ := ite_some h
      rcases ite_or h with ⟨g_3, h⟩ | ⟨g_3, h⟩
      · obtain rfl := Option.some.inj h
        exact RunC.out [.n 2, .r [(3, .dec true)], .n 5, .r [(6, .dec true)], .n 3] (by kernel_rfl) (Obs.of (by kernel_rfl) (And.intro g_1 (And.intro g_2 g_3)))
      · exact RunC.go [.n 2, .r [(3, .dec true)], .n 5, .r [(6, .dec false)], .n 5, .k [0, 3]] (by kernel_rfl) (Obs.of (by kernel_rfl) (And.intro g_1 (And.intro g_2 (nt g_3)))) (ih _ _ r h)
    · obtain rfl := Option.some.inj h
      exact RunC.out [.n 2, .r [(3, .dec false)], .n 4] (by kernel_rfl) (Obs.of (by kernel_rfl) (nt g_1))
theorem erasurelaw30_short.run   {k : Nat} {l0 : (List TEntry)} {r : Bool} (h : erasurelaw30_short k l0 = some r) : RunC Try.prog Try.f4 erasurelaw30_short.t (erasurelaw30_short.s l0) (.p (.bool r)) [] := by
  unfold erasurelaw30_short at h
  exact RunC.go [.n 7, .k [0, 3]] (by kernel_rfl) (Obs.tt (by kernel_rfl)) (erasurelaw30_short.p1.run k _ _ r h)
theorem erasurelaw30_short.p1.mono   : ∀ (k k' : Nat) (l0 : (List TEntry)) (i3 : Int) (r : Bool), k ≤ k' → erasurelaw30_short.p1 k l0 i3 = some r → erasurelaw30_short.p1 k' l0 i3 = some r := by
  intro k
  induction k with
  | zero => intro k' l0 i3 r hk h; simp [erasurelaw30_short.p1] at h
  | succ k ih =>
    intro k' l0 i3 r hk h
    obtain ⟨k', rfl⟩ : ∃ m, k' = m + 1 := ⟨k' - 1, by omega⟩
    replace hk := Nat.le_of_succ_le_succ hk
    rw [erasurelaw30_short.p1] at h ⊢
    rcases ite_or h with ⟨g_1, h⟩ | ⟨g_1, h⟩
    · refine itp g_1 ?_
      obtain ⟨g_2, h⟩ := ite_some h
      refine itp g_2 ?_
      rcases ite_or h with ⟨g_3, h⟩ | ⟨g_3, h⟩
      · refine itp g_3 ?_
        exact h
      · refine itn g_3 ?_
        exact ih _ _ _ r hk h
    · refine itn g_1 ?_
      exact h
theorem erasurelaw30_short.mono   : ∀ (k k' : Nat) (l0 : (List TEntry)) (r : Bool), k ≤ k' → erasurelaw30_short k l0 = some r → erasurelaw30_short k' l0 = some r := by
  intro k k' l0 r hk h
  unfold erasurelaw30_short at h ⊢
  exact erasurelaw30_short.p1.mono _ _ _ _ r hk h
theorem erasurelaw30_short.spec {k : Nat} {l0 : (List TEntry)} {r : Bool} (h : erasurelaw30_short k l0 = some r) : Spec Try.prog 4 [.p (eL 2 cEntry dEntry l0)] (.p (.bool r)) [] :=
  spec_of mix Try.func4 (body := bodyOf Try.f4) (by kernel_rfl) (by kernel_rfl) (erasurelaw30_short.run h)
end Go.Proofs.YtjhnpaenhdbhpacV
set_option linter.unusedVariables false
set_option linter.unusedSimpArgs false
set_option maxRecDepth 100000
namespace Go.Proofs.YtjhnpaenhdbhpacV
open Go Go.RowKit
noncomputable def erasureref01_Valid  (k : Nat) (v0 : TValue) : Option Bool := if (v0.f0 == 0) = true then (if (v0.f1 == 0) = true then (some (v0.f2.data.toList == (⟨#[]⟩ : ByteArray).data.toList)) else (some false)) else (if (v0.f0 == 1) = true then (if (decide (v0.f1 ≥ (-4294967296))) = true then (if (decide (v0.f1 ≤ 4294967296)) = true then (some (v0.f2.data.toList == (⟨#[]⟩ : ByteArray).data.toList)) else (some false)) else (some false)) else (if (v0.f0 == 2) = true then (if (v0.f1 == 0) = true then (some (decide ((v0.f2.size : Int) ≤ 32))) else (some false)) else (some false)))
noncomputable def erasureref01_Valid.t : List Item := [.code (bodyOf Try.f36)]
noncomputable def erasureref01_Valid.s (v0 : TValue) : St := ⟨frOf Try.f36.ntmps 0 [(0, .agg ((cValue v0).map .p))], []⟩
theorem erasureref01_Valid.run   {k : Nat} {v0 : TValue} {r : Bool} (h : erasureref01_Valid k v0 = some r) : RunC Try.prog Try.f36 erasureref01_Valid.t (erasureref01_Valid.s v0) (.p (.bool r)) [] := by
  unfold erasureref01_Valid at h
  rcases ite_or h with ⟨g_1, h⟩ | ⟨g_1, h⟩
  · rcases ite_or h with ⟨g_2, h⟩ | ⟨g_2, h⟩
    · obtain rfl := Option.some.inj h
      exact RunC.out [.n 7, .r [(1, .dec true)], .n 2, .r [(3, .dec true)]] (by kernel_rfl) (Obs.of (by kernel_rfl) (And.intro g_1 g_2))
    · obtain rfl := Option.some.inj h
      exact RunC.out [.n 7, .r [(1, .dec true)], .n 2, .r [(3, .dec false)]] (by kernel_rfl) (Obs.of (by kernel_rfl) (And.intro g_1 (nt g_2)))
  · rcases ite_or h with ⟨g_3, h⟩ | ⟨g_3, h⟩
    · rcases ite_or h with ⟨g_4, h⟩ | ⟨g_4, h⟩
      · rcases ite_or h with ⟨g_5, h⟩ | ⟨g_5, h⟩
        · obtain rfl := Option.some.inj h
          exact RunC.out [.n 7, .r [(1, .dec false)], .n 2, .r [(1, .dec true)], .n 2, .r [(3, .dec true), (8, .dec true)]] (by kernel_rfl) (Obs.of (by kernel_rfl) (And.intro (nt g_1) (And.intro g_3 (And.intro g_4 g_5))))
        · obtain rfl := Option.some.inj h
          exact RunC.out [.n 7, .r [(1, .dec false)], .n 2, .r [(1, .dec true)], .n 2, .r [(3, .dec true), (8, .dec false)]] (by kernel_rfl) (Obs.of (by kernel_rfl) (And.intro (nt g_1) (And.intro g_3 (And.intro g_4 (nt g_5)))))
      · obtain rfl := Option.some.inj h
        exact RunC.out [.n 7, .r [(1, .dec false)], .n 2, .r [(1, .dec true)], .n 2, .r [(3, .dec false)]] (by kernel_rfl) (Obs.of (by kernel_rfl) (And.intro (nt g_1) (And.intro g_3 (nt g_4))))
    · rcases ite_or h with ⟨g_6, h⟩ | ⟨g_6, h⟩
      · rcases ite_or h with ⟨g_7, h⟩ | ⟨g_7, h⟩
        · obtain rfl := Option.some.inj h
          exact RunC.out [.n 7, .r [(1, .dec false)], .n 2, .r [(1, .dec false)], .n 2, .r [(1, .dec true)], .n 2, .r [(3, .dec true)]] (by kernel_rfl) (Obs.of (by kernel_rfl) (And.intro (nt g_1) (And.intro (nt g_3) (And.intro g_6 g_7))))
        · obtain rfl := Option.some.inj h
          exact RunC.out [.n 7, .r [(1, .dec false)], .n 2, .r [(1, .dec false)], .n 2, .r [(1, .dec true)], .n 2, .r [(3, .dec false)]] (by kernel_rfl) (Obs.of (by kernel_rfl) (And.intro (nt g_1) (And.intro (nt g_3) (And.intro g_6 (nt g_7)))))
      · obtain rfl := Option.some.inj h
        exact RunC.out [.n 7, .r [(1, .dec false)], .n 2, .r [(1, .dec false)], .n 2, .r [(1, .dec false)], .n 5] (by kernel_rfl) (Obs.of (by kernel_rfl) (And.intro (nt g_1) (And.intro (nt g_3) (nt g_6))))
theorem erasureref01_Valid.mono   : ∀ (k k' : Nat) (v0 : TValue) (r : Bool), k ≤ k' → erasureref01_Valid k v0 = some r → erasureref01_Valid k' v0 = some r := by
  intro k k' v0 r hk h
  unfold erasureref01_Valid at h ⊢
  rcases ite_or h with ⟨g_1, h⟩ | ⟨g_1, h⟩
  · refine itp g_1 ?_
    rcases ite_or h with ⟨g_2, h⟩ | ⟨g_2, h⟩
    · refine itp g_2 ?_
      exact h
    · refine itn g_2 ?_
      exact h
  · refine itn g_1 ?_
    rcases ite_or h with ⟨g_3, h⟩ | ⟨g_3, h⟩
    · refine itp g_3 ?_
      rcases ite_or h with ⟨g_4, h⟩ | ⟨g_4, h⟩
      · refine itp g_4 ?_
        rcases ite_or h with ⟨g_5, h⟩ | ⟨g_5, h⟩
        · refine itp g_5 ?_
          exact h
        · refine itn g_5 ?_
          exact h
      · refine itn g_4 ?_
        exact h
    · refine itn g_3 ?_
      rcases ite_or h with ⟨g_6, h⟩ | ⟨g_6, h⟩
      · refine itp g_6 ?_
        rcases ite_or h with ⟨g_7, h⟩ | ⟨g_7, h⟩
        · refine itp g_7 ?_
          exact h
        · refine itn g_7 ?_
          exact h
      · refine itn g_6 ?_
        exact h
theorem erasureref01_Valid.spec {k : Nat} {v0 : TValue} {r : Bool} (h : erasureref01_Valid k v0 = some r) : Spec Try.prog 36 [.agg ((cValue v0).map .p)] (.p (.bool r)) [] :=
  spec_of mix Try.func36 (body := bodyOf Try.f36) (by kernel_rfl) (by kernel_rfl) (erasureref01_Valid.run h)
end Go.Proofs.YtjhnpaenhdbhpacV
set_option linter.unusedVariables false
set_option linter.unusedSimpArgs false
set_option maxRecDepth 100000
namespace Go.Proofs.YtjhnpaenhdbhpacV
open Go Go.RowKit
noncomputable def erasureref01_Clean.p1  (k : Nat) (v1b : TValue) (v2b : TValue) : Option TValue := some v1b
noncomputable def erasureref01_Clean.p2  (k : Nat) (v2b : TValue) : Option TValue := some (TValue.mk 0 0 (⟨#[]⟩ : ByteArray))
noncomputable def erasureref01_Clean  (k : Nat) (v0 : TValue) : Option TValue := (erasureref01_Valid k v0).bind fun y_1 => if y_1 = true then (erasureref01_Clean.p1 k v0 (TValue.mk 0 0 (⟨#[]⟩ : ByteArray))) else (erasureref01_Clean.p2 k (TValue.mk 0 0 (⟨#[]⟩ : ByteArray)))
noncomputable def erasureref01_Clean.t : List Item := [.code (bodyOf Try.f33)]
noncomputable def erasureref01_Clean.s (v0 : TValue) : St := ⟨frOf Try.f33.ntmps 0 [(0, .agg ((cValue v0).map .p))], []⟩
noncomputable def erasureref01_Clean.p1.t : List Item := nav 6 [true] erasureref01_Clean.t
noncomputable def erasureref01_Clean.p1.s (v1b : TValue) (v2b : TValue) : St := ⟨frOf Try.f33.ntmps 0 [(1, .ptr 0 0 0), (2, .ptr 1 0 0)], [.box ((cValue v1b).map .p), .box ((cValue v2b).map .p)]⟩
noncomputable def erasureref01_Clean.p2.t : List Item := nav 6 [false] erasureref01_Clean.t
noncomputable def erasureref01_Clean.p2.s (v2b : TValue) : St := ⟨frOf Try.f33.ntmps 0 [(2, .ptr 0 0 0)], [.box ((cValue v2b).map .p)]⟩
theorem erasureref01_Clean.p1.run   {k : Nat} {v1b : TValue} {v2b : TValue} {r : TValue} (h : erasureref01_Clean.p1 k v1b v2b = some r) : RunC Try.prog Try.f33 erasureref01_Clean.p1.t (erasureref01_Clean.p1.s v1b v2b) (.agg ((cValue r).map .p)) [] := by
  unfold erasureref01_Clean.p1 at h
  obtain rfl := Option.some.inj h
  exact RunC.out [.n 2] (by kernel_rfl) (Obs.tt (by kernel_rfl))
theorem erasureref01_Clean.p2.run   {k : Nat} {v2b : TValue} {r : TValue} (h : erasureref01_Clean.p2 k v2b = some r) : RunC Try.prog Try.f33 erasureref01_Clean.p2.t (erasureref01_Clean.p2.s v2b) (.agg ((cValue r).map .p)) [] := by
  unfold erasureref01_Clean.p2 at h
  obtain rfl := Option.some.inj h
  exact RunC.out [.n 3] (by kernel_rfl) (Obs.tt (by kernel_rfl))
theorem erasureref01_Clean.run   {k : Nat} {v0 : TValue} {r : TValue} (h : erasureref01_Clean k v0 = some r) : RunC Try.prog Try.f33 erasureref01_Clean.t (erasureref01_Clean.s v0) (.agg ((cValue r).map .p)) [] := by
  unfold erasureref01_Clean at h
  obtain ⟨y_1, e_2, h⟩ := bind_or h
  rcases Bool.eq_false_or_eq_true y_1 with hb | hb <;> subst hb
  · rw [if_pos rfl] at h
    exact RunC.go [.n 4, .r [(1, .call (.p (.bool true)) [])], .n 1, .k [1, 2]] (by kernel_rfl) (Obs.of (by kernel_rfl) (erasureref01_Valid.spec e_2)) (erasureref01_Clean.p1.run h)
  · rw [if_neg (by decide)] at h
    exact RunC.go [.n 4, .r [(1, .call (.p (.bool false)) [])], .n 1, .k [2]] (by kernel_rfl) (Obs.of (by kernel_rfl) (erasureref01_Valid.spec e_2)) (erasureref01_Clean.p2.run h)
theorem erasureref01_Clean.p1.mono   : ∀ (k k' : Nat) (v1b : TValue) (v2b : TValue) (r : TValue), k ≤ k' → erasureref01_Clean.p1 k v1b v2b = some r → erasureref01_Clean.p1 k' v1b v2b = some r := by
  intro k k' v1b v2b r hk h
  unfold erasureref01_Clean.p1 at h ⊢
  exact h
theorem erasureref01_Clean.p2.mono   : ∀ (k k' : Nat) (v2b : TValue) (r : TValue), k ≤ k' → erasureref01_Clean.p2 k v2b = some r → erasureref01_Clean.p2 k' v2b = some r := by
  intro k k' v2b r hk h
  unfold erasureref01_Clean.p2 at h ⊢
  exact h
theorem erasureref01_Clean.mono   : ∀ (k k' : Nat) (v0 : TValue) (r : TValue), k ≤ k' → erasureref01_Clean k v0 = some r → erasureref01_Clean k' v0 = some r := by
  intro k k' v0 r hk h
  unfold erasureref01_Clean at h ⊢
  obtain ⟨y_1, e_2, h⟩ := bind_or h
  refine bnd (erasureref01_Valid.mono _ _ _ _ hk e_2) ?_
  rcases ite_or h with ⟨hb, h⟩ | ⟨hb, h⟩
  · refine itp hb ?_
    exact erasureref01_Clean.p1.mono _ _ _ _ r hk h
  · refine itn hb ?_
    exact erasureref01_Clean.p2.mono _ _ _ r hk h
theorem erasureref01_Clean.spec {k : Nat} {v0 : TValue} {r : TValue} (h : erasureref01_Clean k v0 = some r) : Spec Try.prog 33 [.agg ((cValue v0).map .p)] (.agg ((cValue r).map .p)) [] :=
  spec_of mix Try.func33 (body := bodyOf Try.f33) (by kernel_rfl) (by kernel_rfl) (erasureref01_Clean.run h)
end Go.Proofs.YtjhnpaenhdbhpacV
set_option linter.unusedVariables false
set_option linter.unusedSimpArgs false
set_option maxRecDepth 100000
namespace Go.Proofs.YtjhnpaenhdbhpacV
open Go Go.RowKit
noncomputable def erasureref01_Int  (k : Nat) (n0 : Int) : Option TValue := (erasureref01_Clean k (TValue.mk 1 n0 (⟨#[]⟩ : ByteArray))).bind fun y_1 => (some y_1)
noncomputable def erasureref01_Int.t : List Item := [.code (bodyOf Try.f13)]
noncomputable def erasureref01_Int.s (n0 : Int) : St := ⟨frOf Try.f13.ntmps 0 [(0, .p (.int .i64 n0))], []⟩
theorem erasureref01_Int.run   {k : Nat} {n0 : Int} {r : TValue} (h : erasureref01_Int k n0 = some r) : RunC Try.prog Try.f13 erasureref01_Int.t (erasureref01_Int.s n0) (.agg ((cValue r).map .p)) [] := by
  unfold erasureref01_Int at h
  obtain ⟨y_1, e_2, h⟩ := bind_or h
  obtain rfl := Option.some.inj h
  exact RunC.out [.n 3, .r [(2, .call (.agg ((cValue y_1).map .p)) [])]] (by kernel_rfl) (Obs.of (by kernel_rfl) (erasureref01_Clean.spec e_2))
theorem erasureref01_Int.mono   : ∀ (k k' : Nat) (n0 : Int) (r : TValue), k ≤ k' → erasureref01_Int k n0 = some r → erasureref01_Int k' n0 = some r := by
  intro k k' n0 r hk h
  unfold erasureref01_Int at h ⊢
  obtain ⟨y_1, e_2, h⟩ := bind_or h
  refine bnd (erasureref01_Clean.mono _ _ _ _ hk e_2) ?_
  exact h
theorem erasureref01_Int.spec {k : Nat} {n0 : Int} {r : TValue} (h : erasureref01_Int k n0 = some r) : Spec Try.prog 13 [.p (.int .i64 n0)] (.agg ((cValue r).map .p)) [] :=
  spec_of mix Try.func13 (body := bodyOf Try.f13) (by kernel_rfl) (by kernel_rfl) (erasureref01_Int.run h)
end Go.Proofs.YtjhnpaenhdbhpacV
set_option linter.unusedVariables false
set_option linter.unusedSimpArgs false
set_option maxRecDepth 100000
namespace Go.Proofs.YtjhnpaenhdbhpacV
open Go Go.RowKit
noncomputable def cache_inDays  (k : Nat) (n0 : Int) : Option Bool := if (decide (n0 ≥ 0)) = true then (some (decide (n0 ≤ 1048576))) else (some false)
noncomputable def cache_inDays.t : List Item := [.code (bodyOf Try.f48)]
noncomputable def cache_inDays.s (n0 : Int) : St := ⟨frOf Try.f48.ntmps 0 [(0, .p (.int .i64 n0))], []⟩
theorem cache_inDays.run   {k : Nat} {n0 : Int} {r : Bool} (h : cache_inDays k n0 = some r) : RunC Try.prog Try.f48 cache_inDays.t (cache_inDays.s n0) (.p (.bool r)) [] := by
  unfold cache_inDays at h
  rcases ite_or h with ⟨g_1, h⟩ | ⟨g_1, h⟩
  · obtain rfl := Option.some.inj h
    exact RunC.out [.n 3, .r [(2, .dec true)]] (by kernel_rfl) (Obs.of (by kernel_rfl) g_1)
  · obtain rfl := Option.some.inj h
    exact RunC.out [.n 3, .r [(2, .dec false)]] (by kernel_rfl) (Obs.of (by kernel_rfl) (nt g_1))
theorem cache_inDays.mono   : ∀ (k k' : Nat) (n0 : Int) (r : Bool), k ≤ k' → cache_inDays k n0 = some r → cache_inDays k' n0 = some r := by
  intro k k' n0 r hk h
  unfold cache_inDays at h ⊢
  rcases ite_or h with ⟨g_1, h⟩ | ⟨g_1, h⟩
  · refine itp g_1 ?_
    exact h
  · refine itn g_1 ?_
    exact h
theorem cache_inDays.spec {k : Nat} {n0 : Int} {r : Bool} (h : cache_inDays k n0 = some r) : Spec Try.prog 48 [.p (.int .i64 n0)] (.p (.bool r)) [] :=
  spec_of mix Try.func48 (body := bodyOf Try.f48) (by kernel_rfl) (by kernel_rfl) (cache_inDays.run h)
end Go.Proofs.YtjhnpaenhdbhpacV
set_option linter.unusedVariables false
set_option linter.unusedSimpArgs false
set_option maxRecDepth 100000
namespace Go.Proofs.YtjhnpaenhdbhpacV
open Go Go.RowKit
noncomputable def cache_Valid.p1  : Nat → (List TCached) → Int → Option Bool
  | 0, _, _ => none
  | k + 1, s0, i3 => if (decide (i3 < ((s0).length : Int))) = true then (if 0 ≤ i3 ∧ i3 < ((s0).length : Int) then ((value_Valid k ((s0.getD i3.toNat dCached).f0)).bind fun y_4 => (if (!y_4) = true then (some false) else (if (decide (i3 > 0)) = true then (if 0 ≤ (IntKind.i64.wrap (i3 - 1)) ∧ (IntKind.i64.wrap (i3 - 1)) < ((s0).length : Int) then ((value_Compare k ((s0.getD (IntKind.i64.wrap (i3 - 1)).toNat dCached).f0) ((s0.getD i3.toNat dCached).f0)).bind fun y_9 => (if (decide (y_9 ≥ 0)) = true then (some false) else ((bag_Valid k ((s0.getD i3.toNat dCached).f1)).bind fun y_12 => (if (!y_12) = true then (some false) else ((cache_inDays k ((s0.getD i3.toNat dCached).f2)).bind fun y_15 => (if (!y_15) = true then (some false) else (cache_Valid.p1 k s0 (IntKind.i64.wrap (i3 + 1))))))))) else none) else ((bag_Valid k ((s0.getD i3.toNat dCached).f1)).bind fun y_18 => (if (!y_18) = true then (some false) else ((cache_inDays k ((s0.getD i3.toNat dCached).f2)).bind fun y_21 => (if (!y_21) = true then (some false) else (cache_Valid.p1 k s0 (IntKind.i64.wrap (i3 + 1)))))))))) else none) else (some true)
noncomputable def cache_Valid  (k : Nat) (s0 : (List TCached)) : Option Bool := if (decide (((s0).length : Int) > 16)) = true then (some false) else (cache_Valid.p1 k s0 0)
noncomputable def cache_Valid.t : List Item := [.code (bodyOf Try.f24)]
noncomputable def cache_Valid.s (s0 : (List TCached)) : St := ⟨frOf Try.f24.ntmps 0 [(0, .p (eL 5 cCached dCached s0))], []⟩
noncomputable def cache_Valid.p1.t : List Item := nav 12 [false] cache_Valid.t
noncomputable def cache_Valid.p1.s (s0 : (List TCached)) (i3 : Int) : St := ⟨frOf Try.f24.ntmps 0 [(0, .p (eL 5 cCached dCached s0)), (3, .p (.int .i64 i3))], []⟩
theorem cache_Valid.p1.run   : ∀ (k : Nat) (s0 : (List TCached)) (i3 : Int) (r : Bool), cache_Valid.p1 k s0 i3 = some r → RunC Try.prog Try.f24 cache_Valid.p1.t (cache_Valid.p1.s s0 i3) (.p (.bool r)) [] := by
  intro k
  induction k with
  | zero => intro s0 i3 r h; simp [cache_Valid.p1] at h
  | succ k ih =>
    intro s0 i3 r h
    rw [cache_Valid.p1] at h
    rcases ite_or h with ⟨g_2, h⟩ | ⟨g_2, h⟩
    · obtain ⟨g_3, h⟩ := ite_some h
      obtain ⟨y_4, e_5, h⟩ := bind_or h
      rcases ite_or h with ⟨g_6, h⟩ | ⟨g_6, h⟩
      · obtain rfl := Option.some.inj h
        exact RunC.out [.n 2, .r [(3, .dec true)], .n 7, .r [(2, .call (.p (.bool y_4)) []), (4, .dec true)], .n 3] (by kernel_rfl) (Obs.of (by kernel_rfl) (And.intro g_2 (And.intro g_3 (And.intro (value_Valid.spec e_5) g_6))))
      · rcases ite_or h with ⟨g_7, h⟩ | ⟨g_7, h⟩
        · obtain ⟨g_8, h⟩ := ite_some h
          obtain ⟨y_9, e_10, h⟩ := bind_or h
          rcases ite_or h with ⟨g_11, h⟩ | ⟨g_11, h⟩
          · obtain rfl := Option.some.inj h
            exact RunC.out [.n 2, .r [(3, .dec true)], .n 7, .r [(2, .call (.p (.bool y_4)) []), (4, .dec false), (7, .dec true), (16, .call (.p (.int .i64 y_9)) []), (20, .dec true)], .n 3] (by kernel_rfl) (Obs.of (by kernel_rfl) (And.intro g_2 (And.intro g_3 (And.intro (value_Valid.spec e_5) (And.intro (nt g_6) (And.intro g_7 (And.intro g_8 (And.intro (value_Compare.spec e_10) g_11))))))))
          · obtain ⟨y_12, e_13, h⟩ := bind_or h
            rcases ite_or h with ⟨g_14, h⟩ | ⟨g_14, h⟩
            · obtain rfl := Option.some.inj h
              exact RunC.out [.n 2, .r [(3, .dec true)], .n 7, .r [(2, .call (.p (.bool y_4)) []), (4, .dec false), (7, .dec true), (16, .call (.p (.int .i64 y_9)) []), (20, .dec false), (23, .call (.p (.bool y_12)) []), (26, .dec true)], .n 3] (by kernel_rfl) (Obs.of (by kernel_rfl) (And.intro g_2 (And.intro g_3 (And.intro (value_Valid.spec e_5) (And.intro (nt g_6) (And.intro g_7 (And.intro g_8 (And.intro (value_Compare.spec e_10) (And.intro (nt g_11) (And.intro (bag_Valid.spec e_13) g_14))))))))))
            · obtain ⟨y_15, e_16, h⟩ := bind_or h
              rcases ite_or h with ⟨g_17, h⟩ | ⟨g_17, h⟩
              · obtain rfl := Option.some.inj h
                exact RunC.out [.n 2, .r [(3, .dec true)], .n 7, .r [(2, .call (.p (.bool y_4)) []), (4, .dec false), (7, .dec true), (16, .call (.p (.int .i64 y_9)) []), (20, .dec false), (23, .call (.p (.bool y_12)) []), (26, .dec false), (29, .call (.p (.bool y_15)) []), (31, .dec true)], .n 3] (by kernel_rfl) (Obs.of (by kernel_rfl) (And.intro g_2 (And.intro g_3 (And.intro (value_Valid.spec e_5) (And.intro (nt g_6) (And.intro g_7 (And.intro g_8 (And.intro (value_Compare.spec e_10) (And.intro (nt g_11) (And.intro (bag_Valid.spec e_13) (And.intro (nt g_14) (And.intro (cache_inDays.spec e_16) g_17))))))))))))
              · exact RunC.go [.n 2, .r [(3, .dec true)], .n 7, .r [(2, .call (.p (.bool y_4)) []), (4, .dec false), (7, .dec true), (16, .call (.p (.int .i64 y_9)) []), (20, .dec false), (23, .call (.p (.bool y_12)) []), (26, .dec false), (29, .call (.p (.bool y_15)) []), (31, .dec false)], .n 5, .k [0, 3]] (by kernel_rfl) (Obs.of (by kernel_rfl) (And.intro g_2 (And.intro g_3 (And.intro (value_Valid.spec e_5) (And.intro (nt g_6) (And.intro g_7 (And.intro g_8 (And.intro (value_Compare.spec e_10) (And.intro (nt g_11) (And.intro (bag_Valid.spec e_13) (And.intro (nt g_14) (And.intro (cache_inDays.spec e_16) (nt g_17))))))))))))) (ih _ _ r h)
        · obtain ⟨y_18, e_19, h⟩ := bind_or h
          rcases ite_or h with ⟨g_20, h⟩ | ⟨g_20, h⟩
          · obtain rfl := Option.some.inj h
            exact RunC.out [.n 2, .r [(3, .dec true)], .n 7, .r [(2, .call (.p (.bool y_4)) []), (4, .dec false), (7, .dec false), (23, .call (.p (.bool y_18)) []), (26, .dec true)], .n 3] (by kernel_rfl) (Obs.of (by kernel_rfl) (And.intro g_2 (And.intro g_3 (And.intro (value_Valid.spec e_5) (And.intro (nt g_6) (And.intro (nt g_7) (And.intro (bag_Valid.spec e_19) g_20)))))))
          · obtain ⟨y_21, e_22, h⟩ := bind_or h
            rcases ite_or h with ⟨g_23, h⟩ | ⟨g_23, h⟩
            · obtain rfl := Option.some.inj h
              exact RunC.out [.n 2, .r [(3, .dec true)], .n 7, .r [(2, .call (.p (.bool y_4)) []), (4, .dec false), (7, .dec false), (23, .call (.p (.bool y_18)) []), (26, .dec false), (29, .call (.p (.bool y_21)) []), (31, .dec true)], .n 3] (by kernel_rfl) (Obs.of (by kernel_rfl) (And.intro g_2 (And.intro g_3 (And.intro (value_Valid.spec e_5) (And.intro (nt g_6) (And.intro (nt g_7) (And.intro (bag_Valid.spec e_19) (And.intro (nt g_20) (And.intro (cache_inDays.spec e_22) g_23)))))))))
            · exact RunC.go [.n 2, .r [(3, .dec true)], .n 7, .r [(2, .call (.p (.bool y_4)) []), (4, .dec false), (7, .dec false), (23, .call (.p (.bool y_18)) []), (26, .dec false), (29, .call (.p (.bool y_21)) []), (31, .dec false)], .n 5, .k [0, 3]] (by kernel_rfl) (Obs.of (by kernel_rfl) (And.intro g_2 (And.intro g_3 (And.intro (value_Valid.spec e_5) (And.intro (nt g_6) (And.intro (nt g_7) (And.intro (bag_Valid.spec e_19) (And.intro (nt g_20) (And.intro (cache_inDays.spec e_22) (nt g_23)))))))))) (ih _ _ r h)
    · obtain rfl := Option.some.inj h
      exact RunC.out [.n 2, .r [(3, .dec false)], .n 4] (by kernel_rfl) (Obs.of (by kernel_rfl) (nt g_2))
theorem cache_Valid.run   {k : Nat} {s0 : (List TCached)} {r : Bool} (h : cache_Valid k s0 = some r) : RunC Try.prog Try.f24 cache_Valid.t (cache_Valid.s s0) (.p (.bool r)) [] := by
  unfold cache_Valid at h
  rcases ite_or h with ⟨g_1, h⟩ | ⟨g_1, h⟩
  · obtain rfl := Option.some.inj h
    exact RunC.out [.n 4, .r [(2, .dec true)], .n 3] (by kernel_rfl) (Obs.of (by kernel_rfl) g_1)
  · exact RunC.go [.n 4, .r [(2, .dec false)], .n 7, .k [0, 3]] (by kernel_rfl) (Obs.of (by kernel_rfl) (nt g_1)) (cache_Valid.p1.run k _ _ r h)
theorem cache_Valid.p1.mono   : ∀ (k k' : Nat) (s0 : (List TCached)) (i3 : Int) (r : Bool), k ≤ k' → cache_Valid.p1 k s0 i3 = some r → cache_Valid.p1 k' s0 i3 = some r := by
  intro k
  induction k with
  | zero => intro k' s0 i3 r hk h; simp [cache_Valid.p1] at h
  | succ k ih =>
    intro k' s0 i3 r hk h
    obtain ⟨k', rfl⟩ : ∃ m, k' = m + 1 := ⟨k' - 1, by omega⟩
    replace hk := Nat.le_of_succ_le_succ hk
    rw [cache_Valid.p1] at h ⊢
    rcases ite_or h with ⟨g_2, h⟩ | ⟨g_2, h⟩
    · refine itp g_2 ?_
      obtain ⟨g_3, h⟩ := ite_some h
      refine itp g_3 ?_
      obtain ⟨y_4, e_5, h⟩ := bind_or h
      refine bnd (value_Valid.mono _ _ _ _ hk e_5) ?_
      rcases ite_or h with ⟨g_6, h⟩ | ⟨g_6, h⟩
      · refine itp g_6 ?_
        exact h
      · refine itn g_6 ?_
        rcases ite_or h with ⟨g_7, h⟩ | ⟨g_7, h⟩
        · refine itp g_7 ?_
          obtain ⟨g_8, h⟩ := ite_some h
          refine itp g_8 ?_
          obtain ⟨y_9, e_10, h⟩ := bind_or h
          refine bnd (value_Compare.mono _ _ _ _ _ hk e_10) ?_
          rcases ite_or h with ⟨g_11, h⟩ | ⟨g_11, h⟩
          · refine itp g_11 ?_
            exact h
          · refine itn g_11 ?_
            obtain ⟨y_12, e_13, h⟩ := bind_or h
            refine bnd (bag_Valid.mono _ _ _ _ hk e_13) ?_
            rcases ite_or h with ⟨g_14, h⟩ | ⟨g_14, h⟩
            · refine itp g_14 ?_
              exact h
            · refine itn g_14 ?_
              obtain ⟨y_15, e_16, h⟩ := bind_or h
              refine bnd (cache_inDays.mono _ _ _ _ hk e_16) ?_
              rcases ite_or h with ⟨g_17, h⟩ | ⟨g_17, h⟩
              · refine itp g_17 ?_
                exact h
              · refine itn g_17 ?_
                exact ih _ _ _ r hk h
        · refine itn g_7 ?_
          obtain ⟨y_18, e_19, h⟩ := bind_or h
          refine bnd (bag_Valid.mono _ _ _ _ hk e_19) ?_
          rcases ite_or h with ⟨g_20, h⟩ | ⟨g_20, h⟩
          · refine itp g_20 ?_
            exact h
          · refine itn g_20 ?_
            obtain ⟨y_21, e_22, h⟩ := bind_or h
            refine bnd (cache_inDays.mono _ _ _ _ hk e_22) ?_
            rcases ite_or h with ⟨g_23, h⟩ | ⟨g_23, h⟩
            · refine itp g_23 ?_
              exact h
            · refine itn g_23 ?_
              exact ih _ _ _ r hk h
    · refine itn g_2 ?_
      exact h
theorem cache_Valid.mono   : ∀ (k k' : Nat) (s0 : (List TCached)) (r : Bool), k ≤ k' → cache_Valid k s0 = some r → cache_Valid k' s0 = some r := by
  intro k k' s0 r hk h
  unfold cache_Valid at h ⊢
  rcases ite_or h with ⟨g_1, h⟩ | ⟨g_1, h⟩
  · refine itp g_1 ?_
    exact h
  · refine itn g_1 ?_
    exact cache_Valid.p1.mono _ _ _ _ r hk h
theorem cache_Valid.spec {k : Nat} {s0 : (List TCached)} {r : Bool} (h : cache_Valid k s0 = some r) : Spec Try.prog 24 [.p (eL 5 cCached dCached s0)] (.p (.bool r)) [] :=
  spec_of mix Try.func24 (body := bodyOf Try.f24) (by kernel_rfl) (by kernel_rfl) (cache_Valid.run h)
end Go.Proofs.YtjhnpaenhdbhpacV
set_option linter.unusedVariables false
set_option linter.unusedSimpArgs false
set_option maxRecDepth 100000
namespace Go.Proofs.YtjhnpaenhdbhpacV
open Go Go.RowKit
noncomputable def cache_usable  (k : Nat) (c0 : TCache) (s1 : (List TCached)) (rows2 : (List TEntry)) (day3 : Int) : Option Bool := (cache_Valid k s1).bind fun y_1 => (if y_1 = true then ((bag_Valid k rows2).bind fun y_4 => (if y_4 = true then ((cache_inDays k c0.f3).bind fun y_7 => (if y_7 = true then ((cache_inDays k day3).bind fun y_10 => (some y_10)) else (some false))) else (some false))) else (some false))
noncomputable def cache_usable.t : List Item := [.code (bodyOf Try.f32)]
noncomputable def cache_usable.s (c0 : TCache) (s1 : (List TCached)) (rows2 : (List TEntry)) (day3 : Int) : St := ⟨frOf Try.f32.ntmps 0 [(0, .agg ((cCache c0).map .p)), (1, .p (eL 5 cCached dCached s1)), (2, .p (eL 2 cEntry dEntry rows2)), (3, .p (.int .i64 day3))], []⟩
theorem cache_usable.run   {k : Nat} {c0 : TCache} {s1 : (List TCached)} {rows2 : (List TEntry)} {day3 : Int} {r : Bool} (h : cache_usable k c0 s1 rows2 day3 = some r) : RunC Try.prog Try.f32 cache_usable.t (cache_usable.s c0 s1 rows2 day3) (.p (.bool r)) [] := by
  unfold cache_usable at h
  obtain ⟨y_1, e_2, h⟩ := bind_or h
  rcases ite_or h with ⟨g_3, h⟩ | ⟨g_3, h⟩
  · obtain ⟨y_4, e_5, h⟩ := bind_or h
    rcases ite_or h with ⟨g_6, h⟩ | ⟨g_6, h⟩
    · obtain ⟨y_7, e_8, h⟩ := bind_or h
      rcases ite_or h with ⟨g_9, h⟩ | ⟨g_9, h⟩
      · obtain ⟨y_10, e_11, h⟩ := bind_or h
        obtain rfl := Option.some.inj h
        exact RunC.out [.n 3, .r [(1, .call (.p (.bool y_1)) []), (2, .dec true), (4, .call (.p (.bool y_4)) []), (6, .dec true), (9, .call (.p (.bool y_7)) []), (11, .dec true), (13, .call (.p (.bool y_10)) [])]] (by kernel_rfl) (Obs.of (by kernel_rfl) (And.intro (cache_Valid.spec e_2) (And.intro g_3 (And.intro (bag_Valid.spec e_5) (And.intro g_6 (And.intro (cache_inDays.spec e_8) (And.intro g_9 (cache_inDays.spec e_11))))))))
      · obtain rfl := Option.some.inj h
        exact RunC.out [.n 3, .r [(1, .call (.p (.bool y_1)) []), (2, .dec true), (4, .call (.p (.bool y_4)) []), (6, .dec true), (9, .call (.p (.bool y_7)) []), (11, .dec false)]] (by kernel_rfl) (Obs.of (by kernel_rfl) (And.intro (cache_Valid.spec e_2) (And.intro g_3 (And.intro (bag_Valid.spec e_5) (And.intro g_6 (And.intro (cache_inDays.spec e_8) (nt g_9)))))))
    · obtain rfl := Option.some.inj h
      exact RunC.out [.n 3, .r [(1, .call (.p (.bool y_1)) []), (2, .dec true), (4, .call (.p (.bool y_4)) []), (6, .dec false)]] (by kernel_rfl) (Obs.of (by kernel_rfl) (And.intro (cache_Valid.spec e_2) (And.intro g_3 (And.intro (bag_Valid.spec e_5) (nt g_6)))))
  · obtain rfl := Option.some.inj h
    exact RunC.out [.n 3, .r [(1, .call (.p (.bool y_1)) []), (2, .dec false)]] (by kernel_rfl) (Obs.of (by kernel_rfl) (And.intro (cache_Valid.spec e_2) (nt g_3)))
theorem cache_usable.mono   : ∀ (k k' : Nat) (c0 : TCache) (s1 : (List TCached)) (rows2 : (List TEntry)) (day3 : Int) (r : Bool), k ≤ k' → cache_usable k c0 s1 rows2 day3 = some r → cache_usable k' c0 s1 rows2 day3 = some r := by
  intro k k' c0 s1 rows2 day3 r hk h
  unfold cache_usable at h ⊢
  obtain ⟨y_1, e_2, h⟩ := bind_or h
  refine bnd (cache_Valid.mono _ _ _ _ hk e_2) ?_
  rcases ite_or h with ⟨g_3, h⟩ | ⟨g_3, h⟩
  · refine itp g_3 ?_
    obtain ⟨y_4, e_5, h⟩ := bind_or h
    refine bnd (bag_Valid.mono _ _ _ _ hk e_5) ?_
    rcases ite_or h with ⟨g_6, h⟩ | ⟨g_6, h⟩
    · refine itp g_6 ?_
      obtain ⟨y_7, e_8, h⟩ := bind_or h
      refine bnd (cache_inDays.mono _ _ _ _ hk e_8) ?_
      rcases ite_or h with ⟨g_9, h⟩ | ⟨g_9, h⟩
      · refine itp g_9 ?_
        obtain ⟨y_10, e_11, h⟩ := bind_or h
        refine bnd (cache_inDays.mono _ _ _ _ hk e_11) ?_
        exact h
      · refine itn g_9 ?_
        exact h
    · refine itn g_6 ?_
      exact h
  · refine itn g_3 ?_
    exact h
theorem cache_usable.spec {k : Nat} {c0 : TCache} {s1 : (List TCached)} {rows2 : (List TEntry)} {day3 : Int} {r : Bool} (h : cache_usable k c0 s1 rows2 day3 = some r) : Spec Try.prog 32 [.agg ((cCache c0).map .p), .p (eL 5 cCached dCached s1), .p (eL 2 cEntry dEntry rows2), .p (.int .i64 day3)] (.p (.bool r)) [] :=
  spec_of mix Try.func32 (body := bodyOf Try.f32) (by kernel_rfl) (by kernel_rfl) (cache_usable.run h)
end Go.Proofs.YtjhnpaenhdbhpacV
set_option linter.unusedVariables false
set_option linter.unusedSimpArgs false
set_option maxRecDepth 100000
namespace Go.Proofs.YtjhnpaenhdbhpacV
open Go Go.RowKit
noncomputable def cache_copied.p1  : Nat → (List TEntry) → Int → (List TEntry) → Option (List TEntry)
  | 0, _, _, _ => none
  | k + 1, l0, i4, out3 => if (decide (i4 < ((l0).length : Int))) = true then (if 0 ≤ i4 ∧ i4 < ((l0).length : Int) then (if ((l0.getD i4.toNat dEntry).f0).length ≤ maxLen ∧ ((l0.getD i4.toNat dEntry).f0).length * 32 ≤ 140737488355328 then (if (out3).length + ([(l0.getD i4.toNat dEntry)]).length ≤ maxLen ∧ ((out3).length + ([(l0.getD i4.toNat dEntry)]).length) * 32 ≤ 140737488355328 then (cache_copied.p1 k l0 (IntKind.i64.wrap (i4 + 1)) (out3 ++ ([(l0.getD i4.toNat dEntry)]))) else none) else none) else none) else (some out3)
noncomputable def cache_copied  (k : Nat) (l0 : (List TEntry)) : Option (List TEntry) := cache_copied.p1 k l0 0 ([] : List TEntry)
noncomputable def cache_copied.t : List Item := [.code (bodyOf Try.f35)]
noncomputable def cache_copied.s (l0 : (List TEntry)) : St := ⟨frOf Try.f35.ntmps 0 [(0, .p (eL 2 cEntry dEntry l0))], []⟩
noncomputable def cache_copied.p1.t : List Item := nav 9 [] cache_copied.t
noncomputable def cache_copied.p1.s (l0 : (List TEntry)) (i4 : Int) (out3 : (List TEntry)) : St := ⟨frOf Try.f35.ntmps 0 [(0, .p (eL 2 cEntry dEntry l0)), (3, .sref 0 42 2 (out3).length), (4, .p (.int .i64 i4))], [(oL true 42 2 cEntry dEntry out3)]⟩
theorem cache_copied.p1.run   : ∀ (k : Nat) (l0 : (List TEntry)) (i4 : Int) (out3 : (List TEntry)) (r : (List TEntry)), cache_copied.p1 k l0 i4 out3 = some r → RunC Try.prog Try.f35 cache_copied.p1.t (cache_copied.p1.s l0 i4 out3) (.sref 0 42 2 (r).length) [(oL true 42 2 cEntry dEntry (r))] := by
  intro k
  induction k with
  | zero => intro l0 i4 out3 r h; simp [cache_copied.p1] at h
  | succ k ih =>
    intro l0 i4 out3 r h
    rw [cache_copied.p1] at h
    rcases ite_or h with ⟨g_1, h⟩ | ⟨g_1, h⟩
    · obtain ⟨g_2, h⟩ := ite_some h
      obtain ⟨g_3, h⟩ := ite_some h
      obtain ⟨g_4, h⟩ := ite_some h
      exact RunC.go [.n 2, .r [(3, .dec true)], .n 4, .r [(13, .obj (oL true 42 2 cEntry dEntry [(l0.getD i4.toNat dEntry)])), (14, .obj (oL true 42 2 cEntry dEntry (out3 ++ ([(l0.getD i4.toNat dEntry)]))))], .n 3, .k [0, 3, 4]] (by kernel_rfl) (Obs.of (by kernel_rfl) (And.intro g_1 (And.intro g_2 (And.intro g_3 (And.intro g_2 (And.intro (le_one 42 2 cEntry dEntry (l0.getD i4.toNat dEntry)) (And.intro g_4 (le_app 42 2 cEntry dEntry out3 ([(l0.getD i4.toNat dEntry)]))))))))) (ih _ _ _ r h)
    · obtain rfl := Option.some.inj h
      exact RunC.out [.n 2, .r [(3, .dec false)], .n 4] (by kernel_rfl) (Obs.of (by kernel_rfl) (nt g_1))
theorem cache_copied.run   {k : Nat} {l0 : (List TEntry)} {r : (List TEntry)} (h : cache_copied k l0 = some r) : RunC Try.prog Try.f35 cache_copied.t (cache_copied.s l0) (.sref 0 42 2 (r).length) [(oL true 42 2 cEntry dEntry (r))] := by
  unfold cache_copied at h
  exact RunC.go [.n 1, .r [(0, .obj (oL true 42 2 cEntry dEntry ([] : List TEntry)))], .n 1, .r [(0, .obj (oL true 42 2 cEntry dEntry ([] : List TEntry)))], .n 5, .k [0, 3, 4]] (by kernel_rfl) (Obs.of (by kernel_rfl) (And.intro (le_nil 42 2 cEntry dEntry) (le_nil 42 2 cEntry dEntry))) (cache_copied.p1.run k _ _ _ r h)
theorem cache_copied.p1.mono   : ∀ (k k' : Nat) (l0 : (List TEntry)) (i4 : Int) (out3 : (List TEntry)) (r : (List TEntry)), k ≤ k' → cache_copied.p1 k l0 i4 out3 = some r → cache_copied.p1 k' l0 i4 out3 = some r := by
  intro k
  induction k with
  | zero => intro k' l0 i4 out3 r hk h; simp [cache_copied.p1] at h
  | succ k ih =>
    intro k' l0 i4 out3 r hk h
    obtain ⟨k', rfl⟩ : ∃ m, k' = m + 1 := ⟨k' - 1, by omega⟩
    replace hk := Nat.le_of_succ_le_succ hk
    rw [cache_copied.p1] at h ⊢
    rcases ite_or h with ⟨g_1, h⟩ | ⟨g_1, h⟩
    · refine itp g_1 ?_
      obtain ⟨g_2, h⟩ := ite_some h
      refine itp g_2 ?_
      obtain ⟨g_3, h⟩ := ite_some h
      refine itp g_3 ?_
      obtain ⟨g_4, h⟩ := ite_some h
      refine itp g_4 ?_
      exact ih _ _ _ _ r hk h
    · refine itn g_1 ?_
      exact h
theorem cache_copied.mono   : ∀ (k k' : Nat) (l0 : (List TEntry)) (r : (List TEntry)), k ≤ k' → cache_copied k l0 = some r → cache_copied k' l0 = some r := by
  intro k k' l0 r hk h
  unfold cache_copied at h ⊢
  exact cache_copied.p1.mono _ _ _ _ _ r hk h
theorem cache_copied.spec {k : Nat} {l0 : (List TEntry)} {r : (List TEntry)} (h : cache_copied k l0 = some r) : Spec Try.prog 35 [.p (eL 2 cEntry dEntry l0)] (.sref 0 42 2 (r).length) [(oL true 42 2 cEntry dEntry (r))] :=
  spec_of mix Try.func35 (body := bodyOf Try.f35) (by kernel_rfl) (by kernel_rfl) (cache_copied.run h)
end Go.Proofs.YtjhnpaenhdbhpacV
set_option linter.unusedVariables false
set_option linter.unusedSimpArgs false
set_option maxRecDepth 100000
namespace Go.Proofs.YtjhnpaenhdbhpacV
open Go Go.RowKit
noncomputable def cache_duplicate  (k : Nat) (x0 : TCached) : Option TCached := (cache_copied k x0.f1).bind fun y_1 => (some (TCached.mk x0.f0 y_1 x0.f2))
noncomputable def cache_duplicate.t : List Item := [.code (bodyOf Try.f28)]
noncomputable def cache_duplicate.s (x0 : TCached) : St := ⟨frOf Try.f28.ntmps 0 [(0, .agg ((cCached x0).map .p))], []⟩
theorem cache_duplicate.run   {k : Nat} {x0 : TCached} {r : TCached} (h : cache_duplicate k x0 = some r) : RunC Try.prog Try.f28 cache_duplicate.t (cache_duplicate.s x0) (.agg ((cCached r).map .p)) [] := by
  unfold cache_duplicate at h
  obtain ⟨y_1, e_2, h⟩ := bind_or h
  obtain rfl := Option.some.inj h
  exact RunC.out [.n 3, .r [(2, .call (.sref 0 42 2 (y_1).length) [(oL true 42 2 cEntry dEntry y_1)])], .n 2] (by kernel_rfl) (Obs.of (by kernel_rfl) (cache_copied.spec e_2))
theorem cache_duplicate.mono   : ∀ (k k' : Nat) (x0 : TCached) (r : TCached), k ≤ k' → cache_duplicate k x0 = some r → cache_duplicate k' x0 = some r := by
  intro k k' x0 r hk h
  unfold cache_duplicate at h ⊢
  obtain ⟨y_1, e_2, h⟩ := bind_or h
  refine bnd (cache_copied.mono _ _ _ _ hk e_2) ?_
  exact h
theorem cache_duplicate.spec {k : Nat} {x0 : TCached} {r : TCached} (h : cache_duplicate k x0 = some r) : Spec Try.prog 28 [.agg ((cCached x0).map .p)] (.agg ((cCached r).map .p)) [] :=
  spec_of mix Try.func28 (body := bodyOf Try.f28) (by kernel_rfl) (by kernel_rfl) (cache_duplicate.run h)
end Go.Proofs.YtjhnpaenhdbhpacV
set_option linter.unusedVariables false
set_option linter.unusedSimpArgs false
set_option maxRecDepth 100000
namespace Go.Proofs.YtjhnpaenhdbhpacV
open Go Go.RowKit
noncomputable def cache_Expire.p1  : Nat → (List TCached) → Int → Int → TCache → (List TCached) → Option (List TCached)
  | 0, _, _, _, _, _ => none
  | k + 1, s1, day2, i8, c3b, out7 => if (decide (i8 < ((s1).length : Int))) = true then (if 0 ≤ i8 ∧ i8 < ((s1).length : Int) then (if (decide (day2 ≥ (s1.getD i8.toNat dCached).f2)) = true then (if (decide (day2 < (IntKind.i64.wrap ((s1.getD i8.toNat dCached).f2 + c3b.f3)))) = true then ((cache_duplicate k (s1.getD i8.toNat dCached)).bind fun y_14 => (if (out7).length + ([y_14]).length ≤ maxLen ∧ ((out7).length + ([y_14]).length) * 64 ≤ 140737488355328 then (cache_Expire.p1 k s1 day2 (IntKind.i64.wrap (i8 + 1)) c3b (out7 ++ ([y_14]))) else none)) else (cache_Expire.p1 k s1 day2 (IntKind.i64.wrap (i8 + 1)) c3b out7)) else (cache_Expire.p1 k s1 day2 (IntKind.i64.wrap (i8 + 1)) c3b out7)) else none) else (some out7)
noncomputable def cache_Expire  (k : Nat) (c0 : TCache) (s1 : (List TCached)) (day2 : Int) : Option (List TCached) := (cache_Valid k s1).bind fun y_1 => (if (!y_1) = true then (some ([] : List TCached)) else ((cache_inDays k c0.f3).bind fun y_4 => (if (!y_4) = true then (some ([] : List TCached)) else ((cache_inDays k day2).bind fun y_7 => (if (!y_7) = true then (some ([] : List TCached)) else (cache_Expire.p1 k s1 day2 0 c0 ([] : List TCached)))))))
noncomputable def cache_Expire.t : List Item := [.code (bodyOf Try.f34)]
noncomputable def cache_Expire.s (c0 : TCache) (s1 : (List TCached)) (day2 : Int) : St := ⟨frOf Try.f34.ntmps 0 [(0, .agg ((cCache c0).map .p)), (1, .p (eL 5 cCached dCached s1)), (2, .p (.int .i64 day2))], []⟩
noncomputable def cache_Expire.p1.t : List Item := nav 14 [false] cache_Expire.t
noncomputable def cache_Expire.p1.s (s1 : (List TCached)) (day2 : Int) (i8 : Int) (c3b : TCache) (out7 : (List TCached)) : St := ⟨frOf Try.f34.ntmps 0 [(1, .p (eL 5 cCached dCached s1)), (2, .p (.int .i64 day2)), (3, .ptr 0 0 0), (7, .sref 1 55 5 (out7).length), (8, .p (.int .i64 i8))], [.box ((cCache c3b).map .p), (oL true 55 5 cCached dCached out7)]⟩
theorem cache_Expire.p1.run   : ∀ (k : Nat) (s1 : (List TCached)) (day2 : Int) (i8 : Int) (c3b : TCache) (out7 : (List TCached)) (r : (List TCached)), cache_Expire.p1 k s1 day2 i8 c3b out7 = some r → RunC Try.prog Try.f34 cache_Expire.p1.t (cache_Expire.p1.s s1 day2 i8 c3b out7) (.sref 0 55 5 (r).length) [(oL true 55 5 cCached dCached (r))] := by
  intro k
  induction k with
  | zero => intro s1 day2 i8 c3b out7 r h; simp [cache_Expire.p1] at h
  | succ k ih =>
    intro s1 day2 i8 c3b out7 r h
    rw [cache_Expire.p1] at h
    rcases ite_or h with ⟨g_10, h⟩ | ⟨g_10, h⟩
    · obtain ⟨g_11, h⟩ := ite_some h
      rcases ite_or h with ⟨g_12, h⟩ | ⟨g_12, h⟩
      · rcases ite_or h with ⟨g_13, h⟩ | ⟨g_13, h⟩
        · obtain ⟨y_14, e_15, h⟩ := bind_or h
          obtain ⟨g_16, h⟩ := ite_some h
          exact RunC.go [.n 2, .r [(3, .dec true)], .n 5, .r [(7, .dec true), (18, .dec true)], .n 1, .r [(5, .call (.agg ((cCached y_14).map .p)) []), (6, .obj (oL true 55 5 cCached dCached [y_14])), (7, .obj (oL true 55 5 cCached dCached (out7 ++ ([y_14]))))], .n 3, .k [1, 2, 3, 7, 8]] (by kernel_rfl) (Obs.of (by kernel_rfl) (And.intro g_10 (And.intro g_11 (And.intro g_12 (And.intro g_11 (And.intro g_13 (And.intro g_11 (And.intro (cache_duplicate.spec e_15) (And.intro (le_one 55 5 cCached dCached y_14) (And.intro g_16 (le_app 55 5 cCached dCached out7 ([y_14])))))))))))) (ih _ _ _ _ _ r h)
        · exact RunC.go [.n 2, .r [(3, .dec true)], .n 5, .r [(7, .dec true), (18, .dec false)], .n 5, .k [1, 2, 3, 7, 8]] (by kernel_rfl) (Obs.of (by kernel_rfl) (And.intro g_10 (And.intro g_11 (And.intro g_12 (And.intro g_11 (nt g_13)))))) (ih _ _ _ _ _ r h)
      · exact RunC.go [.n 2, .r [(3, .dec true)], .n 5, .r [(7, .dec false)], .n 5, .k [1, 2, 3, 7, 8]] (by kernel_rfl) (Obs.of (by kernel_rfl) (And.intro g_10 (And.intro g_11 (nt g_12)))) (ih _ _ _ _ _ r h)
    · obtain rfl := Option.some.inj h
      exact RunC.out [.n 2, .r [(3, .dec false)], .n 4] (by kernel_rfl) (Obs.of (by kernel_rfl) (nt g_10))
theorem cache_Expire.run   {k : Nat} {c0 : TCache} {s1 : (List TCached)} {day2 : Int} {r : (List TCached)} (h : cache_Expire k c0 s1 day2 = some r) : RunC Try.prog Try.f34 cache_Expire.t (cache_Expire.s c0 s1 day2) (.sref 0 55 5 (r).length) [(oL true 55 5 cCached dCached (r))] := by
  unfold cache_Expire at h
  obtain ⟨y_1, e_2, h⟩ := bind_or h
  rcases ite_or h with ⟨g_3, h⟩ | ⟨g_3, h⟩
  · obtain rfl := Option.some.inj h
    exact RunC.out [.n 1, .r [(1, .obj (oL true 55 5 cCached dCached ([] : List TCached)))], .n 2, .r [(1, .call (.p (.bool y_1)) []), (3, .dec true)], .n 2, .r [(0, .obj (oL true 55 5 cCached dCached ([] : List TCached)))]] (by kernel_rfl) (Obs.of (by kernel_rfl) (And.intro (le_nil 55 5 cCached dCached) (And.intro (cache_Valid.spec e_2) (And.intro g_3 (le_nil 55 5 cCached dCached)))))
  · obtain ⟨y_4, e_5, h⟩ := bind_or h
    rcases ite_or h with ⟨g_6, h⟩ | ⟨g_6, h⟩
    · obtain rfl := Option.some.inj h
      exact RunC.out [.n 1, .r [(1, .obj (oL true 55 5 cCached dCached ([] : List TCached)))], .n 2, .r [(1, .call (.p (.bool y_1)) []), (3, .dec false), (6, .call (.p (.bool y_4)) []), (9, .dec true)], .n 2, .r [(0, .obj (oL true 55 5 cCached dCached ([] : List TCached)))]] (by kernel_rfl) (Obs.of (by kernel_rfl) (And.intro (le_nil 55 5 cCached dCached) (And.intro (cache_Valid.spec e_2) (And.intro (nt g_3) (And.intro (cache_inDays.spec e_5) (And.intro g_6 (le_nil 55 5 cCached dCached)))))))
    · obtain ⟨y_7, e_8, h⟩ := bind_or h
      rcases ite_or h with ⟨g_9, h⟩ | ⟨g_9, h⟩
      · obtain rfl := Option.some.inj h
        exact RunC.out [.n 1, .r [(1, .obj (oL true 55 5 cCached dCached ([] : List TCached)))], .n 2, .r [(1, .call (.p (.bool y_1)) []), (3, .dec false), (6, .call (.p (.bool y_4)) []), (9, .dec false), (11, .call (.p (.bool y_7)) []), (13, .dec true)], .n 2, .r [(0, .obj (oL true 55 5 cCached dCached ([] : List TCached)))]] (by kernel_rfl) (Obs.of (by kernel_rfl) (And.intro (le_nil 55 5 cCached dCached) (And.intro (cache_Valid.spec e_2) (And.intro (nt g_3) (And.intro (cache_inDays.spec e_5) (And.intro (nt g_6) (And.intro (cache_inDays.spec e_8) (And.intro g_9 (le_nil 55 5 cCached dCached)))))))))
      · exact RunC.go [.n 1, .r [(1, .obj (oL true 55 5 cCached dCached ([] : List TCached)))], .n 2, .r [(1, .call (.p (.bool y_1)) []), (3, .dec false), (6, .call (.p (.bool y_4)) []), (9, .dec false), (11, .call (.p (.bool y_7)) []), (13, .dec false)], .n 3, .r [(0, .obj (oL true 55 5 cCached dCached ([] : List TCached)))], .n 5, .k [1, 2, 3, 7, 8]] (by kernel_rfl) (Obs.of (by kernel_rfl) (And.intro (le_nil 55 5 cCached dCached) (And.intro (cache_Valid.spec e_2) (And.intro (nt g_3) (And.intro (cache_inDays.spec e_5) (And.intro (nt g_6) (And.intro (cache_inDays.spec e_8) (And.intro (nt g_9) (le_nil 55 5 cCached dCached))))))))) (cache_Expire.p1.run k _ _ _ _ _ r h)
theorem cache_Expire.p1.mono   : ∀ (k k' : Nat) (s1 : (List TCached)) (day2 : Int) (i8 : Int) (c3b : TCache) (out7 : (List TCached)) (r : (List TCached)), k ≤ k' → cache_Expire.p1 k s1 day2 i8 c3b out7 = some r → cache_Expire.p1 k' s1 day2 i8 c3b out7 = some r := by
  intro k
  induction k with
  | zero => intro k' s1 day2 i8 c3b out7 r hk h; simp [cache_Expire.p1] at h
  | succ k ih =>
    intro k' s1 day2 i8 c3b out7 r hk h
    obtain ⟨k', rfl⟩ : ∃ m, k' = m + 1 := ⟨k' - 1, by omega⟩
    replace hk := Nat.le_of_succ_le_succ hk
    rw [cache_Expire.p1] at h ⊢
    rcases ite_or h with ⟨g_10, h⟩ | ⟨g_10, h⟩
    · refine itp g_10 ?_
      obtain ⟨g_11, h⟩ := ite_some h
      refine itp g_11 ?_
      rcases ite_or h with ⟨g_12, h⟩ | ⟨g_12, h⟩
      · refine itp g_12 ?_
        rcases ite_or h with ⟨g_13, h⟩ | ⟨g_13, h⟩
        · refine itp g_13 ?_
          obtain ⟨y_14, e_15, h⟩ := bind_or h
          refine bnd (cache_duplicate.mono _ _ _ _ hk e_15) ?_
          obtain ⟨g_16, h⟩ := ite_some h
          refine itp g_16 ?_
          exact ih _ _ _ _ _ _ r hk h
        · refine itn g_13 ?_
          exact ih _ _ _ _ _ _ r hk h
      · refine itn g_12 ?_
        exact ih _ _ _ _ _ _ r hk h
    · refine itn g_10 ?_
      exact h
theorem cache_Expire.mono   : ∀ (k k' : Nat) (c0 : TCache) (s1 : (List TCached)) (day2 : Int) (r : (List TCached)), k ≤ k' → cache_Expire k c0 s1 day2 = some r → cache_Expire k' c0 s1 day2 = some r := by
  intro k k' c0 s1 day2 r hk h
  unfold cache_Expire at h ⊢
  obtain ⟨y_1, e_2, h⟩ := bind_or h
  refine bnd (cache_Valid.mono _ _ _ _ hk e_2) ?_
  rcases ite_or h with ⟨g_3, h⟩ | ⟨g_3, h⟩
  · refine itp g_3 ?_
    exact h
  · refine itn g_3 ?_
    obtain ⟨y_4, e_5, h⟩ := bind_or h
    refine bnd (cache_inDays.mono _ _ _ _ hk e_5) ?_
    rcases ite_or h with ⟨g_6, h⟩ | ⟨g_6, h⟩
    · refine itp g_6 ?_
      exact h
    · refine itn g_6 ?_
      obtain ⟨y_7, e_8, h⟩ := bind_or h
      refine bnd (cache_inDays.mono _ _ _ _ hk e_8) ?_
      rcases ite_or h with ⟨g_9, h⟩ | ⟨g_9, h⟩
      · refine itp g_9 ?_
        exact h
      · refine itn g_9 ?_
        exact cache_Expire.p1.mono _ _ _ _ _ _ _ r hk h
theorem cache_Expire.spec {k : Nat} {c0 : TCache} {s1 : (List TCached)} {day2 : Int} {r : (List TCached)} (h : cache_Expire k c0 s1 day2 = some r) : Spec Try.prog 34 [.agg ((cCache c0).map .p), .p (eL 5 cCached dCached s1), .p (.int .i64 day2)] (.sref 0 55 5 (r).length) [(oL true 55 5 cCached dCached (r))] :=
  spec_of mix Try.func34 (body := bodyOf Try.f34) (by kernel_rfl) (by kernel_rfl) (cache_Expire.run h)
end Go.Proofs.YtjhnpaenhdbhpacV
set_option linter.unusedVariables false
set_option linter.unusedSimpArgs false
set_option maxRecDepth 100000
namespace Go.Proofs.YtjhnpaenhdbhpacV
open Go Go.RowKit
noncomputable def cache_at  (k : Nat) (row0 : (List TValue)) (column1 : Int) : Option TValue := if (decide (column1 < 0)) = true then (some (TValue.mk 0 0 (⟨#[]⟩ : ByteArray))) else (if (decide (column1 ≥ ((row0).length : Int))) = true then (some (TValue.mk 0 0 (⟨#[]⟩ : ByteArray))) else (if 0 ≤ column1 ∧ column1 < ((row0).length : Int) then ((value_Clean k (row0.getD column1.toNat dValue)).bind fun y_4 => (some y_4)) else none))
noncomputable def cache_at.t : List Item := [.code (bodyOf Try.f29)]
noncomputable def cache_at.s (row0 : (List TValue)) (column1 : Int) : St := ⟨frOf Try.f29.ntmps 0 [(0, .p (eL 3 cValue dValue row0)), (1, .p (.int .i64 column1))], []⟩
theorem cache_at.run   {k : Nat} {row0 : (List TValue)} {column1 : Int} {r : TValue} (h : cache_at k row0 column1 = some r) : RunC Try.prog Try.f29 cache_at.t (cache_at.s row0 column1) (.agg ((cValue r).map .p)) [] := by
  unfold cache_at at h
  rcases ite_or h with ⟨g_1, h⟩ | ⟨g_1, h⟩
  · obtain rfl := Option.some.inj h
    exact RunC.out [.n 4, .r [(2, .dec true)], .n 3] (by kernel_rfl) (Obs.of (by kernel_rfl) g_1)
  · rcases ite_or h with ⟨g_2, h⟩ | ⟨g_2, h⟩
    · obtain rfl := Option.some.inj h
      exact RunC.out [.n 4, .r [(2, .dec false), (7, .dec true)], .n 3] (by kernel_rfl) (Obs.of (by kernel_rfl) (And.intro (nt g_1) g_2))
    · obtain ⟨g_3, h⟩ := ite_some h
      obtain ⟨y_4, e_5, h⟩ := bind_or h
      obtain rfl := Option.some.inj h
      exact RunC.out [.n 4, .r [(2, .dec false), (7, .dec false)], .n 3, .r [(4, .call (.agg ((cValue y_4).map .p)) [])]] (by kernel_rfl) (Obs.of (by kernel_rfl) (And.intro (nt g_1) (And.intro (nt g_2) (And.intro g_3 (value_Clean.spec e_5)))))
theorem cache_at.mono   : ∀ (k k' : Nat) (row0 : (List TValue)) (column1 : Int) (r : TValue), k ≤ k' → cache_at k row0 column1 = some r → cache_at k' row0 column1 = some r := by
  intro k k' row0 column1 r hk h
  unfold cache_at at h ⊢
  rcases ite_or h with ⟨g_1, h⟩ | ⟨g_1, h⟩
  · refine itp g_1 ?_
    exact h
  · refine itn g_1 ?_
    rcases ite_or h with ⟨g_2, h⟩ | ⟨g_2, h⟩
    · refine itp g_2 ?_
      exact h
    · refine itn g_2 ?_
      obtain ⟨g_3, h⟩ := ite_some h
      refine itp g_3 ?_
      obtain ⟨y_4, e_5, h⟩ := bind_or h
      refine bnd (value_Clean.mono _ _ _ _ hk e_5) ?_
      exact h
theorem cache_at.spec {k : Nat} {row0 : (List TValue)} {column1 : Int} {r : TValue} (h : cache_at k row0 column1 = some r) : Spec Try.prog 29 [.p (eL 3 cValue dValue row0), .p (.int .i64 column1)] (.agg ((cValue r).map .p)) [] :=
  spec_of mix Try.func29 (body := bodyOf Try.f29) (by kernel_rfl) (by kernel_rfl) (cache_at.run h)
end Go.Proofs.YtjhnpaenhdbhpacV
set_option linter.unusedVariables false
set_option linter.unusedSimpArgs false
set_option maxRecDepth 100000
namespace Go.Proofs.YtjhnpaenhdbhpacV
open Go Go.RowKit
noncomputable def cache_Select.p1  : Nat → (List TEntry) → Int → Int → TValue → (List TEntry) → Option (List TEntry)
  | 0, _, _, _, _, _ => none
  | k + 1, rows0, column1, i9, want7b, out8 => if (decide (i9 < ((rows0).length : Int))) = true then (if 0 ≤ i9 ∧ i9 < ((rows0).length : Int) then ((cache_at k ((rows0.getD i9.toNat dEntry).f0) column1).bind fun y_5 => (if ((y_5.f0 == want7b.f0) && ((y_5.f1 == want7b.f1) && ((y_5.f2.data.toList == want7b.f2.data.toList) && true))) = true then (if (out8).length + ([(rows0.getD i9.toNat dEntry)]).length ≤ maxLen ∧ ((out8).length + ([(rows0.getD i9.toNat dEntry)]).length) * 32 ≤ 140737488355328 then (cache_Select.p1 k rows0 column1 (IntKind.i64.wrap (i9 + 1)) want7b (out8 ++ ([(rows0.getD i9.toNat dEntry)]))) else none) else (cache_Select.p1 k rows0 column1 (IntKind.i64.wrap (i9 + 1)) want7b out8))) else none) else ((cache_copied k out8).bind fun y_9 => (some y_9))
noncomputable def cache_Select  (k : Nat) (rows0 : (List TEntry)) (column1 : Int) (v2 : TValue) : Option (List TEntry) := (value_Clean k v2).bind fun y_1 => (cache_Select.p1 k rows0 column1 0 y_1 ([] : List TEntry))
noncomputable def cache_Select.t : List Item := [.code (bodyOf Try.f26)]
noncomputable def cache_Select.s (rows0 : (List TEntry)) (column1 : Int) (v2 : TValue) : St := ⟨frOf Try.f26.ntmps 0 [(0, .p (eL 2 cEntry dEntry rows0)), (1, .p (.int .i64 column1)), (2, .agg ((cValue v2).map .p))], []⟩
noncomputable def cache_Select.p1.t : List Item := nav 11 [] cache_Select.t
noncomputable def cache_Select.p1.s (rows0 : (List TEntry)) (column1 : Int) (i9 : Int) (want7b : TValue) (out8 : (List TEntry)) : St := ⟨frOf Try.f26.ntmps 0 [(0, .p (eL 2 cEntry dEntry rows0)), (1, .p (.int .i64 column1)), (7, .ptr 0 0 0), (8, .sref 1 42 2 (out8).length), (9, .p (.int .i64 i9))], [.box ((cValue want7b).map .p), (oL true 42 2 cEntry dEntry out8)]⟩
theorem cache_Select.p1.run   : ∀ (k : Nat) (rows0 : (List TEntry)) (column1 : Int) (i9 : Int) (want7b : TValue) (out8 : (List TEntry)) (r : (List TEntry)), cache_Select.p1 k rows0 column1 i9 want7b out8 = some r → RunC Try.prog Try.f26 cache_Select.p1.t (cache_Select.p1.s rows0 column1 i9 want7b out8) (.sref 0 42 2 (r).length) [(oL true 42 2 cEntry dEntry (r))] := by
  intro k
  induction k with
  | zero => intro rows0 column1 i9 want7b out8 r h; simp [cache_Select.p1] at h
  | succ k ih =>
    intro rows0 column1 i9 want7b out8 r h
    rw [cache_Select.p1] at h
    rcases ite_or h with ⟨g_3, h⟩ | ⟨g_3, h⟩
    · obtain ⟨g_4, h⟩ := ite_some h
      obtain ⟨y_5, e_6, h⟩ := bind_or h
      rcases ite_or h with ⟨g_7, h⟩ | ⟨g_7, h⟩
      · obtain ⟨g_8, h⟩ := ite_some h
        exact RunC.go [.n 2, .r [(3, .dec true)], .n 5, .r [(6, .call (.agg ((cValue y_5).map .p)) []), (8, .dec true)], .n 1, .r [(5, .obj (oL true 42 2 cEntry dEntry [(rows0.getD i9.toNat dEntry)])), (6, .obj (oL true 42 2 cEntry dEntry (out8 ++ ([(rows0.getD i9.toNat dEntry)]))))], .n 3, .k [0, 1, 7, 8, 9]] (by kernel_rfl) (Obs.of (by kernel_rfl) (And.intro g_3 (And.intro g_4 (And.intro (cache_at.spec e_6) (And.intro g_7 (And.intro g_4 (And.intro (le_one 42 2 cEntry dEntry (rows0.getD i9.toNat dEntry)) (And.intro g_8 (le_app 42 2 cEntry dEntry out8 ([(rows0.getD i9.toNat dEntry)])))))))))) (ih _ _ _ _ _ r h)
      · exact RunC.go [.n 2, .r [(3, .dec true)], .n 5, .r [(6, .call (.agg ((cValue y_5).map .p)) []), (8, .dec false)], .n 5, .k [0, 1, 7, 8, 9]] (by kernel_rfl) (Obs.of (by kernel_rfl) (And.intro g_3 (And.intro g_4 (And.intro (cache_at.spec e_6) (nt g_7))))) (ih _ _ _ _ _ r h)
    · obtain ⟨y_9, e_10, h⟩ := bind_or h
      obtain rfl := Option.some.inj h
      exact RunC.out [.n 2, .r [(3, .dec false)], .n 3, .r [(1, .call (.sref 0 42 2 (y_9).length) [(oL true 42 2 cEntry dEntry y_9)])]] (by kernel_rfl) (Obs.of (by kernel_rfl) (And.intro (nt g_3) (cache_copied.spec e_10)))
theorem cache_Select.run   {k : Nat} {rows0 : (List TEntry)} {column1 : Int} {v2 : TValue} {r : (List TEntry)} (h : cache_Select k rows0 column1 v2 = some r) : RunC Try.prog Try.f26 cache_Select.t (cache_Select.s rows0 column1 v2) (.sref 0 42 2 (r).length) [(oL true 42 2 cEntry dEntry (r))] := by
  unfold cache_Select at h
  obtain ⟨y_1, e_2, h⟩ := bind_or h
  exact RunC.go [.n 1, .r [(1, .obj (oL true 42 2 cEntry dEntry ([] : List TEntry)))], .n 1, .r [(1, .call (.agg ((cValue y_1).map .p)) [])], .n 1, .r [(0, .obj (oL true 42 2 cEntry dEntry ([] : List TEntry)))], .n 5, .k [0, 1, 7, 8, 9]] (by kernel_rfl) (Obs.of (by kernel_rfl) (And.intro (le_nil 42 2 cEntry dEntry) (And.intro (value_Clean.spec e_2) (le_nil 42 2 cEntry dEntry)))) (cache_Select.p1.run k _ _ _ _ _ r h)
theorem cache_Select.p1.mono   : ∀ (k k' : Nat) (rows0 : (List TEntry)) (column1 : Int) (i9 : Int) (want7b : TValue) (out8 : (List TEntry)) (r : (List TEntry)), k ≤ k' → cache_Select.p1 k rows0 column1 i9 want7b out8 = some r → cache_Select.p1 k' rows0 column1 i9 want7b out8 = some r := by
  intro k
  induction k with
  | zero => intro k' rows0 column1 i9 want7b out8 r hk h; simp [cache_Select.p1] at h
  | succ k ih =>
    intro k' rows0 column1 i9 want7b out8 r hk h
    obtain ⟨k', rfl⟩ : ∃ m, k' = m + 1 := ⟨k' - 1, by omega⟩
    replace hk := Nat.le_of_succ_le_succ hk
    rw [cache_Select.p1] at h ⊢
    rcases ite_or h with ⟨g_3, h⟩ | ⟨g_3, h⟩
    · refine itp g_3 ?_
      obtain ⟨g_4, h⟩ := ite_some h
      refine itp g_4 ?_
      obtain ⟨y_5, e_6, h⟩ := bind_or h
      refine bnd (cache_at.mono _ _ _ _ _ hk e_6) ?_
      rcases ite_or h with ⟨g_7, h⟩ | ⟨g_7, h⟩
      · refine itp g_7 ?_
        obtain ⟨g_8, h⟩ := ite_some h
        refine itp g_8 ?_
        exact ih _ _ _ _ _ _ r hk h
      · refine itn g_7 ?_
        exact ih _ _ _ _ _ _ r hk h
    · refine itn g_3 ?_
      obtain ⟨y_9, e_10, h⟩ := bind_or h
      refine bnd (cache_copied.mono _ _ _ _ hk e_10) ?_
      exact h
theorem cache_Select.mono   : ∀ (k k' : Nat) (rows0 : (List TEntry)) (column1 : Int) (v2 : TValue) (r : (List TEntry)), k ≤ k' → cache_Select k rows0 column1 v2 = some r → cache_Select k' rows0 column1 v2 = some r := by
  intro k k' rows0 column1 v2 r hk h
  unfold cache_Select at h ⊢
  obtain ⟨y_1, e_2, h⟩ := bind_or h
  refine bnd (value_Clean.mono _ _ _ _ hk e_2) ?_
  exact cache_Select.p1.mono _ _ _ _ _ _ _ r hk h
theorem cache_Select.spec {k : Nat} {rows0 : (List TEntry)} {column1 : Int} {v2 : TValue} {r : (List TEntry)} (h : cache_Select k rows0 column1 v2 = some r) : Spec Try.prog 26 [.p (eL 2 cEntry dEntry rows0), .p (.int .i64 column1), .agg ((cValue v2).map .p)] (.sref 0 42 2 (r).length) [(oL true 42 2 cEntry dEntry (r))] :=
  spec_of mix Try.func26 (body := bodyOf Try.f26) (by kernel_rfl) (by kernel_rfl) (cache_Select.run h)
end Go.Proofs.YtjhnpaenhdbhpacV
set_option linter.unusedVariables false
set_option linter.unusedSimpArgs false
set_option maxRecDepth 100000
namespace Go.Proofs.YtjhnpaenhdbhpacV
open Go Go.RowKit
noncomputable def cache_Lookup.p3  : Nat → (List TEntry) → Int → Int → TCache → (List TCached) → TValue → Option ((List TCached) × (List TEntry) × Int)
  | 0, _, _, _, _, _, _ => none
  | k + 1, rows2, day4, i18, c5b, out13, want14b => if (decide (i18 < ((out13).length : Int))) = true then (if 0 ≤ i18 ∧ i18 < ((out13).length : Int) then ((value_Compare k ((out13.getD i18.toNat dCached).f0) want14b).bind fun y_23 => (if (decide (y_23 < 0)) = true then (cache_Lookup.p3 k rows2 day4 (IntKind.i64.wrap (i18 + 1)) c5b out13 want14b) else (if (out13).length + ([(TCached.mk (TValue.mk 0 0 (⟨#[]⟩ : ByteArray)) ([] : List TEntry) 0)]).length ≤ maxLen ∧ ((out13).length + ([(TCached.mk (TValue.mk 0 0 (⟨#[]⟩ : ByteArray)) ([] : List TEntry) 0)]).length) * 64 ≤ 140737488355328 then (if 0 ≤ (IntKind.i64.wrap (i18 + 1)) ∧ (IntKind.i64.wrap (i18 + 1)) ≤ (((out13 ++ ([(TCached.mk (TValue.mk 0 0 (⟨#[]⟩ : ByteArray)) ([] : List TEntry) 0)]))).length : Int) ∧ (((out13 ++ ([(TCached.mk (TValue.mk 0 0 (⟨#[]⟩ : ByteArray)) ([] : List TEntry) 0)]))).length : Int) ≤ (((out13 ++ ([(TCached.mk (TValue.mk 0 0 (⟨#[]⟩ : ByteArray)) ([] : List TEntry) 0)]))).length : Int) then (if 0 ≤ i18 ∧ i18 ≤ (((out13 ++ ([(TCached.mk (TValue.mk 0 0 (⟨#[]⟩ : ByteArray)) ([] : List TEntry) 0)]))).length : Int) ∧ (((out13 ++ ([(TCached.mk (TValue.mk 0 0 (⟨#[]⟩ : ByteArray)) ([] : List TEntry) 0)]))).length : Int) ≤ (((out13 ++ ([(TCached.mk (TValue.mk 0 0 (⟨#[]⟩ : ByteArray)) ([] : List TEntry) 0)]))).length : Int) then ((cache_Select k rows2 c5b.f2 want14b).bind fun y_29 => (if 0 ≤ i18 ∧ i18 < (((out13 ++ ([(TCached.mk (TValue.mk 0 0 (⟨#[]⟩ : ByteArray)) ([] : List TEntry) 0)]))).length : Int) then ((cache_copied k ((((copyL (out13 ++ ([(TCached.mk (TValue.mk 0 0 (⟨#[]⟩ : ByteArray)) ([] : List TEntry) 0)])) (IntKind.i64.wrap (i18 + 1)) (((out13 ++ ([(TCached.mk (TValue.mk 0 0 (⟨#[]⟩ : ByteArray)) ([] : List TEntry) 0)]))).length : Int) (subL (out13 ++ ([(TCached.mk (TValue.mk 0 0 (⟨#[]⟩ : ByteArray)) ([] : List TEntry) 0)])) i18 (((out13 ++ ([(TCached.mk (TValue.mk 0 0 (⟨#[]⟩ : ByteArray)) ([] : List TEntry) 0)]))).length : Int))).set i18.toNat (TCached.mk want14b y_29 day4)).getD i18.toNat dCached).f1)).bind fun y_32 => (some (((copyL (out13 ++ ([(TCached.mk (TValue.mk 0 0 (⟨#[]⟩ : ByteArray)) ([] : List TEntry) 0)])) (IntKind.i64.wrap (i18 + 1)) (((out13 ++ ([(TCached.mk (TValue.mk 0 0 (⟨#[]⟩ : ByteArray)) ([] : List TEntry) 0)]))).length : Int) (subL (out13 ++ ([(TCached.mk (TValue.mk 0 0 (⟨#[]⟩ : ByteArray)) ([] : List TEntry) 0)])) i18 (((out13 ++ ([(TCached.mk (TValue.mk 0 0 (⟨#[]⟩ : ByteArray)) ([] : List TEntry) 0)]))).length : Int))).set i18.toNat (TCached.mk want14b y_29 day4)), y_32, 0))) else none)) else none) else none) else none))) else none) else (if (out13).length + ([(TCached.mk (TValue.mk 0 0 (⟨#[]⟩ : ByteArray)) ([] : List TEntry) 0)]).length ≤ maxLen ∧ ((out13).length + ([(TCached.mk (TValue.mk 0 0 (⟨#[]⟩ : ByteArray)) ([] : List TEntry) 0)]).length) * 64 ≤ 140737488355328 then (if 0 ≤ (IntKind.i64.wrap (i18 + 1)) ∧ (IntKind.i64.wrap (i18 + 1)) ≤ (((out13 ++ ([(TCached.mk (TValue.mk 0 0 (⟨#[]⟩ : ByteArray)) ([] : List TEntry) 0)]))).length : Int) ∧ (((out13 ++ ([(TCached.mk (TValue.mk 0 0 (⟨#[]⟩ : ByteArray)) ([] : List TEntry) 0)]))).length : Int) ≤ (((out13 ++ ([(TCached.mk (TValue.mk 0 0 (⟨#[]⟩ : ByteArray)) ([] : List TEntry) 0)]))).length : Int) then (if 0 ≤ i18 ∧ i18 ≤ (((out13 ++ ([(TCached.mk (TValue.mk 0 0 (⟨#[]⟩ : ByteArray)) ([] : List TEntry) 0)]))).length : Int) ∧ (((out13 ++ ([(TCached.mk (TValue.mk 0 0 (⟨#[]⟩ : ByteArray)) ([] : List TEntry) 0)]))).length : Int) ≤ (((out13 ++ ([(TCached.mk (TValue.mk 0 0 (⟨#[]⟩ : ByteArray)) ([] : List TEntry) 0)]))).length : Int) then ((cache_Select k rows2 c5b.f2 want14b).bind fun y_37 => (if 0 ≤ i18 ∧ i18 < (((out13 ++ ([(TCached.mk (TValue.mk 0 0 (⟨#[]⟩ : ByteArray)) ([] : List TEntry) 0)]))).length : Int) then ((cache_copied k ((((copyL (out13 ++ ([(TCached.mk (TValue.mk 0 0 (⟨#[]⟩ : ByteArray)) ([] : List TEntry) 0)])) (IntKind.i64.wrap (i18 + 1)) (((out13 ++ ([(TCached.mk (TValue.mk 0 0 (⟨#[]⟩ : ByteArray)) ([] : List TEntry) 0)]))).length : Int) (subL (out13 ++ ([(TCached.mk (TValue.mk 0 0 (⟨#[]⟩ : ByteArray)) ([] : List TEntry) 0)])) i18 (((out13 ++ ([(TCached.mk (TValue.mk 0 0 (⟨#[]⟩ : ByteArray)) ([] : List TEntry) 0)]))).length : Int))).set i18.toNat (TCached.mk want14b y_37 day4)).getD i18.toNat dCached).f1)).bind fun y_40 => (some (((copyL (out13 ++ ([(TCached.mk (TValue.mk 0 0 (⟨#[]⟩ : ByteArray)) ([] : List TEntry) 0)])) (IntKind.i64.wrap (i18 + 1)) (((out13 ++ ([(TCached.mk (TValue.mk 0 0 (⟨#[]⟩ : ByteArray)) ([] : List TEntry) 0)]))).length : Int) (subL (out13 ++ ([(TCached.mk (TValue.mk 0 0 (⟨#[]⟩ : ByteArray)) ([] : List TEntry) 0)])) i18 (((out13 ++ ([(TCached.mk (TValue.mk 0 0 (⟨#[]⟩ : ByteArray)) ([] : List TEntry) 0)]))).length : Int))).set i18.toNat (TCached.mk want14b y_37 day4)), y_40, 0))) else none)) else none) else none) else none)
noncomputable def cache_Lookup.p2  : Nat → (List TEntry) → Int → Int → Int → TCache → (List TCached) → TValue → Option ((List TCached) × (List TEntry) × Int)
  | 0, _, _, _, _, _, _, _ => none
  | k + 1, rows2, day4, oldest16, i17, c5b, out13, want14b => if (decide (i17 < ((out13).length : Int))) = true then (if 0 ≤ i17 ∧ i17 < ((out13).length : Int) then (if 0 ≤ oldest16 ∧ oldest16 < ((out13).length : Int) then (if (decide ((out13.getD i17.toNat dCached).f2 < (out13.getD oldest16.toNat dCached).f2)) = true then (cache_Lookup.p2 k rows2 day4 i17 (IntKind.i64.wrap (i17 + 1)) c5b out13 want14b) else (cache_Lookup.p2 k rows2 day4 oldest16 (IntKind.i64.wrap (i17 + 1)) c5b out13 want14b)) else none) else none) else (if 0 ≤ (0 : Int) ∧ (0 : Int) ≤ oldest16 ∧ oldest16 ≤ ((out13).length : Int) then (if 0 ≤ (IntKind.i64.wrap (oldest16 + 1)) ∧ (IntKind.i64.wrap (oldest16 + 1)) ≤ ((out13).length : Int) ∧ ((out13).length : Int) ≤ ((out13).length : Int) then (if (oldest16.toNat - (0 : Int).toNat) + (((out13).length : Int).toNat - (IntKind.i64.wrap (oldest16 + 1)).toNat) ≤ maxLen ∧ ((oldest16.toNat - (0 : Int).toNat) + (((out13).length : Int).toNat - (IntKind.i64.wrap (oldest16 + 1)).toNat)) * 64 ≤ 140737488355328 then (cache_Lookup.p3 k rows2 day4 0 c5b (subL out13 0 oldest16 ++ subL out13 (IntKind.i64.wrap (oldest16 + 1)) ((out13).length : Int)) want14b) else none) else none) else none)
noncomputable def cache_Lookup.p1  : Nat → (List TEntry) → Int → Int → TCache → (List TCached) → TValue → Option ((List TCached) × (List TEntry) × Int)
  | 0, _, _, _, _, _, _ => none
  | k + 1, rows2, day4, i15, c5b, out13, want14b => if (decide (i15 < ((out13).length : Int))) = true then (if 0 ≤ i15 ∧ i15 < ((out13).length : Int) then (if (((out13.getD i15.toNat dCached).f0.f0 == want14b.f0) && (((out13.getD i15.toNat dCached).f0.f1 == want14b.f1) && ((((out13.getD i15.toNat dCached).f0.f2).data.toList == want14b.f2.data.toList) && true))) = true then ((cache_copied k ((out13.getD i15.toNat dCached).f1)).bind fun y_11 => (some (out13, y_11, 0))) else (cache_Lookup.p1 k rows2 day4 (IntKind.i64.wrap (i15 + 1)) c5b out13 want14b)) else none) else (if (decide (((out13).length : Int) ≥ 16)) = true then (cache_Lookup.p2 k rows2 day4 0 1 c5b out13 want14b) else (cache_Lookup.p3 k rows2 day4 0 c5b out13 want14b))
noncomputable def cache_Lookup  (k : Nat) (c0 : TCache) (s1 : (List TCached)) (rows2 : (List TEntry)) (v3 : TValue) (day4 : Int) : Option ((List TCached) × (List TEntry) × Int) := (cache_usable k c0 s1 rows2 day4).bind fun y_1 => (if (!y_1) = true then (some (([] : List TCached), ([] : List TEntry), 1)) else ((cache_Expire k c0 s1 day4).bind fun y_4 => ((value_Clean k v3).bind fun y_6 => (cache_Lookup.p1 k rows2 day4 0 c0 y_4 y_6))))
noncomputable def cache_Lookup.t : List Item := [.code (bodyOf Try.f14)]
noncomputable def cache_Lookup.s (c0 : TCache) (s1 : (List TCached)) (rows2 : (List TEntry)) (v3 : TValue) (day4 : Int) : St := ⟨frOf Try.f14.ntmps 0 [(0, .agg ((cCache c0).map .p)), (1, .p (eL 5 cCached dCached s1)), (2, .p (eL 2 cEntry dEntry rows2)), (3, .agg ((cValue v3).map .p)), (4, .p (.int .i64 day4))], []⟩
noncomputable def cache_Lookup.p1.t : List Item := nav 16 [false] cache_Lookup.t
noncomputable def cache_Lookup.p1.s (rows2 : (List TEntry)) (day4 : Int) (i15 : Int) (c5b : TCache) (out13 : (List TCached)) (want14b : TValue) : St := ⟨frOf Try.f14.ntmps 0 [(2, .p (eL 2 cEntry dEntry rows2)), (4, .p (.int .i64 day4)), (5, .ptr 0 0 0), (13, .sref 1 55 5 (out13).length), (14, .ptr 2 0 0), (15, .p (.int .i64 i15))], [.box ((cCache c5b).map .p), (oL true 55 5 cCached dCached out13), .box ((cValue want14b).map .p)]⟩
noncomputable def cache_Lookup.p2.t : List Item := nav 16 [false, true] cache_Lookup.p1.t
noncomputable def cache_Lookup.p2.s (rows2 : (List TEntry)) (day4 : Int) (oldest16 : Int) (i17 : Int) (c5b : TCache) (out13 : (List TCached)) (want14b : TValue) : St := ⟨frOf Try.f14.ntmps 0 [(2, .p (eL 2 cEntry dEntry rows2)), (4, .p (.int .i64 day4)), (5, .ptr 0 0 0), (13, .sref 1 55 5 (out13).length), (14, .ptr 2 0 0), (16, .p (.int .i64 oldest16)), (17, .p (.int .i64 i17))], [.box ((cCache c5b).map .p), (oL true 55 5 cCached dCached out13), .box ((cValue want14b).map .p)]⟩
noncomputable def cache_Lookup.p3.t : List Item := nav 11 [false] cache_Lookup.p2.t
noncomputable def cache_Lookup.p3.s (rows2 : (List TEntry)) (day4 : Int) (i18 : Int) (c5b : TCache) (out13 : (List TCached)) (want14b : TValue) : St := ⟨frOf Try.f14.ntmps 0 [(2, .p (eL 2 cEntry dEntry rows2)), (4, .p (.int .i64 day4)), (5, .ptr 0 0 0), (13, .sref 1 55 5 (out13).length), (14, .ptr 2 0 0), (18, .p (.int .i64 i18))], [.box ((cCache c5b).map .p), (oL true 55 5 cCached dCached out13), .box ((cValue want14b).map .p)]⟩
theorem cache_Lookup.p3.run   : ∀ (k : Nat) (rows2 : (List TEntry)) (day4 : Int) (i18 : Int) (c5b : TCache) (out13 : (List TCached)) (want14b : TValue) (r : ((List TCached) × (List TEntry) × Int)), cache_Lookup.p3 k rows2 day4 i18 c5b out13 want14b = some r → RunC Try.prog Try.f14 cache_Lookup.p3.t (cache_Lookup.p3.s rows2 day4 i18 c5b out13 want14b) (.tup [.sref 0 55 5 (r.1).length, .sref 1 42 2 (r.2.1).length, .p (.int .i64 r.2.2)]) [(oL true 55 5 cCached dCached (r.1)), (oL true 42 2 cEntry dEntry (r.2.1))] := by
  intro k
  induction k with
  | zero => intro rows2 day4 i18 c5b out13 want14b r h; simp [cache_Lookup.p3] at h
  | succ k ih =>
    intro rows2 day4 i18 c5b out13 want14b r h
    rw [cache_Lookup.p3] at h
    rcases ite_or h with ⟨g_21, h⟩ | ⟨g_21, h⟩
    · obtain ⟨g_22, h⟩ := ite_some h
      obtain ⟨y_23, e_24, h⟩ := bind_or h
      rcases ite_or h with ⟨g_25, h⟩ | ⟨g_25, h⟩
      · exact RunC.go [.n 2, .r [(4, .dec true), (11, .call (.p (.int .i64 y_23)) []), (13, .dec true)], .n 6, .k [2, 4, 5, 13, 14, 18]] (by kernel_rfl) (Obs.of (by kernel_rfl) (And.intro g_21 (And.intro g_22 (And.intro (value_Compare.spec e_24) g_25)))) (ih _ _ _ _ _ _ r h)
      · obtain ⟨g_26, h⟩ := ite_some h
        obtain ⟨g_27, h⟩ := ite_some h
        obtain ⟨g_28, h⟩ := ite_some h
        obtain ⟨y_29, e_30, h⟩ := bind_or h
        obtain ⟨g_31, h⟩ := ite_some h
        obtain ⟨y_32, e_33, h⟩ := bind_or h
        obtain rfl := Option.some.inj h
        exact RunC.out [.n 2, .r [(4, .dec true), (11, .call (.p (.int .i64 y_23)) []), (13, .dec false)], .n 3, .r [(1, .fv (.agg [.p (.int .i64 0), .p (.int .i64 0), .p (.str (⟨#[]⟩ : ByteArray)), .p (eL 2 cEntry dEntry ([] : List TEntry)), .p (.int .i64 0)])), (2, .obj (oL true 55 5 cCached dCached [(TCached.mk (TValue.mk 0 0 (⟨#[]⟩ : ByteArray)) ([] : List TEntry) 0)])), (3, .obj (oL true 55 5 cCached dCached (out13 ++ ([(TCached.mk (TValue.mk 0 0 (⟨#[]⟩ : ByteArray)) ([] : List TEntry) 0)]))))], .n 1, .r [(7, .obj (oL true 55 5 cCached dCached (copyL (out13 ++ ([(TCached.mk (TValue.mk 0 0 (⟨#[]⟩ : ByteArray)) ([] : List TEntry) 0)])) (IntKind.i64.wrap (i18 + 1)) (((out13 ++ ([(TCached.mk (TValue.mk 0 0 (⟨#[]⟩ : ByteArray)) ([] : List TEntry) 0)]))).length : Int) (subL (out13 ++ ([(TCached.mk (TValue.mk 0 0 (⟨#[]⟩ : ByteArray)) ([] : List TEntry) 0)])) i18 (((out13 ++ ([(TCached.mk (TValue.mk 0 0 (⟨#[]⟩ : ByteArray)) ([] : List TEntry) 0)]))).length : Int)))))], .n 1, .r [(7, .call (.sref 0 42 2 (y_29).length) [(oL true 42 2 cEntry dEntry y_29)]), (11, .obj (oL true 55 5 cCached dCached ((copyL (out13 ++ ([(TCached.mk (TValue.mk 0 0 (⟨#[]⟩ : ByteArray)) ([] : List TEntry) 0)])) (IntKind.i64.wrap (i18 + 1)) (((out13 ++ ([(TCached.mk (TValue.mk 0 0 (⟨#[]⟩ : ByteArray)) ([] : List TEntry) 0)]))).length : Int) (subL (out13 ++ ([(TCached.mk (TValue.mk 0 0 (⟨#[]⟩ : ByteArray)) ([] : List TEntry) 0)])) i18 (((out13 ++ ([(TCached.mk (TValue.mk 0 0 (⟨#[]⟩ : ByteArray)) ([] : List TEntry) 0)]))).length : Int))).set i18.toNat (TCached.mk want14b y_29 day4))))], .n 1, .r [(6, .call (.sref 0 42 2 (y_32).length) [(oL true 42 2 cEntry dEntry y_32)])]] (by kernel_rfl) (Obs.of (by kernel_rfl) (And.intro g_21 (And.intro g_22 (And.intro (value_Compare.spec e_24) (And.intro (nt g_25) (And.intro (fle_agg (fls_cons (fle_rfl (.p (.int .i64 0))) (fls_cons (fle_rfl (.p (.int .i64 0))) (fls_cons (fle_rfl (.p (.str (⟨#[]⟩ : ByteArray)))) (fls_cons (fle_nil 2 cEntry dEntry) (fls_cons (fle_rfl (.p (.int .i64 0))) fls_nil)))))) (And.intro (le_one 55 5 cCached dCached (TCached.mk (TValue.mk 0 0 (⟨#[]⟩ : ByteArray)) ([] : List TEntry) 0)) (And.intro (And.intro g_26 (le_app 55 5 cCached dCached out13 ([(TCached.mk (TValue.mk 0 0 (⟨#[]⟩ : ByteArray)) ([] : List TEntry) 0)]))) (And.intro g_27 (And.intro g_28 (And.intro (le_copySS 55 5 cCached dCached (out13 ++ ([(TCached.mk (TValue.mk 0 0 (⟨#[]⟩ : ByteArray)) ([] : List TEntry) 0)])) (out13 ++ ([(TCached.mk (TValue.mk 0 0 (⟨#[]⟩ : ByteArray)) ([] : List TEntry) 0)])) (IntKind.i64.wrap (i18 + 1)) (((out13 ++ ([(TCached.mk (TValue.mk 0 0 (⟨#[]⟩ : ByteArray)) ([] : List TEntry) 0)]))).length : Int) i18 (((out13 ++ ([(TCached.mk (TValue.mk 0 0 (⟨#[]⟩ : ByteArray)) ([] : List TEntry) 0)]))).length : Int) g_27 g_28) (And.intro (cache_Select.spec e_30) (And.intro g_31 (And.intro (le_set 55 5 cCached dCached (copyL (out13 ++ ([(TCached.mk (TValue.mk 0 0 (⟨#[]⟩ : ByteArray)) ([] : List TEntry) 0)])) (IntKind.i64.wrap (i18 + 1)) (((out13 ++ ([(TCached.mk (TValue.mk 0 0 (⟨#[]⟩ : ByteArray)) ([] : List TEntry) 0)]))).length : Int) (subL (out13 ++ ([(TCached.mk (TValue.mk 0 0 (⟨#[]⟩ : ByteArray)) ([] : List TEntry) 0)])) i18 (((out13 ++ ([(TCached.mk (TValue.mk 0 0 (⟨#[]⟩ : ByteArray)) ([] : List TEntry) 0)]))).length : Int))) (TCached.mk want14b y_29 day4) i18.toNat rfl) (And.intro g_31 (cache_copied.spec e_33))))))))))))))))
    · obtain ⟨g_34, h⟩ := ite_some h
      obtain ⟨g_35, h⟩ := ite_some h
      obtain ⟨g_36, h⟩ := ite_some h
      obtain ⟨y_37, e_38, h⟩ := bind_or h
      obtain ⟨g_39, h⟩ := ite_some h
      obtain ⟨y_40, e_41, h⟩ := bind_or h
      obtain rfl := Option.some.inj h
      exact RunC.out [.n 2, .r [(4, .dec false)], .n 3, .r [(1, .fv (.agg [.p (.int .i64 0), .p (.int .i64 0), .p (.str (⟨#[]⟩ : ByteArray)), .p (eL 2 cEntry dEntry ([] : List TEntry)), .p (.int .i64 0)])), (2, .obj (oL true 55 5 cCached dCached [(TCached.mk (TValue.mk 0 0 (⟨#[]⟩ : ByteArray)) ([] : List TEntry) 0)])), (3, .obj (oL true 55 5 cCached dCached (out13 ++ ([(TCached.mk (TValue.mk 0 0 (⟨#[]⟩ : ByteArray)) ([] : List TEntry) 0)]))))], .n 1, .r [(7, .obj (oL true 55 5 cCached dCached (copyL (out13 ++ ([(TCached.mk (TValue.mk 0 0 (⟨#[]⟩ : ByteArray)) ([] : List TEntry) 0)])) (IntKind.i64.wrap (i18 + 1)) (((out13 ++ ([(TCached.mk (TValue.mk 0 0 (⟨#[]⟩ : ByteArray)) ([] : List TEntry) 0)]))).length : Int) (subL (out13 ++ ([(TCached.mk (TValue.mk 0 0 (⟨#[]⟩ : ByteArray)) ([] : List TEntry) 0)])) i18 (((out13 ++ ([(TCached.mk (TValue.mk 0 0 (⟨#[]⟩ : ByteArray)) ([] : List TEntry) 0)]))).length : Int)))))], .n 1, .r [(7, .call (.sref 0 42 2 (y_37).length) [(oL true 42 2 cEntry dEntry y_37)]), (11, .obj (oL true 55 5 cCached dCached ((copyL (out13 ++ ([(TCached.mk (TValue.mk 0 0 (⟨#[]⟩ : ByteArray)) ([] : List TEntry) 0)])) (IntKind.i64.wrap (i18 + 1)) (((out13 ++ ([(TCached.mk (TValue.mk 0 0 (⟨#[]⟩ : ByteArray)) ([] : List TEntry) 0)]))).length : Int) (subL (out13 ++ ([(TCached.mk (TValue.mk 0 0 (⟨#[]⟩ : ByteArray)) ([] : List TEntry) 0)])) i18 (((out13 ++ ([(TCached.mk (TValue.mk 0 0 (⟨#[]⟩ : ByteArray)) ([] : List TEntry) 0)]))).length : Int))).set i18.toNat (TCached.mk want14b y_37 day4))))], .n 1, .r [(6, .call (.sref 0 42 2 (y_40).length) [(oL true 42 2 cEntry dEntry y_40)])]] (by kernel_rfl) (Obs.of (by kernel_rfl) (And.intro (nt g_21) (And.intro (fle_agg (fls_cons (fle_rfl (.p (.int .i64 0))) (fls_cons (fle_rfl (.p (.int .i64 0))) (fls_cons (fle_rfl (.p (.str (⟨#[]⟩ : ByteArray)))) (fls_cons (fle_nil 2 cEntry dEntry) (fls_cons (fle_rfl (.p (.int .i64 0))) fls_nil)))))) (And.intro (le_one 55 5 cCached dCached (TCached.mk (TValue.mk 0 0 (⟨#[]⟩ : ByteArray)) ([] : List TEntry) 0)) (And.intro (And.intro g_34 (le_app 55 5 cCached dCached out13 ([(TCached.mk (TValue.mk 0 0 (⟨#[]⟩ : ByteArray)) ([] : List TEntry) 0)]))) (And.intro g_35 (And.intro g_36 (And.intro (le_copySS 55 5 cCached dCached (out13 ++ ([(TCached.mk (TValue.mk 0 0 (⟨#[]⟩ : ByteArray)) ([] : List TEntry) 0)])) (out13 ++ ([(TCached.mk (TValue.mk 0 0 (⟨#[]⟩ : ByteArray)) ([] : List TEntry) 0)])) (IntKind.i64.wrap (i18 + 1)) (((out13 ++ ([(TCached.mk (TValue.mk 0 0 (⟨#[]⟩ : ByteArray)) ([] : List TEntry) 0)]))).length : Int) i18 (((out13 ++ ([(TCached.mk (TValue.mk 0 0 (⟨#[]⟩ : ByteArray)) ([] : List TEntry) 0)]))).length : Int) g_35 g_36) (And.intro (cache_Select.spec e_38) (And.intro g_39 (And.intro (le_set 55 5 cCached dCached (copyL (out13 ++ ([(TCached.mk (TValue.mk 0 0 (⟨#[]⟩ : ByteArray)) ([] : List TEntry) 0)])) (IntKind.i64.wrap (i18 + 1)) (((out13 ++ ([(TCached.mk (TValue.mk 0 0 (⟨#[]⟩ : ByteArray)) ([] : List TEntry) 0)]))).length : Int) (subL (out13 ++ ([(TCached.mk (TValue.mk 0 0 (⟨#[]⟩ : ByteArray)) ([] : List TEntry) 0)])) i18 (((out13 ++ ([(TCached.mk (TValue.mk 0 0 (⟨#[]⟩ : ByteArray)) ([] : List TEntry) 0)]))).length : Int))) (TCached.mk want14b y_37 day4) i18.toNat rfl) (And.intro g_39 (cache_copied.spec e_41)))))))))))))
theorem cache_Lookup.p2.run   : ∀ (k : Nat) (rows2 : (List TEntry)) (day4 : Int) (oldest16 : Int) (i17 : Int) (c5b : TCache) (out13 : (List TCached)) (want14b : TValue) (r : ((List TCached) × (List TEntry) × Int)), cache_Lookup.p2 k rows2 day4 oldest16 i17 c5b out13 want14b = some r → RunC Try.prog Try.f14 cache_Lookup.p2.t (cache_Lookup.p2.s rows2 day4 oldest16 i17 c5b out13 want14b) (.tup [.sref 0 55 5 (r.1).length, .sref 1 42 2 (r.2.1).length, .p (.int .i64 r.2.2)]) [(oL true 55 5 cCached dCached (r.1)), (oL true 42 2 cEntry dEntry (r.2.1))] := by
  intro k
  induction k with
  | zero => intro rows2 day4 oldest16 i17 c5b out13 want14b r h; simp [cache_Lookup.p2] at h
  | succ k ih =>
    intro rows2 day4 oldest16 i17 c5b out13 want14b r h
    rw [cache_Lookup.p2] at h
    rcases ite_or h with ⟨g_14, h⟩ | ⟨g_14, h⟩
    · obtain ⟨g_15, h⟩ := ite_some h
      obtain ⟨g_16, h⟩ := ite_some h
      rcases ite_or h with ⟨g_17, h⟩ | ⟨g_17, h⟩
      · exact RunC.go [.n 2, .r [(3, .dec true)], .n 5, .r [(10, .dec true)], .n 5, .k [2, 4, 5, 13, 14, 16, 17]] (by kernel_rfl) (Obs.of (by kernel_rfl) (And.intro g_14 (And.intro g_15 (And.intro g_16 g_17)))) (ih _ _ _ _ _ _ _ r h)
      · exact RunC.go [.n 2, .r [(3, .dec true)], .n 5, .r [(10, .dec false)], .n 5, .k [2, 4, 5, 13, 14, 16, 17]] (by kernel_rfl) (Obs.of (by kernel_rfl) (And.intro g_14 (And.intro g_15 (And.intro g_16 (nt g_17))))) (ih _ _ _ _ _ _ _ r h)
    · obtain ⟨g_18, h⟩ := ite_some h
      obtain ⟨g_19, h⟩ := ite_some h
      obtain ⟨g_20, h⟩ := ite_some h
      exact RunC.go [.n 2, .r [(3, .dec false)], .n 2, .r [(7, .obj (oL true 55 5 cCached dCached (subL out13 0 oldest16 ++ subL out13 (IntKind.i64.wrap (oldest16 + 1)) ((out13).length : Int))))], .n 5, .k [2, 4, 5, 13, 14, 18]] (by kernel_rfl) (Obs.of (by kernel_rfl) (And.intro (nt g_14) (And.intro g_18 (And.intro g_19 (And.intro g_20 (le_appSS 55 5 cCached dCached out13 out13 oldest16 (IntKind.i64.wrap (oldest16 + 1)) ((out13).length : Int) g_18 g_19)))))) (cache_Lookup.p3.run k _ _ _ _ _ _ r h)
theorem cache_Lookup.p1.run   : ∀ (k : Nat) (rows2 : (List TEntry)) (day4 : Int) (i15 : Int) (c5b : TCache) (out13 : (List TCached)) (want14b : TValue) (r : ((List TCached) × (List TEntry) × Int)), cache_Lookup.p1 k rows2 day4 i15 c5b out13 want14b = some r → RunC Try.prog Try.f14 cache_Lookup.p1.t (cache_Lookup.p1.s rows2 day4 i15 c5b out13 want14b) (.tup [.sref 0 55 5 (r.1).length, .sref 1 42 2 (r.2.1).length, .p (.int .i64 r.2.2)]) [(oL true 55 5 cCached dCached (r.1)), (oL true 42 2 cEntry dEntry (r.2.1))] := by
  intro k
  induction k with
  | zero => intro rows2 day4 i15 c5b out13 want14b r h; simp [cache_Lookup.p1] at h
  | succ k ih =>
    intro rows2 day4 i15 c5b out13 want14b r h
    rw [cache_Lookup.p1] at h
    rcases ite_or h with ⟨g_8, h⟩ | ⟨g_8, h⟩
    · obtain ⟨g_9, h⟩ := ite_some h
      rcases ite_or h with ⟨g_10, h⟩ | ⟨g_10, h⟩
      · obtain ⟨y_11, e_12, h⟩ := bind_or h
        obtain rfl := Option.some.inj h
        exact RunC.out [.n 2, .r [(3, .dec true)], .n 5, .r [(6, .dec true)], .n 2, .r [(6, .call (.sref 0 42 2 (y_11).length) [(oL true 42 2 cEntry dEntry y_11)])]] (by kernel_rfl) (Obs.of (by kernel_rfl) (And.intro g_8 (And.intro g_9 (And.intro g_10 (And.intro g_9 (cache_copied.spec e_12))))))
      · exact RunC.go [.n 2, .r [(3, .dec true)], .n 5, .r [(6, .dec false)], .n 5, .k [2, 4, 5, 13, 14, 15]] (by kernel_rfl) (Obs.of (by kernel_rfl) (And.intro g_8 (And.intro g_9 (nt g_10)))) (ih _ _ _ _ _ _ r h)
    · rcases ite_or h with ⟨g_13, h⟩ | ⟨g_13, h⟩
      · exact RunC.go [.n 2, .r [(3, .dec false)], .n 4, .r [(2, .dec true)], .n 8, .k [2, 4, 5, 13, 14, 16, 17]] (by kernel_rfl) (Obs.of (by kernel_rfl) (And.intro (nt g_8) g_13)) (cache_Lookup.p2.run k _ _ _ _ _ _ _ r h)
      · exact RunC.go [.n 2, .r [(3, .dec false)], .n 4, .r [(2, .dec false)], .n 7, .k [2, 4, 5, 13, 14, 18]] (by kernel_rfl) (Obs.of (by kernel_rfl) (And.intro (nt g_8) (nt g_13))) (cache_Lookup.p3.run k _ _ _ _ _ _ r h)
theorem cache_Lookup.run   {k : Nat} {c0 : TCache} {s1 : (List TCached)} {rows2 : (List TEntry)} {v3 : TValue} {day4 : Int} {r : ((List TCached) × (List TEntry) × Int)} (h : cache_Lookup k c0 s1 rows2 v3 day4 = some r) : RunC Try.prog Try.f14 cache_Lookup.t (cache_Lookup.s c0 s1 rows2 v3 day4) (.tup [.sref 0 55 5 (r.1).length, .sref 1 42 2 (r.2.1).length, .p (.int .i64 r.2.2)]) [(oL true 55 5 cCached dCached (r.1)), (oL true 42 2 cEntry dEntry (r.2.1))] := by
  unfold cache_Lookup at h
  obtain ⟨y_1, e_2, h⟩ := bind_or h
  rcases ite_or h with ⟨g_3, h⟩ | ⟨g_3, h⟩
  · obtain rfl := Option.some.inj h
    exact RunC.out [.n 1, .r [(2, .obj (oL true 55 5 cCached dCached ([] : List TCached))), (3, .obj (oL true 42 2 cEntry dEntry ([] : List TEntry)))], .n 2, .r [(4, .call (.p (.bool y_1)) []), (5, .dec true)], .n 2, .r [(0, .obj (oL true 55 5 cCached dCached ([] : List TCached))), (1, .obj (oL true 42 2 cEntry dEntry ([] : List TEntry)))]] (by kernel_rfl) (Obs.of (by kernel_rfl) (And.intro (le_nil 55 5 cCached dCached) (And.intro (le_nil 42 2 cEntry dEntry) (And.intro (cache_usable.spec e_2) (And.intro g_3 (And.intro (le_nil 55 5 cCached dCached) (le_nil 42 2 cEntry dEntry)))))))
  · obtain ⟨y_4, e_5, h⟩ := bind_or h
    obtain ⟨y_6, e_7, h⟩ := bind_or h
    exact RunC.go [.n 1, .r [(2, .obj (oL true 55 5 cCached dCached ([] : List TCached))), (3, .obj (oL true 42 2 cEntry dEntry ([] : List TEntry)))], .n 2, .r [(4, .call (.p (.bool y_1)) []), (5, .dec false)], .n 3, .r [(3, .call (.sref 0 55 5 (y_4).length) [(oL true 55 5 cCached dCached y_4)])], .n 1, .r [(1, .call (.agg ((cValue y_6).map .p)) [])], .n 5, .k [2, 4, 5, 13, 14, 15]] (by kernel_rfl) (Obs.of (by kernel_rfl) (And.intro (le_nil 55 5 cCached dCached) (And.intro (le_nil 42 2 cEntry dEntry) (And.intro (cache_usable.spec e_2) (And.intro (nt g_3) (And.intro (cache_Expire.spec e_5) (value_Clean.spec e_7))))))) (cache_Lookup.p1.run k _ _ _ _ _ _ r h)
theorem cache_Lookup.p3.mono   : ∀ (k k' : Nat) (rows2 : (List TEntry)) (day4 : Int) (i18 : Int) (c5b : TCache) (out13 : (List TCached)) (want14b : TValue) (r : ((List TCached) × (List TEntry) × Int)), k ≤ k' → cache_Lookup.p3 k rows2 day4 i18 c5b out13 want14b = some r → cache_Lookup.p3 k' rows2 day4 i18 c5b out13 want14b = some r := by
  intro k
  induction k with
  | zero => intro k' rows2 day4 i18 c5b out13 want14b r hk h; simp [cache_Lookup.p3] at h
  | succ k ih =>
    intro k' rows2 day4 i18 c5b out13 want14b r hk h
    obtain ⟨k', rfl⟩ : ∃ m, k' = m + 1 := ⟨k' - 1, by omega⟩
    replace hk := Nat.le_of_succ_le_succ hk
    rw [cache_Lookup.p3] at h ⊢
    rcases ite_or h with ⟨g_21, h⟩ | ⟨g_21, h⟩
    · refine itp g_21 ?_
      obtain ⟨g_22, h⟩ := ite_some h
      refine itp g_22 ?_
      obtain ⟨y_23, e_24, h⟩ := bind_or h
      refine bnd (value_Compare.mono _ _ _ _ _ hk e_24) ?_
      rcases ite_or h with ⟨g_25, h⟩ | ⟨g_25, h⟩
      · refine itp g_25 ?_
        exact ih _ _ _ _ _ _ _ r hk h
      · refine itn g_25 ?_
        obtain ⟨g_26, h⟩ := ite_some h
        refine itp g_26 ?_
        obtain ⟨g_27, h⟩ := ite_some h
        refine itp g_27 ?_
        obtain ⟨g_28, h⟩ := ite_some h
        refine itp g_28 ?_
        obtain ⟨y_29, e_30, h⟩ := bind_or h
        refine bnd (cache_Select.mono _ _ _ _ _ _ hk e_30) ?_
        obtain ⟨g_31, h⟩ := ite_some h
        refine itp g_31 ?_
        obtain ⟨y_32, e_33, h⟩ := bind_or h
        refine bnd (cache_copied.mono _ _ _ _ hk e_33) ?_
        exact h
    · refine itn g_21 ?_
      obtain ⟨g_34, h⟩ := ite_some h
      refine itp g_34 ?_
      obtain ⟨g_35, h⟩ := ite_some h
      refine itp g_35 ?_
      obtain ⟨g_36, h⟩ := ite_some h
      refine itp g_36 ?_
      obtain ⟨y_37, e_38, h⟩ := bind_or h
      refine bnd (cache_Select.mono _ _ _ _ _ _ hk e_38) ?_
      obtain ⟨g_39, h⟩ := ite_some h
      refine itp g_39 ?_
      obtain ⟨y_40, e_41, h⟩ := bind_or h
      refine bnd (cache_copied.mono _ _ _ _ hk e_41) ?_
      exact h
theorem cache_Lookup.p2.mono   : ∀ (k k' : Nat) (rows2 : (List TEntry)) (day4 : Int) (oldest16 : Int) (i17 : Int) (c5b : TCache) (out13 : (List TCached)) (want14b : TValue) (r : ((List TCached) × (List TEntry) × Int)), k ≤ k' → cache_Lookup.p2 k rows2 day4 oldest16 i17 c5b out13 want14b = some r → cache_Lookup.p2 k' rows2 day4 oldest16 i17 c5b out13 want14b = some r := by
  intro k
  induction k with
  | zero => intro k' rows2 day4 oldest16 i17 c5b out13 want14b r hk h; simp [cache_Lookup.p2] at h
  | succ k ih =>
    intro k' rows2 day4 oldest16 i17 c5b out13 want14b r hk h
    obtain ⟨k', rfl⟩ : ∃ m, k' = m + 1 := ⟨k' - 1, by omega⟩
    replace hk := Nat.le_of_succ_le_succ hk
    rw [cache_Lookup.p2] at h ⊢
    rcases ite_or h with ⟨g_14, h⟩ | ⟨g_14, h⟩
    · refine itp g_14 ?_
      obtain ⟨g_15, h⟩ := ite_some h
      refine itp g_15 ?_
      obtain ⟨g_16, h⟩ := ite_some h
      refine itp g_16 ?_
      rcases ite_or h with ⟨g_17, h⟩ | ⟨g_17, h⟩
      · refine itp g_17 ?_
        exact ih _ _ _ _ _ _ _ _ r hk h
      · refine itn g_17 ?_
        exact ih _ _ _ _ _ _ _ _ r hk h
    · refine itn g_14 ?_
      obtain ⟨g_18, h⟩ := ite_some h
      refine itp g_18 ?_
      obtain ⟨g_19, h⟩ := ite_some h
      refine itp g_19 ?_
      obtain ⟨g_20, h⟩ := ite_some h
      refine itp g_20 ?_
      exact cache_Lookup.p3.mono _ _ _ _ _ _ _ _ r hk h
theorem cache_Lookup.p1.mono   : ∀ (k k' : Nat) (rows2 : (List TEntry)) (day4 : Int) (i15 : Int) (c5b : TCache) (out13 : (List TCached)) (want14b : TValue) (r : ((List TCached) × (List TEntry) × Int)), k ≤ k' → cache_Lookup.p1 k rows2 day4 i15 c5b out13 want14b = some r → cache_Lookup.p1 k' rows2 day4 i15 c5b out13 want14b = some r := by
  intro k
  induction k with
  | zero => intro k' rows2 day4 i15 c5b out13 want14b r hk h; simp [cache_Lookup.p1] at h
  | succ k ih =>
    intro k' rows2 day4 i15 c5b out13 want14b r hk h
    obtain ⟨k', rfl⟩ : ∃ m, k' = m + 1 := ⟨k' - 1, by omega⟩
    replace hk := Nat.le_of_succ_le_succ hk
    rw [cache_Lookup.p1] at h ⊢
    rcases ite_or h with ⟨g_8, h⟩ | ⟨g_8, h⟩
    · refine itp g_8 ?_
      obtain ⟨g_9, h⟩ := ite_some h
      refine itp g_9 ?_
      rcases ite_or h with ⟨g_10, h⟩ | ⟨g_10, h⟩
      · refine itp g_10 ?_
        obtain ⟨y_11, e_12, h⟩ := bind_or h
        refine bnd (cache_copied.mono _ _ _ _ hk e_12) ?_
        exact h
      · refine itn g_10 ?_
        exact ih _ _ _ _ _ _ _ r hk h
    · refine itn g_8 ?_
      rcases ite_or h with ⟨g_13, h⟩ | ⟨g_13, h⟩
      · refine itp g_13 ?_
        exact cache_Lookup.p2.mono _ _ _ _ _ _ _ _ _ r hk h
      · refine itn g_13 ?_
        exact cache_Lookup.p3.mono _ _ _ _ _ _ _ _ r hk h
theorem cache_Lookup.mono   : ∀ (k k' : Nat) (c0 : TCache) (s1 : (List TCached)) (rows2 : (List TEntry)) (v3 : TValue) (day4 : Int) (r : ((List TCached) × (List TEntry) × Int)), k ≤ k' → cache_Lookup k c0 s1 rows2 v3 day4 = some r → cache_Lookup k' c0 s1 rows2 v3 day4 = some r := by
  intro k k' c0 s1 rows2 v3 day4 r hk h
  unfold cache_Lookup at h ⊢
  obtain ⟨y_1, e_2, h⟩ := bind_or h
  refine bnd (cache_usable.mono _ _ _ _ _ _ _ hk e_2) ?_
  rcases ite_or h with ⟨g_3, h⟩ | ⟨g_3, h⟩
  · refine itp g_3 ?_
    exact h
  · refine itn g_3 ?_
    obtain ⟨y_4, e_5, h⟩ := bind_or h
    refine bnd (cache_Expire.mono _ _ _ _ _ _ hk e_5) ?_
    obtain ⟨y_6, e_7, h⟩ := bind_or h
    refine bnd (value_Clean.mono _ _ _ _ hk e_7) ?_
    exact cache_Lookup.p1.mono _ _ _ _ _ _ _ _ r hk h
theorem cache_Lookup.spec {k : Nat} {c0 : TCache} {s1 : (List TCached)} {rows2 : (List TEntry)} {v3 : TValue} {day4 : Int} {r : ((List TCached) × (List TEntry) × Int)} (h : cache_Lookup k c0 s1 rows2 v3 day4 = some r) : Spec Try.prog 14 [.agg ((cCache c0).map .p), .p (eL 5 cCached dCached s1), .p (eL 2 cEntry dEntry rows2), .agg ((cValue v3).map .p), .p (.int .i64 day4)] (.tup [.sref 0 55 5 (r.1).length, .sref 1 42 2 (r.2.1).length, .p (.int .i64 r.2.2)]) [(oL true 55 5 cCached dCached (r.1)), (oL true 42 2 cEntry dEntry (r.2.1))] :=
  spec_of mix Try.func14 (body := bodyOf Try.f14) (by kernel_rfl) (by kernel_rfl) (cache_Lookup.run h)
end Go.Proofs.YtjhnpaenhdbhpacV
set_option linter.unusedVariables false
set_option linter.unusedSimpArgs false
set_option maxRecDepth 100000
namespace Go.Proofs.YtjhnpaenhdbhpacV
open Go Go.RowKit
noncomputable def erasurelaw30_awake  (k : Nat)  : Option Bool := (erasureref01_Int k 7).bind fun y_1 => ((cache_Lookup k (TCache.mk (⟨#[]⟩ : ByteArray) (⟨#[]⟩ : ByteArray) 0 2) ([] : List TCached) ([(TEntry.mk ([y_1]) 3)]) y_1 5).bind fun y_3 => ((cache_Lookup k (TCache.mk (⟨#[]⟩ : ByteArray) (⟨#[]⟩ : ByteArray) 0 2) y_3.1 ([] : List TEntry) y_1 6).bind fun y_5 => ((cache_Lookup k (TCache.mk (⟨#[]⟩ : ByteArray) (⟨#[]⟩ : ByteArray) 0 2) y_5.1 ([] : List TEntry) y_1 7).bind fun y_7 => (if (y_3.2.2 == 0) = true then (if (y_5.2.2 == 0) = true then (if (y_7.2.2 == 0) = true then (if (((y_3.2.1).length : Int) == 1) = true then (if (((y_5.2.1).length : Int) == 1) = true then (some (((y_7.2.1).length : Int) == 0)) else (some false)) else (some false)) else (some false)) else (some false)) else (some false)))))
noncomputable def erasurelaw30_awake.t : List Item := [.code (bodyOf Try.f5)]
noncomputable def erasurelaw30_awake.s  : St := ⟨frOf Try.f5.ntmps 0 [], []⟩
theorem erasurelaw30_awake.run   {k : Nat}  {r : Bool} (h : erasurelaw30_awake k  = some r) : RunC Try.prog Try.f5 erasurelaw30_awake.t (erasurelaw30_awake.s ) (.p (.bool r)) [] := by
  unfold erasurelaw30_awake at h
  obtain ⟨y_1, e_2, h⟩ := bind_or h
  obtain ⟨y_3, e_4, h⟩ := bind_or h
  obtain ⟨y_5, e_6, h⟩ := bind_or h
  obtain ⟨y_7, e_8, h⟩ := bind_or h
  rcases ite_or h with ⟨g_9, h⟩ | ⟨g_9, h⟩
  · rcases ite_or h with ⟨g_10, h⟩ | ⟨g_10, h⟩
    · rcases ite_or h with ⟨g_11, h⟩ | ⟨g_11, h⟩
      · rcases ite_or h with ⟨g_12, h⟩ | ⟨g_12, h⟩
        · rcases ite_or h with ⟨g_13, h⟩ | ⟨g_13, h⟩
          · obtain rfl := Option.some.inj h
            exact RunC.out [.n 5, .r [(0, .call (.agg ((cValue y_1).map .p)) [])], .n 1, .r [(1, .obj (oL true 44 3 cValue dValue [y_1])), (3, .obj (oL true 42 2 cEntry dEntry [(TEntry.mk ([y_1]) 3)]))], .n 1, .r [(3, .callL [.agg ((cCache (TCache.mk (⟨#[]⟩ : ByteArray) (⟨#[]⟩ : ByteArray) 0 2)).map .p), .p (eL 5 cCached dCached ([] : List TCached)), .p (eL 2 cEntry dEntry ([(TEntry.mk ([y_1]) 3)])), .agg ((cValue y_1).map .p), .p (.int .i64 5)] (.tup [.sref 0 55 5 (y_3.1).length, .sref 1 42 2 (y_3.2.1).length, .p (.int .i64 y_3.2.2)]) [(oL true 55 5 cCached dCached y_3.1), (oL true 42 2 cEntry dEntry y_3.2.1)])], .n 1, .r [(3, .callL [.agg ((cCache (TCache.mk (⟨#[]⟩ : ByteArray) (⟨#[]⟩ : ByteArray) 0 2)).map .p), .p (eL 5 cCached dCached y_3.1), .p (eL 2 cEntry dEntry ([] : List TEntry)), .agg ((cValue y_1).map .p), .p (.int .i64 6)] (.tup [.sref 0 55 5 (y_5.1).length, .sref 1 42 2 (y_5.2.1).length, .p (.int .i64 y_5.2.2)]) [(oL true 55 5 cCached dCached y_5.1), (oL true 42 2 cEntry dEntry y_5.2.1)])], .n 1, .r [(3, .callL [.agg ((cCache (TCache.mk (⟨#[]⟩ : ByteArray) (⟨#[]⟩ : ByteArray) 0 2)).map .p), .p (eL 5 cCached dCached y_5.1), .p (eL 2 cEntry dEntry ([] : List TEntry)), .agg ((cValue y_1).map .p), .p (.int .i64 7)] (.tup [.sref 0 55 5 (y_7.1).length, .sref 1 42 2 (y_7.2.1).length, .p (.int .i64 y_7.2.2)]) [(oL true 55 5 cCached dCached y_7.1), (oL true 42 2 cEntry dEntry y_7.2.1)])], .n 1, .r [(2, .dec true), (6, .dec true), (10, .dec true), (15, .dec true), (20, .dec true)]] (by kernel_rfl) (Obs.of (by kernel_rfl) (And.intro (erasureref01_Int.spec e_2) (And.intro (le_one 44 3 cValue dValue y_1) (And.intro (le_one 42 2 cEntry dEntry (TEntry.mk ([y_1]) 3)) (And.intro (And.intro (fls_cons (fle_rfl (.agg ((cCache (TCache.mk (⟨#[]⟩ : ByteArray) (⟨#[]⟩ : ByteArray) 0 2)).map .p))) (fls_cons (fle_nil 5 cCached dCached) (fls_cons (fle_rfl (.p (eL 2 cEntry dEntry ([(TEntry.mk ([y_1]) 3)])))) (fls_cons (fle_rfl (.agg ((cValue y_1).map .p))) (fls_cons (fle_rfl (.p (.int .i64 5))) fls_nil))))) (cache_Lookup.spec e_4)) (And.intro (And.intro (fls_cons (fle_rfl (.agg ((cCache (TCache.mk (⟨#[]⟩ : ByteArray) (⟨#[]⟩ : ByteArray) 0 2)).map .p))) (fls_cons (fle_rfl (.p (eL 5 cCached dCached y_3.1))) (fls_cons (fle_nil 2 cEntry dEntry) (fls_cons (fle_rfl (.agg ((cValue y_1).map .p))) (fls_cons (fle_rfl (.p (.int .i64 6))) fls_nil))))) (cache_Lookup.spec e_6)) (And.intro (And.intro (fls_cons (fle_rfl (.agg ((cCache (TCache.mk (⟨#[]⟩ : ByteArray) (⟨#[]⟩ : ByteArray) 0 2)).map .p))) (fls_cons (fle_rfl (.p (eL 5 cCached dCached y_5.1))) (fls_cons (fle_nil 2 cEntry dEntry) (fls_cons (fle_rfl (.agg ((cValue y_1).map .p))) (fls_cons (fle_rfl (.p (.int .i64 7))) fls_nil))))) (cache_Lookup.spec e_8)) (And.intro g_9 (And.intro g_10 (And.intro g_11 (And.intro g_12 g_13)))))))))))
          · obtain rfl := Option.some.inj h
            exact RunC.out [.n 5, .r [(0, .call (.agg ((cValue y_1).map .p)) [])], .n 1, .r [(1, .obj (oL true 44 3 cValue dValue [y_1])), (3, .obj (oL true 42 2 cEntry dEntry [(TEntry.mk ([y_1]) 3)]))], .n 1, .r [(3, .callL [.agg ((cCache (TCache.mk (⟨#[]⟩ : ByteArray) (⟨#[]⟩ : ByteArray) 0 2)).map .p), .p (eL 5 cCached dCached ([] : List TCached)), .p (eL 2 cEntry dEntry ([(TEntry.mk ([y_1]) 3)])), .agg ((cValue y_1).map .p), .p (.int .i64 5)] (.tup [.sref 0 55 5 (y_3.1).length, .sref 1 42 2 (y_3.2.1).length, .p (.int .i64 y_3.2.2)]) [(oL true 55 5 cCached dCached y_3.1), (oL true 42 2 cEntry dEntry y_3.2.1)])], .n 1, .r [(3, .callL [.agg ((cCache (TCache.mk (⟨#[]⟩ : ByteArray) (⟨#[]⟩ : ByteArray) 0 2)).map .p), .p (eL 5 cCached dCached y_3.1), .p (eL 2 cEntry dEntry ([] : List TEntry)), .agg ((cValue y_1).map .p), .p (.int .i64 6)] (.tup [.sref 0 55 5 (y_5.1).length, .sref 1 42 2 (y_5.2.1).length, .p (.int .i64 y_5.2.2)]) [(oL true 55 5 cCached dCached y_5.1), (oL true 42 2 cEntry dEntry y_5.2.1)])], .n 1, .r [(3, .callL [.agg ((cCache (TCache.mk (⟨#[]⟩ : ByteArray) (⟨#[]⟩ : ByteArray) 0 2)).map .p), .p (eL 5 cCached dCached y_5.1), .p (eL 2 cEntry dEntry ([] : List TEntry)), .agg ((cValue y_1).map .p), .p (.int .i64 7)] (.tup [.sref 0 55 5 (y_7.1).length, .sref 1 42 2 (y_7.2.1).length, .p (.int .i64 y_7.2.2)]) [(oL true 55 5 cCached dCached y_7.1), (oL true 42 2 cEntry dEntry y_7.2.1)])], .n 1, .r [(2, .dec true), (6, .dec true), (10, .dec true), (15, .dec true), (20, .dec false)]] (by kernel_rfl) (Obs.of (by kernel_rfl) (And.intro (erasureref01_Int.spec e_2) (And.intro (le_one 44 3 cValue dValue y_1) (And.intro (le_one 42 2 cEntry dEntry (TEntry.mk ([y_1]) 3)) (And.intro (And.intro (fls_cons (fle_rfl (.agg ((cCache (TCache.mk (⟨#[]⟩ : ByteArray) (⟨#[]⟩ : ByteArray) 0 2)).map .p))) (fls_cons (fle_nil 5 cCached dCached) (fls_cons (fle_rfl (.p (eL 2 cEntry dEntry ([(TEntry.mk ([y_1]) 3)])))) (fls_cons (fle_rfl (.agg ((cValue y_1).map .p))) (fls_cons (fle_rfl (.p (.int .i64 5))) fls_nil))))) (cache_Lookup.spec e_4)) (And.intro (And.intro (fls_cons (fle_rfl (.agg ((cCache (TCache.mk (⟨#[]⟩ : ByteArray) (⟨#[]⟩ : ByteArray) 0 2)).map .p))) (fls_cons (fle_rfl (.p (eL 5 cCached dCached y_3.1))) (fls_cons (fle_nil 2 cEntry dEntry) (fls_cons (fle_rfl (.agg ((cValue y_1).map .p))) (fls_cons (fle_rfl (.p (.int .i64 6))) fls_nil))))) (cache_Lookup.spec e_6)) (And.intro (And.intro (fls_cons (fle_rfl (.agg ((cCache (TCache.mk (⟨#[]⟩ : ByteArray) (⟨#[]⟩ : ByteArray) 0 2)).map .p))) (fls_cons (fle_rfl (.p (eL 5 cCached dCached y_5.1))) (fls_cons (fle_nil 2 cEntry dEntry) (fls_cons (fle_rfl (.agg ((cValue y_1).map .p))) (fls_cons (fle_rfl (.p (.int .i64 7))) fls_nil))))) (cache_Lookup.spec e_8)) (And.intro g_9 (And.intro g_10 (And.intro g_11 (And.intro g_12 (nt g_13))))))))))))
        · obtain rfl := Option.some.inj h
          exact RunC.out [.n 5, .r [(0, .call (.agg ((cValue y_1).map .p)) [])], .n 1, .r [(1, .obj (oL true 44 3 cValue dValue [y_1])), (3, .obj (oL true 42 2 cEntry dEntry [(TEntry.mk ([y_1]) 3)]))], .n 1, .r [(3, .callL [.agg ((cCache (TCache.mk (⟨#[]⟩ : ByteArray) (⟨#[]⟩ : ByteArray) 0 2)).map .p), .p (eL 5 cCached dCached ([] : List TCached)), .p (eL 2 cEntry dEntry ([(TEntry.mk ([y_1]) 3)])), .agg ((cValue y_1).map .p), .p (.int .i64 5)] (.tup [.sref 0 55 5 (y_3.1).length, .sref 1 42 2 (y_3.2.1).length, .p (.int .i64 y_3.2.2)]) [(oL true 55 5 cCached dCached y_3.1), (oL true 42 2 cEntry dEntry y_3.2.1)])], .n 1, .r [(3, .callL [.agg ((cCache (TCache.mk (⟨#[]⟩ : ByteArray) (⟨#[]⟩ : ByteArray) 0 2)).map .p), .p (eL 5 cCached dCached y_3.1), .p (eL 2 cEntry dEntry ([] : List TEntry)), .agg ((cValue y_1).map .p), .p (.int .i64 6)] (.tup [.sref 0 55 5 (y_5.1).length, .sref 1 42 2 (y_5.2.1).length, .p (.int .i64 y_5.2.2)]) [(oL true 55 5 cCached dCached y_5.1), (oL true 42 2 cEntry dEntry y_5.2.1)])], .n 1, .r [(3, .callL [.agg ((cCache (TCache.mk (⟨#[]⟩ : ByteArray) (⟨#[]⟩ : ByteArray) 0 2)).map .p), .p (eL 5 cCached dCached y_5.1), .p (eL 2 cEntry dEntry ([] : List TEntry)), .agg ((cValue y_1).map .p), .p (.int .i64 7)] (.tup [.sref 0 55 5 (y_7.1).length, .sref 1 42 2 (y_7.2.1).length, .p (.int .i64 y_7.2.2)]) [(oL true 55 5 cCached dCached y_7.1), (oL true 42 2 cEntry dEntry y_7.2.1)])], .n 1, .r [(2, .dec true), (6, .dec true), (10, .dec true), (15, .dec false)]] (by kernel_rfl) (Obs.of (by kernel_rfl) (And.intro (erasureref01_Int.spec e_2) (And.intro (le_one 44 3 cValue dValue y_1) (And.intro (le_one 42 2 cEntry dEntry (TEntry.mk ([y_1]) 3)) (And.intro (And.intro (fls_cons (fle_rfl (.agg ((cCache (TCache.mk (⟨#[]⟩ : ByteArray) (⟨#[]⟩ : ByteArray) 0 2)).map .p))) (fls_cons (fle_nil 5 cCached dCached) (fls_cons (fle_rfl (.p (eL 2 cEntry dEntry ([(TEntry.mk ([y_1]) 3)])))) (fls_cons (fle_rfl (.agg ((cValue y_1).map .p))) (fls_cons (fle_rfl (.p (.int .i64 5))) fls_nil))))) (cache_Lookup.spec e_4)) (And.intro (And.intro (fls_cons (fle_rfl (.agg ((cCache (TCache.mk (⟨#[]⟩ : ByteArray) (⟨#[]⟩ : ByteArray) 0 2)).map .p))) (fls_cons (fle_rfl (.p (eL 5 cCached dCached y_3.1))) (fls_cons (fle_nil 2 cEntry dEntry) (fls_cons (fle_rfl (.agg ((cValue y_1).map .p))) (fls_cons (fle_rfl (.p (.int .i64 6))) fls_nil))))) (cache_Lookup.spec e_6)) (And.intro (And.intro (fls_cons (fle_rfl (.agg ((cCache (TCache.mk (⟨#[]⟩ : ByteArray) (⟨#[]⟩ : ByteArray) 0 2)).map .p))) (fls_cons (fle_rfl (.p (eL 5 cCached dCached y_5.1))) (fls_cons (fle_nil 2 cEntry dEntry) (fls_cons (fle_rfl (.agg ((cValue y_1).map .p))) (fls_cons (fle_rfl (.p (.int .i64 7))) fls_nil))))) (cache_Lookup.spec e_8)) (And.intro g_9 (And.intro g_10 (And.intro g_11 (nt g_12)))))))))))
      · obtain rfl := Option.some.inj h
        exact RunC.out [.n 5, .r [(0, .call (.agg ((cValue y_1).map .p)) [])], .n 1, .r [(1, .obj (oL true 44 3 cValue dValue [y_1])), (3, .obj (oL true 42 2 cEntry dEntry [(TEntry.mk ([y_1]) 3)]))], .n 1, .r [(3, .callL [.agg ((cCache (TCache.mk (⟨#[]⟩ : ByteArray) (⟨#[]⟩ : ByteArray) 0 2)).map .p), .p (eL 5 cCached dCached ([] : List TCached)), .p (eL 2 cEntry dEntry ([(TEntry.mk ([y_1]) 3)])), .agg ((cValue y_1).map .p), .p (.int .i64 5)] (.tup [.sref 0 55 5 (y_3.1).length, .sref 1 42 2 (y_3.2.1).length, .p (.int .i64 y_3.2.2)]) [(oL true 55 5 cCached dCached y_3.1), (oL true 42 2 cEntry dEntry y_3.2.1)])], .n 1, .r [(3, .callL [.agg ((cCache (TCache.mk (⟨#[]⟩ : ByteArray) (⟨#[]⟩ : ByteArray) 0 2)).map .p), .p (eL 5 cCached dCached y_3.1), .p (eL 2 cEntry dEntry ([] : List TEntry)), .agg ((cValue y_1).map .p), .p (.int .i64 6)] (.tup [.sref 0 55 5 (y_5.1).length, .sref 1 42 2 (y_5.2.1).length, .p (.int .i64 y_5.2.2)]) [(oL true 55 5 cCached dCached y_5.1), (oL true 42 2 cEntry dEntry y_5.2.1)])], .n 1, .r [(3, .callL [.agg ((cCache (TCache.mk (⟨#[]⟩ : ByteArray) (⟨#[]⟩ : ByteArray) 0 2)).map .p), .p (eL 5 cCached dCached y_5.1), .p (eL 2 cEntry dEntry ([] : List TEntry)), .agg ((cValue y_1).map .p), .p (.int .i64 7)] (.tup [.sref 0 55 5 (y_7.1).length, .sref 1 42 2 (y_7.2.1).length, .p (.int .i64 y_7.2.2)]) [(oL true 55 5 cCached dCached y_7.1), (oL true 42 2 cEntry dEntry y_7.2.1)])], .n 1, .r [(2, .dec true), (6, .dec true), (10, .dec false)]] (by kernel_rfl) (Obs.of (by kernel_rfl) (And.intro (erasureref01_Int.spec e_2) (And.intro (le_one 44 3 cValue dValue y_1) (And.intro (le_one 42 2 cEntry dEntry (TEntry.mk ([y_1]) 3)) (And.intro (And.intro (fls_cons (fle_rfl (.agg ((cCache (TCache.mk (⟨#[]⟩ : ByteArray) (⟨#[]⟩ : ByteArray) 0 2)).map .p))) (fls_cons (fle_nil 5 cCached dCached) (fls_cons (fle_rfl (.p (eL 2 cEntry dEntry ([(TEntry.mk ([y_1]) 3)])))) (fls_cons (fle_rfl (.agg ((cValue y_1).map .p))) (fls_cons (fle_rfl (.p (.int .i64 5))) fls_nil))))) (cache_Lookup.spec e_4)) (And.intro (And.intro (fls_cons (fle_rfl (.agg ((cCache (TCache.mk (⟨#[]⟩ : ByteArray) (⟨#[]⟩ : ByteArray) 0 2)).map .p))) (fls_cons (fle_rfl (.p (eL 5 cCached dCached y_3.1))) (fls_cons (fle_nil 2 cEntry dEntry) (fls_cons (fle_rfl (.agg ((cValue y_1).map .p))) (fls_cons (fle_rfl (.p (.int .i64 6))) fls_nil))))) (cache_Lookup.spec e_6)) (And.intro (And.intro (fls_cons (fle_rfl (.agg ((cCache (TCache.mk (⟨#[]⟩ : ByteArray) (⟨#[]⟩ : ByteArray) 0 2)).map .p))) (fls_cons (fle_rfl (.p (eL 5 cCached dCached y_5.1))) (fls_cons (fle_nil 2 cEntry dEntry) (fls_cons (fle_rfl (.agg ((cValue y_1).map .p))) (fls_cons (fle_rfl (.p (.int .i64 7))) fls_nil))))) (cache_Lookup.spec e_8)) (And.intro g_9 (And.intro g_10 (nt g_11))))))))))
    · obtain rfl := Option.some.inj h
      exact RunC.out [.n 5, .r [(0, .call (.agg ((cValue y_1).map .p)) [])], .n 1, .r [(1, .obj (oL true 44 3 cValue dValue [y_1])), (3, .obj (oL true 42 2 cEntry dEntry [(TEntry.mk ([y_1]) 3)]))], .n 1, .r [(3, .callL [.agg ((cCache (TCache.mk (⟨#[]⟩ : ByteArray) (⟨#[]⟩ : ByteArray) 0 2)).map .p), .p (eL 5 cCached dCached ([] : List TCached)), .p (eL 2 cEntry dEntry ([(TEntry.mk ([y_1]) 3)])), .agg ((cValue y_1).map .p), .p (.int .i64 5)] (.tup [.sref 0 55 5 (y_3.1).length, .sref 1 42 2 (y_3.2.1).length, .p (.int .i64 y_3.2.2)]) [(oL true 55 5 cCached dCached y_3.1), (oL true 42 2 cEntry dEntry y_3.2.1)])], .n 1, .r [(3, .callL [.agg ((cCache (TCache.mk (⟨#[]⟩ : ByteArray) (⟨#[]⟩ : ByteArray) 0 2)).map .p), .p (eL 5 cCached dCached y_3.1), .p (eL 2 cEntry dEntry ([] : List TEntry)), .agg ((cValue y_1).map .p), .p (.int .i64 6)] (.tup [.sref 0 55 5 (y_5.1).length, .sref 1 42 2 (y_5.2.1).length, .p (.int .i64 y_5.2.2)]) [(oL true 55 5 cCached dCached y_5.1), (oL true 42 2 cEntry dEntry y_5.2.1)])], .n 1, .r [(3, .callL [.agg ((cCache (TCache.mk (⟨#[]⟩ : ByteArray) (⟨#[]⟩ : ByteArray) 0 2)).map .p), .p (eL 5 cCached dCached y_5.1), .p (eL 2 cEntry dEntry ([] : List TEntry)), .agg ((cValue y_1).map .p), .p (.int .i64 7)] (.tup [.sref 0 55 5 (y_7.1).length, .sref 1 42 2 (y_7.2.1).length, .p (.int .i64 y_7.2.2)]) [(oL true 55 5 cCached dCached y_7.1), (oL true 42 2 cEntry dEntry y_7.2.1)])], .n 1, .r [(2, .dec true), (6, .dec false)]] (by kernel_rfl) (Obs.of (by kernel_rfl) (And.intro (erasureref01_Int.spec e_2) (And.intro (le_one 44 3 cValue dValue y_1) (And.intro (le_one 42 2 cEntry dEntry (TEntry.mk ([y_1]) 3)) (And.intro (And.intro (fls_cons (fle_rfl (.agg ((cCache (TCache.mk (⟨#[]⟩ : ByteArray) (⟨#[]⟩ : ByteArray) 0 2)).map .p))) (fls_cons (fle_nil 5 cCached dCached) (fls_cons (fle_rfl (.p (eL 2 cEntry dEntry ([(TEntry.mk ([y_1]) 3)])))) (fls_cons (fle_rfl (.agg ((cValue y_1).map .p))) (fls_cons (fle_rfl (.p (.int .i64 5))) fls_nil))))) (cache_Lookup.spec e_4)) (And.intro (And.intro (fls_cons (fle_rfl (.agg ((cCache (TCache.mk (⟨#[]⟩ : ByteArray) (⟨#[]⟩ : ByteArray) 0 2)).map .p))) (fls_cons (fle_rfl (.p (eL 5 cCached dCached y_3.1))) (fls_cons (fle_nil 2 cEntry dEntry) (fls_cons (fle_rfl (.agg ((cValue y_1).map .p))) (fls_cons (fle_rfl (.p (.int .i64 6))) fls_nil))))) (cache_Lookup.spec e_6)) (And.intro (And.intro (fls_cons (fle_rfl (.agg ((cCache (TCache.mk (⟨#[]⟩ : ByteArray) (⟨#[]⟩ : ByteArray) 0 2)).map .p))) (fls_cons (fle_rfl (.p (eL 5 cCached dCached y_5.1))) (fls_cons (fle_nil 2 cEntry dEntry) (fls_cons (fle_rfl (.agg ((cValue y_1).map .p))) (fls_cons (fle_rfl (.p (.int .i64 7))) fls_nil))))) (cache_Lookup.spec e_8)) (And.intro g_9 (nt g_10)))))))))
  · obtain rfl := Option.some.inj h
    exact RunC.out [.n 5, .r [(0, .call (.agg ((cValue y_1).map .p)) [])], .n 1, .r [(1, .obj (oL true 44 3 cValue dValue [y_1])), (3, .obj (oL true 42 2 cEntry dEntry [(TEntry.mk ([y_1]) 3)]))], .n 1, .r [(3, .callL [.agg ((cCache (TCache.mk (⟨#[]⟩ : ByteArray) (⟨#[]⟩ : ByteArray) 0 2)).map .p), .p (eL 5 cCached dCached ([] : List TCached)), .p (eL 2 cEntry dEntry ([(TEntry.mk ([y_1]) 3)])), .agg ((cValue y_1).map .p), .p (.int .i64 5)] (.tup [.sref 0 55 5 (y_3.1).length, .sref 1 42 2 (y_3.2.1).length, .p (.int .i64 y_3.2.2)]) [(oL true 55 5 cCached dCached y_3.1), (oL true 42 2 cEntry dEntry y_3.2.1)])], .n 1, .r [(3, .callL [.agg ((cCache (TCache.mk (⟨#[]⟩ : ByteArray) (⟨#[]⟩ : ByteArray) 0 2)).map .p), .p (eL 5 cCached dCached y_3.1), .p (eL 2 cEntry dEntry ([] : List TEntry)), .agg ((cValue y_1).map .p), .p (.int .i64 6)] (.tup [.sref 0 55 5 (y_5.1).length, .sref 1 42 2 (y_5.2.1).length, .p (.int .i64 y_5.2.2)]) [(oL true 55 5 cCached dCached y_5.1), (oL true 42 2 cEntry dEntry y_5.2.1)])], .n 1, .r [(3, .callL [.agg ((cCache (TCache.mk (⟨#[]⟩ : ByteArray) (⟨#[]⟩ : ByteArray) 0 2)).map .p), .p (eL 5 cCached dCached y_5.1), .p (eL 2 cEntry dEntry ([] : List TEntry)), .agg ((cValue y_1).map .p), .p (.int .i64 7)] (.tup [.sref 0 55 5 (y_7.1).length, .sref 1 42 2 (y_7.2.1).length, .p (.int .i64 y_7.2.2)]) [(oL true 55 5 cCached dCached y_7.1), (oL true 42 2 cEntry dEntry y_7.2.1)])], .n 1, .r [(2, .dec false)]] (by kernel_rfl) (Obs.of (by kernel_rfl) (And.intro (erasureref01_Int.spec e_2) (And.intro (le_one 44 3 cValue dValue y_1) (And.intro (le_one 42 2 cEntry dEntry (TEntry.mk ([y_1]) 3)) (And.intro (And.intro (fls_cons (fle_rfl (.agg ((cCache (TCache.mk (⟨#[]⟩ : ByteArray) (⟨#[]⟩ : ByteArray) 0 2)).map .p))) (fls_cons (fle_nil 5 cCached dCached) (fls_cons (fle_rfl (.p (eL 2 cEntry dEntry ([(TEntry.mk ([y_1]) 3)])))) (fls_cons (fle_rfl (.agg ((cValue y_1).map .p))) (fls_cons (fle_rfl (.p (.int .i64 5))) fls_nil))))) (cache_Lookup.spec e_4)) (And.intro (And.intro (fls_cons (fle_rfl (.agg ((cCache (TCache.mk (⟨#[]⟩ : ByteArray) (⟨#[]⟩ : ByteArray) 0 2)).map .p))) (fls_cons (fle_rfl (.p (eL 5 cCached dCached y_3.1))) (fls_cons (fle_nil 2 cEntry dEntry) (fls_cons (fle_rfl (.agg ((cValue y_1).map .p))) (fls_cons (fle_rfl (.p (.int .i64 6))) fls_nil))))) (cache_Lookup.spec e_6)) (And.intro (And.intro (fls_cons (fle_rfl (.agg ((cCache (TCache.mk (⟨#[]⟩ : ByteArray) (⟨#[]⟩ : ByteArray) 0 2)).map .p))) (fls_cons (fle_rfl (.p (eL 5 cCached dCached y_5.1))) (fls_cons (fle_nil 2 cEntry dEntry) (fls_cons (fle_rfl (.agg ((cValue y_1).map .p))) (fls_cons (fle_rfl (.p (.int .i64 7))) fls_nil))))) (cache_Lookup.spec e_8)) (nt g_9))))))))
theorem erasurelaw30_awake.mono   : ∀ (k k' : Nat)  (r : Bool), k ≤ k' → erasurelaw30_awake k  = some r → erasurelaw30_awake k'  = some r := by
  intro k k'  r hk h
  unfold erasurelaw30_awake at h ⊢
  obtain ⟨y_1, e_2, h⟩ := bind_or h
  refine bnd (erasureref01_Int.mono _ _ _ _ hk e_2) ?_
  obtain ⟨y_3, e_4, h⟩ := bind_or h
  refine bnd (cache_Lookup.mono _ _ _ _ _ _ _ _ hk e_4) ?_
  obtain ⟨y_5, e_6, h⟩ := bind_or h
  refine bnd (cache_Lookup.mono _ _ _ _ _ _ _ _ hk e_6) ?_
  obtain ⟨y_7, e_8, h⟩ := bind_or h
  refine bnd (cache_Lookup.mono _ _ _ _ _ _ _ _ hk e_8) ?_
  rcases ite_or h with ⟨g_9, h⟩ | ⟨g_9, h⟩
  · refine itp g_9 ?_
    rcases ite_or h with ⟨g_10, h⟩ | ⟨g_10, h⟩
    · refine itp g_10 ?_
      rcases ite_or h with ⟨g_11, h⟩ | ⟨g_11, h⟩
      · refine itp g_11 ?_
        rcases ite_or h with ⟨g_12, h⟩ | ⟨g_12, h⟩
        · refine itp g_12 ?_
          rcases ite_or h with ⟨g_13, h⟩ | ⟨g_13, h⟩
          · refine itp g_13 ?_
            exact h
          · refine itn g_13 ?_
            exact h
        · refine itn g_12 ?_
          exact h
      · refine itn g_11 ?_
        exact h
    · refine itn g_10 ?_
      exact h
  · refine itn g_9 ?_
    exact h
theorem erasurelaw30_awake.spec {k : Nat}  {r : Bool} (h : erasurelaw30_awake k  = some r) : Spec Try.prog 5 [] (.p (.bool r)) [] :=
  spec_of mix Try.func5 (body := bodyOf Try.f5) (by kernel_rfl) (by kernel_rfl) (erasurelaw30_awake.run h)
end Go.Proofs.YtjhnpaenhdbhpacV
set_option linter.unusedVariables false
set_option linter.unusedSimpArgs false
set_option maxRecDepth 100000
namespace Go.Proofs.YtjhnpaenhdbhpacV
open Go Go.RowKit
noncomputable def erasureref01_ValidRow.p1  : Nat → (List TValue) → Int → Option Bool
  | 0, _, _ => none
  | k + 1, r0, i3 => if (decide (i3 < ((r0).length : Int))) = true then (if 0 ≤ i3 ∧ i3 < ((r0).length : Int) then ((erasureref01_Valid k (r0.getD i3.toNat dValue)).bind fun y_4 => (if (!y_4) = true then (some false) else (erasureref01_ValidRow.p1 k r0 (IntKind.i64.wrap (i3 + 1))))) else none) else (some true)
noncomputable def erasureref01_ValidRow  (k : Nat) (r0 : (List TValue)) : Option Bool := if (decide (((r0).length : Int) > 16)) = true then (some false) else (erasureref01_ValidRow.p1 k r0 0)
noncomputable def erasureref01_ValidRow.t : List Item := [.code (bodyOf Try.f15)]
noncomputable def erasureref01_ValidRow.s (r0 : (List TValue)) : St := ⟨frOf Try.f15.ntmps 0 [(0, .p (eL 3 cValue dValue r0))], []⟩
noncomputable def erasureref01_ValidRow.p1.t : List Item := nav 12 [false] erasureref01_ValidRow.t
noncomputable def erasureref01_ValidRow.p1.s (r0 : (List TValue)) (i3 : Int) : St := ⟨frOf Try.f15.ntmps 0 [(0, .p (eL 3 cValue dValue r0)), (3, .p (.int .i64 i3))], []⟩
theorem erasureref01_ValidRow.p1.run   : ∀ (k : Nat) (r0 : (List TValue)) (i3 : Int) (r : Bool), erasureref01_ValidRow.p1 k r0 i3 = some r → RunC Try.prog Try.f15 erasureref01_ValidRow.p1.t (erasureref01_ValidRow.p1.s r0 i3) (.p (.bool r)) [] := by
  intro k
  induction k with
  | zero => intro r0 i3 r h; simp [erasureref01_ValidRow.p1] at h
  | succ k ih =>
    intro r0 i3 r h
    rw [erasureref01_ValidRow.p1] at h
    rcases ite_or h with ⟨g_2, h⟩ | ⟨g_2, h⟩
    · obtain ⟨g_3, h⟩ := ite_some h
      obtain ⟨y_4, e_5, h⟩ := bind_or h
      rcases ite_or h with ⟨g_6, h⟩ | ⟨g_6, h⟩
      · obtain rfl := Option.some.inj h
        exact RunC.out [.n 2, .r [(3, .dec true)], .n 5, .r [(4, .call (.p (.bool y_4)) []), (5, .dec true)], .n 3] (by kernel_rfl) (Obs.of (by kernel_rfl) (And.intro g_2 (And.intro g_3 (And.intro (erasureref01_Valid.spec e_5) g_6))))
      · exact RunC.go [.n 2, .r [(3, .dec true)], .n 5, .r [(4, .call (.p (.bool y_4)) []), (5, .dec false)], .n 5, .k [0, 3]] (by kernel_rfl) (Obs.of (by kernel_rfl) (And.intro g_2 (And.intro g_3 (And.intro (erasureref01_Valid.spec e_5) (nt g_6))))) (ih _ _ r h)
    · obtain rfl := Option.some.inj h
      exact RunC.out [.n 2, .r [(3, .dec false)], .n 4] (by kernel_rfl) (Obs.of (by kernel_rfl) (nt g_2))
theorem erasureref01_ValidRow.run   {k : Nat} {r0 : (List TValue)} {r : Bool} (h : erasureref01_ValidRow k r0 = some r) : RunC Try.prog Try.f15 erasureref01_ValidRow.t (erasureref01_ValidRow.s r0) (.p (.bool r)) [] := by
  unfold erasureref01_ValidRow at h
  rcases ite_or h with ⟨g_1, h⟩ | ⟨g_1, h⟩
  · obtain rfl := Option.some.inj h
    exact RunC.out [.n 4, .r [(2, .dec true)], .n 3] (by kernel_rfl) (Obs.of (by kernel_rfl) g_1)
  · exact RunC.go [.n 4, .r [(2, .dec false)], .n 7, .k [0, 3]] (by kernel_rfl) (Obs.of (by kernel_rfl) (nt g_1)) (erasureref01_ValidRow.p1.run k _ _ r h)
theorem erasureref01_ValidRow.p1.mono   : ∀ (k k' : Nat) (r0 : (List TValue)) (i3 : Int) (r : Bool), k ≤ k' → erasureref01_ValidRow.p1 k r0 i3 = some r → erasureref01_ValidRow.p1 k' r0 i3 = some r := by
  intro k
  induction k with
  | zero => intro k' r0 i3 r hk h; simp [erasureref01_ValidRow.p1] at h
  | succ k ih =>
    intro k' r0 i3 r hk h
    obtain ⟨k', rfl⟩ : ∃ m, k' = m + 1 := ⟨k' - 1, by omega⟩
    replace hk := Nat.le_of_succ_le_succ hk
    rw [erasureref01_ValidRow.p1] at h ⊢
    rcases ite_or h with ⟨g_2, h⟩ | ⟨g_2, h⟩
    · refine itp g_2 ?_
      obtain ⟨g_3, h⟩ := ite_some h
      refine itp g_3 ?_
      obtain ⟨y_4, e_5, h⟩ := bind_or h
      refine bnd (erasureref01_Valid.mono _ _ _ _ hk e_5) ?_
      rcases ite_or h with ⟨g_6, h⟩ | ⟨g_6, h⟩
      · refine itp g_6 ?_
        exact h
      · refine itn g_6 ?_
        exact ih _ _ _ r hk h
    · refine itn g_2 ?_
      exact h
theorem erasureref01_ValidRow.mono   : ∀ (k k' : Nat) (r0 : (List TValue)) (r : Bool), k ≤ k' → erasureref01_ValidRow k r0 = some r → erasureref01_ValidRow k' r0 = some r := by
  intro k k' r0 r hk h
  unfold erasureref01_ValidRow at h ⊢
  rcases ite_or h with ⟨g_1, h⟩ | ⟨g_1, h⟩
  · refine itp g_1 ?_
    exact h
  · refine itn g_1 ?_
    exact erasureref01_ValidRow.p1.mono _ _ _ _ r hk h
theorem erasureref01_ValidRow.spec {k : Nat} {r0 : (List TValue)} {r : Bool} (h : erasureref01_ValidRow k r0 = some r) : Spec Try.prog 15 [.p (eL 3 cValue dValue r0)] (.p (.bool r)) [] :=
  spec_of mix Try.func15 (body := bodyOf Try.f15) (by kernel_rfl) (by kernel_rfl) (erasureref01_ValidRow.run h)
end Go.Proofs.YtjhnpaenhdbhpacV
set_option linter.unusedVariables false
set_option linter.unusedSimpArgs false
set_option maxRecDepth 100000
namespace Go.Proofs.YtjhnpaenhdbhpacV
open Go Go.RowKit
noncomputable def erasureref06_countOK  (k : Nat) (n0 : Int) : Option Bool := if (decide (n0 ≥ (-262144))) = true then (some (decide (n0 ≤ 262144))) else (some false)
noncomputable def erasureref06_countOK.t : List Item := [.code (bodyOf Try.f16)]
noncomputable def erasureref06_countOK.s (n0 : Int) : St := ⟨frOf Try.f16.ntmps 0 [(0, .p (.int .i64 n0))], []⟩
theorem erasureref06_countOK.run   {k : Nat} {n0 : Int} {r : Bool} (h : erasureref06_countOK k n0 = some r) : RunC Try.prog Try.f16 erasureref06_countOK.t (erasureref06_countOK.s n0) (.p (.bool r)) [] := by
  unfold erasureref06_countOK at h
  rcases ite_or h with ⟨g_1, h⟩ | ⟨g_1, h⟩
  · obtain rfl := Option.some.inj h
    exact RunC.out [.n 3, .r [(2, .dec true)]] (by kernel_rfl) (Obs.of (by kernel_rfl) g_1)
  · obtain rfl := Option.some.inj h
    exact RunC.out [.n 3, .r [(2, .dec false)]] (by kernel_rfl) (Obs.of (by kernel_rfl) (nt g_1))
theorem erasureref06_countOK.mono   : ∀ (k k' : Nat) (n0 : Int) (r : Bool), k ≤ k' → erasureref06_countOK k n0 = some r → erasureref06_countOK k' n0 = some r := by
  intro k k' n0 r hk h
  unfold erasureref06_countOK at h ⊢
  rcases ite_or h with ⟨g_1, h⟩ | ⟨g_1, h⟩
  · refine itp g_1 ?_
    exact h
  · refine itn g_1 ?_
    exact h
theorem erasureref06_countOK.spec {k : Nat} {n0 : Int} {r : Bool} (h : erasureref06_countOK k n0 = some r) : Spec Try.prog 16 [.p (.int .i64 n0)] (.p (.bool r)) [] :=
  spec_of mix Try.func16 (body := bodyOf Try.f16) (by kernel_rfl) (by kernel_rfl) (erasureref06_countOK.run h)
end Go.Proofs.YtjhnpaenhdbhpacV
