/- Part of the proof of ReleaseSingle: printed by programs of this repo out of the translation, and by hand. Each theorem's conditions stand in its statement. -/
import Derived.Shelf.SlSortCmp.NoneTotal
import Derived.Orders
import Derived.Below
import Derived.Laws.AppendOwn
import Derived.Laws.OwnMore
import Derived.KernelRfl
import Derived.Test.YtjhnpaenhdbhpaaProg
import Derived.Test.YtjhnpaenhdbhpaaMReleaseSinglea
import Derived.Test.YtjhnpaenhdbhpaaMReleaseSingleb
set_option linter.unusedVariables false
set_option linter.unusedSimpArgs false
set_option maxRecDepth 100000
namespace Go.Proofs.YtjhnpaenhdbhpaaV
open Go Go.RowKit
noncomputable def cmp_Compare_string  (k : Nat) (x0 : ByteArray) (y1 : ByteArray) : Option Int := (cmp_isNaN_string k x0).bind fun y_1 => ((cmp_isNaN_string k y1).bind fun y_3 => (if y_1 = true then (if y_3 = true then (some 0) else (some (-1))) else (if y_3 = true then (some 1) else (if (Op.bytesLess x0.data.toList y1.data.toList) = true then (some (-1)) else (if (!((Op.bytesLess x0.data.toList y1.data.toList) || (x0.data.toList == y1.data.toList))) = true then (some 1) else (some 0))))))
noncomputable def cmp_Compare_string.t : List Item := [.code (bodyOf Try.f58)]
noncomputable def cmp_Compare_string.s (x0 : ByteArray) (y1 : ByteArray) : St := ⟨frOf Try.f58.ntmps 0 [(0, .p (.str x0)), (1, .p (.str y1))], []⟩
theorem cmp_Compare_string.run   {k : Nat} {x0 : ByteArray} {y1 : ByteArray} {r : Int} (h : cmp_Compare_string k x0 y1 = some r) : RunC Try.prog Try.f58 cmp_Compare_string.t (cmp_Compare_string.s x0 y1) (.p (.int .i64 r)) [] := by
  unfold cmp_Compare_string at h
  obtain ⟨y_1, e_2, h⟩ := bind_or h
  obtain ⟨y_3, e_4, h⟩ := bind_or h
  rcases ite_or h with ⟨g_5, h⟩ | ⟨g_5, h⟩
  · rcases ite_or h with ⟨g_6, h⟩ | ⟨g_6, h⟩
    · obtain rfl := Option.some.inj h
      exact RunC.out [.n 3, .r [(1, .call (.p (.bool y_1)) [])], .n 1, .r [(1, .call (.p (.bool y_3)) [])], .n 2, .r [(0, .dec true)], .n 3, .r [(0, .dec true)], .n 3] (by kernel_rfl) (Obs.of (by kernel_rfl) (And.intro (cmp_isNaN_string.spec e_2) (And.intro (cmp_isNaN_string.spec e_4) (And.intro g_5 g_6))))
    · obtain rfl := Option.some.inj h
      exact RunC.out [.n 3, .r [(1, .call (.p (.bool y_1)) [])], .n 1, .r [(1, .call (.p (.bool y_3)) [])], .n 2, .r [(0, .dec true)], .n 3, .r [(0, .dec false)], .n 4] (by kernel_rfl) (Obs.of (by kernel_rfl) (And.intro (cmp_isNaN_string.spec e_2) (And.intro (cmp_isNaN_string.spec e_4) (And.intro g_5 (nt g_6)))))
  · rcases ite_or h with ⟨g_7, h⟩ | ⟨g_7, h⟩
    · obtain rfl := Option.some.inj h
      exact RunC.out [.n 3, .r [(1, .call (.p (.bool y_1)) [])], .n 1, .r [(1, .call (.p (.bool y_3)) [])], .n 2, .r [(0, .dec false)], .n 4, .r [(0, .dec true)], .n 3] (by kernel_rfl) (Obs.of (by kernel_rfl) (And.intro (cmp_isNaN_string.spec e_2) (And.intro (cmp_isNaN_string.spec e_4) (And.intro (nt g_5) g_7))))
    · rcases ite_or h with ⟨g_8, h⟩ | ⟨g_8, h⟩
      · obtain rfl := Option.some.inj h
        exact RunC.out [.n 3, .r [(1, .call (.p (.bool y_1)) [])], .n 1, .r [(1, .call (.p (.bool y_3)) [])], .n 2, .r [(0, .dec false)], .n 4, .r [(0, .dec false)], .n 4, .r [(2, .dec true)], .n 3] (by kernel_rfl) (Obs.of (by kernel_rfl) (And.intro (cmp_isNaN_string.spec e_2) (And.intro (cmp_isNaN_string.spec e_4) (And.intro (nt g_5) (And.intro (nt g_7) g_8)))))
      · rcases ite_or h with ⟨g_9, h⟩ | ⟨g_9, h⟩
        · obtain rfl := Option.some.inj h
          exact RunC.out [.n 3, .r [(1, .call (.p (.bool y_1)) [])], .n 1, .r [(1, .call (.p (.bool y_3)) [])], .n 2, .r [(0, .dec false)], .n 4, .r [(0, .dec false)], .n 4, .r [(2, .dec false)], .n 4, .r [(2, .dec true)], .n 3] (by kernel_rfl) (Obs.of (by kernel_rfl) (And.intro (cmp_isNaN_string.spec e_2) (And.intro (cmp_isNaN_string.spec e_4) (And.intro (nt g_5) (And.intro (nt g_7) (And.intro (nt g_8) g_9))))))
        · obtain rfl := Option.some.inj h
          exact RunC.out [.n 3, .r [(1, .call (.p (.bool y_1)) [])], .n 1, .r [(1, .call (.p (.bool y_3)) [])], .n 2, .r [(0, .dec false)], .n 4, .r [(0, .dec false)], .n 4, .r [(2, .dec false)], .n 4, .r [(2, .dec false)], .n 4] (by kernel_rfl) (Obs.of (by kernel_rfl) (And.intro (cmp_isNaN_string.spec e_2) (And.intro (cmp_isNaN_string.spec e_4) (And.intro (nt g_5) (And.intro (nt g_7) (And.intro (nt g_8) (nt g_9)))))))
theorem cmp_Compare_string.mono   : ∀ (k k' : Nat) (x0 : ByteArray) (y1 : ByteArray) (r : Int), k ≤ k' → cmp_Compare_string k x0 y1 = some r → cmp_Compare_string k' x0 y1 = some r := by
  intro k k' x0 y1 r hk h
  unfold cmp_Compare_string at h ⊢
  obtain ⟨y_1, e_2, h⟩ := bind_or h
  refine bnd (cmp_isNaN_string.mono _ _ _ _ hk e_2) ?_
  obtain ⟨y_3, e_4, h⟩ := bind_or h
  refine bnd (cmp_isNaN_string.mono _ _ _ _ hk e_4) ?_
  rcases ite_or h with ⟨g_5, h⟩ | ⟨g_5, h⟩
  · refine itp g_5 ?_
    rcases ite_or h with ⟨g_6, h⟩ | ⟨g_6, h⟩
    · refine itp g_6 ?_
      exact h
    · refine itn g_6 ?_
      exact h
  · refine itn g_5 ?_
    rcases ite_or h with ⟨g_7, h⟩ | ⟨g_7, h⟩
    · refine itp g_7 ?_
      exact h
    · refine itn g_7 ?_
      rcases ite_or h with ⟨g_8, h⟩ | ⟨g_8, h⟩
      · refine itp g_8 ?_
        exact h
      · refine itn g_8 ?_
        rcases ite_or h with ⟨g_9, h⟩ | ⟨g_9, h⟩
        · refine itp g_9 ?_
          exact h
        · refine itn g_9 ?_
          exact h
theorem cmp_Compare_string.spec {k : Nat} {x0 : ByteArray} {y1 : ByteArray} {r : Int} (h : cmp_Compare_string k x0 y1 = some r) : Spec Try.prog 58 [.p (.str x0), .p (.str y1)] (.p (.int .i64 r)) [] :=
  spec_of mix Try.func58 (body := bodyOf Try.f58) (by kernel_rfl) (by kernel_rfl) (cmp_Compare_string.run h)
end Go.Proofs.YtjhnpaenhdbhpaaV
set_option linter.unusedVariables false
set_option linter.unusedSimpArgs false
set_option maxRecDepth 100000
namespace Go.Proofs.YtjhnpaenhdbhpaaV
open Go Go.RowKit
noncomputable def value_Compare  (k : Nat) (a0 : TValue) (b1 : TValue) : Option Int := (value_Clean k a0).bind fun y_1 => ((value_Clean k b1).bind fun y_3 => (if (y_1.f0 != y_3.f0) = true then ((cmp_Compare_int k y_1.f0 y_3.f0).bind fun y_6 => (some y_6)) else (if (y_1.f0 == 1) = true then ((cmp_Compare_int64 k y_1.f1 y_3.f1).bind fun y_9 => (some y_9)) else ((cmp_Compare_string k y_1.f2 y_3.f2).bind fun y_11 => (some y_11)))))
noncomputable def value_Compare.t : List Item := [.code (bodyOf Try.f49)]
noncomputable def value_Compare.s (a0 : TValue) (b1 : TValue) : St := ⟨frOf Try.f49.ntmps 0 [(0, .agg ((cValue a0).map .p)), (1, .agg ((cValue b1).map .p))], []⟩
theorem value_Compare.run   {k : Nat} {a0 : TValue} {b1 : TValue} {r : Int} (h : value_Compare k a0 b1 = some r) : RunC Try.prog Try.f49 value_Compare.t (value_Compare.s a0 b1) (.p (.int .i64 r)) [] := by
  unfold value_Compare at h
  obtain ⟨y_1, e_2, h⟩ := bind_or h
  obtain ⟨y_3, e_4, h⟩ := bind_or h
  rcases ite_or h with ⟨g_5, h⟩ | ⟨g_5, h⟩
  · obtain ⟨y_6, e_7, h⟩ := bind_or h
    obtain rfl := Option.some.inj h
    exact RunC.out [.n 3, .r [(1, .call (.agg ((cValue y_1).map .p)) []), (3, .call (.agg ((cValue y_3).map .p)) [])], .n 2, .r [(4, .dec true)], .n 2, .r [(4, .call (.p (.int .i64 y_6)) [])]] (by kernel_rfl) (Obs.of (by kernel_rfl) (And.intro (value_Clean.spec e_2) (And.intro (value_Clean.spec e_4) (And.intro g_5 (cmp_Compare_int.spec e_7)))))
  · rcases ite_or h with ⟨g_8, h⟩ | ⟨g_8, h⟩
    · obtain ⟨y_9, e_10, h⟩ := bind_or h
      obtain rfl := Option.some.inj h
      exact RunC.out [.n 3, .r [(1, .call (.agg ((cValue y_1).map .p)) []), (3, .call (.agg ((cValue y_3).map .p)) [])], .n 2, .r [(4, .dec false)], .n 4, .r [(2, .dec true)], .n 2, .r [(4, .call (.p (.int .i64 y_9)) [])]] (by kernel_rfl) (Obs.of (by kernel_rfl) (And.intro (value_Clean.spec e_2) (And.intro (value_Clean.spec e_4) (And.intro (nt g_5) (And.intro g_8 (cmp_Compare_int64.spec e_10))))))
    · obtain ⟨y_11, e_12, h⟩ := bind_or h
      obtain rfl := Option.some.inj h
      exact RunC.out [.n 3, .r [(1, .call (.agg ((cValue y_1).map .p)) []), (3, .call (.agg ((cValue y_3).map .p)) [])], .n 2, .r [(4, .dec false)], .n 4, .r [(2, .dec false)], .n 3, .r [(4, .call (.p (.int .i64 y_11)) [])]] (by kernel_rfl) (Obs.of (by kernel_rfl) (And.intro (value_Clean.spec e_2) (And.intro (value_Clean.spec e_4) (And.intro (nt g_5) (And.intro (nt g_8) (cmp_Compare_string.spec e_12))))))
theorem value_Compare.mono   : ∀ (k k' : Nat) (a0 : TValue) (b1 : TValue) (r : Int), k ≤ k' → value_Compare k a0 b1 = some r → value_Compare k' a0 b1 = some r := by
  intro k k' a0 b1 r hk h
  unfold value_Compare at h ⊢
  obtain ⟨y_1, e_2, h⟩ := bind_or h
  refine bnd (value_Clean.mono _ _ _ _ hk e_2) ?_
  obtain ⟨y_3, e_4, h⟩ := bind_or h
  refine bnd (value_Clean.mono _ _ _ _ hk e_4) ?_
  rcases ite_or h with ⟨g_5, h⟩ | ⟨g_5, h⟩
  · refine itp g_5 ?_
    obtain ⟨y_6, e_7, h⟩ := bind_or h
    refine bnd (cmp_Compare_int.mono _ _ _ _ _ hk e_7) ?_
    exact h
  · refine itn g_5 ?_
    rcases ite_or h with ⟨g_8, h⟩ | ⟨g_8, h⟩
    · refine itp g_8 ?_
      obtain ⟨y_9, e_10, h⟩ := bind_or h
      refine bnd (cmp_Compare_int64.mono _ _ _ _ _ hk e_10) ?_
      exact h
    · refine itn g_8 ?_
      obtain ⟨y_11, e_12, h⟩ := bind_or h
      refine bnd (cmp_Compare_string.mono _ _ _ _ _ hk e_12) ?_
      exact h
theorem value_Compare.spec {k : Nat} {a0 : TValue} {b1 : TValue} {r : Int} (h : value_Compare k a0 b1 = some r) : Spec Try.prog 49 [.agg ((cValue a0).map .p), .agg ((cValue b1).map .p)] (.p (.int .i64 r)) [] :=
  spec_of mix Try.func49 (body := bodyOf Try.f49) (by kernel_rfl) (by kernel_rfl) (value_Compare.run h)
end Go.Proofs.YtjhnpaenhdbhpaaV
set_option linter.unusedVariables false
set_option linter.unusedSimpArgs false
set_option maxRecDepth 100000
namespace Go.Proofs.YtjhnpaenhdbhpaaV
open Go Go.RowKit
noncomputable def slices_CompareFunc_api_Value__value_Compare.p1  : Nat → (List TValue) → (List TValue) → (List TValue) → Int → Int → Option Int
  | 0, _, _, _, _, _ => none
  | k + 1, s10, s21, v11, v12, v13 => if (decide (v13 < v12)) = true then (if 0 ≤ v13 ∧ v13 < ((v11).length : Int) then (if (decide (v13 ≥ ((s21).length : Int))) = true then (some 1) else (if 0 ≤ v13 ∧ v13 < ((s21).length : Int) then ((value_Compare k (v11.getD v13.toNat dValue) (s21.getD v13.toNat dValue)).bind fun y_5 => (if (y_5 != 0) = true then (some y_5) else (slices_CompareFunc_api_Value__value_Compare.p1 k s10 s21 v11 v12 (IntKind.i64.wrap (v13 + 1))))) else none)) else none) else (if (decide (((s10).length : Int) < ((s21).length : Int))) = true then (some (-1)) else (some 0))
noncomputable def slices_CompareFunc_api_Value__value_Compare  (k : Nat) (s10 : (List TValue)) (s21 : (List TValue)) : Option Int := slices_CompareFunc_api_Value__value_Compare.p1 k s10 s21 s10 ((s10).length : Int) 0
noncomputable def slices_CompareFunc_api_Value__value_Compare.t : List Item := [.code (bodyOf Try.f48)]
noncomputable def slices_CompareFunc_api_Value__value_Compare.s (s10 : (List TValue)) (s21 : (List TValue)) : St := ⟨frOf Try.f48.ntmps 0 [(0, .p (eL 3 cValue dValue s10)), (1, .p (eL 3 cValue dValue s21)), (2, .fn 49 [])], []⟩
noncomputable def slices_CompareFunc_api_Value__value_Compare.p1.t : List Item := nav 7 [] slices_CompareFunc_api_Value__value_Compare.t
noncomputable def slices_CompareFunc_api_Value__value_Compare.p1.s (s10 : (List TValue)) (s21 : (List TValue)) (v11 : (List TValue)) (v12 : Int) (v13 : Int) : St := ⟨frOf Try.f48.ntmps 0 [(0, .p (eL 3 cValue dValue s10)), (1, .p (eL 3 cValue dValue s21)), (2, .fn 49 []), (11, .p (eL 3 cValue dValue v11)), (12, .p (.int .i64 v12)), (13, .p (.int .i64 v13))], []⟩
theorem slices_CompareFunc_api_Value__value_Compare.p1.run   : ∀ (k : Nat) (s10 : (List TValue)) (s21 : (List TValue)) (v11 : (List TValue)) (v12 : Int) (v13 : Int) (r : Int), slices_CompareFunc_api_Value__value_Compare.p1 k s10 s21 v11 v12 v13 = some r → RunC Try.prog Try.f48 slices_CompareFunc_api_Value__value_Compare.p1.t (slices_CompareFunc_api_Value__value_Compare.p1.s s10 s21 v11 v12 v13) (.p (.int .i64 r)) [] := by
  intro k
  induction k with
  | zero => intro s10 s21 v11 v12 v13 r h; simp [slices_CompareFunc_api_Value__value_Compare.p1] at h
  | succ k ih =>
    intro s10 s21 v11 v12 v13 r h
    rw [slices_CompareFunc_api_Value__value_Compare.p1] at h
    rcases ite_or h with ⟨g_1, h⟩ | ⟨g_1, h⟩
    · obtain ⟨g_2, h⟩ := ite_some h
      rcases ite_or h with ⟨g_3, h⟩ | ⟨g_3, h⟩
      · obtain rfl := Option.some.inj h
        exact RunC.out [.n 1, .r [(0, .dec true)], .n 9, .r [(3, .dec true)], .n 3] (by kernel_rfl) (Obs.of (by kernel_rfl) (And.intro g_1 (And.intro g_2 g_3)))
      · obtain ⟨g_4, h⟩ := ite_some h
        obtain ⟨y_5, e_6, h⟩ := bind_or h
        rcases ite_or h with ⟨g_7, h⟩ | ⟨g_7, h⟩
        · obtain rfl := Option.some.inj h
          exact RunC.out [.n 1, .r [(0, .dec true)], .n 9, .r [(3, .dec false)], .n 5, .r [(3, .call (.p (.int .i64 y_5)) [])], .n 1, .r [(1, .dec true)], .n 3] (by kernel_rfl) (Obs.of (by kernel_rfl) (And.intro g_1 (And.intro g_2 (And.intro (nt g_3) (And.intro g_4 (And.intro (value_Compare.spec e_6) g_7))))))
        · exact RunC.go [.n 1, .r [(0, .dec true)], .n 9, .r [(3, .dec false)], .n 5, .r [(3, .call (.p (.int .i64 y_5)) [])], .n 1, .r [(1, .dec false)], .n 5, .k [0, 1, 2, 11, 12, 13]] (by kernel_rfl) (Obs.of (by kernel_rfl) (And.intro g_1 (And.intro g_2 (And.intro (nt g_3) (And.intro g_4 (And.intro (value_Compare.spec e_6) (nt g_7))))))) (ih _ _ _ _ _ r h)
    · rcases ite_or h with ⟨g_8, h⟩ | ⟨g_8, h⟩
      · obtain rfl := Option.some.inj h
        exact RunC.out [.n 1, .r [(0, .dec false)], .n 5, .r [(4, .dec true)], .n 3] (by kernel_rfl) (Obs.of (by kernel_rfl) (And.intro (nt g_1) g_8))
      · obtain rfl := Option.some.inj h
        exact RunC.out [.n 1, .r [(0, .dec false)], .n 5, .r [(4, .dec false)], .n 4] (by kernel_rfl) (Obs.of (by kernel_rfl) (And.intro (nt g_1) (nt g_8)))
theorem slices_CompareFunc_api_Value__value_Compare.run   {k : Nat} {s10 : (List TValue)} {s21 : (List TValue)} {r : Int} (h : slices_CompareFunc_api_Value__value_Compare k s10 s21 = some r) : RunC Try.prog Try.f48 slices_CompareFunc_api_Value__value_Compare.t (slices_CompareFunc_api_Value__value_Compare.s s10 s21) (.p (.int .i64 r)) [] := by
  unfold slices_CompareFunc_api_Value__value_Compare at h
  exact RunC.go [.n 7, .k [0, 1, 2, 11, 12, 13]] (by kernel_rfl) (Obs.tt (by kernel_rfl)) (slices_CompareFunc_api_Value__value_Compare.p1.run k _ _ _ _ _ r h)
theorem slices_CompareFunc_api_Value__value_Compare.p1.mono   : ∀ (k k' : Nat) (s10 : (List TValue)) (s21 : (List TValue)) (v11 : (List TValue)) (v12 : Int) (v13 : Int) (r : Int), k ≤ k' → slices_CompareFunc_api_Value__value_Compare.p1 k s10 s21 v11 v12 v13 = some r → slices_CompareFunc_api_Value__value_Compare.p1 k' s10 s21 v11 v12 v13 = some r := by
  intro k
  induction k with
  | zero => intro k' s10 s21 v11 v12 v13 r hk h; simp [slices_CompareFunc_api_Value__value_Compare.p1] at h
  | succ k ih =>
    intro k' s10 s21 v11 v12 v13 r hk h
    obtain ⟨k', rfl⟩ : ∃ m, k' = m + 1 := ⟨k' - 1, by omega⟩
    replace hk := Nat.le_of_succ_le_succ hk
    rw [slices_CompareFunc_api_Value__value_Compare.p1] at h ⊢
    rcases ite_or h with ⟨g_1, h⟩ | ⟨g_1, h⟩
    · refine itp g_1 ?_
      obtain ⟨g_2, h⟩ := ite_some h
      refine itp g_2 ?_
      rcases ite_or h with ⟨g_3, h⟩ | ⟨g_3, h⟩
      · refine itp g_3 ?_
        exact h
      · refine itn g_3 ?_
        obtain ⟨g_4, h⟩ := ite_some h
        refine itp g_4 ?_
        obtain ⟨y_5, e_6, h⟩ := bind_or h
        refine bnd (value_Compare.mono _ _ _ _ _ hk e_6) ?_
        rcases ite_or h with ⟨g_7, h⟩ | ⟨g_7, h⟩
        · refine itp g_7 ?_
          exact h
        · refine itn g_7 ?_
          exact ih _ _ _ _ _ _ r hk h
    · refine itn g_1 ?_
      rcases ite_or h with ⟨g_8, h⟩ | ⟨g_8, h⟩
      · refine itp g_8 ?_
        exact h
      · refine itn g_8 ?_
        exact h
theorem slices_CompareFunc_api_Value__value_Compare.mono   : ∀ (k k' : Nat) (s10 : (List TValue)) (s21 : (List TValue)) (r : Int), k ≤ k' → slices_CompareFunc_api_Value__value_Compare k s10 s21 = some r → slices_CompareFunc_api_Value__value_Compare k' s10 s21 = some r := by
  intro k k' s10 s21 r hk h
  unfold slices_CompareFunc_api_Value__value_Compare at h ⊢
  exact slices_CompareFunc_api_Value__value_Compare.p1.mono _ _ _ _ _ _ _ r hk h
theorem slices_CompareFunc_api_Value__value_Compare.spec {k : Nat} {s10 : (List TValue)} {s21 : (List TValue)} {r : Int} (h : slices_CompareFunc_api_Value__value_Compare k s10 s21 = some r) : Spec Try.prog 48 [.p (eL 3 cValue dValue s10), .p (eL 3 cValue dValue s21), .fn 49 []] (.p (.int .i64 r)) [] :=
  spec_of mix Try.func48 (body := bodyOf Try.f48) (by kernel_rfl) (by kernel_rfl) (slices_CompareFunc_api_Value__value_Compare.run h)
end Go.Proofs.YtjhnpaenhdbhpaaV
set_option linter.unusedVariables false
set_option linter.unusedSimpArgs false
set_option maxRecDepth 100000
namespace Go.Proofs.YtjhnpaenhdbhpaaV
open Go Go.RowKit
noncomputable def value_CompareRows  (k : Nat) (a0 : (List TValue)) (b1 : (List TValue)) : Option Int := (slices_CompareFunc_api_Value__value_Compare k a0 b1).bind fun y_1 => (some y_1)
noncomputable def value_CompareRows.t : List Item := [.code (bodyOf Try.f41)]
noncomputable def value_CompareRows.s (a0 : (List TValue)) (b1 : (List TValue)) : St := ⟨frOf Try.f41.ntmps 0 [(0, .p (eL 3 cValue dValue a0)), (1, .p (eL 3 cValue dValue b1))], []⟩
theorem value_CompareRows.run   {k : Nat} {a0 : (List TValue)} {b1 : (List TValue)} {r : Int} (h : value_CompareRows k a0 b1 = some r) : RunC Try.prog Try.f41 value_CompareRows.t (value_CompareRows.s a0 b1) (.p (.int .i64 r)) [] := by
  unfold value_CompareRows at h
  obtain ⟨y_1, e_2, h⟩ := bind_or h
  obtain rfl := Option.some.inj h
  exact RunC.out [.n 3, .r [(2, .call (.p (.int .i64 y_1)) [])]] (by kernel_rfl) (Obs.of (by kernel_rfl) (slices_CompareFunc_api_Value__value_Compare.spec e_2))
theorem value_CompareRows.mono   : ∀ (k k' : Nat) (a0 : (List TValue)) (b1 : (List TValue)) (r : Int), k ≤ k' → value_CompareRows k a0 b1 = some r → value_CompareRows k' a0 b1 = some r := by
  intro k k' a0 b1 r hk h
  unfold value_CompareRows at h ⊢
  obtain ⟨y_1, e_2, h⟩ := bind_or h
  refine bnd (slices_CompareFunc_api_Value__value_Compare.mono _ _ _ _ _ hk e_2) ?_
  exact h
theorem value_CompareRows.spec {k : Nat} {a0 : (List TValue)} {b1 : (List TValue)} {r : Int} (h : value_CompareRows k a0 b1 = some r) : Spec Try.prog 41 [.p (eL 3 cValue dValue a0), .p (eL 3 cValue dValue b1)] (.p (.int .i64 r)) [] :=
  spec_of mix Try.func41 (body := bodyOf Try.f41) (by kernel_rfl) (by kernel_rfl) (value_CompareRows.run h)
end Go.Proofs.YtjhnpaenhdbhpaaV
set_option linter.unusedVariables false
set_option linter.unusedSimpArgs false
set_option maxRecDepth 100000
namespace Go.Proofs.YtjhnpaenhdbhpaaV
open Go Go.RowKit
noncomputable def bag_Valid.p1  : Nat → (List TEntry) → (List TEntry) → Int → Int → Option Bool
  | 0, _, _, _, _ => none
  | k + 1, b0, v5, v6, v7 => if (decide (v7 < v6)) = true then (if 0 ≤ v7 ∧ v7 < ((v5).length : Int) then ((bag_entryFits k (v5.getD v7.toNat dEntry)).bind fun y_3 => (if (!y_3) = true then (some false) else (if ((v5.getD v7.toNat dEntry).f1 == 0) = true then (some false) else (if (decide (v7 > 0)) = true then (if 0 ≤ (IntKind.i64.wrap (v7 - 1)) ∧ (IntKind.i64.wrap (v7 - 1)) < ((b0).length : Int) then ((value_CompareRows k ((b0.getD (IntKind.i64.wrap (v7 - 1)).toNat dEntry).f0) ((v5.getD v7.toNat dEntry).f0)).bind fun y_9 => (if (decide (y_9 ≥ 0)) = true then (some false) else (bag_Valid.p1 k b0 v5 v6 (IntKind.i64.wrap (v7 + 1))))) else none) else (bag_Valid.p1 k b0 v5 v6 (IntKind.i64.wrap (v7 + 1))))))) else none) else (some (decide (((b0).length : Int) ≤ 4096)))
noncomputable def bag_Valid  (k : Nat) (b0 : (List TEntry)) : Option Bool := bag_Valid.p1 k b0 b0 ((b0).length : Int) 0
noncomputable def bag_Valid.t : List Item := [.code (bodyOf Try.f35)]
noncomputable def bag_Valid.s (b0 : (List TEntry)) : St := ⟨frOf Try.f35.ntmps 0 [(0, .p (eL 2 cEntry dEntry b0))], []⟩
noncomputable def bag_Valid.p1.t : List Item := nav 7 [] bag_Valid.t
noncomputable def bag_Valid.p1.s (b0 : (List TEntry)) (v5 : (List TEntry)) (v6 : Int) (v7 : Int) : St := ⟨frOf Try.f35.ntmps 0 [(0, .p (eL 2 cEntry dEntry b0)), (5, .p (eL 2 cEntry dEntry v5)), (6, .p (.int .i64 v6)), (7, .p (.int .i64 v7))], []⟩
theorem bag_Valid.p1.run   : ∀ (k : Nat) (b0 : (List TEntry)) (v5 : (List TEntry)) (v6 : Int) (v7 : Int) (r : Bool), bag_Valid.p1 k b0 v5 v6 v7 = some r → RunC Try.prog Try.f35 bag_Valid.p1.t (bag_Valid.p1.s b0 v5 v6 v7) (.p (.bool r)) [] := by
  intro k
  induction k with
  | zero => intro b0 v5 v6 v7 r h; simp [bag_Valid.p1] at h
  | succ k ih =>
    intro b0 v5 v6 v7 r h
    rw [bag_Valid.p1] at h
    rcases ite_or h with ⟨g_1, h⟩ | ⟨g_1, h⟩
    · obtain ⟨g_2, h⟩ := ite_some h
      obtain ⟨y_3, e_4, h⟩ := bind_or h
      rcases ite_or h with ⟨g_5, h⟩ | ⟨g_5, h⟩
      · obtain rfl := Option.some.inj h
        exact RunC.out [.n 1, .r [(0, .dec true)], .n 8, .r [(1, .call (.p (.bool y_3)) []), (3, .dec true)], .n 3] (by kernel_rfl) (Obs.of (by kernel_rfl) (And.intro g_1 (And.intro g_2 (And.intro (bag_entryFits.spec e_4) g_5))))
      · rcases ite_or h with ⟨g_6, h⟩ | ⟨g_6, h⟩
        · obtain rfl := Option.some.inj h
          exact RunC.out [.n 1, .r [(0, .dec true)], .n 8, .r [(1, .call (.p (.bool y_3)) []), (3, .dec false), (8, .dec true)], .n 3] (by kernel_rfl) (Obs.of (by kernel_rfl) (And.intro g_1 (And.intro g_2 (And.intro (bag_entryFits.spec e_4) (And.intro (nt g_5) g_6)))))
        · rcases ite_or h with ⟨g_7, h⟩ | ⟨g_7, h⟩
          · obtain ⟨g_8, h⟩ := ite_some h
            obtain ⟨y_9, e_10, h⟩ := bind_or h
            rcases ite_or h with ⟨g_11, h⟩ | ⟨g_11, h⟩
            · obtain rfl := Option.some.inj h
              exact RunC.out [.n 1, .r [(0, .dec true)], .n 8, .r [(1, .call (.p (.bool y_3)) []), (3, .dec false), (8, .dec false), (11, .dec true), (20, .call (.p (.int .i64 y_9)) []), (23, .dec true)], .n 3] (by kernel_rfl) (Obs.of (by kernel_rfl) (And.intro g_1 (And.intro g_2 (And.intro (bag_entryFits.spec e_4) (And.intro (nt g_5) (And.intro (nt g_6) (And.intro g_7 (And.intro g_8 (And.intro (value_CompareRows.spec e_10) g_11)))))))))
            · exact RunC.go [.n 1, .r [(0, .dec true)], .n 8, .r [(1, .call (.p (.bool y_3)) []), (3, .dec false), (8, .dec false), (11, .dec true), (20, .call (.p (.int .i64 y_9)) []), (23, .dec false)], .n 5, .k [0, 5, 6, 7]] (by kernel_rfl) (Obs.of (by kernel_rfl) (And.intro g_1 (And.intro g_2 (And.intro (bag_entryFits.spec e_4) (And.intro (nt g_5) (And.intro (nt g_6) (And.intro g_7 (And.intro g_8 (And.intro (value_CompareRows.spec e_10) (nt g_11)))))))))) (ih _ _ _ _ r h)
          · exact RunC.go [.n 1, .r [(0, .dec true)], .n 8, .r [(1, .call (.p (.bool y_3)) []), (3, .dec false), (8, .dec false), (11, .dec false)], .n 5, .k [0, 5, 6, 7]] (by kernel_rfl) (Obs.of (by kernel_rfl) (And.intro g_1 (And.intro g_2 (And.intro (bag_entryFits.spec e_4) (And.intro (nt g_5) (And.intro (nt g_6) (nt g_7))))))) (ih _ _ _ _ r h)
    · obtain rfl := Option.some.inj h
      exact RunC.out [.n 1, .r [(0, .dec false)], .n 5] (by kernel_rfl) (Obs.of (by kernel_rfl) (nt g_1))
theorem bag_Valid.run   {k : Nat} {b0 : (List TEntry)} {r : Bool} (h : bag_Valid k b0 = some r) : RunC Try.prog Try.f35 bag_Valid.t (bag_Valid.s b0) (.p (.bool r)) [] := by
  unfold bag_Valid at h
  exact RunC.go [.n 7, .k [0, 5, 6, 7]] (by kernel_rfl) (Obs.tt (by kernel_rfl)) (bag_Valid.p1.run k _ _ _ _ r h)
theorem bag_Valid.p1.mono   : ∀ (k k' : Nat) (b0 : (List TEntry)) (v5 : (List TEntry)) (v6 : Int) (v7 : Int) (r : Bool), k ≤ k' → bag_Valid.p1 k b0 v5 v6 v7 = some r → bag_Valid.p1 k' b0 v5 v6 v7 = some r := by
  intro k
  induction k with
  | zero => intro k' b0 v5 v6 v7 r hk h; simp [bag_Valid.p1] at h
  | succ k ih =>
    intro k' b0 v5 v6 v7 r hk h
    obtain ⟨k', rfl⟩ : ∃ m, k' = m + 1 := ⟨k' - 1, by omega⟩
    replace hk := Nat.le_of_succ_le_succ hk
    rw [bag_Valid.p1] at h ⊢
    rcases ite_or h with ⟨g_1, h⟩ | ⟨g_1, h⟩
    · refine itp g_1 ?_
      obtain ⟨g_2, h⟩ := ite_some h
      refine itp g_2 ?_
      obtain ⟨y_3, e_4, h⟩ := bind_or h
      refine bnd (bag_entryFits.mono _ _ _ _ hk e_4) ?_
      rcases ite_or h with ⟨g_5, h⟩ | ⟨g_5, h⟩
      · refine itp g_5 ?_
        exact h
      · refine itn g_5 ?_
        rcases ite_or h with ⟨g_6, h⟩ | ⟨g_6, h⟩
        · refine itp g_6 ?_
          exact h
        · refine itn g_6 ?_
          rcases ite_or h with ⟨g_7, h⟩ | ⟨g_7, h⟩
          · refine itp g_7 ?_
            obtain ⟨g_8, h⟩ := ite_some h
            refine itp g_8 ?_
            obtain ⟨y_9, e_10, h⟩ := bind_or h
            refine bnd (value_CompareRows.mono _ _ _ _ _ hk e_10) ?_
            rcases ite_or h with ⟨g_11, h⟩ | ⟨g_11, h⟩
            · refine itp g_11 ?_
              exact h
            · refine itn g_11 ?_
              exact ih _ _ _ _ _ r hk h
          · refine itn g_7 ?_
            exact ih _ _ _ _ _ r hk h
    · refine itn g_1 ?_
      exact h
theorem bag_Valid.mono   : ∀ (k k' : Nat) (b0 : (List TEntry)) (r : Bool), k ≤ k' → bag_Valid k b0 = some r → bag_Valid k' b0 = some r := by
  intro k k' b0 r hk h
  unfold bag_Valid at h ⊢
  exact bag_Valid.p1.mono _ _ _ _ _ _ r hk h
theorem bag_Valid.spec {k : Nat} {b0 : (List TEntry)} {r : Bool} (h : bag_Valid k b0 = some r) : Spec Try.prog 35 [.p (eL 2 cEntry dEntry b0)] (.p (.bool r)) [] :=
  spec_of mix Try.func35 (body := bodyOf Try.f35) (by kernel_rfl) (by kernel_rfl) (bag_Valid.run h)
end Go.Proofs.YtjhnpaenhdbhpaaV
set_option linter.unusedVariables false
set_option linter.unusedSimpArgs false
set_option maxRecDepth 100000
namespace Go.Proofs.YtjhnpaenhdbhpaaV
open Go Go.RowKit
noncomputable def release_cleaned.p1  : Nat → (List TValue) → Int → (List TValue) → Option (List TValue)
  | 0, _, _, _ => none
  | k + 1, r0, i4, out3 => if (decide (i4 < ((r0).length : Int))) = true then (if 0 ≤ i4 ∧ i4 < ((r0).length : Int) then ((value_Clean k (r0.getD i4.toNat dValue)).bind fun y_3 => (if (out3).length + ([y_3]).length ≤ maxLen ∧ ((out3).length + ([y_3]).length) * 32 ≤ 140737488355328 then (release_cleaned.p1 k r0 (IntKind.i64.wrap (i4 + 1)) (out3 ++ ([y_3]))) else none)) else none) else (some out3)
noncomputable def release_cleaned  (k : Nat) (r0 : (List TValue)) : Option (List TValue) := release_cleaned.p1 k r0 0 ([] : List TValue)
noncomputable def release_cleaned.t : List Item := [.code (bodyOf Try.f37)]
noncomputable def release_cleaned.s (r0 : (List TValue)) : St := ⟨frOf Try.f37.ntmps 0 [(0, .p (eL 3 cValue dValue r0))], []⟩
noncomputable def release_cleaned.p1.t : List Item := nav 9 [] release_cleaned.t
noncomputable def release_cleaned.p1.s (r0 : (List TValue)) (i4 : Int) (out3 : (List TValue)) : St := ⟨frOf Try.f37.ntmps 0 [(0, .p (eL 3 cValue dValue r0)), (3, .sref 0 38 3 (out3).length), (4, .p (.int .i64 i4))], [(oL true 38 3 cValue dValue out3)]⟩
theorem release_cleaned.p1.run   : ∀ (k : Nat) (r0 : (List TValue)) (i4 : Int) (out3 : (List TValue)) (r : (List TValue)), release_cleaned.p1 k r0 i4 out3 = some r → RunC Try.prog Try.f37 release_cleaned.p1.t (release_cleaned.p1.s r0 i4 out3) (.sref 0 38 3 (r).length) [(oL true 38 3 cValue dValue (r))] := by
  intro k
  induction k with
  | zero => intro r0 i4 out3 r h; simp [release_cleaned.p1] at h
  | succ k ih =>
    intro r0 i4 out3 r h
    rw [release_cleaned.p1] at h
    rcases ite_or h with ⟨g_1, h⟩ | ⟨g_1, h⟩
    · obtain ⟨g_2, h⟩ := ite_some h
      obtain ⟨y_3, e_4, h⟩ := bind_or h
      obtain ⟨g_5, h⟩ := ite_some h
      exact RunC.go [.n 2, .r [(3, .dec true)], .n 4, .r [(5, .call (.agg ((cValue y_3).map .p)) []), (6, .obj (oL true 38 3 cValue dValue [y_3])), (7, .obj (oL true 38 3 cValue dValue (out3 ++ ([y_3]))))], .n 3, .k [0, 3, 4]] (by kernel_rfl) (Obs.of (by kernel_rfl) (And.intro g_1 (And.intro g_2 (And.intro (value_Clean.spec e_4) (And.intro (le_one 38 3 cValue dValue y_3) (And.intro g_5 (le_app 38 3 cValue dValue out3 ([y_3])))))))) (ih _ _ _ r h)
    · obtain rfl := Option.some.inj h
      exact RunC.out [.n 2, .r [(3, .dec false)], .n 4] (by kernel_rfl) (Obs.of (by kernel_rfl) (nt g_1))
theorem release_cleaned.run   {k : Nat} {r0 : (List TValue)} {r : (List TValue)} (h : release_cleaned k r0 = some r) : RunC Try.prog Try.f37 release_cleaned.t (release_cleaned.s r0) (.sref 0 38 3 (r).length) [(oL true 38 3 cValue dValue (r))] := by
  unfold release_cleaned at h
  exact RunC.go [.n 1, .r [(0, .obj (oL true 38 3 cValue dValue ([] : List TValue)))], .n 1, .r [(0, .obj (oL true 38 3 cValue dValue ([] : List TValue)))], .n 5, .k [0, 3, 4]] (by kernel_rfl) (Obs.of (by kernel_rfl) (And.intro (le_nil 38 3 cValue dValue) (le_nil 38 3 cValue dValue))) (release_cleaned.p1.run k _ _ _ r h)
theorem release_cleaned.p1.mono   : ∀ (k k' : Nat) (r0 : (List TValue)) (i4 : Int) (out3 : (List TValue)) (r : (List TValue)), k ≤ k' → release_cleaned.p1 k r0 i4 out3 = some r → release_cleaned.p1 k' r0 i4 out3 = some r := by
  intro k
  induction k with
  | zero => intro k' r0 i4 out3 r hk h; simp [release_cleaned.p1] at h
  | succ k ih =>
    intro k' r0 i4 out3 r hk h
    obtain ⟨k', rfl⟩ : ∃ m, k' = m + 1 := ⟨k' - 1, by omega⟩
    replace hk := Nat.le_of_succ_le_succ hk
    rw [release_cleaned.p1] at h ⊢
    rcases ite_or h with ⟨g_1, h⟩ | ⟨g_1, h⟩
    · refine itp g_1 ?_
      obtain ⟨g_2, h⟩ := ite_some h
      refine itp g_2 ?_
      obtain ⟨y_3, e_4, h⟩ := bind_or h
      refine bnd (value_Clean.mono _ _ _ _ hk e_4) ?_
      obtain ⟨g_5, h⟩ := ite_some h
      refine itp g_5 ?_
      exact ih _ _ _ _ r hk h
    · refine itn g_1 ?_
      exact h
theorem release_cleaned.mono   : ∀ (k k' : Nat) (r0 : (List TValue)) (r : (List TValue)), k ≤ k' → release_cleaned k r0 = some r → release_cleaned k' r0 = some r := by
  intro k k' r0 r hk h
  unfold release_cleaned at h ⊢
  exact release_cleaned.p1.mono _ _ _ _ _ r hk h
theorem release_cleaned.spec {k : Nat} {r0 : (List TValue)} {r : (List TValue)} (h : release_cleaned k r0 = some r) : Spec Try.prog 37 [.p (eL 3 cValue dValue r0)] (.sref 0 38 3 (r).length) [(oL true 38 3 cValue dValue (r))] :=
  spec_of mix Try.func37 (body := bodyOf Try.f37) (by kernel_rfl) (by kernel_rfl) (release_cleaned.run h)
end Go.Proofs.YtjhnpaenhdbhpaaV
set_option linter.unusedVariables false
set_option linter.unusedSimpArgs false
set_option maxRecDepth 100000
namespace Go.Proofs.YtjhnpaenhdbhpaaV
open Go Go.RowKit
noncomputable def release_Publish_1__x0  (k : Nat) (x0 : TEntry) (c0 : Int) (c1 : Int) (o3 : (List TPublished)) : Option (Int × Int × (List TPublished)) := if (x0.f1 != 1) = true then (some (c0, c1, o3)) else (if (decide (c0 ≥ ((x0.f0).length : Int))) = true then (some (c0, c1, o3)) else (if 0 ≤ c0 ∧ c0 < ((x0.f0).length : Int) then (if ((x0.f0.getD c0.toNat dValue).f0 != 1) = true then (some (c0, c1, o3)) else (if (decide ((x0.f0.getD c0.toNat dValue).f1 < c1)) = true then (some (c0, c1, o3)) else (if (decide ((x0.f0.getD c0.toNat dValue).f1 > 4294967296)) = true then (some (c0, c1, o3)) else (if 0 ≤ (0 : Int) ∧ (0 : Int) ≤ c0 ∧ c0 ≤ ((x0.f0).length : Int) then ((release_cleaned k (subL x0.f0 (0 : Int) c0)).bind fun y_8 => (if c1 ≠ 0 then (if (o3).length + ([(TPublished.mk y_8 (IntKind.i64.wrap ((x0.f0.getD c0.toNat dValue).f1 - (((x0.f0.getD c0.toNat dValue).f1).tmod c1))))]).length ≤ maxLen ∧ ((o3).length + ([(TPublished.mk y_8 (IntKind.i64.wrap ((x0.f0.getD c0.toNat dValue).f1 - (((x0.f0.getD c0.toNat dValue).f1).tmod c1))))]).length) * 32 ≤ 140737488355328 then (some (c0, c1, (o3 ++ ([(TPublished.mk y_8 (IntKind.i64.wrap ((x0.f0.getD c0.toNat dValue).f1 - (((x0.f0.getD c0.toNat dValue).f1).tmod c1))))])))) else none) else none)) else none)))) else none))
noncomputable def release_Publish_1__x0.t : List Item := [.code (bodyOf Try.f36)]
noncomputable def release_Publish_1__x0.s (x0 : TEntry) (c0 : Int) (c1 : Int) (o3 : (List TPublished)) : St := ⟨frOf Try.f36.ntmps 0 [(0, .agg ((cEntry x0).map .p)), (1, .ptr 0 0 0), (2, .ptr 1 0 0), (3, .ptr 2 0 0)], [.box [.p (.int .i64 c0)], .box [.p (.int .i64 c1)], .box [.sref 3 43 2 (o3).length], (oL true 43 2 cPublished dPublished o3)]⟩
theorem release_Publish_1__x0.run   {k : Nat} {x0 : TEntry} {c0 : Int} {c1 : Int} {o3 : (List TPublished)} {r : (Int × Int × (List TPublished))} (h : release_Publish_1__x0 k x0 c0 c1 o3 = some r) : RunC Try.prog (outsF Try.f36 [1, 2, 3]) release_Publish_1__x0.t (release_Publish_1__x0.s x0 c0 c1 o3) (.tup [.ptr 0 0 0, .ptr 1 0 0, .ptr 2 0 0]) [.box [.p (.int .i64 r.1)], .box [.p (.int .i64 r.2.1)], .box [.sref 3 43 2 (r.2.2).length], (oL true 43 2 cPublished dPublished r.2.2)] := by
  unfold release_Publish_1__x0 at h
  rcases ite_or h with ⟨g_1, h⟩ | ⟨g_1, h⟩
  · obtain rfl := Option.some.inj h
    exact RunC.out [.n 4, .r [(3, .dec true)], .n 1] (by kernel_rfl) (Obs.of (by kernel_rfl) g_1)
  · rcases ite_or h with ⟨g_2, h⟩ | ⟨g_2, h⟩
    · obtain rfl := Option.some.inj h
      exact RunC.out [.n 4, .r [(3, .dec false), (9, .dec true)], .n 1] (by kernel_rfl) (Obs.of (by kernel_rfl) (And.intro (nt g_1) g_2))
    · obtain ⟨g_3, h⟩ := ite_some h
      rcases ite_or h with ⟨g_4, h⟩ | ⟨g_4, h⟩
      · obtain rfl := Option.some.inj h
        exact RunC.out [.n 4, .r [(3, .dec false), (9, .dec false)], .n 6, .r [(3, .dec true)], .n 1] (by kernel_rfl) (Obs.of (by kernel_rfl) (And.intro (nt g_1) (And.intro (nt g_2) (And.intro g_3 g_4))))
      · rcases ite_or h with ⟨g_5, h⟩ | ⟨g_5, h⟩
        · obtain rfl := Option.some.inj h
          exact RunC.out [.n 4, .r [(3, .dec false), (9, .dec false)], .n 6, .r [(3, .dec false), (9, .dec true)], .n 1] (by kernel_rfl) (Obs.of (by kernel_rfl) (And.intro (nt g_1) (And.intro (nt g_2) (And.intro g_3 (And.intro (nt g_4) g_5)))))
        · rcases ite_or h with ⟨g_6, h⟩ | ⟨g_6, h⟩
          · obtain rfl := Option.some.inj h
            exact RunC.out [.n 4, .r [(3, .dec false), (9, .dec false)], .n 6, .r [(3, .dec false), (9, .dec false), (13, .dec true)], .n 1] (by kernel_rfl) (Obs.of (by kernel_rfl) (And.intro (nt g_1) (And.intro (nt g_2) (And.intro g_3 (And.intro (nt g_4) (And.intro (nt g_5) g_6))))))
          · obtain ⟨g_7, h⟩ := ite_some h
            obtain ⟨y_8, e_9, h⟩ := bind_or h
            obtain ⟨g_10, h⟩ := ite_some h
            obtain ⟨g_11, h⟩ := ite_some h
            obtain rfl := Option.some.inj h
            exact RunC.out [.n 4, .r [(3, .dec false), (9, .dec false)], .n 6, .r [(3, .dec false), (9, .dec false), (13, .dec false)], .n 2, .r [(4, .av (eL 3 cValue dValue (subL x0.f0 (0 : Int) c0))), (5, .call (.sref 0 38 3 (y_8).length) [(oL true 38 3 cValue dValue y_8)]), (14, .obj (oL true 43 2 cPublished dPublished [(TPublished.mk y_8 (IntKind.i64.wrap ((x0.f0.getD c0.toNat dValue).f1 - (((x0.f0.getD c0.toNat dValue).f1).tmod c1))))])), (15, .obj (oL true 43 2 cPublished dPublished (o3 ++ ([(TPublished.mk y_8 (IntKind.i64.wrap ((x0.f0.getD c0.toNat dValue).f1 - (((x0.f0.getD c0.toNat dValue).f1).tmod c1))))]))))]] (by kernel_rfl) (Obs.of (by kernel_rfl) (And.intro (nt g_1) (And.intro (nt g_2) (And.intro g_3 (And.intro (nt g_4) (And.intro (nt g_5) (And.intro (nt g_6) (And.intro (And.intro g_7 (av_slice 3 cValue dValue x0.f0 (0 : Int) c0 g_7)) (And.intro (release_cleaned.spec e_9) (And.intro g_10 (And.intro (le_one 43 2 cPublished dPublished (TPublished.mk y_8 (IntKind.i64.wrap ((x0.f0.getD c0.toNat dValue).f1 - (((x0.f0.getD c0.toNat dValue).f1).tmod c1))))) (And.intro g_11 (le_app 43 2 cPublished dPublished o3 ([(TPublished.mk y_8 (IntKind.i64.wrap ((x0.f0.getD c0.toNat dValue).f1 - (((x0.f0.getD c0.toNat dValue).f1).tmod c1))))]))))))))))))))
theorem release_Publish_1__x0.mono   : ∀ (k k' : Nat) (x0 : TEntry) (c0 : Int) (c1 : Int) (o3 : (List TPublished)) (r : (Int × Int × (List TPublished))), k ≤ k' → release_Publish_1__x0 k x0 c0 c1 o3 = some r → release_Publish_1__x0 k' x0 c0 c1 o3 = some r := by
  intro k k' x0 c0 c1 o3 r hk h
  unfold release_Publish_1__x0 at h ⊢
  rcases ite_or h with ⟨g_1, h⟩ | ⟨g_1, h⟩
  · refine itp g_1 ?_
    exact h
  · refine itn g_1 ?_
    rcases ite_or h with ⟨g_2, h⟩ | ⟨g_2, h⟩
    · refine itp g_2 ?_
      exact h
    · refine itn g_2 ?_
      obtain ⟨g_3, h⟩ := ite_some h
      refine itp g_3 ?_
      rcases ite_or h with ⟨g_4, h⟩ | ⟨g_4, h⟩
      · refine itp g_4 ?_
        exact h
      · refine itn g_4 ?_
        rcases ite_or h with ⟨g_5, h⟩ | ⟨g_5, h⟩
        · refine itp g_5 ?_
          exact h
        · refine itn g_5 ?_
          rcases ite_or h with ⟨g_6, h⟩ | ⟨g_6, h⟩
          · refine itp g_6 ?_
            exact h
          · refine itn g_6 ?_
            obtain ⟨g_7, h⟩ := ite_some h
            refine itp g_7 ?_
            obtain ⟨y_8, e_9, h⟩ := bind_or h
            refine bnd (release_cleaned.mono _ _ _ _ hk e_9) ?_
            obtain ⟨g_10, h⟩ := ite_some h
            refine itp g_10 ?_
            obtain ⟨g_11, h⟩ := ite_some h
            refine itp g_11 ?_
            exact h
theorem release_Publish_1__x0.spec {k : Nat} {x0 : TEntry} {c0 : Int} {c1 : Int} {o3 : (List TPublished)} {r : (Int × Int × (List TPublished))} (h : release_Publish_1__x0 k x0 c0 c1 o3 = some r) : SpecX Try.prog 36 [.agg ((cEntry x0).map .p), .ptr 0 0 0, .ptr 1 0 0, .ptr 2 0 0] [.box [.p (.int .i64 c0)], .box [.p (.int .i64 c1)], .box [.sref 3 43 2 (o3).length], (oL true 43 2 cPublished dPublished o3)] [1, 2, 3] 0 (.tup [.ptr 0 0 0, .ptr 1 0 0, .ptr 2 0 0]) [.box [.p (.int .i64 r.1)], .box [.p (.int .i64 r.2.1)], .box [.sref 3 43 2 (r.2.2).length], (oL true 43 2 cPublished dPublished r.2.2)] :=
  specX_of mix Try.func36 (body := bodyOf Try.f36) (by kernel_rfl) (by kernel_rfl) (by kernel_rfl) (release_Publish_1__x0.run h)
end Go.Proofs.YtjhnpaenhdbhpaaV
set_option linter.unusedVariables false
set_option linter.unusedSimpArgs false
set_option maxRecDepth 100000
namespace Go.Proofs.YtjhnpaenhdbhpaaV
open Go Go.RowKit
noncomputable def release_Publish.p1  : Nat → (List TEntry) → Int → Int → Int → (List TPublished) → Option (List TPublished)
  | 0, _, _, _, _, _ => none
  | k + 1, rows2, i10, o1b, o2b, o3 => if (decide (i10 < ((rows2).length : Int))) = true then (if 0 ≤ i10 ∧ i10 < ((rows2).length : Int) then ((release_Publish_1__x0 k (rows2.getD i10.toNat dEntry) o1b o2b o3).bind fun y_8 => (release_Publish.p1 k rows2 (IntKind.i64.wrap (i10 + 1)) y_8.1 y_8.2.1 y_8.2.2)) else none) else (some o3)
noncomputable def release_Publish  (k : Nat) (r0 : TRelease) (keys1 : Int) (rows2 : (List TEntry)) : Option (List TPublished) := if (decide (r0.f2 < 1)) = true then (some ([] : List TPublished)) else (if (decide (keys1 < 0)) = true then (some ([] : List TPublished)) else ((bag_Valid k rows2).bind fun y_3 => (if (!y_3) = true then (some ([] : List TPublished)) else (release_Publish.p1 k rows2 0 keys1 r0.f2 ([] : List TPublished)))))
noncomputable def release_Publish.t : List Item := [.code (bodyOf Try.f15)]
noncomputable def release_Publish.s (r0 : TRelease) (keys1 : Int) (rows2 : (List TEntry)) : St := ⟨frOf Try.f15.ntmps 0 [(0, .agg ((cRelease r0).map .p)), (1, .p (.int .i64 keys1)), (2, .p (eL 2 cEntry dEntry rows2))], []⟩
noncomputable def release_Publish.p1.t : List Item := nav 18 [false] release_Publish.t
noncomputable def release_Publish.p1.s (rows2 : (List TEntry)) (i10 : Int) (o1b : Int) (o2b : Int) (o3 : (List TPublished)) : St := ⟨frOf Try.f15.ntmps 0 [(2, .p (eL 2 cEntry dEntry rows2)), (7, .ptr 0 0 0), (9, .fn 36 [.ptr 1 0 0, .ptr 2 0 0, .ptr 0 0 0]), (10, .p (.int .i64 i10))], [.box [.sref 3 43 2 (o3).length], .box [.p (.int .i64 o1b)], .box [.p (.int .i64 o2b)], (oL true 43 2 cPublished dPublished o3)]⟩
theorem release_Publish.p1.run   : ∀ (k : Nat) (rows2 : (List TEntry)) (i10 : Int) (o1b : Int) (o2b : Int) (o3 : (List TPublished)) (r : (List TPublished)), release_Publish.p1 k rows2 i10 o1b o2b o3 = some r → RunC Try.prog Try.f15 release_Publish.p1.t (release_Publish.p1.s rows2 i10 o1b o2b o3) (.sref 0 43 2 (r).length) [(oL true 43 2 cPublished dPublished (r))] := by
  intro k
  induction k with
  | zero => intro rows2 i10 o1b o2b o3 r h; simp [release_Publish.p1] at h
  | succ k ih =>
    intro rows2 i10 o1b o2b o3 r h
    rw [release_Publish.p1] at h
    rcases ite_or h with ⟨g_6, h⟩ | ⟨g_6, h⟩
    · obtain ⟨g_7, h⟩ := ite_some h
      obtain ⟨y_8, e_9, h⟩ := bind_or h
      exact RunC.go [.n 2, .r [(3, .dec true)], .n 4, .r [(5, .callX [1, 2, 0, 3] [1, 2, 3] (.tup [.ptr 0 0 0, .ptr 1 0 0, .ptr 2 0 0]) [.box [.p (.int .i64 y_8.1)], .box [.p (.int .i64 y_8.2.1)], .box [.sref 3 43 2 (y_8.2.2).length], (oL true 43 2 cPublished dPublished y_8.2.2)])], .n 3, .k [2, 7, 9, 10]] (by kernel_rfl) (Obs.of (by kernel_rfl) (And.intro g_6 (And.intro g_7 (release_Publish_1__x0.spec e_9)))) (ih _ _ _ _ _ r h)
    · obtain rfl := Option.some.inj h
      exact RunC.out [.n 2, .r [(3, .dec false)], .n 4] (by kernel_rfl) (Obs.of (by kernel_rfl) (nt g_6))
theorem release_Publish.run   {k : Nat} {r0 : TRelease} {keys1 : Int} {rows2 : (List TEntry)} {r : (List TPublished)} (h : release_Publish k r0 keys1 rows2 = some r) : RunC Try.prog Try.f15 release_Publish.t (release_Publish.s r0 keys1 rows2) (.sref 0 43 2 (r).length) [(oL true 43 2 cPublished dPublished (r))] := by
  unfold release_Publish at h
  rcases ite_or h with ⟨g_1, h⟩ | ⟨g_1, h⟩
  · obtain rfl := Option.some.inj h
    exact RunC.out [.n 1, .r [(2, .obj (oL true 43 2 cPublished dPublished ([] : List TPublished)))], .n 2, .r [(3, .dec true)], .n 2, .r [(0, .obj (oL true 43 2 cPublished dPublished ([] : List TPublished)))]] (by kernel_rfl) (Obs.of (by kernel_rfl) (And.intro (le_nil 43 2 cPublished dPublished) (And.intro g_1 (le_nil 43 2 cPublished dPublished))))
  · rcases ite_or h with ⟨g_2, h⟩ | ⟨g_2, h⟩
    · obtain rfl := Option.some.inj h
      exact RunC.out [.n 1, .r [(2, .obj (oL true 43 2 cPublished dPublished ([] : List TPublished)))], .n 2, .r [(3, .dec false), (7, .dec true)], .n 2, .r [(0, .obj (oL true 43 2 cPublished dPublished ([] : List TPublished)))]] (by kernel_rfl) (Obs.of (by kernel_rfl) (And.intro (le_nil 43 2 cPublished dPublished) (And.intro (nt g_1) (And.intro g_2 (le_nil 43 2 cPublished dPublished)))))
    · obtain ⟨y_3, e_4, h⟩ := bind_or h
      rcases ite_or h with ⟨g_5, h⟩ | ⟨g_5, h⟩
      · obtain rfl := Option.some.inj h
        exact RunC.out [.n 1, .r [(2, .obj (oL true 43 2 cPublished dPublished ([] : List TPublished)))], .n 2, .r [(3, .dec false), (7, .dec false), (9, .call (.p (.bool y_3)) []), (11, .dec true)], .n 2, .r [(0, .obj (oL true 43 2 cPublished dPublished ([] : List TPublished)))]] (by kernel_rfl) (Obs.of (by kernel_rfl) (And.intro (le_nil 43 2 cPublished dPublished) (And.intro (nt g_1) (And.intro (nt g_2) (And.intro (bag_Valid.spec e_4) (And.intro g_5 (le_nil 43 2 cPublished dPublished)))))))
      · exact RunC.go [.n 1, .r [(2, .obj (oL true 43 2 cPublished dPublished ([] : List TPublished)))], .n 2, .r [(3, .dec false), (7, .dec false), (9, .call (.p (.bool y_3)) []), (11, .dec false)], .n 3, .r [(0, .obj (oL true 43 2 cPublished dPublished ([] : List TPublished)))], .n 9, .k [2, 7, 9, 10]] (by kernel_rfl) (Obs.of (by kernel_rfl) (And.intro (le_nil 43 2 cPublished dPublished) (And.intro (nt g_1) (And.intro (nt g_2) (And.intro (bag_Valid.spec e_4) (And.intro (nt g_5) (le_nil 43 2 cPublished dPublished))))))) (release_Publish.p1.run k _ _ _ _ _ r h)
theorem release_Publish.p1.mono   : ∀ (k k' : Nat) (rows2 : (List TEntry)) (i10 : Int) (o1b : Int) (o2b : Int) (o3 : (List TPublished)) (r : (List TPublished)), k ≤ k' → release_Publish.p1 k rows2 i10 o1b o2b o3 = some r → release_Publish.p1 k' rows2 i10 o1b o2b o3 = some r := by
  intro k
  induction k with
  | zero => intro k' rows2 i10 o1b o2b o3 r hk h; simp [release_Publish.p1] at h
  | succ k ih =>
    intro k' rows2 i10 o1b o2b o3 r hk h
    obtain ⟨k', rfl⟩ : ∃ m, k' = m + 1 := ⟨k' - 1, by omega⟩
    replace hk := Nat.le_of_succ_le_succ hk
    rw [release_Publish.p1] at h ⊢
    rcases ite_or h with ⟨g_6, h⟩ | ⟨g_6, h⟩
    · refine itp g_6 ?_
      obtain ⟨g_7, h⟩ := ite_some h
      refine itp g_7 ?_
      obtain ⟨y_8, e_9, h⟩ := bind_or h
      refine bnd (release_Publish_1__x0.mono _ _ _ _ _ _ _ hk e_9) ?_
      exact ih _ _ _ _ _ _ r hk h
    · refine itn g_6 ?_
      exact h
theorem release_Publish.mono   : ∀ (k k' : Nat) (r0 : TRelease) (keys1 : Int) (rows2 : (List TEntry)) (r : (List TPublished)), k ≤ k' → release_Publish k r0 keys1 rows2 = some r → release_Publish k' r0 keys1 rows2 = some r := by
  intro k k' r0 keys1 rows2 r hk h
  unfold release_Publish at h ⊢
  rcases ite_or h with ⟨g_1, h⟩ | ⟨g_1, h⟩
  · refine itp g_1 ?_
    exact h
  · refine itn g_1 ?_
    rcases ite_or h with ⟨g_2, h⟩ | ⟨g_2, h⟩
    · refine itp g_2 ?_
      exact h
    · refine itn g_2 ?_
      obtain ⟨y_3, e_4, h⟩ := bind_or h
      refine bnd (bag_Valid.mono _ _ _ _ hk e_4) ?_
      rcases ite_or h with ⟨g_5, h⟩ | ⟨g_5, h⟩
      · refine itp g_5 ?_
        exact h
      · refine itn g_5 ?_
        exact release_Publish.p1.mono _ _ _ _ _ _ _ r hk h
theorem release_Publish.spec {k : Nat} {r0 : TRelease} {keys1 : Int} {rows2 : (List TEntry)} {r : (List TPublished)} (h : release_Publish k r0 keys1 rows2 = some r) : Spec Try.prog 15 [.agg ((cRelease r0).map .p), .p (.int .i64 keys1), .p (eL 2 cEntry dEntry rows2)] (.sref 0 43 2 (r).length) [(oL true 43 2 cPublished dPublished (r))] :=
  spec_of mix Try.func15 (body := bodyOf Try.f15) (by kernel_rfl) (by kernel_rfl) (release_Publish.run h)
end Go.Proofs.YtjhnpaenhdbhpaaV
set_option linter.unusedVariables false
set_option linter.unusedSimpArgs false
set_option maxRecDepth 100000
namespace Go.Proofs.YtjhnpaenhdbhpaaV
open Go Go.RowKit
noncomputable def erasurelaw35_awake  (k : Nat)  : Option Bool := (erasurelaw35_Groups k ([4, 5, 9, 10])).bind fun y_1 => ((release_Publish k (TRelease.mk (⟨#[]⟩ : ByteArray) (⟨#[]⟩ : ByteArray) 5) 1 y_1).bind fun y_3 => (if (((y_3).length : Int) == 3) = true then (if 0 ≤ (0 : Int) ∧ (0 : Int) < ((y_3).length : Int) then (if ((y_3.getD (0 : Int).toNat dPublished).f1 == 5) = true then (if 0 ≤ (1 : Int) ∧ (1 : Int) < ((y_3).length : Int) then (if ((y_3.getD (1 : Int).toNat dPublished).f1 == 5) = true then (if 0 ≤ (2 : Int) ∧ (2 : Int) < ((y_3).length : Int) then (if ((y_3.getD (2 : Int).toNat dPublished).f1 == 10) = true then (if ((((y_3.getD (0 : Int).toNat dPublished).f0).length : Int) == 1) = true then (if 0 ≤ (0 : Int) ∧ (0 : Int) < (((y_3.getD (0 : Int).toNat dPublished).f0).length : Int) then ((erasureref01_Int k 1).bind fun y_14 => (some (((((y_3.getD (0 : Int).toNat dPublished).f0).getD (0 : Int).toNat dValue).f0 == y_14.f0) && (((((y_3.getD (0 : Int).toNat dPublished).f0).getD (0 : Int).toNat dValue).f1 == y_14.f1) && ((((((y_3.getD (0 : Int).toNat dPublished).f0).getD (0 : Int).toNat dValue).f2).data.toList == y_14.f2.data.toList) && true))))) else none) else (some false)) else (some false)) else none) else (some false)) else none) else (some false)) else none) else (some false)))
noncomputable def erasurelaw35_awake.t : List Item := [.code (bodyOf Try.f12)]
noncomputable def erasurelaw35_awake.s  : St := ⟨frOf Try.f12.ntmps 0 [], []⟩
theorem erasurelaw35_awake.run   {k : Nat}  {r : Bool} (h : erasurelaw35_awake k  = some r) : RunC Try.prog Try.f12 erasurelaw35_awake.t (erasurelaw35_awake.s ) (.p (.bool r)) [] := by
  unfold erasurelaw35_awake at h
  obtain ⟨y_1, e_2, h⟩ := bind_or h
  obtain ⟨y_3, e_4, h⟩ := bind_or h
  rcases ite_or h with ⟨g_5, h⟩ | ⟨g_5, h⟩
  · obtain ⟨g_6, h⟩ := ite_some h
    rcases ite_or h with ⟨g_7, h⟩ | ⟨g_7, h⟩
    · obtain ⟨g_8, h⟩ := ite_some h
      rcases ite_or h with ⟨g_9, h⟩ | ⟨g_9, h⟩
      · obtain ⟨g_10, h⟩ := ite_some h
        rcases ite_or h with ⟨g_11, h⟩ | ⟨g_11, h⟩
        · rcases ite_or h with ⟨g_12, h⟩ | ⟨g_12, h⟩
          · obtain ⟨g_13, h⟩ := ite_some h
            obtain ⟨y_14, e_15, h⟩ := bind_or h
            obtain rfl := Option.some.inj h
            exact RunC.out [.n 3, .r [(1, .obj (oL true 3 1 (cI .i64) (0 : Int) [4, 5, 9, 10])), (2, .call (.sref 0 41 2 (y_1).length) [(oL true 41 2 cEntry dEntry y_1)]), (3, .call (.sref 0 43 2 (y_3).length) [(oL true 43 2 cPublished dPublished y_3)])], .n 1, .r [(3, .dec true), (10, .dec true), (17, .dec true), (24, .dec true), (32, .dec true), (39, .call (.agg ((cValue y_14).map .p)) [])]] (by kernel_rfl) (Obs.of (by kernel_rfl) (And.intro (le_lit 3 1 (cI .i64) (0 : Int) [4, 5, 9, 10] (fun _ => rfl)) (And.intro (erasurelaw35_Groups.spec e_2) (And.intro (release_Publish.spec e_4) (And.intro g_5 (And.intro g_6 (And.intro g_7 (And.intro g_8 (And.intro g_9 (And.intro g_10 (And.intro g_11 (And.intro g_6 (And.intro g_12 (And.intro g_6 (And.intro g_13 (erasureref01_Int.spec e_15))))))))))))))))
          · obtain rfl := Option.some.inj h
            exact RunC.out [.n 3, .r [(1, .obj (oL true 3 1 (cI .i64) (0 : Int) [4, 5, 9, 10])), (2, .call (.sref 0 41 2 (y_1).length) [(oL true 41 2 cEntry dEntry y_1)]), (3, .call (.sref 0 43 2 (y_3).length) [(oL true 43 2 cPublished dPublished y_3)])], .n 1, .r [(3, .dec true), (10, .dec true), (17, .dec true), (24, .dec true), (32, .dec false)]] (by kernel_rfl) (Obs.of (by kernel_rfl) (And.intro (le_lit 3 1 (cI .i64) (0 : Int) [4, 5, 9, 10] (fun _ => rfl)) (And.intro (erasurelaw35_Groups.spec e_2) (And.intro (release_Publish.spec e_4) (And.intro g_5 (And.intro g_6 (And.intro g_7 (And.intro g_8 (And.intro g_9 (And.intro g_10 (And.intro g_11 (And.intro g_6 (nt g_12)))))))))))))
        · obtain rfl := Option.some.inj h
          exact RunC.out [.n 3, .r [(1, .obj (oL true 3 1 (cI .i64) (0 : Int) [4, 5, 9, 10])), (2, .call (.sref 0 41 2 (y_1).length) [(oL true 41 2 cEntry dEntry y_1)]), (3, .call (.sref 0 43 2 (y_3).length) [(oL true 43 2 cPublished dPublished y_3)])], .n 1, .r [(3, .dec true), (10, .dec true), (17, .dec true), (24, .dec false)]] (by kernel_rfl) (Obs.of (by kernel_rfl) (And.intro (le_lit 3 1 (cI .i64) (0 : Int) [4, 5, 9, 10] (fun _ => rfl)) (And.intro (erasurelaw35_Groups.spec e_2) (And.intro (release_Publish.spec e_4) (And.intro g_5 (And.intro g_6 (And.intro g_7 (And.intro g_8 (And.intro g_9 (And.intro g_10 (nt g_11)))))))))))
      · obtain rfl := Option.some.inj h
        exact RunC.out [.n 3, .r [(1, .obj (oL true 3 1 (cI .i64) (0 : Int) [4, 5, 9, 10])), (2, .call (.sref 0 41 2 (y_1).length) [(oL true 41 2 cEntry dEntry y_1)]), (3, .call (.sref 0 43 2 (y_3).length) [(oL true 43 2 cPublished dPublished y_3)])], .n 1, .r [(3, .dec true), (10, .dec true), (17, .dec false)]] (by kernel_rfl) (Obs.of (by kernel_rfl) (And.intro (le_lit 3 1 (cI .i64) (0 : Int) [4, 5, 9, 10] (fun _ => rfl)) (And.intro (erasurelaw35_Groups.spec e_2) (And.intro (release_Publish.spec e_4) (And.intro g_5 (And.intro g_6 (And.intro g_7 (And.intro g_8 (nt g_9)))))))))
    · obtain rfl := Option.some.inj h
      exact RunC.out [.n 3, .r [(1, .obj (oL true 3 1 (cI .i64) (0 : Int) [4, 5, 9, 10])), (2, .call (.sref 0 41 2 (y_1).length) [(oL true 41 2 cEntry dEntry y_1)]), (3, .call (.sref 0 43 2 (y_3).length) [(oL true 43 2 cPublished dPublished y_3)])], .n 1, .r [(3, .dec true), (10, .dec false)]] (by kernel_rfl) (Obs.of (by kernel_rfl) (And.intro (le_lit 3 1 (cI .i64) (0 : Int) [4, 5, 9, 10] (fun _ => rfl)) (And.intro (erasurelaw35_Groups.spec e_2) (And.intro (release_Publish.spec e_4) (And.intro g_5 (And.intro g_6 (nt g_7)))))))
  · obtain rfl := Option.some.inj h
    exact RunC.out [.n 3, .r [(1, .obj (oL true 3 1 (cI .i64) (0 : Int) [4, 5, 9, 10])), (2, .call (.sref 0 41 2 (y_1).length) [(oL true 41 2 cEntry dEntry y_1)]), (3, .call (.sref 0 43 2 (y_3).length) [(oL true 43 2 cPublished dPublished y_3)])], .n 1, .r [(3, .dec false)]] (by kernel_rfl) (Obs.of (by kernel_rfl) (And.intro (le_lit 3 1 (cI .i64) (0 : Int) [4, 5, 9, 10] (fun _ => rfl)) (And.intro (erasurelaw35_Groups.spec e_2) (And.intro (release_Publish.spec e_4) (nt g_5)))))
theorem erasurelaw35_awake.mono   : ∀ (k k' : Nat)  (r : Bool), k ≤ k' → erasurelaw35_awake k  = some r → erasurelaw35_awake k'  = some r := by
  intro k k'  r hk h
  unfold erasurelaw35_awake at h ⊢
  obtain ⟨y_1, e_2, h⟩ := bind_or h
  refine bnd (erasurelaw35_Groups.mono _ _ _ _ hk e_2) ?_
  obtain ⟨y_3, e_4, h⟩ := bind_or h
  refine bnd (release_Publish.mono _ _ _ _ _ _ hk e_4) ?_
  rcases ite_or h with ⟨g_5, h⟩ | ⟨g_5, h⟩
  · refine itp g_5 ?_
    obtain ⟨g_6, h⟩ := ite_some h
    refine itp g_6 ?_
    rcases ite_or h with ⟨g_7, h⟩ | ⟨g_7, h⟩
    · refine itp g_7 ?_
      obtain ⟨g_8, h⟩ := ite_some h
      refine itp g_8 ?_
      rcases ite_or h with ⟨g_9, h⟩ | ⟨g_9, h⟩
      · refine itp g_9 ?_
        obtain ⟨g_10, h⟩ := ite_some h
        refine itp g_10 ?_
        rcases ite_or h with ⟨g_11, h⟩ | ⟨g_11, h⟩
        · refine itp g_11 ?_
          rcases ite_or h with ⟨g_12, h⟩ | ⟨g_12, h⟩
          · refine itp g_12 ?_
            obtain ⟨g_13, h⟩ := ite_some h
            refine itp g_13 ?_
            obtain ⟨y_14, e_15, h⟩ := bind_or h
            refine bnd (erasureref01_Int.mono _ _ _ _ hk e_15) ?_
            exact h
          · refine itn g_12 ?_
            exact h
        · refine itn g_11 ?_
          exact h
      · refine itn g_9 ?_
        exact h
    · refine itn g_7 ?_
      exact h
  · refine itn g_5 ?_
    exact h
theorem erasurelaw35_awake.spec {k : Nat}  {r : Bool} (h : erasurelaw35_awake k  = some r) : Spec Try.prog 12 [] (.p (.bool r)) [] :=
  spec_of mix Try.func12 (body := bodyOf Try.f12) (by kernel_rfl) (by kernel_rfl) (erasurelaw35_awake.run h)
end Go.Proofs.YtjhnpaenhdbhpaaV
set_option linter.unusedVariables false
set_option linter.unusedSimpArgs false
set_option maxRecDepth 100000
namespace Go.Proofs.YtjhnpaenhdbhpaaV
open Go Go.RowKit
noncomputable def erasurelaw35_limit  (k : Nat) (n0 : Int) : Option TRelease := some (TRelease.mk (⟨#[]⟩ : ByteArray) (⟨#[]⟩ : ByteArray) (IntKind.i64.wrap (1 + (Go.bits .and .i64 n0 15))))
noncomputable def erasurelaw35_limit.t : List Item := [.code (bodyOf Try.f17)]
noncomputable def erasurelaw35_limit.s (n0 : Int) : St := ⟨frOf Try.f17.ntmps 0 [(0, .p (.int .i64 n0))], []⟩
theorem erasurelaw35_limit.run   {k : Nat} {n0 : Int} {r : TRelease} (h : erasurelaw35_limit k n0 = some r) : RunC Try.prog Try.f17 erasurelaw35_limit.t (erasurelaw35_limit.s n0) (.agg ((cRelease r).map .p)) [] := by
  unfold erasurelaw35_limit at h
  obtain rfl := Option.some.inj h
  exact RunC.out [.n 4] (by kernel_rfl) (Obs.tt (by kernel_rfl))
theorem erasurelaw35_limit.mono   : ∀ (k k' : Nat) (n0 : Int) (r : TRelease), k ≤ k' → erasurelaw35_limit k n0 = some r → erasurelaw35_limit k' n0 = some r := by
  intro k k' n0 r hk h
  unfold erasurelaw35_limit at h ⊢
  exact h
theorem erasurelaw35_limit.spec {k : Nat} {n0 : Int} {r : TRelease} (h : erasurelaw35_limit k n0 = some r) : Spec Try.prog 17 [.p (.int .i64 n0)] (.agg ((cRelease r).map .p)) [] :=
  spec_of mix Try.func17 (body := bodyOf Try.f17) (by kernel_rfl) (by kernel_rfl) (erasurelaw35_limit.run h)
end Go.Proofs.YtjhnpaenhdbhpaaV
set_option linter.unusedVariables false
set_option linter.unusedSimpArgs false
set_option maxRecDepth 100000
namespace Go.Proofs.YtjhnpaenhdbhpaaV
open Go Go.RowKit
noncomputable def release_Find.p1  : Nat → (List TPublished) → (List TValue) → Int → Option (Int × Bool)
  | 0, _, _, _ => none
  | k + 1, l0, keys1, i6 => if (decide (i6 < ((l0).length : Int))) = true then (if 0 ≤ i6 ∧ i6 < ((l0).length : Int) then ((value_CompareRows k ((l0.getD i6.toNat dPublished).f0) keys1).bind fun y_3 => (if (y_3 == 0) = true then (some ((l0.getD i6.toNat dPublished).f1, true)) else (release_Find.p1 k l0 keys1 (IntKind.i64.wrap (i6 + 1))))) else none) else (some (0, false))
noncomputable def release_Find  (k : Nat) (l0 : (List TPublished)) (keys1 : (List TValue)) : Option (Int × Bool) := release_Find.p1 k l0 keys1 0
noncomputable def release_Find.t : List Item := [.code (bodyOf Try.f26)]
noncomputable def release_Find.s (l0 : (List TPublished)) (keys1 : (List TValue)) : St := ⟨frOf Try.f26.ntmps 0 [(0, .p (eL 2 cPublished dPublished l0)), (1, .p (eL 3 cValue dValue keys1))], []⟩
noncomputable def release_Find.p1.t : List Item := nav 7 [] release_Find.t
noncomputable def release_Find.p1.s (l0 : (List TPublished)) (keys1 : (List TValue)) (i6 : Int) : St := ⟨frOf Try.f26.ntmps 0 [(0, .p (eL 2 cPublished dPublished l0)), (1, .p (eL 3 cValue dValue keys1)), (6, .p (.int .i64 i6))], []⟩
theorem release_Find.p1.run   : ∀ (k : Nat) (l0 : (List TPublished)) (keys1 : (List TValue)) (i6 : Int) (r : (Int × Bool)), release_Find.p1 k l0 keys1 i6 = some r → RunC Try.prog Try.f26 release_Find.p1.t (release_Find.p1.s l0 keys1 i6) (.tup [.p (.int .i64 r.1), .p (.bool r.2)]) [] := by
  intro k
  induction k with
  | zero => intro l0 keys1 i6 r h; simp [release_Find.p1] at h
  | succ k ih =>
    intro l0 keys1 i6 r h
    rw [release_Find.p1] at h
    rcases ite_or h with ⟨g_1, h⟩ | ⟨g_1, h⟩
    · obtain ⟨g_2, h⟩ := ite_some h
      obtain ⟨y_3, e_4, h⟩ := bind_or h
      rcases ite_or h with ⟨g_5, h⟩ | ⟨g_5, h⟩
      · obtain rfl := Option.some.inj h
        exact RunC.out [.n 2, .r [(3, .dec true)], .n 5, .r [(6, .call (.p (.int .i64 y_3)) []), (7, .dec true)], .n 3] (by kernel_rfl) (Obs.of (by kernel_rfl) (And.intro g_1 (And.intro g_2 (And.intro (value_CompareRows.spec e_4) (And.intro g_5 g_2)))))
      · exact RunC.go [.n 2, .r [(3, .dec true)], .n 5, .r [(6, .call (.p (.int .i64 y_3)) []), (7, .dec false)], .n 5, .k [0, 1, 6]] (by kernel_rfl) (Obs.of (by kernel_rfl) (And.intro g_1 (And.intro g_2 (And.intro (value_CompareRows.spec e_4) (nt g_5))))) (ih _ _ _ r h)
    · obtain rfl := Option.some.inj h
      exact RunC.out [.n 2, .r [(3, .dec false)], .n 4] (by kernel_rfl) (Obs.of (by kernel_rfl) (nt g_1))
theorem release_Find.run   {k : Nat} {l0 : (List TPublished)} {keys1 : (List TValue)} {r : (Int × Bool)} (h : release_Find k l0 keys1 = some r) : RunC Try.prog Try.f26 release_Find.t (release_Find.s l0 keys1) (.tup [.p (.int .i64 r.1), .p (.bool r.2)]) [] := by
  unfold release_Find at h
  exact RunC.go [.n 7, .k [0, 1, 6]] (by kernel_rfl) (Obs.tt (by kernel_rfl)) (release_Find.p1.run k _ _ _ r h)
theorem release_Find.p1.mono   : ∀ (k k' : Nat) (l0 : (List TPublished)) (keys1 : (List TValue)) (i6 : Int) (r : (Int × Bool)), k ≤ k' → release_Find.p1 k l0 keys1 i6 = some r → release_Find.p1 k' l0 keys1 i6 = some r := by
  intro k
  induction k with
  | zero => intro k' l0 keys1 i6 r hk h; simp [release_Find.p1] at h
  | succ k ih =>
    intro k' l0 keys1 i6 r hk h
    obtain ⟨k', rfl⟩ : ∃ m, k' = m + 1 := ⟨k' - 1, by omega⟩
    replace hk := Nat.le_of_succ_le_succ hk
    rw [release_Find.p1] at h ⊢
    rcases ite_or h with ⟨g_1, h⟩ | ⟨g_1, h⟩
    · refine itp g_1 ?_
      obtain ⟨g_2, h⟩ := ite_some h
      refine itp g_2 ?_
      obtain ⟨y_3, e_4, h⟩ := bind_or h
      refine bnd (value_CompareRows.mono _ _ _ _ _ hk e_4) ?_
      rcases ite_or h with ⟨g_5, h⟩ | ⟨g_5, h⟩
      · refine itp g_5 ?_
        exact h
      · refine itn g_5 ?_
        exact ih _ _ _ _ r hk h
    · refine itn g_1 ?_
      exact h
theorem release_Find.mono   : ∀ (k k' : Nat) (l0 : (List TPublished)) (keys1 : (List TValue)) (r : (Int × Bool)), k ≤ k' → release_Find k l0 keys1 = some r → release_Find k' l0 keys1 = some r := by
  intro k k' l0 keys1 r hk h
  unfold release_Find at h ⊢
  exact release_Find.p1.mono _ _ _ _ _ r hk h
theorem release_Find.spec {k : Nat} {l0 : (List TPublished)} {keys1 : (List TValue)} {r : (Int × Bool)} (h : release_Find k l0 keys1 = some r) : Spec Try.prog 26 [.p (eL 2 cPublished dPublished l0), .p (eL 3 cValue dValue keys1)] (.tup [.p (.int .i64 r.1), .p (.bool r.2)]) [] :=
  spec_of mix Try.func26 (body := bodyOf Try.f26) (by kernel_rfl) (by kernel_rfl) (release_Find.run h)
end Go.Proofs.YtjhnpaenhdbhpaaV
set_option linter.unusedVariables false
set_option linter.unusedSimpArgs false
set_option linter.constructorNameAsVariable false
namespace Go.Proofs.YtjhnpaenhdbhpaaV
open Go Go.RowKit
open Go.Shelf Go.Lib Go.Sort
abbrev SE {β : Type} (F : Nat → Prop) (w : World) (sz : Nat) (c : β → List AV) (xs : List β) :=
  { p : List Value × β // p.1.length = sz ∧ (∀ v ∈ p.1, v.oneCell' = true) ∧ (∀ j, j < sz → ∃ v, p.1[j]? = some v ∧ Rep F w ((c p.2).getD j .u) v) ∧ p.2 ∈ xs }
theorem mk_elems {β : Type} {F : Nat → Prop} {w : World} {sz : Nat} {c : β → List AV} (d : β) {xs : List β} : ∀ (zs : List β) (cells : List Value), (∀ x ∈ zs, x ∈ xs) → cells.length = zs.length * sz → (∀ v ∈ cells, v.oneCell' = true) →
    (∀ i, i < zs.length → ∀ j, j < sz → ∃ v, cells[i * sz + j]? = some v ∧ Rep F w ((c (zs.getD i d)).getD j .u) v) → ∃ D : List (SE F w sz c xs), D.map (·.1.2) = zs ∧ D.flatMap (·.1.1) = cells
  | [], cells, _, hl, _, _ => ⟨[], rfl, by simp at hl; simp [hl]⟩
  | z :: zs, cells, hm, hl, h1, hr => by
    have hl' : cells.length = zs.length * sz + sz := by rw [hl, List.length_cons, Nat.add_mul, Nat.one_mul]
    obtain ⟨D, hD1, hD2⟩ := mk_elems (F := F) (w := w) (sz := sz) (c := c) d (xs := xs) zs (cells.drop sz) (fun x hx => hm x (List.mem_cons_of_mem _ hx)) (by rw [List.length_drop]; omega) (fun v hv => h1 v (List.mem_of_mem_drop hv))
      (fun i hi j hj => by
        obtain ⟨v, g1, g2⟩ := hr (i + 1) (by simpa using hi) j hj
        refine ⟨v, ?_, by simpa using g2⟩
        rw [List.getElem?_drop, show sz + (i * sz + j) = (i + 1) * sz + j from by rw [Nat.add_mul, Nat.one_mul]; omega]
        exact g1)
    refine ⟨⟨(cells.take sz, z), by rw [List.length_take]; omega, fun v hv => h1 v (List.mem_of_mem_take hv), fun j hj => ?_, hm z (List.mem_cons_self ..)⟩ :: D, by simp [hD1], by simp [hD2]⟩
    obtain ⟨v, g1, g2⟩ := hr 0 (by simp) j hj
    refine ⟨v, ?_, by simpa using g2⟩
    rw [List.getElem?_take, if_pos hj]
    simpa using g1
theorem get_flat {α : Type} {sz : Nat} {f : α → List Value} (hs : ∀ x, (f x).length = sz) : ∀ (D : List α) (i j : Nat), j < sz → (h : i < D.length) → (D.flatMap f)[i * sz + j]? = (f D[i])[j]?
  | [], i, j, _, h => by simp at h
  | x :: D, i, j, hj, h => by
    cases i with
    | zero => simp [List.getElem?_append, hs, hj]
    | succ i =>
      rw [List.flatMap_cons, List.getElem?_append_right (by rw [hs, Nat.add_mul]; omega), hs, show (i + 1) * sz + j - sz = i * sz + j from by rw [Nat.add_mul, Nat.one_mul]; omega]
      have := get_flat hs D i j hj (by simpa using h)
      simpa using this
theorem len_flat {α : Type} {sz : Nat} {f : α → List Value} (hs : ∀ x, (f x).length = sz) : ∀ (D : List α), (D.flatMap f).length = D.length * sz
  | [] => by simp
  | x :: D => by rw [List.flatMap_cons, List.length_append, hs, len_flat hs D, List.length_cons, Nat.add_mul, Nat.one_mul, Nat.add_comm]
structure Laid (w w' : World) (blk : Nat) (e : TypeId) (cur : Array Value) (cells : List Value) : Prop where
  os : w'.os = w.os
  tape : w'.tape = w.tape
  output : w'.output = w.output
  drawn : w.drawn ≤ w'.drawn
  size : w.heap.size ≤ w'.heap.size
  other : ∀ b, b < w.heap.size → b ≠ blk → w'.heap[b]? = w.heap[b]?
  row : w'.heap[blk]? = some (.cells (cells ++ cur.toList.drop cells.length).toArray e (0, 0))
theorem putCells_list (d : Array Value) (cur : Array Value) (h : d.size ≤ cur.size) : putCells id 0 d cur = (d.toList ++ cur.toList.drop d.size).toArray := by
  apply Array.ext_getElem?
  intro t
  simp only [putCells, Array.getElem?_mapIdx, List.getElem?_toArray, List.getElem?_append, Array.length_toList, List.getElem?_drop, Array.getElem?_toList, Nat.zero_le, true_and, Nat.zero_add, Nat.sub_zero, id]
  by_cases ht : t < d.size
  · rw [if_pos ht, Array.getElem?_eq_getElem (by omega), Array.getElem?_eq_getElem ht]
    simp [ht]
  · rw [if_neg ht, show d.size + (t - d.size) = t from by omega]
    cases cur[t]? with
    | none => rfl
    | some x => simp [ht]
theorem sorted_one {α β : Type} [Inhabited α] (p : α → β) (cf : β → β → Int) {xs ys : List β} (hT : ∀ x ∈ xs, ∀ y ∈ xs, ¬ cf y x < 0 → ¬ cf x y < 0 → x = y) (hy : ys.Perm xs) (hs : ys.Pairwise fun a b => ¬ cf b a < 0)
    {D D' : Array α} (hx : D.toList.map p = xs) (hP : PermIn 0 D.size D D') (hS : SortedIn (ltOf fun x y => cf (p x) (p y)) 0 D.size D') : D'.toList.map p = ys := by
  obtain ⟨hsz, _, hperm⟩ := hP
  have e1 : D'.extract 0 D.size = D' := by rw [← hsz]; exact Array.extract_size
  rw [e1, Array.extract_size] at hperm
  have hp2 : (D'.toList.map p).Perm xs := by rw [← hx]; exact hperm.map p
  refine List.Perm.eq_of_pairwise (le := fun a b => ¬ cf b a < 0) ?_ ?_ hs (hp2.trans hy.symm)
  · intro a b ha hb h1 h2
    exact hT a (hp2.mem_iff.1 ha) b (hy.mem_iff.1 hb) h1 h2
  · rw [List.pairwise_iff_getElem]
    intro i j hi hj hij
    have hi' : i < D'.size := by simpa using hi
    have hj' : j < D'.size := by simpa using hj
    have := hS i j (Nat.zero_le _) hij (by omega)
    rw [getElem!_pos D' j hj', getElem!_pos D' i hi'] at this
    simp only [ltOf, decide_eq_false_iff_not] at this
    simpa using this
theorem sort_end {β : Type} {E : En} {F : Nat → Prop} {w w' : World} {κ : Nat → Value} {sz : Nat} (e : TypeId) (c : β → List AV) (d : β) {xs ys : List β} {bk cap : Nat} {cur : Array Value} (h0 : 0 < sz) (hI : Inv E ⟨F, w, κ, [oL true e sz c d xs]⟩) (hκ : κ 0 = .slice (some ⟨bk, 0, none⟩) xs.length cap)
    (hcap : xs.length ≤ cap ∧ cap ≤ maxLen ∧ cur.size = cap * sz) {D' : List (SE F w sz c xs)} (hD : D'.map (·.1.2) = ys) (hlen : ys.length = xs.length) (hL : Laid w w' bk e cur (D'.flatMap (·.1.1))) :
    Inv E ⟨F, w', κ, [oL true e sz c d ys]⟩ ∧ RelV ⟨F, w', κ, [oL true e sz c d ys]⟩ (.sref 0 e sz ys.length) (κ 0) := by
  have hDl : D'.length = xs.length := by rw [← hlen, ← hD]; simp
  have hfl : (D'.flatMap (·.1.1)).length = xs.length * sz := by rw [len_flat (fun x => x.2.1), hDl]
  have hblk : blk (κ 0) = some bk := by rw [hκ]; rfl
  have hc : Chg (fun b => blk (κ 0) = some b) w w' := ⟨hL.os, hL.tape, hL.output, hL.drawn, hL.size, fun b hb hn => hL.other b hb (fun e => hn (by rw [e]; exact hblk))⟩
  have hmut : (look [oL true e sz c d xs] 0).mut = true := rfl
  obtain ⟨i1, l1⟩ := hI.put (w' := w') (id := 0) (o := oL true e sz c d ys) hmut hc (.inr ⟨rfl, by rw [← hlen]; exact ⟨true, _, rfl⟩⟩) (fun hle => by
    refine ⟨h0, D'.flatMap (·.1.1), ⟨by rw [hfl, hlen], .inr ⟨bk, cap, _, by rw [hlen]; exact hκ, Nat.zero_le _, hL.row, by omega, hcap.2.1, ?_, ?_⟩⟩, fun i hi j hj => ?_, fun u hu => ?_, fun b hb => ⟨fun _ => ?_, fun h => by simp at h⟩⟩
    · have := Nat.mul_le_mul_right sz hcap.1
      have e1 : (D'.flatMap (·.1.1) ++ cur.toList.drop (D'.flatMap (·.1.1)).length).length = cap * sz := by
        have hcs : cur.toList.length = cap * sz := by simpa using hcap.2.2
        rw [List.length_append, List.length_drop, hfl, hcs]
        omega
      exact e1
    · rw [hlen]
      show List.take _ (_ ++ _) = _
      rw [← hfl]
      exact List.take_left
    · have hi' : i < D'.length := by omega
      obtain ⟨v, g1, g2⟩ := (D'[i]).2.2.2.1 j hj
      refine ⟨v, by rw [get_flat (fun x => x.2.1) D' i j hj hi']; exact g1, ?_⟩
      have e2 : ys.getD i d = (D'[i]).1.2 := by
        have : ys[i]? = some (D'[i]).1.2 := by rw [← hD]; simp [hi']
        simp [List.getD_eq_getElem?_getD, this]
      show Rep F w' ((c (ys.getD i d)).getD j .u) v
      rw [e2]
      exact Rep.mono hle.F hle.w _ _ g2
    · obtain ⟨x, hx, hu⟩ := List.mem_flatMap.1 hu
      exact x.2.2.1 u hu
    · exact hI.notF (i := 0) hmut b hb)
  refine ⟨i1, ?_⟩
  simp only [RelV]
  exact ⟨⟨_, _, by rw [hlen]; exact hκ, .inr ⟨_, rfl⟩⟩, rfl, rfl, rfl, rfl⟩
structure CmpOK {β : Type} (cf : β → β → Int) (xs : List β) : Prop where
  irrefl : ∀ x ∈ xs, ¬ cf x x < 0
  trans : ∀ x ∈ xs, ∀ y ∈ xs, ∀ z ∈ xs, cf x y < 0 → cf y z < 0 → cf x z < 0
  ntrans : ∀ x ∈ xs, ∀ y ∈ xs, ∀ z ∈ xs, ¬ cf x y < 0 → ¬ cf y z < 0 → ¬ cf x z < 0
  anti : ∀ x ∈ xs, ∀ y ∈ xs, ¬ cf y x < 0 → ¬ cf x y < 0 → x = y
theorem grow_of_chg {W w' : World} (h : Chg (fun _ => False) W w') : ∃ q os', w' = grow (W.drewN q) os' := by
  refine ⟨w'.drawn - W.drawn, w'.heap.extract W.heap.size w'.heap.size, ?_⟩
  have hh : w'.heap = W.heap ++ w'.heap.extract W.heap.size w'.heap.size := by
    apply Array.ext_getElem?
    intro b
    by_cases hb : b < W.heap.size
    · rw [Array.getElem?_append_left hb]
      exact h.block b hb (fun h => h)
    · rw [Array.getElem?_append_right (by omega), Array.getElem?_extract]
      rw [show W.heap.size + (b - W.heap.size) = b from by omega]
      by_cases hb2 : b < w'.heap.size
      · rw [if_pos (by omega)]
      · rw [if_neg (by omega), Array.getElem?_eq_none (by omega)]
  have hd := h.drawn
  cases w'
  cases W
  simp only [grow, World.drewN] at *
  have e1 := h.os; have e2 := h.tape; have e3 := h.output
  simp only at e1 e2 e3 hh hd
  subst e1 e2 e3
  simp only [World.mk.injEq, true_and]
  exact ⟨hh, by omega, trivial⟩
theorem sort_args {β : Type} {c : β → List AV} {d : β} {e sz g : Nat} {xs : List β} {F : Nat → Prop} {w : World} {κ : Nat → Value} {vs : Array Value} (hv : RelVs ⟨F, w, κ, [oL true e sz c d xs]⟩ [.sref 0 e sz xs.length, .fn g []] vs.toList) :
    vs = #[κ 0, .func (.func g) #[] #[]] := by
  simp only [RelVs, RelV] at hv
  obtain ⟨v, l1, hvs, ⟨_, hv2⟩, fv, l2, hvs2, ⟨us, hfv, hus⟩, hnil⟩ := hv
  subst hnil hvs2
  have hv3 : v = κ 0 := hv2.2.2.2
  have hus' : us = #[] := Array.toList_inj.1 (by simpa using hus)
  subst hus'
  rw [hv3, hfv] at hvs
  exact Array.toList_inj.1 (by simpa using hvs)
theorem sort_cmp {β : Type} {P : Program} {g sz : Nat} {c : β → List AV} {cf : β → β → Int} {xs : List β} {F : Nat → Prop} {w W : World} (hFW : ∀ b, F b → W.heap[b]? = w.heap[b]?) (hlt : ∀ b, F b → b < W.heap.size) (x y : SE F w sz c xs) {args : List FV} {vs : Array Value} (κ : Nat → Value)
    (hspec : Spec P g args (.p (.int .i64 (cf x.1.2 y.1.2))) []) (hargs : RelVs ⟨F, W, κ, []⟩ args vs.toList) :
    Calls P g vs W fun e w' => e = .returned (.int .i64 (cf x.1.2 y.1.2)) ∧ ∃ q os', w' = grow (W.drewN q) os' := by
  refine (hspec W F κ vs hlt hargs).mono fun e w' ⟨v, F', κ', he, hI, hr⟩ => ?_
  simp only [RelV, Rep] at hr
  exact ⟨by rw [he, hr], grow_of_chg hI.chg⟩
theorem swo_of {α β : Type} (p : α → β) {cf : β → β → Int} {xs : List β} (h : CmpOK cf xs) (hp : ∀ a, p a ∈ xs) : SWO (ltOf fun x y : α => cf (p x) (p y)) where
  irrefl x := by simpa [ltOf] using h.irrefl _ (hp x)
  trans x y z h1 h2 := by
    simp only [ltOf, decide_eq_true_eq] at *
    exact h.trans _ (hp x) _ (hp y) _ (hp z) h1 h2
  ntrans x y z h1 h2 := by
    simp only [ltOf, decide_eq_false_iff_not] at *
    exact h.ntrans _ (hp x) _ (hp y) _ (hp z) h1 h2
set_option maxHeartbeats 1000000 in
theorem sort1_specX {β : Type} {P : Program} {ρ : Ren} (L : SlLaysF.n6 P ρ) (e : TypeId) (c : β → List AV) (d : β) (hc : ∀ x, (c x).length = 1) {g : Nat}
    (eg : ∀ args w, (callFunc g args).run P w = .ok (.enter g args) w) (cf : β → β → Int) {xs ys : List β} (hspec : ∀ x ∈ xs, ∀ y ∈ xs, Spec P g [.p ((c x).getD 0 .u), .p ((c y).getD 0 .u)] (.p (.int .i64 (cf x y))) []) (hO : CmpOK cf xs) (hy : ys.Perm xs)
    (hs : ys.Pairwise fun a b => ¬ cf b a < 0) (hsz : xs.length < 4611686018427387904) :
    SpecX P (ρ.f 6) [.sref 0 e 1 xs.length, .fn g []] [oL true e 1 c d xs] [0] 0 (.sref 0 e 1 ys.length) [oL true e 1 c d ys] := by
  obtain ⟨sz, hsz1⟩ : ∃ sz, sz = 1 := ⟨1, rfl⟩
  have h0 : 0 < sz := by omega
  rw [← hsz1]
  intro E w F κ vs hI hv
  obtain rfl := sort_args hv
  have hlen := hy.length_eq
  have hobj : RelO ⟨F, w, κ, [oL true e sz c d xs]⟩ (κ 0) (oL true e sz c d xs) := hI.objs 0
  obtain ⟨_, cells, hown, hrep, hone, hF⟩ := hobj
  rcases hown.2 with ⟨hk, hn⟩ | ⟨bk, cap, cur, hk, _, hb, hnc, hcm, hcs, ht⟩
  · have hx : xs = [] := List.eq_nil_of_length_eq_zero hn
    subst hx
    have hy' : ys = [] := List.eq_nil_of_length_eq_zero (by simpa using hlen)
    subst hy'
    have hcall := AnyF.slices_SortFunc_none { L with } none 0 (.func (.func g) #[] #[]) w
    rw [hk]
    refine hcall.mono fun ex w' ⟨he, hw⟩ => ?_
    subst hw
    refine ⟨[], F, κ, rfl, he, hI, ?_⟩
    show RelV _ _ (.slice none 0 0)
    simp only [RelV]
    exact ⟨⟨none, 0, rfl, .inl rfl⟩, rfl, rfl, rfl, hk.symm⟩
  · obtain ⟨D, hD1, hD2⟩ := mk_elems (F := F) (w := w) (sz := sz) (c := c) d (xs := xs) xs cells (fun _ h => h) hown.1 hone hrep
    have hDl : D.length = xs.length := by have := congrArg List.length hD1; simpa using this
    have hmut : (look [oL true e sz c d xs] 0).mut = true := rfl
    have hblk : blk (κ 0) = some bk := by rw [hk]; rfl
    have hbF : ¬ F bk := hI.notF (i := 0) hmut bk hblk
    have hlt : bk < w.heap.size := (Array.getElem?_eq_some_iff.1 hb).1
    rcases hxn : xs with _ | ⟨x0, xs'⟩
    ·
      have hx : xs.length = 0 := by rw [hxn]; rfl
      subst hxn
      have hy' : ys = [] := List.eq_nil_of_length_eq_zero (by simpa using hlen)
      subst hy'
      have hcall := AnyF.slices_SortFunc_none { L with } (some ⟨bk, 0, none⟩) cap (.func (.func g) #[] #[]) w
      rw [hk]
      refine hcall.mono fun ex w' ⟨he, hw⟩ => ?_
      subst hw
      refine ⟨[], F, κ, rfl, he, hI, ?_⟩
      show RelV _ _ (.slice (some ⟨bk, 0, none⟩) 0 cap)
      simp only [RelV]
      exact ⟨⟨_, _, rfl, .inr ⟨_, rfl⟩⟩, rfl, rfl, rfl, hk.symm⟩
    · skip
      have hx0 : 0 < xs.length := by rw [hxn]; simp
      haveI : Inhabited (SE F w sz c xs) := ⟨D[0]'(by omega)⟩
      have hk1 : ∀ x : SE F w sz c xs, (x.1.1).length = sz := fun x => x.2.1
      have hv1 : ∀ x : SE F w sz c xs, x.1.1 = [x.1.1.getD 0 undef] := fun x => by
        have h1 : x.1.1.length = 1 := x.2.1.trans hsz1
        obtain ⟨u, hu⟩ := List.length_eq_one_iff.1 h1
        rw [hu]; rfl
      have hmapc : ∀ l : List (SE F w sz c xs), l.flatMap (·.1.1) = l.map fun x => x.1.1.getD 0 undef := fun l => by
        induction l with
        | nil => rfl
        | cons x l ih => rw [List.flatMap_cons, List.map_cons, ih]; exact congrArg (· ++ l.map fun x => x.1.1.getD 0 undef) (hv1 x)
      have hlay : ∀ (dk : Array (SE F w sz c xs)), dk.size = xs.length → ∀ m os, Laid w (sortWorld (fun x : SE F w sz c xs => x.1.1.getD 0 undef) w bk 0 m dk os) bk e cur (dk.toList.flatMap (·.1.1)) := fun dk hdk m os => by
        refine ⟨rfl, rfl, rfl, Nat.le_add_right _ _, by simp [sortWorld, grow, putRow, mapBlock, Sort.ahead], fun b hb' hne => ?_, ?_⟩
        · unfold sortWorld
          rw [heap_grow_old _ _ (by simpa [putRow, mapBlock, Sort.ahead] using hb')]
          simp [putRow, mapBlock, Sort.ahead, Array.getElem?_modify, Ne.symm hne]
        · unfold sortWorld
          rw [heap_grow_old _ _ (by simpa [putRow, mapBlock, Sort.ahead] using hlt)]
          have hb' : w.heap[bk]? = some (.cells cur e (0, 0)) := hb
          simp only [putRow, mapBlock, Sort.ahead, Array.getElem?_modify, if_true, hb', Option.map_some]
          rw [hmapc]
          show some (Obj.cells (putCells _ 0 dk cur) e (0, 0)) = _
          have e2 : putCells (fun x : SE F w sz c xs => x.1.1.getD 0 undef) 0 dk cur = putCells id 0 (dk.map fun x => x.1.1.getD 0 undef) cur := by
            apply Array.ext_getElem?
            intro t
            simp only [putCells, Array.getElem?_mapIdx, Array.size_map, Nat.zero_add, Nat.sub_zero, Nat.zero_le, true_and, id]
            by_cases ht : t < dk.size
            · simp [ht]
            · simp [ht]
          rw [e2, putCells_list _ _ (by rw [Array.size_map, hdk, hcs, hsz1]; omega)]
          simp
      have hH : Holds (fun x : SE F w sz c xs => x.1.1.getD 0 undef) w bk 0 D.toArray := by
        intro j hj
        have hj' : j < D.length := by simpa using hj
        have hb' : w.heap[bk]? = some (.cells cur e (0, 0)) := hb
        have e1 : cells[j]? = cur[j]? := by
          rw [← ht, List.getElem?_take, if_pos (by rw [hsz1]; omega)]
          simp
        refine ⟨?_, by simp [World.frozen?, hb']⟩
        rw [Nat.zero_add, cell_of_row _ bk _ cur e (0, 0) hb', ← e1, ← hD2, hmapc]
        simp [hj']
      have hcmp : CmpLays1 P g #[] (fun x : SE F w sz c xs => x.1.1.getD 0 undef) (fun x y => cf x.1.2 y.1.2) bk 0 D.toArray.size w := by
        intro m os dk hdk x y
        have hLd := hlay dk (by rw [hdk, List.size_toArray, hDl]) m os
        generalize sortWorld (fun x : SE F w sz c xs => x.1.1.getD 0 undef) w bk 0 m dk os = W at hLd
        have hFW : ∀ b, F b → W.heap[b]? = w.heap[b]? := fun b hb' => hLd.other b (hI.lt b hb') (fun e => hbF (e ▸ hb'))
        have hcell : ∀ z : SE F w sz c xs, RelV ⟨F, W, κ, []⟩ (.p ((c z.1.2).getD 0 .u)) (z.1.1.getD 0 undef) := fun z => by
          obtain ⟨u, g1, g2⟩ := z.2.2.2.1 0 h0
          simp only [RelV]
          have : z.1.1.getD 0 undef = u := by simp [List.getD_eq_getElem?_getD, g1]
          rw [this]
          exact Rep.mono (fun _ h => h) hFW _ _ g2
        refine sort_cmp hFW (fun b hb' => Nat.lt_of_lt_of_le (hI.lt b hb') hLd.size) x y κ (hspec _ x.2.2.2.2 _ y.2.2.2.2) ?_
        show RelVs _ _ [_, _]
        simp only [RelVs]
        exact ⟨_, _, rfl, hcell x, _, _, rfl, hcell y, rfl⟩
      have hcall := Any.slices_SortFunc L (fun x : SE F w sz c xs => x.1.1.getD 0 undef) (fun x => x.2.2.1 _ (by rw [hv1 x]; simp)) (fun x y => cf x.1.2 y.1.2) (swo_of (fun x : SE F w sz c xs => x.1.2) hO (fun x => x.2.2.2.2)) g #[] bk 0 cap D.toArray w eg hcmp hH hlt (by rw [List.size_toArray, hDl]; exact hsz)
      rw [List.size_toArray, hDl] at hcall
      rw [hk]
      refine hcall.mono fun ex w' ⟨he, d', n, os, hp, hso, hw⟩ => ?_
      have hsize : d'.size = xs.length := by rw [hp.1, List.size_toArray, hDl]
      have hLd := hlay d' hsize n os
      rw [← hw] at hLd
      have hP : PermIn 0 D.toArray.size D.toArray d' := by rw [List.size_toArray, hDl]; exact hp
      have hS : SortedIn (ltOf fun x y : SE F w sz c xs => cf x.1.2 y.1.2) 0 D.toArray.size d' := by rw [List.size_toArray, hDl]; exact hso
      have hone' := sorted_one (fun x : SE F w sz c xs => x.1.2) cf (xs := xs) (ys := ys) hO.anti hy hs (D := D.toArray) (D' := d') (by simpa using hD1) hP hS
      obtain ⟨q1, q2⟩ := sort_end (w' := w') (D' := d'.toList) e c d h0 hI hk ⟨hnc, hcm, hcs⟩ hone' hlen hLd
      refine ⟨[], F, κ, rfl, he, q1, ?_⟩
      rw [← hk]
      exact q2
end Go.Proofs.YtjhnpaenhdbhpaaV
set_option linter.unusedVariables false
set_option linter.unusedSimpArgs false
set_option linter.constructorNameAsVariable false
namespace Go.Proofs.YtjhnpaenhdbhpaaV
open Go Go.RowKit
structure SortedBy {β : Type} (f : Nat → β → β → Option Int) (xs ys : List β) : Prop where mk ::
  h : ∃ cf : β → β → Int, (∀ x ∈ xs, ∀ y ∈ xs, ∃ k, f k x y = some (cf x y)) ∧ CmpOK cf xs ∧ ys.Perm xs ∧ (ys.Pairwise fun a b => ¬ cf b a < 0) ∧ xs.length < 4611686018427387904
noncomputable def sortC {β : Type} (f : Nat → β → β → Option Int) (xs : List β) : Option (List β) := @dite _ (∃ ys, SortedBy f xs ys) (Classical.propDecidable _) (fun h => some (Classical.choose h)) (fun _ => none)
theorem sortC_ok {β : Type} {f : Nat → β → β → Option Int} {xs ys : List β} (h : sortC f xs = some ys) : SortedBy f xs ys := by
  unfold sortC at h
  split at h
  · rename_i hh
    injection h with h
    rw [← h]
    exact Classical.choose_spec hh
  · cases h
theorem SortedBy.one {β : Type} {f : Nat → β → β → Option Int} (hm : ∀ x y k k' r, k ≤ k' → f k x y = some r → f k' x y = some r) {xs ys zs : List β} (h1 : SortedBy f xs ys) (h2 : SortedBy f xs zs) : ys = zs := by
  obtain ⟨⟨cf, a1, a2, a3, a4, _⟩⟩ := h1
  obtain ⟨⟨cg, b1, b2, b3, b4, _⟩⟩ := h2
  have e : ∀ x ∈ xs, ∀ y ∈ xs, cf x y = cg x y := fun x hx y hy => by
    obtain ⟨k, hk⟩ := a1 x hx y hy
    obtain ⟨k', hk'⟩ := b1 x hx y hy
    have g1 := hm x y k (max k k') _ (Nat.le_max_left _ _) hk
    have g2 := hm x y k' (max k k') _ (Nat.le_max_right _ _) hk'
    rw [g1] at g2
    exact Option.some.inj g2
  refine List.Perm.eq_of_pairwise (le := fun a b => ¬ cf b a < 0) (fun a b ha hb q1 q2 => a2.anti a (a3.mem_iff.1 ha) b (b3.mem_iff.1 hb) q1 q2) a4 ?_ (a3.trans b3.symm)
  rw [List.pairwise_iff_getElem] at b4 ⊢
  intro i j hi hj hij
  have := b4 i j hi hj hij
  rw [e _ (b3.mem_iff.1 (List.getElem_mem hj)) _ (b3.mem_iff.1 (List.getElem_mem hi))]
  exact this
theorem sortC_eq {β : Type} {f : Nat → β → β → Option Int} (hm : ∀ x y k k' r, k ≤ k' → f k x y = some r → f k' x y = some r) {xs ys : List β} (h : SortedBy f xs ys) : sortC f xs = some ys := by
  unfold sortC
  rw [dif_pos ⟨ys, h⟩]
  congr 1
  exact SortedBy.one hm (Classical.choose_spec _) h
theorem sort1_call {β : Type} {P : Program} {ρ : Go.Shelf.Ren} (L : SlLaysF.n6 P ρ) {n : FuncId} (hn : ρ.f 6 = n) (e : TypeId) (c : β → List AV) (d : β) (hc : ∀ x, (c x).length = 1) {g : Nat}
    (eg : ∀ args w, (callFunc g args).run P w = .ok (.enter g args) w) {f : Nat → β → β → Option Int} (hsp : ∀ k x y r, f k x y = some r → Spec P g [.p ((c x).getD 0 .u), .p ((c y).getD 0 .u)] (.p (.int .i64 r)) []) {xs ys : List β} (h : sortC f xs = some ys) :
    SpecX P n [.sref 0 e 1 xs.length, .fn g []] [oL true e 1 c d xs] [0] 0 (.sref 0 e 1 ys.length) [oL true e 1 c d ys] := by
  obtain ⟨⟨cf, h1, h2, h3, h4, h5⟩⟩ := sortC_ok h
  subst hn
  exact sort1_specX L e c d hc eg cf (fun x hx y hy => by obtain ⟨k, hk⟩ := h1 x hx y hy; exact hsp k x y _ hk) h2 h3 h4 h5
end Go.Proofs.YtjhnpaenhdbhpaaV
set_option maxRecDepth 100000
namespace Go.Proofs.YtjhnpaenhdbhpaaV
open Go Go.RowKit Go.Shelf
def sl43_ren : Go.Shelf.Ren := ⟨fun | 6 => 43 | 15 => 52 | 14 => 51 | 28 => 67 | 29 => 68 | 20 => 59 | 21 => 60 | 22 => 61 | 23 => 62 | 24 => 63 | 25 => 64 | 26 => 65 | 27 => 66 | 46 => 73 | 47 => 74 | 48 => 75 | 49 => 76 | 50 => 77 | 57 => 78 | n => n, fun | 22 => 66 | 24 => 39 | 25 => 65 | 3 => 3 | 39 => 45 | 0 => 0 | 53 => 87 | 55 => 89 | 4 => 4 | 46 => 80 | 45 => 79 | 50 => 84 | 5 => 5 | 9 => 9 | 66 => 92 | 70 => 96 | 76 => 98 | 77 => 99 | n => n, fun n => n⟩
theorem sl43 : SlLaysF.n6 Try.prog sl43_ren where
  mixed := by kernel_rfl
  f6 := ⟨"slices.SortFunc[[][]erasure/api.Value,[]erasure/api.Value]", by decide, Try.func43.trans (congrArg some (by kernel_rfl))⟩
  f14 := ⟨"slices.pdqsortCmpFunc[[]erasure/api.Value]", by decide, Try.func51.trans (congrArg some (by kernel_rfl))⟩
  f15 := Try.func52.trans (congrArg some (by kernel_rfl))
  f20 := ⟨"slices.insertionSortCmpFunc[[]erasure/api.Value]", by decide, Try.func59.trans (congrArg some (by kernel_rfl))⟩
  f21 := ⟨"slices.heapSortCmpFunc[[]erasure/api.Value]", by decide, Try.func60.trans (congrArg some (by kernel_rfl))⟩
  f22 := ⟨"slices.breakPatternsCmpFunc[[]erasure/api.Value]", by decide, Try.func61.trans (congrArg some (by kernel_rfl))⟩
  f23 := ⟨"slices.choosePivotCmpFunc[[]erasure/api.Value]", by decide, Try.func62.trans (congrArg some (by kernel_rfl))⟩
  f24 := ⟨"slices.reverseRangeCmpFunc[[]erasure/api.Value]", by decide, Try.func63.trans (congrArg some (by kernel_rfl))⟩
  f25 := ⟨"slices.partialInsertionSortCmpFunc[[]erasure/api.Value]", by decide, Try.func64.trans (congrArg some (by kernel_rfl))⟩
  f26 := ⟨"slices.partitionEqualCmpFunc[[]erasure/api.Value]", by decide, Try.func65.trans (congrArg some (by kernel_rfl))⟩
  f27 := ⟨"slices.partitionCmpFunc[[]erasure/api.Value]", by decide, Try.func66.trans (congrArg some (by kernel_rfl))⟩
  f28 := Try.func67.trans (congrArg some (by kernel_rfl))
  f29 := Try.func68.trans (congrArg some (by kernel_rfl))
  f46 := ⟨"slices.siftDownCmpFunc[[]erasure/api.Value]", by decide, Try.func73.trans (congrArg some (by kernel_rfl))⟩
  f47 := Try.func74.trans (congrArg some (by kernel_rfl))
  f48 := Try.func75.trans (congrArg some (by kernel_rfl))
  f49 := ⟨"slices.medianAdjacentCmpFunc[[]erasure/api.Value]", by decide, Try.func76.trans (congrArg some (by kernel_rfl))⟩
  f50 := ⟨"slices.medianCmpFunc[[]erasure/api.Value]", by decide, Try.func77.trans (congrArg some (by kernel_rfl))⟩
  f57 := ⟨"slices.order2CmpFunc[[]erasure/api.Value]", by decide, Try.func78.trans (congrArg some (by kernel_rfl))⟩
  t0 := Try.underlying0
  a0 := Try.isAgg0
  z0 := Try.sizeOf0
  v0 := Try.zeroValue0
  t3 := Try.underlying3
  a3 := Try.isAgg3
  z3 := Try.sizeOf3
  v3 := Try.zeroValue3
  t4 := Try.underlying4
  a4 := Try.isAgg4
  z4 := Try.sizeOf4
  v4 := Try.zeroValue4
  t5 := Try.underlying5
  a5 := Try.isAgg5
  z5 := Try.sizeOf5
  v5 := Try.zeroValue5
  t9 := Try.underlying9
  a9 := Try.isAgg9
  z9 := Try.sizeOf9
  v9 := Try.zeroValue9
  t22 := Try.underlying66
  a22 := Try.isAgg66
  z22 := Try.sizeOf66
  v22 := Try.zeroValue66
  a24 := Try.isAgg39
  z24 := Try.sizeOf39
  t25 := Try.underlying65
  a25 := Try.isAgg65
  z25 := Try.sizeOf65
  v25 := Try.zeroValue65
  t39 := Try.underlying45
  a39 := Try.isAgg45
  z39 := Try.sizeOf45
  v39 := Try.zeroValue45
  t45 := Try.underlying79
  a45 := Try.isAgg79
  z45 := Try.sizeOf79
  v45 := Try.zeroValue79
  t46 := Try.underlying80
  a46 := Try.isAgg80
  z46 := Try.sizeOf80
  v46 := Try.zeroValue80
  t50 := Try.underlying84
  a50 := Try.isAgg84
  z50 := Try.sizeOf84
  v50 := Try.zeroValue84
  t53 := Try.underlying87
  a53 := Try.isAgg87
  z53 := Try.sizeOf87
  v53 := Try.zeroValue87
  t55 := Try.underlying89
  a55 := Try.isAgg89
  z55 := Try.sizeOf89
  v55 := Try.zeroValue89
  t66 := Try.underlying92
  a66 := Try.isAgg92
  z66 := Try.sizeOf92
  v66 := Try.zeroValue92
  t70 := Try.underlying96
  a70 := Try.isAgg96
  z70 := Try.sizeOf96
  v70 := Try.zeroValue96
  t76 := Try.underlying98
  a76 := Try.isAgg98
  z76 := Try.sizeOf98
  v76 := Try.zeroValue98
  t77 := Try.underlying99
  a77 := Try.isAgg99
  z77 := Try.sizeOf99
  v77 := Try.zeroValue99
end Go.Proofs.YtjhnpaenhdbhpaaV
set_option linter.unusedVariables false
set_option linter.unusedSimpArgs false
set_option maxRecDepth 100000
namespace Go.Proofs.YtjhnpaenhdbhpaaV
open Go Go.RowKit
noncomputable def release_Differences.p3  : Nat → (List TPublished) → (List TPublished) → Int → (List (List TValue)) → (List TPublished) → Option (List TPublished)
  | 0, _, _, _, _, _ => none
  | k + 1, a0, b1, i9, keys5, out8 => if (decide (i9 < ((keys5).length : Int))) = true then (if (decide (i9 > 0)) = true then (if 0 ≤ (IntKind.i64.wrap (i9 - 1)) ∧ (IntKind.i64.wrap (i9 - 1)) < ((keys5).length : Int) then (if 0 ≤ i9 ∧ i9 < ((keys5).length : Int) then ((value_CompareRows k (keys5.getD (IntKind.i64.wrap (i9 - 1)).toNat ([] : List TValue)) (keys5.getD i9.toNat ([] : List TValue))).bind fun y_17 => (if (y_17 == 0) = true then (release_Differences.p3 k a0 b1 (IntKind.i64.wrap (i9 + 1)) keys5 out8) else ((release_Find k a0 (keys5.getD i9.toNat ([] : List TValue))).bind fun y_20 => ((release_Find k b1 (keys5.getD i9.toNat ([] : List TValue))).bind fun y_22 => (if ((IntKind.i64.wrap (y_22.1 - y_20.1)) != 0) = true then (if (out8).length + ([(TPublished.mk (keys5.getD i9.toNat ([] : List TValue)) (IntKind.i64.wrap (y_22.1 - y_20.1)))]).length ≤ maxLen ∧ ((out8).length + ([(TPublished.mk (keys5.getD i9.toNat ([] : List TValue)) (IntKind.i64.wrap (y_22.1 - y_20.1)))]).length) * 32 ≤ 140737488355328 then (release_Differences.p3 k a0 b1 (IntKind.i64.wrap (i9 + 1)) keys5 (out8 ++ ([(TPublished.mk (keys5.getD i9.toNat ([] : List TValue)) (IntKind.i64.wrap (y_22.1 - y_20.1)))]))) else none) else (release_Differences.p3 k a0 b1 (IntKind.i64.wrap (i9 + 1)) keys5 out8)))))) else none) else none) else (if 0 ≤ i9 ∧ i9 < ((keys5).length : Int) then ((release_Find k a0 (keys5.getD i9.toNat ([] : List TValue))).bind fun y_27 => ((release_Find k b1 (keys5.getD i9.toNat ([] : List TValue))).bind fun y_29 => (if ((IntKind.i64.wrap (y_29.1 - y_27.1)) != 0) = true then (if (out8).length + ([(TPublished.mk (keys5.getD i9.toNat ([] : List TValue)) (IntKind.i64.wrap (y_29.1 - y_27.1)))]).length ≤ maxLen ∧ ((out8).length + ([(TPublished.mk (keys5.getD i9.toNat ([] : List TValue)) (IntKind.i64.wrap (y_29.1 - y_27.1)))]).length) * 32 ≤ 140737488355328 then (release_Differences.p3 k a0 b1 (IntKind.i64.wrap (i9 + 1)) keys5 (out8 ++ ([(TPublished.mk (keys5.getD i9.toNat ([] : List TValue)) (IntKind.i64.wrap (y_29.1 - y_27.1)))]))) else none) else (release_Differences.p3 k a0 b1 (IntKind.i64.wrap (i9 + 1)) keys5 out8)))) else none)) else (some out8)
noncomputable def release_Differences.p2  : Nat → (List TPublished) → (List TPublished) → Int → (List (List TValue)) → Option (List TPublished)
  | 0, _, _, _, _ => none
  | k + 1, a0, b1, i7, keys5 => if (decide (i7 < ((b1).length : Int))) = true then (if 0 ≤ i7 ∧ i7 < ((b1).length : Int) then ((release_cleaned k ((b1.getD i7.toNat dPublished).f0)).bind fun y_8 => (if (keys5).length + ([y_8]).length ≤ maxLen ∧ ((keys5).length + ([y_8]).length) * 24 ≤ 140737488355328 then (release_Differences.p2 k a0 b1 (IntKind.i64.wrap (i7 + 1)) (keys5 ++ ([y_8]))) else none)) else none) else ((sortC (fun k x y => value_CompareRows k x y) keys5).bind fun y_11 => (release_Differences.p3 k a0 b1 0 y_11 ([] : List TPublished)))
noncomputable def release_Differences.p1  : Nat → (List TPublished) → (List TPublished) → Int → (List (List TValue)) → Option (List TPublished)
  | 0, _, _, _, _ => none
  | k + 1, a0, b1, i6, keys5 => if (decide (i6 < ((a0).length : Int))) = true then (if 0 ≤ i6 ∧ i6 < ((a0).length : Int) then ((release_cleaned k ((a0.getD i6.toNat dPublished).f0)).bind fun y_3 => (if (keys5).length + ([y_3]).length ≤ maxLen ∧ ((keys5).length + ([y_3]).length) * 24 ≤ 140737488355328 then (release_Differences.p1 k a0 b1 (IntKind.i64.wrap (i6 + 1)) (keys5 ++ ([y_3]))) else none)) else none) else (release_Differences.p2 k a0 b1 0 keys5)
noncomputable def release_Differences  (k : Nat) (a0 : (List TPublished)) (b1 : (List TPublished)) : Option (List TPublished) := release_Differences.p1 k a0 b1 0 ([] : List (List TValue))
noncomputable def release_Differences.t : List Item := [.code (bodyOf Try.f25)]
noncomputable def release_Differences.s (a0 : (List TPublished)) (b1 : (List TPublished)) : St := ⟨frOf Try.f25.ntmps 0 [(0, .p (eL 2 cPublished dPublished a0)), (1, .p (eL 2 cPublished dPublished b1))], []⟩
noncomputable def release_Differences.p1.t : List Item := nav 9 [] release_Differences.t
noncomputable def release_Differences.p1.s (a0 : (List TPublished)) (b1 : (List TPublished)) (i6 : Int) (keys5 : (List (List TValue))) : St := ⟨frOf Try.f25.ntmps 0 [(0, .p (eL 2 cPublished dPublished a0)), (1, .p (eL 2 cPublished dPublished b1)), (5, .sref 0 39 1 (keys5).length), (6, .p (.int .i64 i6))], [(oL true 39 1 (cL 3 cValue dValue) ([] : List TValue) keys5)]⟩
noncomputable def release_Differences.p2.t : List Item := nav 10 [false] release_Differences.p1.t
noncomputable def release_Differences.p2.s (a0 : (List TPublished)) (b1 : (List TPublished)) (i7 : Int) (keys5 : (List (List TValue))) : St := ⟨frOf Try.f25.ntmps 0 [(0, .p (eL 2 cPublished dPublished a0)), (1, .p (eL 2 cPublished dPublished b1)), (5, .sref 0 39 1 (keys5).length), (7, .p (.int .i64 i7))], [(oL true 39 1 (cL 3 cValue dValue) ([] : List TValue) keys5)]⟩
noncomputable def release_Differences.p3.t : List Item := nav 14 [false] release_Differences.p2.t
noncomputable def release_Differences.p3.s (a0 : (List TPublished)) (b1 : (List TPublished)) (i9 : Int) (keys5 : (List (List TValue))) (out8 : (List TPublished)) : St := ⟨frOf Try.f25.ntmps 0 [(0, .p (eL 2 cPublished dPublished a0)), (1, .p (eL 2 cPublished dPublished b1)), (5, .sref 0 39 1 (keys5).length), (8, .sref 1 43 2 (out8).length), (9, .p (.int .i64 i9))], [(oL true 39 1 (cL 3 cValue dValue) ([] : List TValue) keys5), (oL true 43 2 cPublished dPublished out8)]⟩
theorem release_Differences.p3.run   : ∀ (k : Nat) (a0 : (List TPublished)) (b1 : (List TPublished)) (i9 : Int) (keys5 : (List (List TValue))) (out8 : (List TPublished)) (r : (List TPublished)), release_Differences.p3 k a0 b1 i9 keys5 out8 = some r → RunC Try.prog Try.f25 release_Differences.p3.t (release_Differences.p3.s a0 b1 i9 keys5 out8) (.sref 0 43 2 (r).length) [(oL true 43 2 cPublished dPublished (r))] := by
  intro k
  induction k with
  | zero => intro a0 b1 i9 keys5 out8 r h; simp [release_Differences.p3] at h
  | succ k ih =>
    intro a0 b1 i9 keys5 out8 r h
    rw [release_Differences.p3] at h
    rcases ite_or h with ⟨g_13, h⟩ | ⟨g_13, h⟩
    · rcases ite_or h with ⟨g_14, h⟩ | ⟨g_14, h⟩
      · obtain ⟨g_15, h⟩ := ite_some h
        obtain ⟨g_16, h⟩ := ite_some h
        obtain ⟨y_17, e_18, h⟩ := bind_or h
        rcases ite_or h with ⟨g_19, h⟩ | ⟨g_19, h⟩
        · exact RunC.go [.n 2, .r [(3, .dec true)], .n 6, .r [(2, .dec true), (12, .call (.p (.int .i64 y_17)) []), (14, .dec true)], .n 4, .k [0, 1, 5, 8, 9]] (by kernel_rfl) (Obs.of (by kernel_rfl) (And.intro g_13 (And.intro g_14 (And.intro g_15 (And.intro g_16 (And.intro (value_CompareRows.spec e_18) g_19)))))) (ih _ _ _ _ _ r h)
        · obtain ⟨y_20, e_21, h⟩ := bind_or h
          obtain ⟨y_22, e_23, h⟩ := bind_or h
          rcases ite_or h with ⟨g_24, h⟩ | ⟨g_24, h⟩
          · obtain ⟨g_25, h⟩ := ite_some h
            exact RunC.go [.n 2, .r [(3, .dec true)], .n 6, .r [(2, .dec true), (12, .call (.p (.int .i64 y_17)) []), (14, .dec false)], .n 3, .r [(5, .call (.tup [.p (.int .i64 y_20.1), .p (.bool y_20.2)]) [])], .n 1, .r [(5, .call (.tup [.p (.int .i64 y_22.1), .p (.bool y_22.2)]) [])], .n 1, .r [(3, .dec true)], .n 1, .r [(9, .obj (oL true 43 2 cPublished dPublished [(TPublished.mk (keys5.getD i9.toNat ([] : List TValue)) (IntKind.i64.wrap (y_22.1 - y_20.1)))])), (10, .obj (oL true 43 2 cPublished dPublished (out8 ++ ([(TPublished.mk (keys5.getD i9.toNat ([] : List TValue)) (IntKind.i64.wrap (y_22.1 - y_20.1)))]))))], .n 3, .k [0, 1, 5, 8, 9]] (by kernel_rfl) (Obs.of (by kernel_rfl) (And.intro g_13 (And.intro g_14 (And.intro g_15 (And.intro g_16 (And.intro (value_CompareRows.spec e_18) (And.intro (nt g_19) (And.intro g_16 (And.intro (release_Find.spec e_21) (And.intro g_16 (And.intro (release_Find.spec e_23) (And.intro g_24 (And.intro g_16 (And.intro (le_one 43 2 cPublished dPublished (TPublished.mk (keys5.getD i9.toNat ([] : List TValue)) (IntKind.i64.wrap (y_22.1 - y_20.1)))) (And.intro g_25 (le_app 43 2 cPublished dPublished out8 ([(TPublished.mk (keys5.getD i9.toNat ([] : List TValue)) (IntKind.i64.wrap (y_22.1 - y_20.1)))]))))))))))))))))) (ih _ _ _ _ _ r h)
          · exact RunC.go [.n 2, .r [(3, .dec true)], .n 6, .r [(2, .dec true), (12, .call (.p (.int .i64 y_17)) []), (14, .dec false)], .n 3, .r [(5, .call (.tup [.p (.int .i64 y_20.1), .p (.bool y_20.2)]) [])], .n 1, .r [(5, .call (.tup [.p (.int .i64 y_22.1), .p (.bool y_22.2)]) [])], .n 1, .r [(3, .dec false)], .n 5, .k [0, 1, 5, 8, 9]] (by kernel_rfl) (Obs.of (by kernel_rfl) (And.intro g_13 (And.intro g_14 (And.intro g_15 (And.intro g_16 (And.intro (value_CompareRows.spec e_18) (And.intro (nt g_19) (And.intro g_16 (And.intro (release_Find.spec e_21) (And.intro g_16 (And.intro (release_Find.spec e_23) (nt g_24)))))))))))) (ih _ _ _ _ _ r h)
      · obtain ⟨g_26, h⟩ := ite_some h
        obtain ⟨y_27, e_28, h⟩ := bind_or h
        obtain ⟨y_29, e_30, h⟩ := bind_or h
        rcases ite_or h with ⟨g_31, h⟩ | ⟨g_31, h⟩
        · obtain ⟨g_32, h⟩ := ite_some h
          exact RunC.go [.n 2, .r [(3, .dec true)], .n 6, .r [(2, .dec false)], .n 3, .r [(5, .call (.tup [.p (.int .i64 y_27.1), .p (.bool y_27.2)]) [])], .n 1, .r [(5, .call (.tup [.p (.int .i64 y_29.1), .p (.bool y_29.2)]) [])], .n 1, .r [(3, .dec true)], .n 1, .r [(9, .obj (oL true 43 2 cPublished dPublished [(TPublished.mk (keys5.getD i9.toNat ([] : List TValue)) (IntKind.i64.wrap (y_29.1 - y_27.1)))])), (10, .obj (oL true 43 2 cPublished dPublished (out8 ++ ([(TPublished.mk (keys5.getD i9.toNat ([] : List TValue)) (IntKind.i64.wrap (y_29.1 - y_27.1)))]))))], .n 3, .k [0, 1, 5, 8, 9]] (by kernel_rfl) (Obs.of (by kernel_rfl) (And.intro g_13 (And.intro (nt g_14) (And.intro g_26 (And.intro (release_Find.spec e_28) (And.intro g_26 (And.intro (release_Find.spec e_30) (And.intro g_31 (And.intro g_26 (And.intro (le_one 43 2 cPublished dPublished (TPublished.mk (keys5.getD i9.toNat ([] : List TValue)) (IntKind.i64.wrap (y_29.1 - y_27.1)))) (And.intro g_32 (le_app 43 2 cPublished dPublished out8 ([(TPublished.mk (keys5.getD i9.toNat ([] : List TValue)) (IntKind.i64.wrap (y_29.1 - y_27.1)))]))))))))))))) (ih _ _ _ _ _ r h)
        · exact RunC.go [.n 2, .r [(3, .dec true)], .n 6, .r [(2, .dec false)], .n 3, .r [(5, .call (.tup [.p (.int .i64 y_27.1), .p (.bool y_27.2)]) [])], .n 1, .r [(5, .call (.tup [.p (.int .i64 y_29.1), .p (.bool y_29.2)]) [])], .n 1, .r [(3, .dec false)], .n 5, .k [0, 1, 5, 8, 9]] (by kernel_rfl) (Obs.of (by kernel_rfl) (And.intro g_13 (And.intro (nt g_14) (And.intro g_26 (And.intro (release_Find.spec e_28) (And.intro g_26 (And.intro (release_Find.spec e_30) (nt g_31)))))))) (ih _ _ _ _ _ r h)
    · obtain rfl := Option.some.inj h
      exact RunC.out [.n 2, .r [(3, .dec false)], .n 4] (by kernel_rfl) (Obs.of (by kernel_rfl) (nt g_13))
theorem release_Differences.p2.run   : ∀ (k : Nat) (a0 : (List TPublished)) (b1 : (List TPublished)) (i7 : Int) (keys5 : (List (List TValue))) (r : (List TPublished)), release_Differences.p2 k a0 b1 i7 keys5 = some r → RunC Try.prog Try.f25 release_Differences.p2.t (release_Differences.p2.s a0 b1 i7 keys5) (.sref 0 43 2 (r).length) [(oL true 43 2 cPublished dPublished (r))] := by
  intro k
  induction k with
  | zero => intro a0 b1 i7 keys5 r h; simp [release_Differences.p2] at h
  | succ k ih =>
    intro a0 b1 i7 keys5 r h
    rw [release_Differences.p2] at h
    rcases ite_or h with ⟨g_6, h⟩ | ⟨g_6, h⟩
    · obtain ⟨g_7, h⟩ := ite_some h
      obtain ⟨y_8, e_9, h⟩ := bind_or h
      obtain ⟨g_10, h⟩ := ite_some h
      exact RunC.go [.n 2, .r [(3, .dec true)], .n 4, .r [(6, .call (.sref 0 38 3 (y_8).length) [(oL true 38 3 cValue dValue y_8)]), (7, .obj (oL true 39 1 (cL 3 cValue dValue) ([] : List TValue) [y_8])), (8, .obj (oL true 39 1 (cL 3 cValue dValue) ([] : List TValue) (keys5 ++ ([y_8]))))], .n 3, .k [0, 1, 5, 7]] (by kernel_rfl) (Obs.of (by kernel_rfl) (And.intro g_6 (And.intro g_7 (And.intro (release_cleaned.spec e_9) (And.intro (le_one 39 1 (cL 3 cValue dValue) ([] : List TValue) y_8) (And.intro g_10 (le_app 39 1 (cL 3 cValue dValue) ([] : List TValue) keys5 ([y_8])))))))) (ih _ _ _ _ r h)
    · obtain ⟨y_11, e_12, h⟩ := bind_or h
      exact RunC.go [.n 2, .r [(3, .dec false)], .n 3, .r [(1, .callX [0] [0] (.sref 0 39 1 (y_11).length) [(oL true 39 1 (cL 3 cValue dValue) ([] : List TValue) y_11)])], .n 1, .r [(0, .obj (oL true 43 2 cPublished dPublished ([] : List TPublished)))], .n 5, .k [0, 1, 5, 8, 9]] (by kernel_rfl) (Obs.of (by kernel_rfl) (And.intro (nt g_6) (And.intro (sort1_call sl43 rfl 39 (cL 3 cValue dValue) ([] : List TValue) (fun _ => rfl) (enters_of Try.func41 (by kernel_rfl) rfl) (fun k x y r h => value_CompareRows.spec h) e_12) (le_nil 43 2 cPublished dPublished)))) (release_Differences.p3.run k _ _ _ _ _ r h)
theorem release_Differences.p1.run   : ∀ (k : Nat) (a0 : (List TPublished)) (b1 : (List TPublished)) (i6 : Int) (keys5 : (List (List TValue))) (r : (List TPublished)), release_Differences.p1 k a0 b1 i6 keys5 = some r → RunC Try.prog Try.f25 release_Differences.p1.t (release_Differences.p1.s a0 b1 i6 keys5) (.sref 0 43 2 (r).length) [(oL true 43 2 cPublished dPublished (r))] := by
  intro k
  induction k with
  | zero => intro a0 b1 i6 keys5 r h; simp [release_Differences.p1] at h
  | succ k ih =>
    intro a0 b1 i6 keys5 r h
    rw [release_Differences.p1] at h
    rcases ite_or h with ⟨g_1, h⟩ | ⟨g_1, h⟩
    · obtain ⟨g_2, h⟩ := ite_some h
      obtain ⟨y_3, e_4, h⟩ := bind_or h
      obtain ⟨g_5, h⟩ := ite_some h
      exact RunC.go [.n 2, .r [(3, .dec true)], .n 4, .r [(6, .call (.sref 0 38 3 (y_3).length) [(oL true 38 3 cValue dValue y_3)]), (7, .obj (oL true 39 1 (cL 3 cValue dValue) ([] : List TValue) [y_3])), (8, .obj (oL true 39 1 (cL 3 cValue dValue) ([] : List TValue) (keys5 ++ ([y_3]))))], .n 3, .k [0, 1, 5, 6]] (by kernel_rfl) (Obs.of (by kernel_rfl) (And.intro g_1 (And.intro g_2 (And.intro (release_cleaned.spec e_4) (And.intro (le_one 39 1 (cL 3 cValue dValue) ([] : List TValue) y_3) (And.intro g_5 (le_app 39 1 (cL 3 cValue dValue) ([] : List TValue) keys5 ([y_3])))))))) (ih _ _ _ _ r h)
    · exact RunC.go [.n 2, .r [(3, .dec false)], .n 7, .k [0, 1, 5, 7]] (by kernel_rfl) (Obs.of (by kernel_rfl) (nt g_1)) (release_Differences.p2.run k _ _ _ _ r h)
theorem release_Differences.run   {k : Nat} {a0 : (List TPublished)} {b1 : (List TPublished)} {r : (List TPublished)} (h : release_Differences k a0 b1 = some r) : RunC Try.prog Try.f25 release_Differences.t (release_Differences.s a0 b1) (.sref 0 43 2 (r).length) [(oL true 43 2 cPublished dPublished (r))] := by
  unfold release_Differences at h
  exact RunC.go [.n 1, .r [(0, .obj (oL true 43 2 cPublished dPublished ([] : List TPublished)))], .n 1, .r [(0, .obj (oL true 39 1 (cL 3 cValue dValue) ([] : List TValue) ([] : List (List TValue))))], .n 5, .k [0, 1, 5, 6]] (by kernel_rfl) (Obs.of (by kernel_rfl) (And.intro (le_nil 43 2 cPublished dPublished) (le_nil 39 1 (cL 3 cValue dValue) ([] : List TValue)))) (release_Differences.p1.run k _ _ _ _ r h)
theorem release_Differences.p3.mono   : ∀ (k k' : Nat) (a0 : (List TPublished)) (b1 : (List TPublished)) (i9 : Int) (keys5 : (List (List TValue))) (out8 : (List TPublished)) (r : (List TPublished)), k ≤ k' → release_Differences.p3 k a0 b1 i9 keys5 out8 = some r → release_Differences.p3 k' a0 b1 i9 keys5 out8 = some r := by
  intro k
  induction k with
  | zero => intro k' a0 b1 i9 keys5 out8 r hk h; simp [release_Differences.p3] at h
  | succ k ih =>
    intro k' a0 b1 i9 keys5 out8 r hk h
    obtain ⟨k', rfl⟩ : ∃ m, k' = m + 1 := ⟨k' - 1, by omega⟩
    replace hk := Nat.le_of_succ_le_succ hk
    rw [release_Differences.p3] at h ⊢
    rcases ite_or h with ⟨g_13, h⟩ | ⟨g_13, h⟩
    · refine itp g_13 ?_
      rcases ite_or h with ⟨g_14, h⟩ | ⟨g_14, h⟩
      · refine itp g_14 ?_
        obtain ⟨g_15, h⟩ := ite_some h
        refine itp g_15 ?_
        obtain ⟨g_16, h⟩ := ite_some h
        refine itp g_16 ?_
        obtain ⟨y_17, e_18, h⟩ := bind_or h
        refine bnd (value_CompareRows.mono _ _ _ _ _ hk e_18) ?_
        rcases ite_or h with ⟨g_19, h⟩ | ⟨g_19, h⟩
        · refine itp g_19 ?_
          exact ih _ _ _ _ _ _ r hk h
        · refine itn g_19 ?_
          obtain ⟨y_20, e_21, h⟩ := bind_or h
          refine bnd (release_Find.mono _ _ _ _ _ hk e_21) ?_
          obtain ⟨y_22, e_23, h⟩ := bind_or h
          refine bnd (release_Find.mono _ _ _ _ _ hk e_23) ?_
          rcases ite_or h with ⟨g_24, h⟩ | ⟨g_24, h⟩
          · refine itp g_24 ?_
            obtain ⟨g_25, h⟩ := ite_some h
            refine itp g_25 ?_
            exact ih _ _ _ _ _ _ r hk h
          · refine itn g_24 ?_
            exact ih _ _ _ _ _ _ r hk h
      · refine itn g_14 ?_
        obtain ⟨g_26, h⟩ := ite_some h
        refine itp g_26 ?_
        obtain ⟨y_27, e_28, h⟩ := bind_or h
        refine bnd (release_Find.mono _ _ _ _ _ hk e_28) ?_
        obtain ⟨y_29, e_30, h⟩ := bind_or h
        refine bnd (release_Find.mono _ _ _ _ _ hk e_30) ?_
        rcases ite_or h with ⟨g_31, h⟩ | ⟨g_31, h⟩
        · refine itp g_31 ?_
          obtain ⟨g_32, h⟩ := ite_some h
          refine itp g_32 ?_
          exact ih _ _ _ _ _ _ r hk h
        · refine itn g_31 ?_
          exact ih _ _ _ _ _ _ r hk h
    · refine itn g_13 ?_
      exact h
theorem release_Differences.p2.mono   : ∀ (k k' : Nat) (a0 : (List TPublished)) (b1 : (List TPublished)) (i7 : Int) (keys5 : (List (List TValue))) (r : (List TPublished)), k ≤ k' → release_Differences.p2 k a0 b1 i7 keys5 = some r → release_Differences.p2 k' a0 b1 i7 keys5 = some r := by
  intro k
  induction k with
  | zero => intro k' a0 b1 i7 keys5 r hk h; simp [release_Differences.p2] at h
  | succ k ih =>
    intro k' a0 b1 i7 keys5 r hk h
    obtain ⟨k', rfl⟩ : ∃ m, k' = m + 1 := ⟨k' - 1, by omega⟩
    replace hk := Nat.le_of_succ_le_succ hk
    rw [release_Differences.p2] at h ⊢
    rcases ite_or h with ⟨g_6, h⟩ | ⟨g_6, h⟩
    · refine itp g_6 ?_
      obtain ⟨g_7, h⟩ := ite_some h
      refine itp g_7 ?_
      obtain ⟨y_8, e_9, h⟩ := bind_or h
      refine bnd (release_cleaned.mono _ _ _ _ hk e_9) ?_
      obtain ⟨g_10, h⟩ := ite_some h
      refine itp g_10 ?_
      exact ih _ _ _ _ _ r hk h
    · refine itn g_6 ?_
      obtain ⟨y_11, e_12, h⟩ := bind_or h
      refine bnd e_12 ?_
      exact release_Differences.p3.mono _ _ _ _ _ _ _ r hk h
theorem release_Differences.p1.mono   : ∀ (k k' : Nat) (a0 : (List TPublished)) (b1 : (List TPublished)) (i6 : Int) (keys5 : (List (List TValue))) (r : (List TPublished)), k ≤ k' → release_Differences.p1 k a0 b1 i6 keys5 = some r → release_Differences.p1 k' a0 b1 i6 keys5 = some r := by
  intro k
  induction k with
  | zero => intro k' a0 b1 i6 keys5 r hk h; simp [release_Differences.p1] at h
  | succ k ih =>
    intro k' a0 b1 i6 keys5 r hk h
    obtain ⟨k', rfl⟩ : ∃ m, k' = m + 1 := ⟨k' - 1, by omega⟩
    replace hk := Nat.le_of_succ_le_succ hk
    rw [release_Differences.p1] at h ⊢
    rcases ite_or h with ⟨g_1, h⟩ | ⟨g_1, h⟩
    · refine itp g_1 ?_
      obtain ⟨g_2, h⟩ := ite_some h
      refine itp g_2 ?_
      obtain ⟨y_3, e_4, h⟩ := bind_or h
      refine bnd (release_cleaned.mono _ _ _ _ hk e_4) ?_
      obtain ⟨g_5, h⟩ := ite_some h
      refine itp g_5 ?_
      exact ih _ _ _ _ _ r hk h
    · refine itn g_1 ?_
      exact release_Differences.p2.mono _ _ _ _ _ _ r hk h
theorem release_Differences.mono   : ∀ (k k' : Nat) (a0 : (List TPublished)) (b1 : (List TPublished)) (r : (List TPublished)), k ≤ k' → release_Differences k a0 b1 = some r → release_Differences k' a0 b1 = some r := by
  intro k k' a0 b1 r hk h
  unfold release_Differences at h ⊢
  exact release_Differences.p1.mono _ _ _ _ _ _ r hk h
theorem release_Differences.spec {k : Nat} {a0 : (List TPublished)} {b1 : (List TPublished)} {r : (List TPublished)} (h : release_Differences k a0 b1 = some r) : Spec Try.prog 25 [.p (eL 2 cPublished dPublished a0), .p (eL 2 cPublished dPublished b1)] (.sref 0 43 2 (r).length) [(oL true 43 2 cPublished dPublished (r))] :=
  spec_of mix Try.func25 (body := bodyOf Try.f25) (by kernel_rfl) (by kernel_rfl) (release_Differences.run h)
end Go.Proofs.YtjhnpaenhdbhpaaV
set_option linter.unusedVariables false
set_option linter.unusedSimpArgs false
set_option maxRecDepth 100000
namespace Go.Proofs.YtjhnpaenhdbhpaaV
open Go Go.RowKit
noncomputable def erasurelaw35_ReleaseSingle  (k : Nat) (n0 : Int) (counts1 : (List Int)) (at2 : Int) : Option Bool := if (((counts1).length : Int) == 0) = true then ((erasurelaw35_awake k ).bind fun y_2 => (some y_2)) else (if (decide (((counts1).length : Int) > 40)) = true then ((erasurelaw35_awake k ).bind fun y_5 => (some y_5)) else ((erasurelaw35_limit k n0).bind fun y_7 => (if (IntKind.u64.wrap ((counts1).length : Int)) ≠ 0 then (if (([] : List Int)).length + (counts1).length ≤ maxLen ∧ ((([] : List Int)).length + (counts1).length) * 8 ≤ 140737488355328 then (if 0 ≤ (IntKind.i64.wrap ((IntKind.u64.wrap at2).tmod (IntKind.u64.wrap ((counts1).length : Int)))) ∧ (IntKind.i64.wrap ((IntKind.u64.wrap at2).tmod (IntKind.u64.wrap ((counts1).length : Int)))) < ((counts1).length : Int) then (if 0 ≤ (IntKind.i64.wrap ((IntKind.u64.wrap at2).tmod (IntKind.u64.wrap ((counts1).length : Int)))) ∧ (IntKind.i64.wrap ((IntKind.u64.wrap at2).tmod (IntKind.u64.wrap ((counts1).length : Int)))) < (((([] : List Int) ++ counts1)).length : Int) then ((erasurelaw35_Groups k ((([] : List Int) ++ counts1).set (IntKind.i64.wrap ((IntKind.u64.wrap at2).tmod (IntKind.u64.wrap ((counts1).length : Int)))).toNat (Go.bits .and .i64 (counts1.getD (IntKind.i64.wrap ((IntKind.u64.wrap at2).tmod (IntKind.u64.wrap ((counts1).length : Int)))).toNat (0 : Int)) 511))).bind fun y_13 => ((release_Publish k y_7 1 y_13).bind fun y_15 => ((erasurelaw35_Groups k ((([] : List Int) ++ counts1).set (IntKind.i64.wrap ((IntKind.u64.wrap at2).tmod (IntKind.u64.wrap ((counts1).length : Int)))).toNat (IntKind.i64.wrap ((Go.bits .and .i64 (counts1.getD (IntKind.i64.wrap ((IntKind.u64.wrap at2).tmod (IntKind.u64.wrap ((counts1).length : Int)))).toNat (0 : Int)) 511) + 1)))).bind fun y_17 => ((release_Publish k y_7 1 y_17).bind fun y_19 => ((release_Differences k y_15 y_19).bind fun y_21 => (if (((y_21).length : Int) == 0) = true then ((erasurelaw35_awake k ).bind fun y_24 => (some y_24)) else (if (((y_21).length : Int) == 1) = true then (if 0 ≤ (0 : Int) ∧ (0 : Int) < ((y_21).length : Int) then (if ((((y_21.getD (0 : Int).toNat dPublished).f0).length : Int) == 1) = true then (if 0 ≤ (0 : Int) ∧ (0 : Int) < (((y_21.getD (0 : Int).toNat dPublished).f0).length : Int) then ((erasureref01_Int k (IntKind.i64.wrap ((IntKind.u64.wrap at2).tmod (IntKind.u64.wrap ((counts1).length : Int))))).bind fun y_30 => (if (((((y_21.getD (0 : Int).toNat dPublished).f0).getD (0 : Int).toNat dValue).f0 == y_30.f0) && (((((y_21.getD (0 : Int).toNat dPublished).f0).getD (0 : Int).toNat dValue).f1 == y_30.f1) && ((((((y_21.getD (0 : Int).toNat dPublished).f0).getD (0 : Int).toNat dValue).f2).data.toList == y_30.f2.data.toList) && true))) = true then (if ((y_21.getD (0 : Int).toNat dPublished).f1 == y_7.f2) = true then ((erasurelaw35_awake k ).bind fun y_34 => (some y_34)) else (some false)) else (some false))) else none) else (some false)) else none) else (some false)))))))) else none) else none) else none) else none)))
noncomputable def erasurelaw35_ReleaseSingle.t : List Item := [.code (bodyOf Try.f8)]
noncomputable def erasurelaw35_ReleaseSingle.s (n0 : Int) (counts1 : (List Int)) (at2 : Int) : St := ⟨frOf Try.f8.ntmps 0 [(0, .p (.int .i64 n0)), (1, .p (eL 1 (cI .i64) (0 : Int) counts1)), (2, .p (.int .i64 at2))], []⟩
theorem erasurelaw35_ReleaseSingle.run   {k : Nat} {n0 : Int} {counts1 : (List Int)} {at2 : Int} {r : Bool} (h : erasurelaw35_ReleaseSingle k n0 counts1 at2 = some r) : RunC Try.prog Try.f8 erasurelaw35_ReleaseSingle.t (erasurelaw35_ReleaseSingle.s n0 counts1 at2) (.p (.bool r)) [] := by
  unfold erasurelaw35_ReleaseSingle at h
  rcases ite_or h with ⟨g_1, h⟩ | ⟨g_1, h⟩
  · obtain ⟨y_2, e_3, h⟩ := bind_or h
    obtain rfl := Option.some.inj h
    exact RunC.out [.n 4, .r [(3, .dec true)], .n 2, .r [(0, .call (.p (.bool y_2)) [])]] (by kernel_rfl) (Obs.of (by kernel_rfl) (And.intro g_1 (erasurelaw35_awake.spec e_3)))
  · rcases ite_or h with ⟨g_4, h⟩ | ⟨g_4, h⟩
    · obtain ⟨y_5, e_6, h⟩ := bind_or h
      obtain rfl := Option.some.inj h
      exact RunC.out [.n 4, .r [(3, .dec false), (7, .dec true)], .n 2, .r [(0, .call (.p (.bool y_5)) [])]] (by kernel_rfl) (Obs.of (by kernel_rfl) (And.intro (nt g_1) (And.intro g_4 (erasurelaw35_awake.spec e_6))))
    · obtain ⟨y_7, e_8, h⟩ := bind_or h
      obtain ⟨g_9, h⟩ := ite_some h
      obtain ⟨g_10, h⟩ := ite_some h
      obtain ⟨g_11, h⟩ := ite_some h
      obtain ⟨g_12, h⟩ := ite_some h
      obtain ⟨y_13, e_14, h⟩ := bind_or h
      obtain ⟨y_15, e_16, h⟩ := bind_or h
      obtain ⟨y_17, e_18, h⟩ := bind_or h
      obtain ⟨y_19, e_20, h⟩ := bind_or h
      obtain ⟨y_21, e_22, h⟩ := bind_or h
      rcases ite_or h with ⟨g_23, h⟩ | ⟨g_23, h⟩
      · obtain ⟨y_24, e_25, h⟩ := bind_or h
        obtain rfl := Option.some.inj h
        exact RunC.out [.n 4, .r [(3, .dec false), (7, .dec false)], .n 3, .r [(1, .call (.agg ((cRelease y_7).map .p)) [])], .n 3, .r [(0, .obj (oL true 3 1 (cI .i64) (0 : Int) ([] : List Int))), (2, .obj (oL true 3 1 (cI .i64) (0 : Int) (([] : List Int) ++ counts1)))], .n 1, .r [(9, .obj (oL true 3 1 (cI .i64) (0 : Int) ((([] : List Int) ++ counts1).set (IntKind.i64.wrap ((IntKind.u64.wrap at2).tmod (IntKind.u64.wrap ((counts1).length : Int)))).toNat (IntKind.i64.wrap ((Go.bits .and .i64 (counts1.getD (IntKind.i64.wrap ((IntKind.u64.wrap at2).tmod (IntKind.u64.wrap ((counts1).length : Int)))).toNat (0 : Int)) 511) + 1)))))], .n 1, .r [(0, .obj (oL true 3 1 (cI .i64) (0 : Int) ([] : List Int))), (2, .obj (oL true 3 1 (cI .i64) (0 : Int) (([] : List Int) ++ counts1)))], .n 1, .r [(8, .obj (oL true 3 1 (cI .i64) (0 : Int) ((([] : List Int) ++ counts1).set (IntKind.i64.wrap ((IntKind.u64.wrap at2).tmod (IntKind.u64.wrap ((counts1).length : Int)))).toNat (Go.bits .and .i64 (counts1.getD (IntKind.i64.wrap ((IntKind.u64.wrap at2).tmod (IntKind.u64.wrap ((counts1).length : Int)))).toNat (0 : Int)) 511))))], .n 1, .r [(2, .call (.sref 0 41 2 (y_13).length) [(oL true 41 2 cEntry dEntry y_13)]), (3, .call (.sref 0 43 2 (y_15).length) [(oL true 43 2 cPublished dPublished y_15)]), (6, .call (.sref 0 41 2 (y_17).length) [(oL true 41 2 cEntry dEntry y_17)]), (7, .call (.sref 0 43 2 (y_19).length) [(oL true 43 2 cPublished dPublished y_19)]), (8, .call (.sref 0 43 2 (y_21).length) [(oL true 43 2 cPublished dPublished y_21)])], .n 2, .r [(2, .dec true)], .n 2, .r [(0, .call (.p (.bool y_24)) [])]] (by kernel_rfl) (Obs.of (by kernel_rfl) (And.intro (nt g_1) (And.intro (nt g_4) (And.intro (erasurelaw35_limit.spec e_8) (And.intro g_9 (And.intro (le_build0 3 1 (cI .i64) (0 : Int)) (And.intro (And.intro g_10 (le_app 3 1 (cI .i64) (0 : Int) ([] : List Int) counts1)) (And.intro g_11 (And.intro g_12 (And.intro (le_set 3 1 (cI .i64) (0 : Int) (([] : List Int) ++ counts1) (IntKind.i64.wrap ((Go.bits .and .i64 (counts1.getD (IntKind.i64.wrap ((IntKind.u64.wrap at2).tmod (IntKind.u64.wrap ((counts1).length : Int)))).toNat (0 : Int)) 511) + 1)) (IntKind.i64.wrap ((IntKind.u64.wrap at2).tmod (IntKind.u64.wrap ((counts1).length : Int)))).toNat rfl) (And.intro (le_build0 3 1 (cI .i64) (0 : Int)) (And.intro (And.intro g_10 (le_app 3 1 (cI .i64) (0 : Int) ([] : List Int) counts1)) (And.intro g_11 (And.intro g_12 (And.intro (le_set 3 1 (cI .i64) (0 : Int) (([] : List Int) ++ counts1) (Go.bits .and .i64 (counts1.getD (IntKind.i64.wrap ((IntKind.u64.wrap at2).tmod (IntKind.u64.wrap ((counts1).length : Int)))).toNat (0 : Int)) 511) (IntKind.i64.wrap ((IntKind.u64.wrap at2).tmod (IntKind.u64.wrap ((counts1).length : Int)))).toNat rfl) (And.intro (erasurelaw35_Groups.spec e_14) (And.intro (release_Publish.spec e_16) (And.intro (erasurelaw35_Groups.spec e_18) (And.intro (release_Publish.spec e_20) (And.intro (release_Differences.spec e_22) (And.intro g_23 (erasurelaw35_awake.spec e_25))))))))))))))))))))))
      · rcases ite_or h with ⟨g_26, h⟩ | ⟨g_26, h⟩
        · obtain ⟨g_27, h⟩ := ite_some h
          rcases ite_or h with ⟨g_28, h⟩ | ⟨g_28, h⟩
          · obtain ⟨g_29, h⟩ := ite_some h
            obtain ⟨y_30, e_31, h⟩ := bind_or h
            rcases ite_or h with ⟨g_32, h⟩ | ⟨g_32, h⟩
            · rcases ite_or h with ⟨g_33, h⟩ | ⟨g_33, h⟩
              · obtain ⟨y_34, e_35, h⟩ := bind_or h
                obtain rfl := Option.some.inj h
                exact RunC.out [.n 4, .r [(3, .dec false), (7, .dec false)], .n 3, .r [(1, .call (.agg ((cRelease y_7).map .p)) [])], .n 3, .r [(0, .obj (oL true 3 1 (cI .i64) (0 : Int) ([] : List Int))), (2, .obj (oL true 3 1 (cI .i64) (0 : Int) (([] : List Int) ++ counts1)))], .n 1, .r [(9, .obj (oL true 3 1 (cI .i64) (0 : Int) ((([] : List Int) ++ counts1).set (IntKind.i64.wrap ((IntKind.u64.wrap at2).tmod (IntKind.u64.wrap ((counts1).length : Int)))).toNat (IntKind.i64.wrap ((Go.bits .and .i64 (counts1.getD (IntKind.i64.wrap ((IntKind.u64.wrap at2).tmod (IntKind.u64.wrap ((counts1).length : Int)))).toNat (0 : Int)) 511) + 1)))))], .n 1, .r [(0, .obj (oL true 3 1 (cI .i64) (0 : Int) ([] : List Int))), (2, .obj (oL true 3 1 (cI .i64) (0 : Int) (([] : List Int) ++ counts1)))], .n 1, .r [(8, .obj (oL true 3 1 (cI .i64) (0 : Int) ((([] : List Int) ++ counts1).set (IntKind.i64.wrap ((IntKind.u64.wrap at2).tmod (IntKind.u64.wrap ((counts1).length : Int)))).toNat (Go.bits .and .i64 (counts1.getD (IntKind.i64.wrap ((IntKind.u64.wrap at2).tmod (IntKind.u64.wrap ((counts1).length : Int)))).toNat (0 : Int)) 511))))], .n 1, .r [(2, .call (.sref 0 41 2 (y_13).length) [(oL true 41 2 cEntry dEntry y_13)]), (3, .call (.sref 0 43 2 (y_15).length) [(oL true 43 2 cPublished dPublished y_15)]), (6, .call (.sref 0 41 2 (y_17).length) [(oL true 41 2 cEntry dEntry y_17)]), (7, .call (.sref 0 43 2 (y_19).length) [(oL true 43 2 cPublished dPublished y_19)]), (8, .call (.sref 0 43 2 (y_21).length) [(oL true 43 2 cPublished dPublished y_21)])], .n 2, .r [(2, .dec false)], .n 3, .r [(3, .dec true), (11, .dec true), (19, .call (.agg ((cValue y_30).map .p)) []), (22, .dec true), (31, .dec true), (32, .call (.p (.bool y_34)) [])]] (by kernel_rfl) (Obs.of (by kernel_rfl) (And.intro (nt g_1) (And.intro (nt g_4) (And.intro (erasurelaw35_limit.spec e_8) (And.intro g_9 (And.intro (le_build0 3 1 (cI .i64) (0 : Int)) (And.intro (And.intro g_10 (le_app 3 1 (cI .i64) (0 : Int) ([] : List Int) counts1)) (And.intro g_11 (And.intro g_12 (And.intro (le_set 3 1 (cI .i64) (0 : Int) (([] : List Int) ++ counts1) (IntKind.i64.wrap ((Go.bits .and .i64 (counts1.getD (IntKind.i64.wrap ((IntKind.u64.wrap at2).tmod (IntKind.u64.wrap ((counts1).length : Int)))).toNat (0 : Int)) 511) + 1)) (IntKind.i64.wrap ((IntKind.u64.wrap at2).tmod (IntKind.u64.wrap ((counts1).length : Int)))).toNat rfl) (And.intro (le_build0 3 1 (cI .i64) (0 : Int)) (And.intro (And.intro g_10 (le_app 3 1 (cI .i64) (0 : Int) ([] : List Int) counts1)) (And.intro g_11 (And.intro g_12 (And.intro (le_set 3 1 (cI .i64) (0 : Int) (([] : List Int) ++ counts1) (Go.bits .and .i64 (counts1.getD (IntKind.i64.wrap ((IntKind.u64.wrap at2).tmod (IntKind.u64.wrap ((counts1).length : Int)))).toNat (0 : Int)) 511) (IntKind.i64.wrap ((IntKind.u64.wrap at2).tmod (IntKind.u64.wrap ((counts1).length : Int)))).toNat rfl) (And.intro (erasurelaw35_Groups.spec e_14) (And.intro (release_Publish.spec e_16) (And.intro (erasurelaw35_Groups.spec e_18) (And.intro (release_Publish.spec e_20) (And.intro (release_Differences.spec e_22) (And.intro (nt g_23) (And.intro g_26 (And.intro g_27 (And.intro g_28 (And.intro g_27 (And.intro g_29 (And.intro (erasureref01_Int.spec e_31) (And.intro g_32 (And.intro g_27 (And.intro g_33 (erasurelaw35_awake.spec e_35)))))))))))))))))))))))))))))))
              · obtain rfl := Option.some.inj h
                exact RunC.out [.n 4, .r [(3, .dec false), (7, .dec false)], .n 3, .r [(1, .call (.agg ((cRelease y_7).map .p)) [])], .n 3, .r [(0, .obj (oL true 3 1 (cI .i64) (0 : Int) ([] : List Int))), (2, .obj (oL true 3 1 (cI .i64) (0 : Int) (([] : List Int) ++ counts1)))], .n 1, .r [(9, .obj (oL true 3 1 (cI .i64) (0 : Int) ((([] : List Int) ++ counts1).set (IntKind.i64.wrap ((IntKind.u64.wrap at2).tmod (IntKind.u64.wrap ((counts1).length : Int)))).toNat (IntKind.i64.wrap ((Go.bits .and .i64 (counts1.getD (IntKind.i64.wrap ((IntKind.u64.wrap at2).tmod (IntKind.u64.wrap ((counts1).length : Int)))).toNat (0 : Int)) 511) + 1)))))], .n 1, .r [(0, .obj (oL true 3 1 (cI .i64) (0 : Int) ([] : List Int))), (2, .obj (oL true 3 1 (cI .i64) (0 : Int) (([] : List Int) ++ counts1)))], .n 1, .r [(8, .obj (oL true 3 1 (cI .i64) (0 : Int) ((([] : List Int) ++ counts1).set (IntKind.i64.wrap ((IntKind.u64.wrap at2).tmod (IntKind.u64.wrap ((counts1).length : Int)))).toNat (Go.bits .and .i64 (counts1.getD (IntKind.i64.wrap ((IntKind.u64.wrap at2).tmod (IntKind.u64.wrap ((counts1).length : Int)))).toNat (0 : Int)) 511))))], .n 1, .r [(2, .call (.sref 0 41 2 (y_13).length) [(oL true 41 2 cEntry dEntry y_13)]), (3, .call (.sref 0 43 2 (y_15).length) [(oL true 43 2 cPublished dPublished y_15)]), (6, .call (.sref 0 41 2 (y_17).length) [(oL true 41 2 cEntry dEntry y_17)]), (7, .call (.sref 0 43 2 (y_19).length) [(oL true 43 2 cPublished dPublished y_19)]), (8, .call (.sref 0 43 2 (y_21).length) [(oL true 43 2 cPublished dPublished y_21)])], .n 2, .r [(2, .dec false)], .n 3, .r [(3, .dec true), (11, .dec true), (19, .call (.agg ((cValue y_30).map .p)) []), (22, .dec true), (31, .dec false)]] (by kernel_rfl) (Obs.of (by kernel_rfl) (And.intro (nt g_1) (And.intro (nt g_4) (And.intro (erasurelaw35_limit.spec e_8) (And.intro g_9 (And.intro (le_build0 3 1 (cI .i64) (0 : Int)) (And.intro (And.intro g_10 (le_app 3 1 (cI .i64) (0 : Int) ([] : List Int) counts1)) (And.intro g_11 (And.intro g_12 (And.intro (le_set 3 1 (cI .i64) (0 : Int) (([] : List Int) ++ counts1) (IntKind.i64.wrap ((Go.bits .and .i64 (counts1.getD (IntKind.i64.wrap ((IntKind.u64.wrap at2).tmod (IntKind.u64.wrap ((counts1).length : Int)))).toNat (0 : Int)) 511) + 1)) (IntKind.i64.wrap ((IntKind.u64.wrap at2).tmod (IntKind.u64.wrap ((counts1).length : Int)))).toNat rfl) (And.intro (le_build0 3 1 (cI .i64) (0 : Int)) (And.intro (And.intro g_10 (le_app 3 1 (cI .i64) (0 : Int) ([] : List Int) counts1)) (And.intro g_11 (And.intro g_12 (And.intro (le_set 3 1 (cI .i64) (0 : Int) (([] : List Int) ++ counts1) (Go.bits .and .i64 (counts1.getD (IntKind.i64.wrap ((IntKind.u64.wrap at2).tmod (IntKind.u64.wrap ((counts1).length : Int)))).toNat (0 : Int)) 511) (IntKind.i64.wrap ((IntKind.u64.wrap at2).tmod (IntKind.u64.wrap ((counts1).length : Int)))).toNat rfl) (And.intro (erasurelaw35_Groups.spec e_14) (And.intro (release_Publish.spec e_16) (And.intro (erasurelaw35_Groups.spec e_18) (And.intro (release_Publish.spec e_20) (And.intro (release_Differences.spec e_22) (And.intro (nt g_23) (And.intro g_26 (And.intro g_27 (And.intro g_28 (And.intro g_27 (And.intro g_29 (And.intro (erasureref01_Int.spec e_31) (And.intro g_32 (And.intro g_27 (nt g_33))))))))))))))))))))))))))))))
            · obtain rfl := Option.some.inj h
              exact RunC.out [.n 4, .r [(3, .dec false), (7, .dec false)], .n 3, .r [(1, .call (.agg ((cRelease y_7).map .p)) [])], .n 3, .r [(0, .obj (oL true 3 1 (cI .i64) (0 : Int) ([] : List Int))), (2, .obj (oL true 3 1 (cI .i64) (0 : Int) (([] : List Int) ++ counts1)))], .n 1, .r [(9, .obj (oL true 3 1 (cI .i64) (0 : Int) ((([] : List Int) ++ counts1).set (IntKind.i64.wrap ((IntKind.u64.wrap at2).tmod (IntKind.u64.wrap ((counts1).length : Int)))).toNat (IntKind.i64.wrap ((Go.bits .and .i64 (counts1.getD (IntKind.i64.wrap ((IntKind.u64.wrap at2).tmod (IntKind.u64.wrap ((counts1).length : Int)))).toNat (0 : Int)) 511) + 1)))))], .n 1, .r [(0, .obj (oL true 3 1 (cI .i64) (0 : Int) ([] : List Int))), (2, .obj (oL true 3 1 (cI .i64) (0 : Int) (([] : List Int) ++ counts1)))], .n 1, .r [(8, .obj (oL true 3 1 (cI .i64) (0 : Int) ((([] : List Int) ++ counts1).set (IntKind.i64.wrap ((IntKind.u64.wrap at2).tmod (IntKind.u64.wrap ((counts1).length : Int)))).toNat (Go.bits .and .i64 (counts1.getD (IntKind.i64.wrap ((IntKind.u64.wrap at2).tmod (IntKind.u64.wrap ((counts1).length : Int)))).toNat (0 : Int)) 511))))], .n 1, .r [(2, .call (.sref 0 41 2 (y_13).length) [(oL true 41 2 cEntry dEntry y_13)]), (3, .call (.sref 0 43 2 (y_15).length) [(oL true 43 2 cPublished dPublished y_15)]), (6, .call (.sref 0 41 2 (y_17).length) [(oL true 41 2 cEntry dEntry y_17)]), (7, .call (.sref 0 43 2 (y_19).length) [(oL true 43 2 cPublished dPublished y_19)]), (8, .call (.sref 0 43 2 (y_21).length) [(oL true 43 2 cPublished dPublished y_21)])], .n 2, .r [(2, .dec false)], .n 3, .r [(3, .dec true), (11, .dec true), (19, .call (.agg ((cValue y_30).map .p)) []), (22, .dec false)]] (by kernel_rfl) (Obs.of (by kernel_rfl) (And.intro (nt g_1) (And.intro (nt g_4) (And.intro (erasurelaw35_limit.spec e_8) (And.intro g_9 (And.intro (le_build0 3 1 (cI .i64) (0 : Int)) (And.intro (And.intro g_10 (le_app 3 1 (cI .i64) (0 : Int) ([] : List Int) counts1)) (And.intro g_11 (And.intro g_12 (And.intro (le_set 3 1 (cI .i64) (0 : Int) (([] : List Int) ++ counts1) (IntKind.i64.wrap ((Go.bits .and .i64 (counts1.getD (IntKind.i64.wrap ((IntKind.u64.wrap at2).tmod (IntKind.u64.wrap ((counts1).length : Int)))).toNat (0 : Int)) 511) + 1)) (IntKind.i64.wrap ((IntKind.u64.wrap at2).tmod (IntKind.u64.wrap ((counts1).length : Int)))).toNat rfl) (And.intro (le_build0 3 1 (cI .i64) (0 : Int)) (And.intro (And.intro g_10 (le_app 3 1 (cI .i64) (0 : Int) ([] : List Int) counts1)) (And.intro g_11 (And.intro g_12 (And.intro (le_set 3 1 (cI .i64) (0 : Int) (([] : List Int) ++ counts1) (Go.bits .and .i64 (counts1.getD (IntKind.i64.wrap ((IntKind.u64.wrap at2).tmod (IntKind.u64.wrap ((counts1).length : Int)))).toNat (0 : Int)) 511) (IntKind.i64.wrap ((IntKind.u64.wrap at2).tmod (IntKind.u64.wrap ((counts1).length : Int)))).toNat rfl) (And.intro (erasurelaw35_Groups.spec e_14) (And.intro (release_Publish.spec e_16) (And.intro (erasurelaw35_Groups.spec e_18) (And.intro (release_Publish.spec e_20) (And.intro (release_Differences.spec e_22) (And.intro (nt g_23) (And.intro g_26 (And.intro g_27 (And.intro g_28 (And.intro g_27 (And.intro g_29 (And.intro (erasureref01_Int.spec e_31) (nt g_32))))))))))))))))))))))))))))
          · obtain rfl := Option.some.inj h
            exact RunC.out [.n 4, .r [(3, .dec false), (7, .dec false)], .n 3, .r [(1, .call (.agg ((cRelease y_7).map .p)) [])], .n 3, .r [(0, .obj (oL true 3 1 (cI .i64) (0 : Int) ([] : List Int))), (2, .obj (oL true 3 1 (cI .i64) (0 : Int) (([] : List Int) ++ counts1)))], .n 1, .r [(9, .obj (oL true 3 1 (cI .i64) (0 : Int) ((([] : List Int) ++ counts1).set (IntKind.i64.wrap ((IntKind.u64.wrap at2).tmod (IntKind.u64.wrap ((counts1).length : Int)))).toNat (IntKind.i64.wrap ((Go.bits .and .i64 (counts1.getD (IntKind.i64.wrap ((IntKind.u64.wrap at2).tmod (IntKind.u64.wrap ((counts1).length : Int)))).toNat (0 : Int)) 511) + 1)))))], .n 1, .r [(0, .obj (oL true 3 1 (cI .i64) (0 : Int) ([] : List Int))), (2, .obj (oL true 3 1 (cI .i64) (0 : Int) (([] : List Int) ++ counts1)))], .n 1, .r [(8, .obj (oL true 3 1 (cI .i64) (0 : Int) ((([] : List Int) ++ counts1).set (IntKind.i64.wrap ((IntKind.u64.wrap at2).tmod (IntKind.u64.wrap ((counts1).length : Int)))).toNat (Go.bits .and .i64 (counts1.getD (IntKind.i64.wrap ((IntKind.u64.wrap at2).tmod (IntKind.u64.wrap ((counts1).length : Int)))).toNat (0 : Int)) 511))))], .n 1, .r [(2, .call (.sref 0 41 2 (y_13).length) [(oL true 41 2 cEntry dEntry y_13)]), (3, .call (.sref 0 43 2 (y_15).length) [(oL true 43 2 cPublished dPublished y_15)]), (6, .call (.sref 0 41 2 (y_17).length) [(oL true 41 2 cEntry dEntry y_17)]), (7, .call (.sref 0 43 2 (y_19).length) [(oL true 43 2 cPublished dPublished y_19)]), (8, .call (.sref 0 43 2 (y_21).length) [(oL true 43 2 cPublished dPublished y_21)])], .n 2, .r [(2, .dec false)], .n 3, .r [(3, .dec true), (11, .dec false)]] (by kernel_rfl) (Obs.of (by kernel_rfl) (And.intro (nt g_1) (And.intro (nt g_4) (And.intro (erasurelaw35_limit.spec e_8) (And.intro g_9 (And.intro (le_build0 3 1 (cI .i64) (0 : Int)) (And.intro (And.intro g_10 (le_app 3 1 (cI .i64) (0 : Int) ([] : List Int) counts1)) (And.intro g_11 (And.intro g_12 (And.intro (le_set 3 1 (cI .i64) (0 : Int) (([] : List Int) ++ counts1) (IntKind.i64.wrap ((Go.bits .and .i64 (counts1.getD (IntKind.i64.wrap ((IntKind.u64.wrap at2).tmod (IntKind.u64.wrap ((counts1).length : Int)))).toNat (0 : Int)) 511) + 1)) (IntKind.i64.wrap ((IntKind.u64.wrap at2).tmod (IntKind.u64.wrap ((counts1).length : Int)))).toNat rfl) (And.intro (le_build0 3 1 (cI .i64) (0 : Int)) (And.intro (And.intro g_10 (le_app 3 1 (cI .i64) (0 : Int) ([] : List Int) counts1)) (And.intro g_11 (And.intro g_12 (And.intro (le_set 3 1 (cI .i64) (0 : Int) (([] : List Int) ++ counts1) (Go.bits .and .i64 (counts1.getD (IntKind.i64.wrap ((IntKind.u64.wrap at2).tmod (IntKind.u64.wrap ((counts1).length : Int)))).toNat (0 : Int)) 511) (IntKind.i64.wrap ((IntKind.u64.wrap at2).tmod (IntKind.u64.wrap ((counts1).length : Int)))).toNat rfl) (And.intro (erasurelaw35_Groups.spec e_14) (And.intro (release_Publish.spec e_16) (And.intro (erasurelaw35_Groups.spec e_18) (And.intro (release_Publish.spec e_20) (And.intro (release_Differences.spec e_22) (And.intro (nt g_23) (And.intro g_26 (And.intro g_27 (nt g_28))))))))))))))))))))))))
        · obtain rfl := Option.some.inj h
          exact RunC.out [.n 4, .r [(3, .dec false), (7, .dec false)], .n 3, .r [(1, .call (.agg ((cRelease y_7).map .p)) [])], .n 3, .r [(0, .obj (oL true 3 1 (cI .i64) (0 : Int) ([] : List Int))), (2, .obj (oL true 3 1 (cI .i64) (0 : Int) (([] : List Int) ++ counts1)))], .n 1, .r [(9, .obj (oL true 3 1 (cI .i64) (0 : Int) ((([] : List Int) ++ counts1).set (IntKind.i64.wrap ((IntKind.u64.wrap at2).tmod (IntKind.u64.wrap ((counts1).length : Int)))).toNat (IntKind.i64.wrap ((Go.bits .and .i64 (counts1.getD (IntKind.i64.wrap ((IntKind.u64.wrap at2).tmod (IntKind.u64.wrap ((counts1).length : Int)))).toNat (0 : Int)) 511) + 1)))))], .n 1, .r [(0, .obj (oL true 3 1 (cI .i64) (0 : Int) ([] : List Int))), (2, .obj (oL true 3 1 (cI .i64) (0 : Int) (([] : List Int) ++ counts1)))], .n 1, .r [(8, .obj (oL true 3 1 (cI .i64) (0 : Int) ((([] : List Int) ++ counts1).set (IntKind.i64.wrap ((IntKind.u64.wrap at2).tmod (IntKind.u64.wrap ((counts1).length : Int)))).toNat (Go.bits .and .i64 (counts1.getD (IntKind.i64.wrap ((IntKind.u64.wrap at2).tmod (IntKind.u64.wrap ((counts1).length : Int)))).toNat (0 : Int)) 511))))], .n 1, .r [(2, .call (.sref 0 41 2 (y_13).length) [(oL true 41 2 cEntry dEntry y_13)]), (3, .call (.sref 0 43 2 (y_15).length) [(oL true 43 2 cPublished dPublished y_15)]), (6, .call (.sref 0 41 2 (y_17).length) [(oL true 41 2 cEntry dEntry y_17)]), (7, .call (.sref 0 43 2 (y_19).length) [(oL true 43 2 cPublished dPublished y_19)]), (8, .call (.sref 0 43 2 (y_21).length) [(oL true 43 2 cPublished dPublished y_21)])], .n 2, .r [(2, .dec false)], .n 3, .r [(3, .dec false)]] (by kernel_rfl) (Obs.of (by kernel_rfl) (And.intro (nt g_1) (And.intro (nt g_4) (And.intro (erasurelaw35_limit.spec e_8) (And.intro g_9 (And.intro (le_build0 3 1 (cI .i64) (0 : Int)) (And.intro (And.intro g_10 (le_app 3 1 (cI .i64) (0 : Int) ([] : List Int) counts1)) (And.intro g_11 (And.intro g_12 (And.intro (le_set 3 1 (cI .i64) (0 : Int) (([] : List Int) ++ counts1) (IntKind.i64.wrap ((Go.bits .and .i64 (counts1.getD (IntKind.i64.wrap ((IntKind.u64.wrap at2).tmod (IntKind.u64.wrap ((counts1).length : Int)))).toNat (0 : Int)) 511) + 1)) (IntKind.i64.wrap ((IntKind.u64.wrap at2).tmod (IntKind.u64.wrap ((counts1).length : Int)))).toNat rfl) (And.intro (le_build0 3 1 (cI .i64) (0 : Int)) (And.intro (And.intro g_10 (le_app 3 1 (cI .i64) (0 : Int) ([] : List Int) counts1)) (And.intro g_11 (And.intro g_12 (And.intro (le_set 3 1 (cI .i64) (0 : Int) (([] : List Int) ++ counts1) (Go.bits .and .i64 (counts1.getD (IntKind.i64.wrap ((IntKind.u64.wrap at2).tmod (IntKind.u64.wrap ((counts1).length : Int)))).toNat (0 : Int)) 511) (IntKind.i64.wrap ((IntKind.u64.wrap at2).tmod (IntKind.u64.wrap ((counts1).length : Int)))).toNat rfl) (And.intro (erasurelaw35_Groups.spec e_14) (And.intro (release_Publish.spec e_16) (And.intro (erasurelaw35_Groups.spec e_18) (And.intro (release_Publish.spec e_20) (And.intro (release_Differences.spec e_22) (And.intro (nt g_23) (nt g_26))))))))))))))))))))))
theorem erasurelaw35_ReleaseSingle.mono   : ∀ (k k' : Nat) (n0 : Int) (counts1 : (List Int)) (at2 : Int) (r : Bool), k ≤ k' → erasurelaw35_ReleaseSingle k n0 counts1 at2 = some r → erasurelaw35_ReleaseSingle k' n0 counts1 at2 = some r := by
  intro k k' n0 counts1 at2 r hk h
  unfold erasurelaw35_ReleaseSingle at h ⊢
  rcases ite_or h with ⟨g_1, h⟩ | ⟨g_1, h⟩
  · refine itp g_1 ?_
    obtain ⟨y_2, e_3, h⟩ := bind_or h
    refine bnd (erasurelaw35_awake.mono _ _  _ hk e_3) ?_
    exact h
  · refine itn g_1 ?_
    rcases ite_or h with ⟨g_4, h⟩ | ⟨g_4, h⟩
    · refine itp g_4 ?_
      obtain ⟨y_5, e_6, h⟩ := bind_or h
      refine bnd (erasurelaw35_awake.mono _ _  _ hk e_6) ?_
      exact h
    · refine itn g_4 ?_
      obtain ⟨y_7, e_8, h⟩ := bind_or h
      refine bnd (erasurelaw35_limit.mono _ _ _ _ hk e_8) ?_
      obtain ⟨g_9, h⟩ := ite_some h
      refine itp g_9 ?_
      obtain ⟨g_10, h⟩ := ite_some h
      refine itp g_10 ?_
      obtain ⟨g_11, h⟩ := ite_some h
      refine itp g_11 ?_
      obtain ⟨g_12, h⟩ := ite_some h
      refine itp g_12 ?_
      obtain ⟨y_13, e_14, h⟩ := bind_or h
      refine bnd (erasurelaw35_Groups.mono _ _ _ _ hk e_14) ?_
      obtain ⟨y_15, e_16, h⟩ := bind_or h
      refine bnd (release_Publish.mono _ _ _ _ _ _ hk e_16) ?_
      obtain ⟨y_17, e_18, h⟩ := bind_or h
      refine bnd (erasurelaw35_Groups.mono _ _ _ _ hk e_18) ?_
      obtain ⟨y_19, e_20, h⟩ := bind_or h
      refine bnd (release_Publish.mono _ _ _ _ _ _ hk e_20) ?_
      obtain ⟨y_21, e_22, h⟩ := bind_or h
      refine bnd (release_Differences.mono _ _ _ _ _ hk e_22) ?_
      rcases ite_or h with ⟨g_23, h⟩ | ⟨g_23, h⟩
      · refine itp g_23 ?_
        obtain ⟨y_24, e_25, h⟩ := bind_or h
        refine bnd (erasurelaw35_awake.mono _ _  _ hk e_25) ?_
        exact h
      · refine itn g_23 ?_
        rcases ite_or h with ⟨g_26, h⟩ | ⟨g_26, h⟩
        · refine itp g_26 ?_
          obtain ⟨g_27, h⟩ := ite_some h
          refine itp g_27 ?_
          rcases ite_or h with ⟨g_28, h⟩ | ⟨g_28, h⟩
          · refine itp g_28 ?_
            obtain ⟨g_29, h⟩ := ite_some h
            refine itp g_29 ?_
            obtain ⟨y_30, e_31, h⟩ := bind_or h
            refine bnd (erasureref01_Int.mono _ _ _ _ hk e_31) ?_
            rcases ite_or h with ⟨g_32, h⟩ | ⟨g_32, h⟩
            · refine itp g_32 ?_
              rcases ite_or h with ⟨g_33, h⟩ | ⟨g_33, h⟩
              · refine itp g_33 ?_
                obtain ⟨y_34, e_35, h⟩ := bind_or h
                refine bnd (erasurelaw35_awake.mono _ _  _ hk e_35) ?_
                exact h
              · refine itn g_33 ?_
                exact h
            · refine itn g_32 ?_
              exact h
          · refine itn g_28 ?_
            exact h
        · refine itn g_26 ?_
          exact h
theorem erasurelaw35_ReleaseSingle.spec {k : Nat} {n0 : Int} {counts1 : (List Int)} {at2 : Int} {r : Bool} (h : erasurelaw35_ReleaseSingle k n0 counts1 at2 = some r) : Spec Try.prog 8 [.p (.int .i64 n0), .p (eL 1 (cI .i64) (0 : Int) counts1), .p (.int .i64 at2)] (.p (.bool r)) [] :=
  spec_of mix Try.func8 (body := bodyOf Try.f8) (by kernel_rfl) (by kernel_rfl) (erasurelaw35_ReleaseSingle.run h)
end Go.Proofs.YtjhnpaenhdbhpaaV
set_option linter.unusedVariables false
set_option linter.unusedSimpArgs false
set_option maxRecDepth 100000
namespace Go.Proofs.YtjhnpaenhdbhpaaV
open Go Go.RowKit
noncomputable def release_Total.p1  : Nat → (List TPublished) → Int → Int → Option Int
  | 0, _, _, _ => none
  | k + 1, l0, n3, i4 => if (decide (i4 < ((l0).length : Int))) = true then (if 0 ≤ i4 ∧ i4 < ((l0).length : Int) then (release_Total.p1 k l0 (IntKind.i64.wrap (n3 + (l0.getD i4.toNat dPublished).f1)) (IntKind.i64.wrap (i4 + 1))) else none) else (some n3)
noncomputable def release_Total  (k : Nat) (l0 : (List TPublished)) : Option Int := release_Total.p1 k l0 0 0
noncomputable def release_Total.t : List Item := [.code (bodyOf Try.f28)]
noncomputable def release_Total.s (l0 : (List TPublished)) : St := ⟨frOf Try.f28.ntmps 0 [(0, .p (eL 2 cPublished dPublished l0))], []⟩
noncomputable def release_Total.p1.t : List Item := nav 9 [] release_Total.t
noncomputable def release_Total.p1.s (l0 : (List TPublished)) (n3 : Int) (i4 : Int) : St := ⟨frOf Try.f28.ntmps 0 [(0, .p (eL 2 cPublished dPublished l0)), (3, .p (.int .i64 n3)), (4, .p (.int .i64 i4))], []⟩
theorem release_Total.p1.run   : ∀ (k : Nat) (l0 : (List TPublished)) (n3 : Int) (i4 : Int) (r : Int), release_Total.p1 k l0 n3 i4 = some r → RunC Try.prog Try.f28 release_Total.p1.t (release_Total.p1.s l0 n3 i4) (.p (.int .i64 r)) [] := by
  intro k
  induction k with
  | zero => intro l0 n3 i4 r h; simp [release_Total.p1] at h
  | succ k ih =>
    intro l0 n3 i4 r h
    rw [release_Total.p1] at h
    rcases ite_or h with ⟨g_1, h⟩ | ⟨g_1, h⟩
    · obtain ⟨g_2, h⟩ := ite_some h
      exact RunC.go [.n 2, .r [(3, .dec true)], .n 8, .k [0, 3, 4]] (by kernel_rfl) (Obs.of (by kernel_rfl) (And.intro g_1 g_2)) (ih _ _ _ r h)
    · obtain rfl := Option.some.inj h
      exact RunC.out [.n 2, .r [(3, .dec false)], .n 4] (by kernel_rfl) (Obs.of (by kernel_rfl) (nt g_1))
theorem release_Total.run   {k : Nat} {l0 : (List TPublished)} {r : Int} (h : release_Total k l0 = some r) : RunC Try.prog Try.f28 release_Total.t (release_Total.s l0) (.p (.int .i64 r)) [] := by
  unfold release_Total at h
  exact RunC.go [.n 9, .k [0, 3, 4]] (by kernel_rfl) (Obs.tt (by kernel_rfl)) (release_Total.p1.run k _ _ _ r h)
theorem release_Total.p1.mono   : ∀ (k k' : Nat) (l0 : (List TPublished)) (n3 : Int) (i4 : Int) (r : Int), k ≤ k' → release_Total.p1 k l0 n3 i4 = some r → release_Total.p1 k' l0 n3 i4 = some r := by
  intro k
  induction k with
  | zero => intro k' l0 n3 i4 r hk h; simp [release_Total.p1] at h
  | succ k ih =>
    intro k' l0 n3 i4 r hk h
    obtain ⟨k', rfl⟩ : ∃ m, k' = m + 1 := ⟨k' - 1, by omega⟩
    replace hk := Nat.le_of_succ_le_succ hk
    rw [release_Total.p1] at h ⊢
    rcases ite_or h with ⟨g_1, h⟩ | ⟨g_1, h⟩
    · refine itp g_1 ?_
      obtain ⟨g_2, h⟩ := ite_some h
      refine itp g_2 ?_
      exact ih _ _ _ _ r hk h
    · refine itn g_1 ?_
      exact h
theorem release_Total.mono   : ∀ (k k' : Nat) (l0 : (List TPublished)) (r : Int), k ≤ k' → release_Total k l0 = some r → release_Total k' l0 = some r := by
  intro k k' l0 r hk h
  unfold release_Total at h ⊢
  exact release_Total.p1.mono _ _ _ _ _ r hk h
theorem release_Total.spec {k : Nat} {l0 : (List TPublished)} {r : Int} (h : release_Total k l0 = some r) : Spec Try.prog 28 [.p (eL 2 cPublished dPublished l0)] (.p (.int .i64 r)) [] :=
  spec_of mix Try.func28 (body := bodyOf Try.f28) (by kernel_rfl) (by kernel_rfl) (release_Total.run h)
end Go.Proofs.YtjhnpaenhdbhpaaV
set_option linter.unusedVariables false
set_option linter.unusedSimpArgs false
set_option maxRecDepth 100000
namespace Go.Proofs.YtjhnpaenhdbhpaaV
open Go Go.RowKit
noncomputable def erasureref22_SameRow.p1  : Nat → (List TValue) → (List TValue) → Int → Option Bool
  | 0, _, _, _ => none
  | k + 1, a0, b1, i5 => if (decide (i5 < ((a0).length : Int))) = true then (if 0 ≤ i5 ∧ i5 < ((a0).length : Int) then (if 0 ≤ i5 ∧ i5 < ((b1).length : Int) then (if (!(((a0.getD i5.toNat dValue).f0 == (b1.getD i5.toNat dValue).f0) && (((a0.getD i5.toNat dValue).f1 == (b1.getD i5.toNat dValue).f1) && ((((a0.getD i5.toNat dValue).f2).data.toList == ((b1.getD i5.toNat dValue).f2).data.toList) && true)))) = true then (some false) else (erasureref22_SameRow.p1 k a0 b1 (IntKind.i64.wrap (i5 + 1)))) else none) else none) else (some true)
noncomputable def erasureref22_SameRow  (k : Nat) (a0 : (List TValue)) (b1 : (List TValue)) : Option Bool := if (((a0).length : Int) != ((b1).length : Int)) = true then (some false) else (erasureref22_SameRow.p1 k a0 b1 0)
noncomputable def erasureref22_SameRow.t : List Item := [.code (bodyOf Try.f40)]
noncomputable def erasureref22_SameRow.s (a0 : (List TValue)) (b1 : (List TValue)) : St := ⟨frOf Try.f40.ntmps 0 [(0, .p (eL 3 cValue dValue a0)), (1, .p (eL 3 cValue dValue b1))], []⟩
noncomputable def erasureref22_SameRow.p1.t : List Item := nav 12 [false] erasureref22_SameRow.t
noncomputable def erasureref22_SameRow.p1.s (a0 : (List TValue)) (b1 : (List TValue)) (i5 : Int) : St := ⟨frOf Try.f40.ntmps 0 [(0, .p (eL 3 cValue dValue a0)), (1, .p (eL 3 cValue dValue b1)), (5, .p (.int .i64 i5))], []⟩
theorem erasureref22_SameRow.p1.run   : ∀ (k : Nat) (a0 : (List TValue)) (b1 : (List TValue)) (i5 : Int) (r : Bool), erasureref22_SameRow.p1 k a0 b1 i5 = some r → RunC Try.prog Try.f40 erasureref22_SameRow.p1.t (erasureref22_SameRow.p1.s a0 b1 i5) (.p (.bool r)) [] := by
  intro k
  induction k with
  | zero => intro a0 b1 i5 r h; simp [erasureref22_SameRow.p1] at h
  | succ k ih =>
    intro a0 b1 i5 r h
    rw [erasureref22_SameRow.p1] at h
    rcases ite_or h with ⟨g_2, h⟩ | ⟨g_2, h⟩
    · obtain ⟨g_3, h⟩ := ite_some h
      obtain ⟨g_4, h⟩ := ite_some h
      rcases ite_or h with ⟨g_5, h⟩ | ⟨g_5, h⟩
      · obtain rfl := Option.some.inj h
        exact RunC.out [.n 2, .r [(3, .dec true)], .n 5, .r [(8, .dec true)], .n 3] (by kernel_rfl) (Obs.of (by kernel_rfl) (And.intro g_2 (And.intro g_3 (And.intro g_4 g_5))))
      · exact RunC.go [.n 2, .r [(3, .dec true)], .n 5, .r [(8, .dec false)], .n 5, .k [0, 1, 5]] (by kernel_rfl) (Obs.of (by kernel_rfl) (And.intro g_2 (And.intro g_3 (And.intro g_4 (nt g_5))))) (ih _ _ _ r h)
    · obtain rfl := Option.some.inj h
      exact RunC.out [.n 2, .r [(3, .dec false)], .n 4] (by kernel_rfl) (Obs.of (by kernel_rfl) (nt g_2))
theorem erasureref22_SameRow.run   {k : Nat} {a0 : (List TValue)} {b1 : (List TValue)} {r : Bool} (h : erasureref22_SameRow k a0 b1 = some r) : RunC Try.prog Try.f40 erasureref22_SameRow.t (erasureref22_SameRow.s a0 b1) (.p (.bool r)) [] := by
  unfold erasureref22_SameRow at h
  rcases ite_or h with ⟨g_1, h⟩ | ⟨g_1, h⟩
  · obtain rfl := Option.some.inj h
    exact RunC.out [.n 4, .r [(4, .dec true)], .n 3] (by kernel_rfl) (Obs.of (by kernel_rfl) g_1)
  · exact RunC.go [.n 4, .r [(4, .dec false)], .n 7, .k [0, 1, 5]] (by kernel_rfl) (Obs.of (by kernel_rfl) (nt g_1)) (erasureref22_SameRow.p1.run k _ _ _ r h)
theorem erasureref22_SameRow.p1.mono   : ∀ (k k' : Nat) (a0 : (List TValue)) (b1 : (List TValue)) (i5 : Int) (r : Bool), k ≤ k' → erasureref22_SameRow.p1 k a0 b1 i5 = some r → erasureref22_SameRow.p1 k' a0 b1 i5 = some r := by
  intro k
  induction k with
  | zero => intro k' a0 b1 i5 r hk h; simp [erasureref22_SameRow.p1] at h
  | succ k ih =>
    intro k' a0 b1 i5 r hk h
    obtain ⟨k', rfl⟩ : ∃ m, k' = m + 1 := ⟨k' - 1, by omega⟩
    replace hk := Nat.le_of_succ_le_succ hk
    rw [erasureref22_SameRow.p1] at h ⊢
    rcases ite_or h with ⟨g_2, h⟩ | ⟨g_2, h⟩
    · refine itp g_2 ?_
      obtain ⟨g_3, h⟩ := ite_some h
      refine itp g_3 ?_
      obtain ⟨g_4, h⟩ := ite_some h
      refine itp g_4 ?_
      rcases ite_or h with ⟨g_5, h⟩ | ⟨g_5, h⟩
      · refine itp g_5 ?_
        exact h
      · refine itn g_5 ?_
        exact ih _ _ _ _ r hk h
    · refine itn g_2 ?_
      exact h
theorem erasureref22_SameRow.mono   : ∀ (k k' : Nat) (a0 : (List TValue)) (b1 : (List TValue)) (r : Bool), k ≤ k' → erasureref22_SameRow k a0 b1 = some r → erasureref22_SameRow k' a0 b1 = some r := by
  intro k k' a0 b1 r hk h
  unfold erasureref22_SameRow at h ⊢
  rcases ite_or h with ⟨g_1, h⟩ | ⟨g_1, h⟩
  · refine itp g_1 ?_
    exact h
  · refine itn g_1 ?_
    exact erasureref22_SameRow.p1.mono _ _ _ _ _ r hk h
theorem erasureref22_SameRow.spec {k : Nat} {a0 : (List TValue)} {b1 : (List TValue)} {r : Bool} (h : erasureref22_SameRow k a0 b1 = some r) : Spec Try.prog 40 [.p (eL 3 cValue dValue a0), .p (eL 3 cValue dValue b1)] (.p (.bool r)) [] :=
  spec_of mix Try.func40 (body := bodyOf Try.f40) (by kernel_rfl) (by kernel_rfl) (erasureref22_SameRow.run h)
end Go.Proofs.YtjhnpaenhdbhpaaV
set_option linter.unusedVariables false
set_option linter.unusedSimpArgs false
set_option maxRecDepth 100000
namespace Go.Proofs.YtjhnpaenhdbhpaaV
open Go Go.RowKit
noncomputable def erasureref26_SameRow  (k : Nat) (a0 : (List TValue)) (b1 : (List TValue)) : Option Bool := (erasureref22_SameRow k a0 b1).bind fun y_1 => (some y_1)
noncomputable def erasureref26_SameRow.t : List Item := [.code (bodyOf Try.f21)]
noncomputable def erasureref26_SameRow.s (a0 : (List TValue)) (b1 : (List TValue)) : St := ⟨frOf Try.f21.ntmps 0 [(0, .p (eL 3 cValue dValue a0)), (1, .p (eL 3 cValue dValue b1))], []⟩
theorem erasureref26_SameRow.run   {k : Nat} {a0 : (List TValue)} {b1 : (List TValue)} {r : Bool} (h : erasureref26_SameRow k a0 b1 = some r) : RunC Try.prog Try.f21 erasureref26_SameRow.t (erasureref26_SameRow.s a0 b1) (.p (.bool r)) [] := by
  unfold erasureref26_SameRow at h
  obtain ⟨y_1, e_2, h⟩ := bind_or h
  obtain rfl := Option.some.inj h
  exact RunC.out [.n 3, .r [(2, .call (.p (.bool y_1)) [])]] (by kernel_rfl) (Obs.of (by kernel_rfl) (erasureref22_SameRow.spec e_2))
theorem erasureref26_SameRow.mono   : ∀ (k k' : Nat) (a0 : (List TValue)) (b1 : (List TValue)) (r : Bool), k ≤ k' → erasureref26_SameRow k a0 b1 = some r → erasureref26_SameRow k' a0 b1 = some r := by
  intro k k' a0 b1 r hk h
  unfold erasureref26_SameRow at h ⊢
  obtain ⟨y_1, e_2, h⟩ := bind_or h
  refine bnd (erasureref22_SameRow.mono _ _ _ _ _ hk e_2) ?_
  exact h
theorem erasureref26_SameRow.spec {k : Nat} {a0 : (List TValue)} {b1 : (List TValue)} {r : Bool} (h : erasureref26_SameRow k a0 b1 = some r) : Spec Try.prog 21 [.p (eL 3 cValue dValue a0), .p (eL 3 cValue dValue b1)] (.p (.bool r)) [] :=
  spec_of mix Try.func21 (body := bodyOf Try.f21) (by kernel_rfl) (by kernel_rfl) (erasureref26_SameRow.run h)
end Go.Proofs.YtjhnpaenhdbhpaaV
set_option linter.unusedVariables false
set_option linter.unusedSimpArgs false
set_option maxRecDepth 100000
namespace Go.Proofs.YtjhnpaenhdbhpaaV
open Go Go.RowKit
noncomputable def erasureref35_Same.p1  : Nat → (List TPublished) → (List TPublished) → Int → Option Bool
  | 0, _, _, _ => none
  | k + 1, a0, b1, i5 => if (decide (i5 < ((a0).length : Int))) = true then (if 0 ≤ i5 ∧ i5 < ((a0).length : Int) then (if 0 ≤ i5 ∧ i5 < ((b1).length : Int) then (if ((a0.getD i5.toNat dPublished).f1 != (b1.getD i5.toNat dPublished).f1) = true then (some false) else ((erasureref26_SameRow k ((a0.getD i5.toNat dPublished).f0) ((b1.getD i5.toNat dPublished).f0)).bind fun y_6 => (if (!y_6) = true then (some false) else (erasureref35_Same.p1 k a0 b1 (IntKind.i64.wrap (i5 + 1)))))) else none) else none) else (some true)
noncomputable def erasureref35_Same  (k : Nat) (a0 : (List TPublished)) (b1 : (List TPublished)) : Option Bool := if (((a0).length : Int) != ((b1).length : Int)) = true then (some false) else (erasureref35_Same.p1 k a0 b1 0)
noncomputable def erasureref35_Same.t : List Item := [.code (bodyOf Try.f14)]
noncomputable def erasureref35_Same.s (a0 : (List TPublished)) (b1 : (List TPublished)) : St := ⟨frOf Try.f14.ntmps 0 [(0, .p (eL 2 cPublished dPublished a0)), (1, .p (eL 2 cPublished dPublished b1))], []⟩
noncomputable def erasureref35_Same.p1.t : List Item := nav 12 [false] erasureref35_Same.t
noncomputable def erasureref35_Same.p1.s (a0 : (List TPublished)) (b1 : (List TPublished)) (i5 : Int) : St := ⟨frOf Try.f14.ntmps 0 [(0, .p (eL 2 cPublished dPublished a0)), (1, .p (eL 2 cPublished dPublished b1)), (5, .p (.int .i64 i5))], []⟩
theorem erasureref35_Same.p1.run   : ∀ (k : Nat) (a0 : (List TPublished)) (b1 : (List TPublished)) (i5 : Int) (r : Bool), erasureref35_Same.p1 k a0 b1 i5 = some r → RunC Try.prog Try.f14 erasureref35_Same.p1.t (erasureref35_Same.p1.s a0 b1 i5) (.p (.bool r)) [] := by
  intro k
  induction k with
  | zero => intro a0 b1 i5 r h; simp [erasureref35_Same.p1] at h
  | succ k ih =>
    intro a0 b1 i5 r h
    rw [erasureref35_Same.p1] at h
    rcases ite_or h with ⟨g_2, h⟩ | ⟨g_2, h⟩
    · obtain ⟨g_3, h⟩ := ite_some h
      obtain ⟨g_4, h⟩ := ite_some h
      rcases ite_or h with ⟨g_5, h⟩ | ⟨g_5, h⟩
      · obtain rfl := Option.some.inj h
        exact RunC.out [.n 2, .r [(3, .dec true)], .n 5, .r [(11, .dec true)], .n 3] (by kernel_rfl) (Obs.of (by kernel_rfl) (And.intro g_2 (And.intro g_3 (And.intro g_4 g_5))))
      · obtain ⟨y_6, e_7, h⟩ := bind_or h
        rcases ite_or h with ⟨g_8, h⟩ | ⟨g_8, h⟩
        · obtain rfl := Option.some.inj h
          exact RunC.out [.n 2, .r [(3, .dec true)], .n 5, .r [(11, .dec false), (22, .call (.p (.bool y_6)) []), (24, .dec true)], .n 3] (by kernel_rfl) (Obs.of (by kernel_rfl) (And.intro g_2 (And.intro g_3 (And.intro g_4 (And.intro (nt g_5) (And.intro g_3 (And.intro g_4 (And.intro (erasureref26_SameRow.spec e_7) g_8))))))))
        · exact RunC.go [.n 2, .r [(3, .dec true)], .n 5, .r [(11, .dec false), (22, .call (.p (.bool y_6)) []), (24, .dec false)], .n 5, .k [0, 1, 5]] (by kernel_rfl) (Obs.of (by kernel_rfl) (And.intro g_2 (And.intro g_3 (And.intro g_4 (And.intro (nt g_5) (And.intro g_3 (And.intro g_4 (And.intro (erasureref26_SameRow.spec e_7) (nt g_8))))))))) (ih _ _ _ r h)
    · obtain rfl := Option.some.inj h
      exact RunC.out [.n 2, .r [(3, .dec false)], .n 4] (by kernel_rfl) (Obs.of (by kernel_rfl) (nt g_2))
theorem erasureref35_Same.run   {k : Nat} {a0 : (List TPublished)} {b1 : (List TPublished)} {r : Bool} (h : erasureref35_Same k a0 b1 = some r) : RunC Try.prog Try.f14 erasureref35_Same.t (erasureref35_Same.s a0 b1) (.p (.bool r)) [] := by
  unfold erasureref35_Same at h
  rcases ite_or h with ⟨g_1, h⟩ | ⟨g_1, h⟩
  · obtain rfl := Option.some.inj h
    exact RunC.out [.n 4, .r [(4, .dec true)], .n 3] (by kernel_rfl) (Obs.of (by kernel_rfl) g_1)
  · exact RunC.go [.n 4, .r [(4, .dec false)], .n 7, .k [0, 1, 5]] (by kernel_rfl) (Obs.of (by kernel_rfl) (nt g_1)) (erasureref35_Same.p1.run k _ _ _ r h)
theorem erasureref35_Same.p1.mono   : ∀ (k k' : Nat) (a0 : (List TPublished)) (b1 : (List TPublished)) (i5 : Int) (r : Bool), k ≤ k' → erasureref35_Same.p1 k a0 b1 i5 = some r → erasureref35_Same.p1 k' a0 b1 i5 = some r := by
  intro k
  induction k with
  | zero => intro k' a0 b1 i5 r hk h; simp [erasureref35_Same.p1] at h
  | succ k ih =>
    intro k' a0 b1 i5 r hk h
    obtain ⟨k', rfl⟩ : ∃ m, k' = m + 1 := ⟨k' - 1, by omega⟩
    replace hk := Nat.le_of_succ_le_succ hk
    rw [erasureref35_Same.p1] at h ⊢
    rcases ite_or h with ⟨g_2, h⟩ | ⟨g_2, h⟩
    · refine itp g_2 ?_
      obtain ⟨g_3, h⟩ := ite_some h
      refine itp g_3 ?_
      obtain ⟨g_4, h⟩ := ite_some h
      refine itp g_4 ?_
      rcases ite_or h with ⟨g_5, h⟩ | ⟨g_5, h⟩
      · refine itp g_5 ?_
        exact h
      · refine itn g_5 ?_
        obtain ⟨y_6, e_7, h⟩ := bind_or h
        refine bnd (erasureref26_SameRow.mono _ _ _ _ _ hk e_7) ?_
        rcases ite_or h with ⟨g_8, h⟩ | ⟨g_8, h⟩
        · refine itp g_8 ?_
          exact h
        · refine itn g_8 ?_
          exact ih _ _ _ _ r hk h
    · refine itn g_2 ?_
      exact h
theorem erasureref35_Same.mono   : ∀ (k k' : Nat) (a0 : (List TPublished)) (b1 : (List TPublished)) (r : Bool), k ≤ k' → erasureref35_Same k a0 b1 = some r → erasureref35_Same k' a0 b1 = some r := by
  intro k k' a0 b1 r hk h
  unfold erasureref35_Same at h ⊢
  rcases ite_or h with ⟨g_1, h⟩ | ⟨g_1, h⟩
  · refine itp g_1 ?_
    exact h
  · refine itn g_1 ?_
    exact erasureref35_Same.p1.mono _ _ _ _ _ r hk h
theorem erasureref35_Same.spec {k : Nat} {a0 : (List TPublished)} {b1 : (List TPublished)} {r : Bool} (h : erasureref35_Same k a0 b1 = some r) : Spec Try.prog 14 [.p (eL 2 cPublished dPublished a0), .p (eL 2 cPublished dPublished b1)] (.p (.bool r)) [] :=
  spec_of mix Try.func14 (body := bodyOf Try.f14) (by kernel_rfl) (by kernel_rfl) (erasureref35_Same.run h)
end Go.Proofs.YtjhnpaenhdbhpaaV
set_option linter.unusedVariables false
set_option linter.unusedSimpArgs false
set_option maxRecDepth 100000
namespace Go.Proofs.YtjhnpaenhdbhpaaV
open Go Go.RowKit
noncomputable def erasurelaw35_ReleaseDifferences.p1  : Nat → Int → TRelease → (List TPublished) → (List TPublished) → (List TPublished) → Option Bool
  | 0, _, _, _, _, _ => none
  | k + 1, i11, r7b, x8, y9, d10 => if (decide (i11 < ((d10).length : Int))) = true then (if 0 ≤ i11 ∧ i11 < ((d10).length : Int) then ((release_Find k x8 ((d10.getD i11.toNat dPublished).f0)).bind fun y_15 => ((release_Find k y9 ((d10.getD i11.toNat dPublished).f0)).bind fun y_17 => (if ((d10.getD i11.toNat dPublished).f1 == 0) = true then (some false) else (if r7b.f2 ≠ 0 then (if ((((d10.getD i11.toNat dPublished).f1).tmod r7b.f2) != 0) = true then (some false) else (if ((IntKind.i64.wrap (y_15.1 + (d10.getD i11.toNat dPublished).f1)) != y_17.1) = true then (some false) else (erasurelaw35_ReleaseDifferences.p1 k (IntKind.i64.wrap (i11 + 1)) r7b x8 y9 d10))) else none)))) else none) else ((release_Total k y9).bind fun y_23 => ((release_Total k x8).bind fun y_25 => ((release_Total k d10).bind fun y_27 => (if ((IntKind.i64.wrap (y_23 - y_25)) == y_27) = true then ((erasureref35_Same k x8 y9).bind fun y_30 => (if ((((d10).length : Int) == 0) == y_30) = true then ((erasurelaw35_awake k ).bind fun y_33 => (some y_33)) else (some false))) else (some false)))))
noncomputable def erasurelaw35_ReleaseDifferences  (k : Nat) (n0 : Int) (a1 : (List Int)) (b2 : (List Int)) : Option Bool := (erasurelaw35_limit k n0).bind fun y_1 => ((erasurelaw35_Groups k a1).bind fun y_3 => ((release_Publish k y_1 1 y_3).bind fun y_5 => ((erasurelaw35_Groups k b2).bind fun y_7 => ((release_Publish k y_1 1 y_7).bind fun y_9 => ((release_Differences k y_5 y_9).bind fun y_11 => (erasurelaw35_ReleaseDifferences.p1 k 0 y_1 y_5 y_9 y_11))))))
noncomputable def erasurelaw35_ReleaseDifferences.t : List Item := [.code (bodyOf Try.f10)]
noncomputable def erasurelaw35_ReleaseDifferences.s (n0 : Int) (a1 : (List Int)) (b2 : (List Int)) : St := ⟨frOf Try.f10.ntmps 0 [(0, .p (.int .i64 n0)), (1, .p (eL 1 (cI .i64) (0 : Int) a1)), (2, .p (eL 1 (cI .i64) (0 : Int) b2))], []⟩
noncomputable def erasurelaw35_ReleaseDifferences.p1.t : List Item := nav 13 [] erasurelaw35_ReleaseDifferences.t
noncomputable def erasurelaw35_ReleaseDifferences.p1.s (i11 : Int) (r7b : TRelease) (x8 : (List TPublished)) (y9 : (List TPublished)) (d10 : (List TPublished)) : St := ⟨frOf Try.f10.ntmps 0 [(7, .ptr 0 0 0), (8, .sref 1 43 2 (x8).length), (9, .sref 2 43 2 (y9).length), (10, .sref 3 43 2 (d10).length), (11, .p (.int .i64 i11))], [.box ((cRelease r7b).map .p), (oL false 43 2 cPublished dPublished x8), (oL false 43 2 cPublished dPublished y9), (oL true 43 2 cPublished dPublished d10)]⟩
theorem erasurelaw35_ReleaseDifferences.p1.run   : ∀ (k : Nat) (i11 : Int) (r7b : TRelease) (x8 : (List TPublished)) (y9 : (List TPublished)) (d10 : (List TPublished)) (r : Bool), erasurelaw35_ReleaseDifferences.p1 k i11 r7b x8 y9 d10 = some r → RunC Try.prog Try.f10 erasurelaw35_ReleaseDifferences.p1.t (erasurelaw35_ReleaseDifferences.p1.s i11 r7b x8 y9 d10) (.p (.bool r)) [] := by
  intro k
  induction k with
  | zero => intro i11 r7b x8 y9 d10 r h; simp [erasurelaw35_ReleaseDifferences.p1] at h
  | succ k ih =>
    intro i11 r7b x8 y9 d10 r h
    rw [erasurelaw35_ReleaseDifferences.p1] at h
    rcases ite_or h with ⟨g_13, h⟩ | ⟨g_13, h⟩
    · obtain ⟨g_14, h⟩ := ite_some h
      obtain ⟨y_15, e_16, h⟩ := bind_or h
      obtain ⟨y_17, e_18, h⟩ := bind_or h
      rcases ite_or h with ⟨g_19, h⟩ | ⟨g_19, h⟩
      · obtain rfl := Option.some.inj h
        exact RunC.out [.n 2, .r [(3, .dec true)], .n 5, .r [(6, .call (.tup [.p (.int .i64 y_15.1), .p (.bool y_15.2)]) [])], .n 1, .r [(6, .call (.tup [.p (.int .i64 y_17.1), .p (.bool y_17.2)]) [])], .n 1, .r [(6, .dec true)], .n 3] (by kernel_rfl) (Obs.of (by kernel_rfl) (And.intro g_13 (And.intro g_14 (And.intro (release_Find.spec e_16) (And.intro g_14 (And.intro (release_Find.spec e_18) (And.intro g_14 g_19)))))))
      · obtain ⟨g_20, h⟩ := ite_some h
        rcases ite_or h with ⟨g_21, h⟩ | ⟨g_21, h⟩
        · obtain rfl := Option.some.inj h
          exact RunC.out [.n 2, .r [(3, .dec true)], .n 5, .r [(6, .call (.tup [.p (.int .i64 y_15.1), .p (.bool y_15.2)]) [])], .n 1, .r [(6, .call (.tup [.p (.int .i64 y_17.1), .p (.bool y_17.2)]) [])], .n 1, .r [(6, .dec false), (17, .dec true)], .n 3] (by kernel_rfl) (Obs.of (by kernel_rfl) (And.intro g_13 (And.intro g_14 (And.intro (release_Find.spec e_16) (And.intro g_14 (And.intro (release_Find.spec e_18) (And.intro g_14 (And.intro (nt g_19) (And.intro g_14 (And.intro g_20 g_21))))))))))
        · rcases ite_or h with ⟨g_22, h⟩ | ⟨g_22, h⟩
          · obtain rfl := Option.some.inj h
            exact RunC.out [.n 2, .r [(3, .dec true)], .n 5, .r [(6, .call (.tup [.p (.int .i64 y_15.1), .p (.bool y_15.2)]) [])], .n 1, .r [(6, .call (.tup [.p (.int .i64 y_17.1), .p (.bool y_17.2)]) [])], .n 1, .r [(6, .dec false), (17, .dec false), (27, .dec true)], .n 3] (by kernel_rfl) (Obs.of (by kernel_rfl) (And.intro g_13 (And.intro g_14 (And.intro (release_Find.spec e_16) (And.intro g_14 (And.intro (release_Find.spec e_18) (And.intro g_14 (And.intro (nt g_19) (And.intro g_14 (And.intro g_20 (And.intro (nt g_21) (And.intro g_14 g_22))))))))))))
          · exact RunC.go [.n 2, .r [(3, .dec true)], .n 5, .r [(6, .call (.tup [.p (.int .i64 y_15.1), .p (.bool y_15.2)]) [])], .n 1, .r [(6, .call (.tup [.p (.int .i64 y_17.1), .p (.bool y_17.2)]) [])], .n 1, .r [(6, .dec false), (17, .dec false), (27, .dec false)], .n 5, .k [7, 8, 9, 10, 11]] (by kernel_rfl) (Obs.of (by kernel_rfl) (And.intro g_13 (And.intro g_14 (And.intro (release_Find.spec e_16) (And.intro g_14 (And.intro (release_Find.spec e_18) (And.intro g_14 (And.intro (nt g_19) (And.intro g_14 (And.intro g_20 (And.intro (nt g_21) (And.intro g_14 (nt g_22))))))))))))) (ih _ _ _ _ _ r h)
    · obtain ⟨y_23, e_24, h⟩ := bind_or h
      obtain ⟨y_25, e_26, h⟩ := bind_or h
      obtain ⟨y_27, e_28, h⟩ := bind_or h
      rcases ite_or h with ⟨g_29, h⟩ | ⟨g_29, h⟩
      · obtain ⟨y_30, e_31, h⟩ := bind_or h
        rcases ite_or h with ⟨g_32, h⟩ | ⟨g_32, h⟩
        · obtain ⟨y_33, e_34, h⟩ := bind_or h
          obtain rfl := Option.some.inj h
          exact RunC.out [.n 2, .r [(3, .dec false)], .n 3, .r [(1, .call (.p (.int .i64 y_23)) []), (3, .call (.p (.int .i64 y_25)) []), (6, .call (.p (.int .i64 y_27)) []), (8, .dec true), (14, .call (.p (.bool y_30)) []), (17, .dec true), (18, .call (.p (.bool y_33)) [])]] (by kernel_rfl) (Obs.of (by kernel_rfl) (And.intro (nt g_13) (And.intro (release_Total.spec e_24) (And.intro (release_Total.spec e_26) (And.intro (release_Total.spec e_28) (And.intro g_29 (And.intro (erasureref35_Same.spec e_31) (And.intro g_32 (erasurelaw35_awake.spec e_34)))))))))
        · obtain rfl := Option.some.inj h
          exact RunC.out [.n 2, .r [(3, .dec false)], .n 3, .r [(1, .call (.p (.int .i64 y_23)) []), (3, .call (.p (.int .i64 y_25)) []), (6, .call (.p (.int .i64 y_27)) []), (8, .dec true), (14, .call (.p (.bool y_30)) []), (17, .dec false)]] (by kernel_rfl) (Obs.of (by kernel_rfl) (And.intro (nt g_13) (And.intro (release_Total.spec e_24) (And.intro (release_Total.spec e_26) (And.intro (release_Total.spec e_28) (And.intro g_29 (And.intro (erasureref35_Same.spec e_31) (nt g_32))))))))
      · obtain rfl := Option.some.inj h
        exact RunC.out [.n 2, .r [(3, .dec false)], .n 3, .r [(1, .call (.p (.int .i64 y_23)) []), (3, .call (.p (.int .i64 y_25)) []), (6, .call (.p (.int .i64 y_27)) []), (8, .dec false)]] (by kernel_rfl) (Obs.of (by kernel_rfl) (And.intro (nt g_13) (And.intro (release_Total.spec e_24) (And.intro (release_Total.spec e_26) (And.intro (release_Total.spec e_28) (nt g_29))))))
theorem erasurelaw35_ReleaseDifferences.run   {k : Nat} {n0 : Int} {a1 : (List Int)} {b2 : (List Int)} {r : Bool} (h : erasurelaw35_ReleaseDifferences k n0 a1 b2 = some r) : RunC Try.prog Try.f10 erasurelaw35_ReleaseDifferences.t (erasurelaw35_ReleaseDifferences.s n0 a1 b2) (.p (.bool r)) [] := by
  unfold erasurelaw35_ReleaseDifferences at h
  obtain ⟨y_1, e_2, h⟩ := bind_or h
  obtain ⟨y_3, e_4, h⟩ := bind_or h
  obtain ⟨y_5, e_6, h⟩ := bind_or h
  obtain ⟨y_7, e_8, h⟩ := bind_or h
  obtain ⟨y_9, e_10, h⟩ := bind_or h
  obtain ⟨y_11, e_12, h⟩ := bind_or h
  exact RunC.go [.n 3, .r [(1, .call (.agg ((cRelease y_1).map .p)) [])], .n 1, .r [(2, .call (.sref 0 41 2 (y_3).length) [(oL true 41 2 cEntry dEntry y_3)]), (3, .call (.sref 0 43 2 (y_5).length) [(oL true 43 2 cPublished dPublished y_5)]), (6, .call (.sref 0 41 2 (y_7).length) [(oL true 41 2 cEntry dEntry y_7)]), (7, .call (.sref 0 43 2 (y_9).length) [(oL true 43 2 cPublished dPublished y_9)])], .n 1, .r [(2, .call (.sref 0 43 2 (y_11).length) [(oL true 43 2 cPublished dPublished y_11)])], .n 5, .k [7, 8, 9, 10, 11]] (by kernel_rfl) (Obs.of (by kernel_rfl) (And.intro (erasurelaw35_limit.spec e_2) (And.intro (erasurelaw35_Groups.spec e_4) (And.intro (release_Publish.spec e_6) (And.intro (erasurelaw35_Groups.spec e_8) (And.intro (release_Publish.spec e_10) (release_Differences.spec e_12))))))) (erasurelaw35_ReleaseDifferences.p1.run k _ _ _ _ _ r h)
theorem erasurelaw35_ReleaseDifferences.p1.mono   : ∀ (k k' : Nat) (i11 : Int) (r7b : TRelease) (x8 : (List TPublished)) (y9 : (List TPublished)) (d10 : (List TPublished)) (r : Bool), k ≤ k' → erasurelaw35_ReleaseDifferences.p1 k i11 r7b x8 y9 d10 = some r → erasurelaw35_ReleaseDifferences.p1 k' i11 r7b x8 y9 d10 = some r := by
  intro k
  induction k with
  | zero => intro k' i11 r7b x8 y9 d10 r hk h; simp [erasurelaw35_ReleaseDifferences.p1] at h
  | succ k ih =>
    intro k' i11 r7b x8 y9 d10 r hk h
    obtain ⟨k', rfl⟩ : ∃ m, k' = m + 1 := ⟨k' - 1, by omega⟩
    replace hk := Nat.le_of_succ_le_succ hk
    rw [erasurelaw35_ReleaseDifferences.p1] at h ⊢
    rcases ite_or h with ⟨g_13, h⟩ | ⟨g_13, h⟩
    · refine itp g_13 ?_
      obtain ⟨g_14, h⟩ := ite_some h
      refine itp g_14 ?_
      obtain ⟨y_15, e_16, h⟩ := bind_or h
      refine bnd (release_Find.mono _ _ _ _ _ hk e_16) ?_
      obtain ⟨y_17, e_18, h⟩ := bind_or h
      refine bnd (release_Find.mono _ _ _ _ _ hk e_18) ?_
      rcases ite_or h with ⟨g_19, h⟩ | ⟨g_19, h⟩
      · refine itp g_19 ?_
        exact h
      · refine itn g_19 ?_
        obtain ⟨g_20, h⟩ := ite_some h
        refine itp g_20 ?_
        rcases ite_or h with ⟨g_21, h⟩ | ⟨g_21, h⟩
        · refine itp g_21 ?_
          exact h
        · refine itn g_21 ?_
          rcases ite_or h with ⟨g_22, h⟩ | ⟨g_22, h⟩
          · refine itp g_22 ?_
            exact h
          · refine itn g_22 ?_
            exact ih _ _ _ _ _ _ r hk h
    · refine itn g_13 ?_
      obtain ⟨y_23, e_24, h⟩ := bind_or h
      refine bnd (release_Total.mono _ _ _ _ hk e_24) ?_
      obtain ⟨y_25, e_26, h⟩ := bind_or h
      refine bnd (release_Total.mono _ _ _ _ hk e_26) ?_
      obtain ⟨y_27, e_28, h⟩ := bind_or h
      refine bnd (release_Total.mono _ _ _ _ hk e_28) ?_
      rcases ite_or h with ⟨g_29, h⟩ | ⟨g_29, h⟩
      · refine itp g_29 ?_
        obtain ⟨y_30, e_31, h⟩ := bind_or h
        refine bnd (erasureref35_Same.mono _ _ _ _ _ hk e_31) ?_
        rcases ite_or h with ⟨g_32, h⟩ | ⟨g_32, h⟩
        · refine itp g_32 ?_
          obtain ⟨y_33, e_34, h⟩ := bind_or h
          refine bnd (erasurelaw35_awake.mono _ _  _ hk e_34) ?_
          exact h
        · refine itn g_32 ?_
          exact h
      · refine itn g_29 ?_
        exact h
theorem erasurelaw35_ReleaseDifferences.mono   : ∀ (k k' : Nat) (n0 : Int) (a1 : (List Int)) (b2 : (List Int)) (r : Bool), k ≤ k' → erasurelaw35_ReleaseDifferences k n0 a1 b2 = some r → erasurelaw35_ReleaseDifferences k' n0 a1 b2 = some r := by
  intro k k' n0 a1 b2 r hk h
  unfold erasurelaw35_ReleaseDifferences at h ⊢
  obtain ⟨y_1, e_2, h⟩ := bind_or h
  refine bnd (erasurelaw35_limit.mono _ _ _ _ hk e_2) ?_
  obtain ⟨y_3, e_4, h⟩ := bind_or h
  refine bnd (erasurelaw35_Groups.mono _ _ _ _ hk e_4) ?_
  obtain ⟨y_5, e_6, h⟩ := bind_or h
  refine bnd (release_Publish.mono _ _ _ _ _ _ hk e_6) ?_
  obtain ⟨y_7, e_8, h⟩ := bind_or h
  refine bnd (erasurelaw35_Groups.mono _ _ _ _ hk e_8) ?_
  obtain ⟨y_9, e_10, h⟩ := bind_or h
  refine bnd (release_Publish.mono _ _ _ _ _ _ hk e_10) ?_
  obtain ⟨y_11, e_12, h⟩ := bind_or h
  refine bnd (release_Differences.mono _ _ _ _ _ hk e_12) ?_
  exact erasurelaw35_ReleaseDifferences.p1.mono _ _ _ _ _ _ _ r hk h
theorem erasurelaw35_ReleaseDifferences.spec {k : Nat} {n0 : Int} {a1 : (List Int)} {b2 : (List Int)} {r : Bool} (h : erasurelaw35_ReleaseDifferences k n0 a1 b2 = some r) : Spec Try.prog 10 [.p (.int .i64 n0), .p (eL 1 (cI .i64) (0 : Int) a1), .p (eL 1 (cI .i64) (0 : Int) b2)] (.p (.bool r)) [] :=
  spec_of mix Try.func10 (body := bodyOf Try.f10) (by kernel_rfl) (by kernel_rfl) (erasurelaw35_ReleaseDifferences.run h)
end Go.Proofs.YtjhnpaenhdbhpaaV
set_option linter.unusedVariables false
set_option linter.unusedSimpArgs false
set_option maxRecDepth 100000
namespace Go.Proofs.YtjhnpaenhdbhpaaV
open Go Go.RowKit
noncomputable def erasurelaw35_few.p1  : Nat → (List TPublished) → Int → Option Bool
  | 0, _, _ => none
  | k + 1, l0, i3 => if (decide (i3 < ((l0).length : Int))) = true then (if 0 ≤ i3 ∧ i3 < ((l0).length : Int) then (if (decide ((((l0.getD i3.toNat dPublished).f0).length : Int) > 20)) = true then (some false) else (erasurelaw35_few.p1 k l0 (IntKind.i64.wrap (i3 + 1)))) else none) else (some (decide (((l0).length : Int) ≤ 30)))
noncomputable def erasurelaw35_few  (k : Nat) (l0 : (List TPublished)) : Option Bool := erasurelaw35_few.p1 k l0 0
noncomputable def erasurelaw35_few.t : List Item := [.code (bodyOf Try.f22)]
noncomputable def erasurelaw35_few.s (l0 : (List TPublished)) : St := ⟨frOf Try.f22.ntmps 0 [(0, .p (eL 2 cPublished dPublished l0))], []⟩
noncomputable def erasurelaw35_few.p1.t : List Item := nav 7 [] erasurelaw35_few.t
noncomputable def erasurelaw35_few.p1.s (l0 : (List TPublished)) (i3 : Int) : St := ⟨frOf Try.f22.ntmps 0 [(0, .p (eL 2 cPublished dPublished l0)), (3, .p (.int .i64 i3))], []⟩
theorem erasurelaw35_few.p1.run   : ∀ (k : Nat) (l0 : (List TPublished)) (i3 : Int) (r : Bool), erasurelaw35_few.p1 k l0 i3 = some r → RunC Try.prog Try.f22 erasurelaw35_few.p1.t (erasurelaw35_few.p1.s l0 i3) (.p (.bool r)) [] := by
  intro k
  induction k with
  | zero => intro l0 i3 r h; simp [erasurelaw35_few.p1] at h
  | succ k ih =>
    intro l0 i3 r h
    rw [erasurelaw35_few.p1] at h
    rcases ite_or h with ⟨g_1, h⟩ | ⟨g_1, h⟩
    · obtain ⟨g_2, h⟩ := ite_some h
      rcases ite_or h with ⟨g_3, h⟩ | ⟨g_3, h⟩
      · obtain rfl := Option.some.inj h
        exact RunC.out [.n 2, .r [(3, .dec true)], .n 5, .r [(6, .dec true)], .n 3] (by kernel_rfl) (Obs.of (by kernel_rfl) (And.intro g_1 (And.intro g_2 g_3)))
      · exact RunC.go [.n 2, .r [(3, .dec true)], .n 5, .r [(6, .dec false)], .n 5, .k [0, 3]] (by kernel_rfl) (Obs.of (by kernel_rfl) (And.intro g_1 (And.intro g_2 (nt g_3)))) (ih _ _ r h)
    · obtain rfl := Option.some.inj h
      exact RunC.out [.n 2, .r [(3, .dec false)], .n 4] (by kernel_rfl) (Obs.of (by kernel_rfl) (nt g_1))
theorem erasurelaw35_few.run   {k : Nat} {l0 : (List TPublished)} {r : Bool} (h : erasurelaw35_few k l0 = some r) : RunC Try.prog Try.f22 erasurelaw35_few.t (erasurelaw35_few.s l0) (.p (.bool r)) [] := by
  unfold erasurelaw35_few at h
  exact RunC.go [.n 7, .k [0, 3]] (by kernel_rfl) (Obs.tt (by kernel_rfl)) (erasurelaw35_few.p1.run k _ _ r h)
theorem erasurelaw35_few.p1.mono   : ∀ (k k' : Nat) (l0 : (List TPublished)) (i3 : Int) (r : Bool), k ≤ k' → erasurelaw35_few.p1 k l0 i3 = some r → erasurelaw35_few.p1 k' l0 i3 = some r := by
  intro k
  induction k with
  | zero => intro k' l0 i3 r hk h; simp [erasurelaw35_few.p1] at h
  | succ k ih =>
    intro k' l0 i3 r hk h
    obtain ⟨k', rfl⟩ : ∃ m, k' = m + 1 := ⟨k' - 1, by omega⟩
    replace hk := Nat.le_of_succ_le_succ hk
    rw [erasurelaw35_few.p1] at h ⊢
    rcases ite_or h with ⟨g_1, h⟩ | ⟨g_1, h⟩
    · refine itp g_1 ?_
      obtain ⟨g_2, h⟩ := ite_some h
      refine itp g_2 ?_
      rcases ite_or h with ⟨g_3, h⟩ | ⟨g_3, h⟩
      · refine itp g_3 ?_
        exact h
      · refine itn g_3 ?_
        exact ih _ _ _ r hk h
    · refine itn g_1 ?_
      exact h
theorem erasurelaw35_few.mono   : ∀ (k k' : Nat) (l0 : (List TPublished)) (r : Bool), k ≤ k' → erasurelaw35_few k l0 = some r → erasurelaw35_few k' l0 = some r := by
  intro k k' l0 r hk h
  unfold erasurelaw35_few at h ⊢
  exact erasurelaw35_few.p1.mono _ _ _ _ r hk h
theorem erasurelaw35_few.spec {k : Nat} {l0 : (List TPublished)} {r : Bool} (h : erasurelaw35_few k l0 = some r) : Spec Try.prog 22 [.p (eL 2 cPublished dPublished l0)] (.p (.bool r)) [] :=
  spec_of mix Try.func22 (body := bodyOf Try.f22) (by kernel_rfl) (by kernel_rfl) (erasurelaw35_few.run h)
end Go.Proofs.YtjhnpaenhdbhpaaV
set_option linter.unusedVariables false
set_option linter.unusedSimpArgs false
set_option maxRecDepth 100000
namespace Go.Proofs.YtjhnpaenhdbhpaaV
open Go Go.RowKit
noncomputable def erasureref01_Compare  (k : Nat) (a0 : TValue) (b1 : TValue) : Option Int := (erasureref01_Clean k a0).bind fun y_1 => ((erasureref01_Clean k b1).bind fun y_3 => (if ((y_1.f0 == y_3.f0) && ((y_1.f1 == y_3.f1) && ((y_1.f2.data.toList == y_3.f2.data.toList) && true))) = true then (some 0) else (if (decide (y_1.f0 < y_3.f0)) = true then (some (-1)) else (if (y_1.f0 == y_3.f0) = true then (if (decide (y_1.f1 < y_3.f1)) = true then (some (-1)) else (if (Op.bytesLess y_1.f2.data.toList y_3.f2.data.toList) = true then (some (-1)) else (some 1))) else (some 1)))))
noncomputable def erasureref01_Compare.t : List Item := [.code (bodyOf Try.f50)]
noncomputable def erasureref01_Compare.s (a0 : TValue) (b1 : TValue) : St := ⟨frOf Try.f50.ntmps 0 [(0, .agg ((cValue a0).map .p)), (1, .agg ((cValue b1).map .p))], []⟩
theorem erasureref01_Compare.run   {k : Nat} {a0 : TValue} {b1 : TValue} {r : Int} (h : erasureref01_Compare k a0 b1 = some r) : RunC Try.prog Try.f50 erasureref01_Compare.t (erasureref01_Compare.s a0 b1) (.p (.int .i64 r)) [] := by
  unfold erasureref01_Compare at h
  obtain ⟨y_1, e_2, h⟩ := bind_or h
  obtain ⟨y_3, e_4, h⟩ := bind_or h
  rcases ite_or h with ⟨g_5, h⟩ | ⟨g_5, h⟩
  · obtain rfl := Option.some.inj h
    exact RunC.out [.n 3, .r [(1, .call (.agg ((cValue y_1).map .p)) []), (3, .call (.agg ((cValue y_3).map .p)) [])], .n 2, .r [(2, .dec true)], .n 3] (by kernel_rfl) (Obs.of (by kernel_rfl) (And.intro (erasureref01_Clean.spec e_2) (And.intro (erasureref01_Clean.spec e_4) g_5)))
  · rcases ite_or h with ⟨g_6, h⟩ | ⟨g_6, h⟩
    · obtain rfl := Option.some.inj h
      exact RunC.out [.n 3, .r [(1, .call (.agg ((cValue y_1).map .p)) []), (3, .call (.agg ((cValue y_3).map .p)) [])], .n 2, .r [(2, .dec false)], .n 4, .r [(5, .dec true)], .n 3] (by kernel_rfl) (Obs.of (by kernel_rfl) (And.intro (erasureref01_Clean.spec e_2) (And.intro (erasureref01_Clean.spec e_4) (And.intro (nt g_5) g_6))))
    · rcases ite_or h with ⟨g_7, h⟩ | ⟨g_7, h⟩
      · rcases ite_or h with ⟨g_8, h⟩ | ⟨g_8, h⟩
        · obtain rfl := Option.some.inj h
          exact RunC.out [.n 3, .r [(1, .call (.agg ((cValue y_1).map .p)) []), (3, .call (.agg ((cValue y_3).map .p)) [])], .n 2, .r [(2, .dec false)], .n 4, .r [(5, .dec false), (11, .dec true), (17, .dec true)], .n 3] (by kernel_rfl) (Obs.of (by kernel_rfl) (And.intro (erasureref01_Clean.spec e_2) (And.intro (erasureref01_Clean.spec e_4) (And.intro (nt g_5) (And.intro (nt g_6) (And.intro g_7 g_8))))))
        · rcases ite_or h with ⟨g_9, h⟩ | ⟨g_9, h⟩
          · obtain rfl := Option.some.inj h
            exact RunC.out [.n 3, .r [(1, .call (.agg ((cValue y_1).map .p)) []), (3, .call (.agg ((cValue y_3).map .p)) [])], .n 2, .r [(2, .dec false)], .n 4, .r [(5, .dec false), (11, .dec true), (17, .dec false), (25, .dec true)], .n 3] (by kernel_rfl) (Obs.of (by kernel_rfl) (And.intro (erasureref01_Clean.spec e_2) (And.intro (erasureref01_Clean.spec e_4) (And.intro (nt g_5) (And.intro (nt g_6) (And.intro g_7 (And.intro (nt g_8) g_9)))))))
          · obtain rfl := Option.some.inj h
            exact RunC.out [.n 3, .r [(1, .call (.agg ((cValue y_1).map .p)) []), (3, .call (.agg ((cValue y_3).map .p)) [])], .n 2, .r [(2, .dec false)], .n 4, .r [(5, .dec false), (11, .dec true), (17, .dec false), (25, .dec false)], .n 4] (by kernel_rfl) (Obs.of (by kernel_rfl) (And.intro (erasureref01_Clean.spec e_2) (And.intro (erasureref01_Clean.spec e_4) (And.intro (nt g_5) (And.intro (nt g_6) (And.intro g_7 (And.intro (nt g_8) (nt g_9))))))))
      · obtain rfl := Option.some.inj h
        exact RunC.out [.n 3, .r [(1, .call (.agg ((cValue y_1).map .p)) []), (3, .call (.agg ((cValue y_3).map .p)) [])], .n 2, .r [(2, .dec false)], .n 4, .r [(5, .dec false), (11, .dec false)], .n 4] (by kernel_rfl) (Obs.of (by kernel_rfl) (And.intro (erasureref01_Clean.spec e_2) (And.intro (erasureref01_Clean.spec e_4) (And.intro (nt g_5) (And.intro (nt g_6) (nt g_7))))))
theorem erasureref01_Compare.mono   : ∀ (k k' : Nat) (a0 : TValue) (b1 : TValue) (r : Int), k ≤ k' → erasureref01_Compare k a0 b1 = some r → erasureref01_Compare k' a0 b1 = some r := by
  intro k k' a0 b1 r hk h
  unfold erasureref01_Compare at h ⊢
  obtain ⟨y_1, e_2, h⟩ := bind_or h
  refine bnd (erasureref01_Clean.mono _ _ _ _ hk e_2) ?_
  obtain ⟨y_3, e_4, h⟩ := bind_or h
  refine bnd (erasureref01_Clean.mono _ _ _ _ hk e_4) ?_
  rcases ite_or h with ⟨g_5, h⟩ | ⟨g_5, h⟩
  · refine itp g_5 ?_
    exact h
  · refine itn g_5 ?_
    rcases ite_or h with ⟨g_6, h⟩ | ⟨g_6, h⟩
    · refine itp g_6 ?_
      exact h
    · refine itn g_6 ?_
      rcases ite_or h with ⟨g_7, h⟩ | ⟨g_7, h⟩
      · refine itp g_7 ?_
        rcases ite_or h with ⟨g_8, h⟩ | ⟨g_8, h⟩
        · refine itp g_8 ?_
          exact h
        · refine itn g_8 ?_
          rcases ite_or h with ⟨g_9, h⟩ | ⟨g_9, h⟩
          · refine itp g_9 ?_
            exact h
          · refine itn g_9 ?_
            exact h
      · refine itn g_7 ?_
        exact h
theorem erasureref01_Compare.spec {k : Nat} {a0 : TValue} {b1 : TValue} {r : Int} (h : erasureref01_Compare k a0 b1 = some r) : Spec Try.prog 50 [.agg ((cValue a0).map .p), .agg ((cValue b1).map .p)] (.p (.int .i64 r)) [] :=
  spec_of mix Try.func50 (body := bodyOf Try.f50) (by kernel_rfl) (by kernel_rfl) (erasureref01_Compare.run h)
end Go.Proofs.YtjhnpaenhdbhpaaV
set_option linter.unusedVariables false
set_option linter.unusedSimpArgs false
set_option maxRecDepth 100000
namespace Go.Proofs.YtjhnpaenhdbhpaaV
open Go Go.RowKit
noncomputable def erasureref01_CompareRows.p1  : Nat → (List TValue) → (List TValue) → Int → Option Int
  | 0, _, _, _ => none
  | k + 1, a0, b1, i5 => if (decide (i5 < ((a0).length : Int))) = true then (if (decide (i5 < ((b1).length : Int))) = true then (if 0 ≤ i5 ∧ i5 < ((a0).length : Int) then (if 0 ≤ i5 ∧ i5 < ((b1).length : Int) then ((erasureref01_Compare k (a0.getD i5.toNat dValue) (b1.getD i5.toNat dValue)).bind fun y_5 => (if (y_5 != 0) = true then (some y_5) else (erasureref01_CompareRows.p1 k a0 b1 (IntKind.i64.wrap (i5 + 1))))) else none) else none) else (if (decide (((a0).length : Int) < ((b1).length : Int))) = true then (some (-1)) else (if (decide (((a0).length : Int) > ((b1).length : Int))) = true then (some 1) else (some 0)))) else (if (decide (((a0).length : Int) < ((b1).length : Int))) = true then (some (-1)) else (if (decide (((a0).length : Int) > ((b1).length : Int))) = true then (some 1) else (some 0)))
noncomputable def erasureref01_CompareRows  (k : Nat) (a0 : (List TValue)) (b1 : (List TValue)) : Option Int := erasureref01_CompareRows.p1 k a0 b1 0
noncomputable def erasureref01_CompareRows.t : List Item := [.code (bodyOf Try.f42)]
noncomputable def erasureref01_CompareRows.s (a0 : (List TValue)) (b1 : (List TValue)) : St := ⟨frOf Try.f42.ntmps 0 [(0, .p (eL 3 cValue dValue a0)), (1, .p (eL 3 cValue dValue b1))], []⟩
noncomputable def erasureref01_CompareRows.p1.t : List Item := nav 7 [] erasureref01_CompareRows.t
noncomputable def erasureref01_CompareRows.p1.s (a0 : (List TValue)) (b1 : (List TValue)) (i5 : Int) : St := ⟨frOf Try.f42.ntmps 0 [(0, .p (eL 3 cValue dValue a0)), (1, .p (eL 3 cValue dValue b1)), (5, .p (.int .i64 i5))], []⟩
theorem erasureref01_CompareRows.p1.run   : ∀ (k : Nat) (a0 : (List TValue)) (b1 : (List TValue)) (i5 : Int) (r : Int), erasureref01_CompareRows.p1 k a0 b1 i5 = some r → RunC Try.prog Try.f42 erasureref01_CompareRows.p1.t (erasureref01_CompareRows.p1.s a0 b1 i5) (.p (.int .i64 r)) [] := by
  intro k
  induction k with
  | zero => intro a0 b1 i5 r h; simp [erasureref01_CompareRows.p1] at h
  | succ k ih =>
    intro a0 b1 i5 r h
    rw [erasureref01_CompareRows.p1] at h
    rcases ite_or h with ⟨g_1, h⟩ | ⟨g_1, h⟩
    · rcases ite_or h with ⟨g_2, h⟩ | ⟨g_2, h⟩
      · obtain ⟨g_3, h⟩ := ite_some h
        obtain ⟨g_4, h⟩ := ite_some h
        obtain ⟨y_5, e_6, h⟩ := bind_or h
        rcases ite_or h with ⟨g_7, h⟩ | ⟨g_7, h⟩
        · obtain rfl := Option.some.inj h
          exact RunC.out [.n 2, .r [(4, .dec true), (9, .dec true)], .n 5, .r [(8, .call (.p (.int .i64 y_5)) [])], .n 1, .r [(1, .dec true)], .n 3] (by kernel_rfl) (Obs.of (by kernel_rfl) (And.intro g_1 (And.intro g_2 (And.intro g_3 (And.intro g_4 (And.intro (erasureref01_Compare.spec e_6) g_7))))))
        · exact RunC.go [.n 2, .r [(4, .dec true), (9, .dec true)], .n 5, .r [(8, .call (.p (.int .i64 y_5)) [])], .n 1, .r [(1, .dec false)], .n 5, .k [0, 1, 5]] (by kernel_rfl) (Obs.of (by kernel_rfl) (And.intro g_1 (And.intro g_2 (And.intro g_3 (And.intro g_4 (And.intro (erasureref01_Compare.spec e_6) (nt g_7))))))) (ih _ _ _ r h)
      · rcases ite_or h with ⟨g_8, h⟩ | ⟨g_8, h⟩
        · obtain rfl := Option.some.inj h
          exact RunC.out [.n 2, .r [(4, .dec true), (9, .dec false)], .n 5, .r [(5, .dec true)], .n 3] (by kernel_rfl) (Obs.of (by kernel_rfl) (And.intro g_1 (And.intro (nt g_2) g_8)))
        · rcases ite_or h with ⟨g_9, h⟩ | ⟨g_9, h⟩
          · obtain rfl := Option.some.inj h
            exact RunC.out [.n 2, .r [(4, .dec true), (9, .dec false)], .n 5, .r [(5, .dec false)], .n 2, .r [(5, .dec true)], .n 3] (by kernel_rfl) (Obs.of (by kernel_rfl) (And.intro g_1 (And.intro (nt g_2) (And.intro (nt g_8) g_9))))
          · obtain rfl := Option.some.inj h
            exact RunC.out [.n 2, .r [(4, .dec true), (9, .dec false)], .n 5, .r [(5, .dec false)], .n 2, .r [(5, .dec false)], .n 5] (by kernel_rfl) (Obs.of (by kernel_rfl) (And.intro g_1 (And.intro (nt g_2) (And.intro (nt g_8) (nt g_9)))))
    · rcases ite_or h with ⟨g_10, h⟩ | ⟨g_10, h⟩
      · obtain rfl := Option.some.inj h
        exact RunC.out [.n 2, .r [(4, .dec false)], .n 5, .r [(5, .dec true)], .n 3] (by kernel_rfl) (Obs.of (by kernel_rfl) (And.intro (nt g_1) g_10))
      · rcases ite_or h with ⟨g_11, h⟩ | ⟨g_11, h⟩
        · obtain rfl := Option.some.inj h
          exact RunC.out [.n 2, .r [(4, .dec false)], .n 5, .r [(5, .dec false)], .n 2, .r [(5, .dec true)], .n 3] (by kernel_rfl) (Obs.of (by kernel_rfl) (And.intro (nt g_1) (And.intro (nt g_10) g_11)))
        · obtain rfl := Option.some.inj h
          exact RunC.out [.n 2, .r [(4, .dec false)], .n 5, .r [(5, .dec false)], .n 2, .r [(5, .dec false)], .n 5] (by kernel_rfl) (Obs.of (by kernel_rfl) (And.intro (nt g_1) (And.intro (nt g_10) (nt g_11))))
theorem erasureref01_CompareRows.run   {k : Nat} {a0 : (List TValue)} {b1 : (List TValue)} {r : Int} (h : erasureref01_CompareRows k a0 b1 = some r) : RunC Try.prog Try.f42 erasureref01_CompareRows.t (erasureref01_CompareRows.s a0 b1) (.p (.int .i64 r)) [] := by
  unfold erasureref01_CompareRows at h
  exact RunC.go [.n 7, .k [0, 1, 5]] (by kernel_rfl) (Obs.tt (by kernel_rfl)) (erasureref01_CompareRows.p1.run k _ _ _ r h)
theorem erasureref01_CompareRows.p1.mono   : ∀ (k k' : Nat) (a0 : (List TValue)) (b1 : (List TValue)) (i5 : Int) (r : Int), k ≤ k' → erasureref01_CompareRows.p1 k a0 b1 i5 = some r → erasureref01_CompareRows.p1 k' a0 b1 i5 = some r := by
  intro k
  induction k with
  | zero => intro k' a0 b1 i5 r hk h; simp [erasureref01_CompareRows.p1] at h
  | succ k ih =>
    intro k' a0 b1 i5 r hk h
    obtain ⟨k', rfl⟩ : ∃ m, k' = m + 1 := ⟨k' - 1, by omega⟩
    replace hk := Nat.le_of_succ_le_succ hk
    rw [erasureref01_CompareRows.p1] at h ⊢
    rcases ite_or h with ⟨g_1, h⟩ | ⟨g_1, h⟩
    · refine itp g_1 ?_
      rcases ite_or h with ⟨g_2, h⟩ | ⟨g_2, h⟩
      · refine itp g_2 ?_
        obtain ⟨g_3, h⟩ := ite_some h
        refine itp g_3 ?_
        obtain ⟨g_4, h⟩ := ite_some h
        refine itp g_4 ?_
        obtain ⟨y_5, e_6, h⟩ := bind_or h
        refine bnd (erasureref01_Compare.mono _ _ _ _ _ hk e_6) ?_
        rcases ite_or h with ⟨g_7, h⟩ | ⟨g_7, h⟩
        · refine itp g_7 ?_
          exact h
        · refine itn g_7 ?_
          exact ih _ _ _ _ r hk h
      · refine itn g_2 ?_
        rcases ite_or h with ⟨g_8, h⟩ | ⟨g_8, h⟩
        · refine itp g_8 ?_
          exact h
        · refine itn g_8 ?_
          rcases ite_or h with ⟨g_9, h⟩ | ⟨g_9, h⟩
          · refine itp g_9 ?_
            exact h
          · refine itn g_9 ?_
            exact h
    · refine itn g_1 ?_
      rcases ite_or h with ⟨g_10, h⟩ | ⟨g_10, h⟩
      · refine itp g_10 ?_
        exact h
      · refine itn g_10 ?_
        rcases ite_or h with ⟨g_11, h⟩ | ⟨g_11, h⟩
        · refine itp g_11 ?_
          exact h
        · refine itn g_11 ?_
          exact h
theorem erasureref01_CompareRows.mono   : ∀ (k k' : Nat) (a0 : (List TValue)) (b1 : (List TValue)) (r : Int), k ≤ k' → erasureref01_CompareRows k a0 b1 = some r → erasureref01_CompareRows k' a0 b1 = some r := by
  intro k k' a0 b1 r hk h
  unfold erasureref01_CompareRows at h ⊢
  exact erasureref01_CompareRows.p1.mono _ _ _ _ _ r hk h
theorem erasureref01_CompareRows.spec {k : Nat} {a0 : (List TValue)} {b1 : (List TValue)} {r : Int} (h : erasureref01_CompareRows k a0 b1 = some r) : Spec Try.prog 42 [.p (eL 3 cValue dValue a0), .p (eL 3 cValue dValue b1)] (.p (.int .i64 r)) [] :=
  spec_of mix Try.func42 (body := bodyOf Try.f42) (by kernel_rfl) (by kernel_rfl) (erasureref01_CompareRows.run h)
end Go.Proofs.YtjhnpaenhdbhpaaV
set_option linter.unusedVariables false
set_option linter.unusedSimpArgs false
set_option maxRecDepth 100000
namespace Go.Proofs.YtjhnpaenhdbhpaaV
open Go Go.RowKit
noncomputable def erasureref35_Find.p1  : Nat → (List TPublished) → (List TValue) → Int → Option (Int × Bool)
  | 0, _, _, _ => none
  | k + 1, l0, keys1, i6 => if (decide (i6 < ((l0).length : Int))) = true then (if 0 ≤ i6 ∧ i6 < ((l0).length : Int) then ((erasureref01_CompareRows k ((l0.getD i6.toNat dPublished).f0) keys1).bind fun y_3 => (if (y_3 == 0) = true then (some ((l0.getD i6.toNat dPublished).f1, true)) else (erasureref35_Find.p1 k l0 keys1 (IntKind.i64.wrap (i6 + 1))))) else none) else (some (0, false))
noncomputable def erasureref35_Find  (k : Nat) (l0 : (List TPublished)) (keys1 : (List TValue)) : Option (Int × Bool) := erasureref35_Find.p1 k l0 keys1 0
noncomputable def erasureref35_Find.t : List Item := [.code (bodyOf Try.f27)]
noncomputable def erasureref35_Find.s (l0 : (List TPublished)) (keys1 : (List TValue)) : St := ⟨frOf Try.f27.ntmps 0 [(0, .p (eL 2 cPublished dPublished l0)), (1, .p (eL 3 cValue dValue keys1))], []⟩
noncomputable def erasureref35_Find.p1.t : List Item := nav 7 [] erasureref35_Find.t
noncomputable def erasureref35_Find.p1.s (l0 : (List TPublished)) (keys1 : (List TValue)) (i6 : Int) : St := ⟨frOf Try.f27.ntmps 0 [(0, .p (eL 2 cPublished dPublished l0)), (1, .p (eL 3 cValue dValue keys1)), (6, .p (.int .i64 i6))], []⟩
theorem erasureref35_Find.p1.run   : ∀ (k : Nat) (l0 : (List TPublished)) (keys1 : (List TValue)) (i6 : Int) (r : (Int × Bool)), erasureref35_Find.p1 k l0 keys1 i6 = some r → RunC Try.prog Try.f27 erasureref35_Find.p1.t (erasureref35_Find.p1.s l0 keys1 i6) (.tup [.p (.int .i64 r.1), .p (.bool r.2)]) [] := by
  intro k
  induction k with
  | zero => intro l0 keys1 i6 r h; simp [erasureref35_Find.p1] at h
  | succ k ih =>
    intro l0 keys1 i6 r h
    rw [erasureref35_Find.p1] at h
    rcases ite_or h with ⟨g_1, h⟩ | ⟨g_1, h⟩
    · obtain ⟨g_2, h⟩ := ite_some h
      obtain ⟨y_3, e_4, h⟩ := bind_or h
      rcases ite_or h with ⟨g_5, h⟩ | ⟨g_5, h⟩
      · obtain rfl := Option.some.inj h
        exact RunC.out [.n 2, .r [(3, .dec true)], .n 5, .r [(6, .call (.p (.int .i64 y_3)) []), (7, .dec true)], .n 3] (by kernel_rfl) (Obs.of (by kernel_rfl) (And.intro g_1 (And.intro g_2 (And.intro (erasureref01_CompareRows.spec e_4) (And.intro g_5 g_2)))))
      · exact RunC.go [.n 2, .r [(3, .dec true)], .n 5, .r [(6, .call (.p (.int .i64 y_3)) []), (7, .dec false)], .n 5, .k [0, 1, 6]] (by kernel_rfl) (Obs.of (by kernel_rfl) (And.intro g_1 (And.intro g_2 (And.intro (erasureref01_CompareRows.spec e_4) (nt g_5))))) (ih _ _ _ r h)
    · obtain rfl := Option.some.inj h
      exact RunC.out [.n 2, .r [(3, .dec false)], .n 4] (by kernel_rfl) (Obs.of (by kernel_rfl) (nt g_1))
theorem erasureref35_Find.run   {k : Nat} {l0 : (List TPublished)} {keys1 : (List TValue)} {r : (Int × Bool)} (h : erasureref35_Find k l0 keys1 = some r) : RunC Try.prog Try.f27 erasureref35_Find.t (erasureref35_Find.s l0 keys1) (.tup [.p (.int .i64 r.1), .p (.bool r.2)]) [] := by
  unfold erasureref35_Find at h
  exact RunC.go [.n 7, .k [0, 1, 6]] (by kernel_rfl) (Obs.tt (by kernel_rfl)) (erasureref35_Find.p1.run k _ _ _ r h)
theorem erasureref35_Find.p1.mono   : ∀ (k k' : Nat) (l0 : (List TPublished)) (keys1 : (List TValue)) (i6 : Int) (r : (Int × Bool)), k ≤ k' → erasureref35_Find.p1 k l0 keys1 i6 = some r → erasureref35_Find.p1 k' l0 keys1 i6 = some r := by
  intro k
  induction k with
  | zero => intro k' l0 keys1 i6 r hk h; simp [erasureref35_Find.p1] at h
  | succ k ih =>
    intro k' l0 keys1 i6 r hk h
    obtain ⟨k', rfl⟩ : ∃ m, k' = m + 1 := ⟨k' - 1, by omega⟩
    replace hk := Nat.le_of_succ_le_succ hk
    rw [erasureref35_Find.p1] at h ⊢
    rcases ite_or h with ⟨g_1, h⟩ | ⟨g_1, h⟩
    · refine itp g_1 ?_
      obtain ⟨g_2, h⟩ := ite_some h
      refine itp g_2 ?_
      obtain ⟨y_3, e_4, h⟩ := bind_or h
      refine bnd (erasureref01_CompareRows.mono _ _ _ _ _ hk e_4) ?_
      rcases ite_or h with ⟨g_5, h⟩ | ⟨g_5, h⟩
      · refine itp g_5 ?_
        exact h
      · refine itn g_5 ?_
        exact ih _ _ _ _ r hk h
    · refine itn g_1 ?_
      exact h
theorem erasureref35_Find.mono   : ∀ (k k' : Nat) (l0 : (List TPublished)) (keys1 : (List TValue)) (r : (Int × Bool)), k ≤ k' → erasureref35_Find k l0 keys1 = some r → erasureref35_Find k' l0 keys1 = some r := by
  intro k k' l0 keys1 r hk h
  unfold erasureref35_Find at h ⊢
  exact erasureref35_Find.p1.mono _ _ _ _ _ r hk h
theorem erasureref35_Find.spec {k : Nat} {l0 : (List TPublished)} {keys1 : (List TValue)} {r : (Int × Bool)} (h : erasureref35_Find k l0 keys1 = some r) : Spec Try.prog 27 [.p (eL 2 cPublished dPublished l0), .p (eL 3 cValue dValue keys1)] (.tup [.p (.int .i64 r.1), .p (.bool r.2)]) [] :=
  spec_of mix Try.func27 (body := bodyOf Try.f27) (by kernel_rfl) (by kernel_rfl) (erasureref35_Find.run h)
end Go.Proofs.YtjhnpaenhdbhpaaV
set_option linter.unusedVariables false
set_option linter.unusedSimpArgs false
set_option maxRecDepth 100000
namespace Go.Proofs.YtjhnpaenhdbhpaaV
open Go Go.RowKit
noncomputable def erasureref35_Total.p1  : Nat → (List TPublished) → Int → Int → Option Int
  | 0, _, _, _ => none
  | k + 1, l0, n3, i4 => if (decide (i4 < ((l0).length : Int))) = true then (if 0 ≤ i4 ∧ i4 < ((l0).length : Int) then (erasureref35_Total.p1 k l0 (IntKind.i64.wrap (n3 + (l0.getD i4.toNat dPublished).f1)) (IntKind.i64.wrap (i4 + 1))) else none) else (some n3)
noncomputable def erasureref35_Total  (k : Nat) (l0 : (List TPublished)) : Option Int := erasureref35_Total.p1 k l0 0 0
noncomputable def erasureref35_Total.t : List Item := [.code (bodyOf Try.f29)]
noncomputable def erasureref35_Total.s (l0 : (List TPublished)) : St := ⟨frOf Try.f29.ntmps 0 [(0, .p (eL 2 cPublished dPublished l0))], []⟩
noncomputable def erasureref35_Total.p1.t : List Item := nav 9 [] erasureref35_Total.t
noncomputable def erasureref35_Total.p1.s (l0 : (List TPublished)) (n3 : Int) (i4 : Int) : St := ⟨frOf Try.f29.ntmps 0 [(0, .p (eL 2 cPublished dPublished l0)), (3, .p (.int .i64 n3)), (4, .p (.int .i64 i4))], []⟩
theorem erasureref35_Total.p1.run   : ∀ (k : Nat) (l0 : (List TPublished)) (n3 : Int) (i4 : Int) (r : Int), erasureref35_Total.p1 k l0 n3 i4 = some r → RunC Try.prog Try.f29 erasureref35_Total.p1.t (erasureref35_Total.p1.s l0 n3 i4) (.p (.int .i64 r)) [] := by
  intro k
  induction k with
  | zero => intro l0 n3 i4 r h; simp [erasureref35_Total.p1] at h
  | succ k ih =>
    intro l0 n3 i4 r h
    rw [erasureref35_Total.p1] at h
    rcases ite_or h with ⟨g_1, h⟩ | ⟨g_1, h⟩
    · obtain ⟨g_2, h⟩ := ite_some h
      exact RunC.go [.n 2, .r [(3, .dec true)], .n 8, .k [0, 3, 4]] (by kernel_rfl) (Obs.of (by kernel_rfl) (And.intro g_1 g_2)) (ih _ _ _ r h)
    · obtain rfl := Option.some.inj h
      exact RunC.out [.n 2, .r [(3, .dec false)], .n 4] (by kernel_rfl) (Obs.of (by kernel_rfl) (nt g_1))
theorem erasureref35_Total.run   {k : Nat} {l0 : (List TPublished)} {r : Int} (h : erasureref35_Total k l0 = some r) : RunC Try.prog Try.f29 erasureref35_Total.t (erasureref35_Total.s l0) (.p (.int .i64 r)) [] := by
  unfold erasureref35_Total at h
  exact RunC.go [.n 9, .k [0, 3, 4]] (by kernel_rfl) (Obs.tt (by kernel_rfl)) (erasureref35_Total.p1.run k _ _ _ r h)
theorem erasureref35_Total.p1.mono   : ∀ (k k' : Nat) (l0 : (List TPublished)) (n3 : Int) (i4 : Int) (r : Int), k ≤ k' → erasureref35_Total.p1 k l0 n3 i4 = some r → erasureref35_Total.p1 k' l0 n3 i4 = some r := by
  intro k
  induction k with
  | zero => intro k' l0 n3 i4 r hk h; simp [erasureref35_Total.p1] at h
  | succ k ih =>
    intro k' l0 n3 i4 r hk h
    obtain ⟨k', rfl⟩ : ∃ m, k' = m + 1 := ⟨k' - 1, by omega⟩
    replace hk := Nat.le_of_succ_le_succ hk
    rw [erasureref35_Total.p1] at h ⊢
    rcases ite_or h with ⟨g_1, h⟩ | ⟨g_1, h⟩
    · refine itp g_1 ?_
      obtain ⟨g_2, h⟩ := ite_some h
      refine itp g_2 ?_
      exact ih _ _ _ _ r hk h
    · refine itn g_1 ?_
      exact h
theorem erasureref35_Total.mono   : ∀ (k k' : Nat) (l0 : (List TPublished)) (r : Int), k ≤ k' → erasureref35_Total k l0 = some r → erasureref35_Total k' l0 = some r := by
  intro k k' l0 r hk h
  unfold erasureref35_Total at h ⊢
  exact erasureref35_Total.p1.mono _ _ _ _ _ r hk h
theorem erasureref35_Total.spec {k : Nat} {l0 : (List TPublished)} {r : Int} (h : erasureref35_Total k l0 = some r) : Spec Try.prog 29 [.p (eL 2 cPublished dPublished l0)] (.p (.int .i64 r)) [] :=
  spec_of mix Try.func29 (body := bodyOf Try.f29) (by kernel_rfl) (by kernel_rfl) (erasureref35_Total.run h)
end Go.Proofs.YtjhnpaenhdbhpaaV
set_option linter.unusedVariables false
set_option linter.unusedSimpArgs false
set_option maxRecDepth 100000
namespace Go.Proofs.YtjhnpaenhdbhpaaV
open Go Go.RowKit
noncomputable def erasureref26_CleanRow.p1  : Nat → (List TValue) → Int → (List TValue) → Option (List TValue)
  | 0, _, _, _ => none
  | k + 1, r0, i4, out3 => if (decide (i4 < ((r0).length : Int))) = true then (if 0 ≤ i4 ∧ i4 < ((r0).length : Int) then ((erasureref01_Clean k (r0.getD i4.toNat dValue)).bind fun y_3 => (if (out3).length + ([y_3]).length ≤ maxLen ∧ ((out3).length + ([y_3]).length) * 32 ≤ 140737488355328 then (erasureref26_CleanRow.p1 k r0 (IntKind.i64.wrap (i4 + 1)) (out3 ++ ([y_3]))) else none)) else none) else (some out3)
noncomputable def erasureref26_CleanRow  (k : Nat) (r0 : (List TValue)) : Option (List TValue) := erasureref26_CleanRow.p1 k r0 0 ([] : List TValue)
noncomputable def erasureref26_CleanRow.t : List Item := [.code (bodyOf Try.f19)]
noncomputable def erasureref26_CleanRow.s (r0 : (List TValue)) : St := ⟨frOf Try.f19.ntmps 0 [(0, .p (eL 3 cValue dValue r0))], []⟩
noncomputable def erasureref26_CleanRow.p1.t : List Item := nav 9 [] erasureref26_CleanRow.t
noncomputable def erasureref26_CleanRow.p1.s (r0 : (List TValue)) (i4 : Int) (out3 : (List TValue)) : St := ⟨frOf Try.f19.ntmps 0 [(0, .p (eL 3 cValue dValue r0)), (3, .sref 0 38 3 (out3).length), (4, .p (.int .i64 i4))], [(oL true 38 3 cValue dValue out3)]⟩
theorem erasureref26_CleanRow.p1.run   : ∀ (k : Nat) (r0 : (List TValue)) (i4 : Int) (out3 : (List TValue)) (r : (List TValue)), erasureref26_CleanRow.p1 k r0 i4 out3 = some r → RunC Try.prog Try.f19 erasureref26_CleanRow.p1.t (erasureref26_CleanRow.p1.s r0 i4 out3) (.sref 0 38 3 (r).length) [(oL true 38 3 cValue dValue (r))] := by
  intro k
  induction k with
  | zero => intro r0 i4 out3 r h; simp [erasureref26_CleanRow.p1] at h
  | succ k ih =>
    intro r0 i4 out3 r h
    rw [erasureref26_CleanRow.p1] at h
    rcases ite_or h with ⟨g_1, h⟩ | ⟨g_1, h⟩
    · obtain ⟨g_2, h⟩ := ite_some h
      obtain ⟨y_3, e_4, h⟩ := bind_or h
      obtain ⟨g_5, h⟩ := ite_some h
      exact RunC.go [.n 2, .r [(3, .dec true)], .n 4, .r [(5, .call (.agg ((cValue y_3).map .p)) []), (6, .obj (oL true 38 3 cValue dValue [y_3])), (7, .obj (oL true 38 3 cValue dValue (out3 ++ ([y_3]))))], .n 3, .k [0, 3, 4]] (by kernel_rfl) (Obs.of (by kernel_rfl) (And.intro g_1 (And.intro g_2 (And.intro (erasureref01_Clean.spec e_4) (And.intro (le_one 38 3 cValue dValue y_3) (And.intro g_5 (le_app 38 3 cValue dValue out3 ([y_3])))))))) (ih _ _ _ r h)
    · obtain rfl := Option.some.inj h
      exact RunC.out [.n 2, .r [(3, .dec false)], .n 4] (by kernel_rfl) (Obs.of (by kernel_rfl) (nt g_1))
theorem erasureref26_CleanRow.run   {k : Nat} {r0 : (List TValue)} {r : (List TValue)} (h : erasureref26_CleanRow k r0 = some r) : RunC Try.prog Try.f19 erasureref26_CleanRow.t (erasureref26_CleanRow.s r0) (.sref 0 38 3 (r).length) [(oL true 38 3 cValue dValue (r))] := by
  unfold erasureref26_CleanRow at h
  exact RunC.go [.n 1, .r [(0, .obj (oL true 38 3 cValue dValue ([] : List TValue)))], .n 1, .r [(0, .obj (oL true 38 3 cValue dValue ([] : List TValue)))], .n 5, .k [0, 3, 4]] (by kernel_rfl) (Obs.of (by kernel_rfl) (And.intro (le_nil 38 3 cValue dValue) (le_nil 38 3 cValue dValue))) (erasureref26_CleanRow.p1.run k _ _ _ r h)
theorem erasureref26_CleanRow.p1.mono   : ∀ (k k' : Nat) (r0 : (List TValue)) (i4 : Int) (out3 : (List TValue)) (r : (List TValue)), k ≤ k' → erasureref26_CleanRow.p1 k r0 i4 out3 = some r → erasureref26_CleanRow.p1 k' r0 i4 out3 = some r := by
  intro k
  induction k with
  | zero => intro k' r0 i4 out3 r hk h; simp [erasureref26_CleanRow.p1] at h
  | succ k ih =>
    intro k' r0 i4 out3 r hk h
    obtain ⟨k', rfl⟩ : ∃ m, k' = m + 1 := ⟨k' - 1, by omega⟩
    replace hk := Nat.le_of_succ_le_succ hk
    rw [erasureref26_CleanRow.p1] at h ⊢
    rcases ite_or h with ⟨g_1, h⟩ | ⟨g_1, h⟩
    · refine itp g_1 ?_
      obtain ⟨g_2, h⟩ := ite_some h
      refine itp g_2 ?_
      obtain ⟨y_3, e_4, h⟩ := bind_or h
      refine bnd (erasureref01_Clean.mono _ _ _ _ hk e_4) ?_
      obtain ⟨g_5, h⟩ := ite_some h
      refine itp g_5 ?_
      exact ih _ _ _ _ r hk h
    · refine itn g_1 ?_
      exact h
theorem erasureref26_CleanRow.mono   : ∀ (k k' : Nat) (r0 : (List TValue)) (r : (List TValue)), k ≤ k' → erasureref26_CleanRow k r0 = some r → erasureref26_CleanRow k' r0 = some r := by
  intro k k' r0 r hk h
  unfold erasureref26_CleanRow at h ⊢
  exact erasureref26_CleanRow.p1.mono _ _ _ _ _ r hk h
theorem erasureref26_CleanRow.spec {k : Nat} {r0 : (List TValue)} {r : (List TValue)} (h : erasureref26_CleanRow k r0 = some r) : Spec Try.prog 19 [.p (eL 3 cValue dValue r0)] (.sref 0 38 3 (r).length) [(oL true 38 3 cValue dValue (r))] :=
  spec_of mix Try.func19 (body := bodyOf Try.f19) (by kernel_rfl) (by kernel_rfl) (erasureref26_CleanRow.run h)
end Go.Proofs.YtjhnpaenhdbhpaaV
set_option linter.unusedVariables false
set_option linter.unusedSimpArgs false
set_option maxRecDepth 100000
namespace Go.Proofs.YtjhnpaenhdbhpaaV
open Go Go.RowKit
noncomputable def erasureref35_Differences.p2 (rec1 : (List TPublished) → (List TPublished) → Int → (List TPublished) → (List TPublished) → Option (List TPublished)) : Nat → (List TPublished) → (List TPublished) → Int → Int → (List TPublished) → (List TPublished) → Option (List TPublished)
  | 0, _, _, _, _, _, _ => none
  | k + 1, a0, b1, i7, j15, all5, out6 => if (decide (j15 > 0)) = true then (if 0 ≤ j15 ∧ j15 < ((out6).length : Int) then (if 0 ≤ (IntKind.i64.wrap (j15 - 1)) ∧ (IntKind.i64.wrap (j15 - 1)) < ((out6).length : Int) then ((erasureref01_CompareRows k ((out6.getD j15.toNat dPublished).f0) ((out6.getD (IntKind.i64.wrap (j15 - 1)).toNat dPublished).f0)).bind fun y_20 => (if (decide (y_20 < 0)) = true then (erasureref35_Differences.p2 rec1 k a0 b1 i7 (IntKind.i64.wrap (j15 - 1)) all5 ((out6.set (IntKind.i64.wrap (j15 - 1)).toNat (out6.getD j15.toNat dPublished)).set j15.toNat (out6.getD (IntKind.i64.wrap (j15 - 1)).toNat dPublished))) else (rec1 a0 b1 (IntKind.i64.wrap (i7 + 1)) all5 out6))) else none) else none) else (rec1 a0 b1 (IntKind.i64.wrap (i7 + 1)) all5 out6)
noncomputable def erasureref35_Differences.p1  : Nat → (List TPublished) → (List TPublished) → Int → (List TPublished) → (List TPublished) → Option (List TPublished)
  | 0, _, _, _, _, _ => none
  | k + 1, a0, b1, i7, all5, out6 => if (decide (i7 < ((all5).length : Int))) = true then (if 0 ≤ i7 ∧ i7 < ((all5).length : Int) then (if 0 ≤ (0 : Int) ∧ (0 : Int) ≤ i7 ∧ i7 ≤ ((all5).length : Int) then ((erasureref35_Find k (subL all5 (0 : Int) i7) ((all5.getD i7.toNat dPublished).f0)).bind fun y_6 => ((erasureref35_Find k a0 ((all5.getD i7.toNat dPublished).f0)).bind fun y_8 => ((erasureref35_Find k b1 ((all5.getD i7.toNat dPublished).f0)).bind fun y_10 => (if y_6.2 = true then (erasureref35_Differences.p1 k a0 b1 (IntKind.i64.wrap (i7 + 1)) all5 out6) else (if (y_8.1 == y_10.1) = true then (erasureref35_Differences.p1 k a0 b1 (IntKind.i64.wrap (i7 + 1)) all5 out6) else ((erasureref26_CleanRow k ((all5.getD i7.toNat dPublished).f0)).bind fun y_14 => (if (out6).length + ([(TPublished.mk y_14 (IntKind.i64.wrap (y_10.1 - y_8.1)))]).length ≤ maxLen ∧ ((out6).length + ([(TPublished.mk y_14 (IntKind.i64.wrap (y_10.1 - y_8.1)))]).length) * 32 ≤ 140737488355328 then (erasureref35_Differences.p2 (erasureref35_Differences.p1 k) k a0 b1 i7 (IntKind.i64.wrap ((((out6 ++ ([(TPublished.mk y_14 (IntKind.i64.wrap (y_10.1 - y_8.1)))]))).length : Int) - 1)) all5 (out6 ++ ([(TPublished.mk y_14 (IntKind.i64.wrap (y_10.1 - y_8.1)))]))) else none))))))) else none) else none) else (some out6)
noncomputable def erasureref35_Differences  (k : Nat) (a0 : (List TPublished)) (b1 : (List TPublished)) : Option (List TPublished) := if (([] : List TPublished)).length + (a0).length ≤ maxLen ∧ ((([] : List TPublished)).length + (a0).length) * 32 ≤ 140737488355328 then (if ((([] : List TPublished) ++ a0)).length + (b1).length ≤ maxLen ∧ (((([] : List TPublished) ++ a0)).length + (b1).length) * 32 ≤ 140737488355328 then (erasureref35_Differences.p1 k a0 b1 0 ((([] : List TPublished) ++ a0) ++ b1) ([] : List TPublished)) else none) else none
noncomputable def erasureref35_Differences.t : List Item := [.code (bodyOf Try.f30)]
noncomputable def erasureref35_Differences.s (a0 : (List TPublished)) (b1 : (List TPublished)) : St := ⟨frOf Try.f30.ntmps 0 [(0, .p (eL 2 cPublished dPublished a0)), (1, .p (eL 2 cPublished dPublished b1))], []⟩
noncomputable def erasureref35_Differences.p1.t : List Item := nav 11 [] erasureref35_Differences.t
noncomputable def erasureref35_Differences.p1.s (a0 : (List TPublished)) (b1 : (List TPublished)) (i7 : Int) (all5 : (List TPublished)) (out6 : (List TPublished)) : St := ⟨frOf Try.f30.ntmps 0 [(0, .p (eL 2 cPublished dPublished a0)), (1, .p (eL 2 cPublished dPublished b1)), (5, .sref 0 43 2 (all5).length), (6, .sref 1 43 2 (out6).length), (7, .p (.int .i64 i7))], [(oL true 43 2 cPublished dPublished all5), (oL true 43 2 cPublished dPublished out6)]⟩
noncomputable def erasureref35_Differences.p2.t : List Item := nav 26 [true, false] erasureref35_Differences.p1.t
noncomputable def erasureref35_Differences.p2.s (a0 : (List TPublished)) (b1 : (List TPublished)) (i7 : Int) (j15 : Int) (all5 : (List TPublished)) (out6 : (List TPublished)) : St := ⟨frOf Try.f30.ntmps 0 [(0, .p (eL 2 cPublished dPublished a0)), (1, .p (eL 2 cPublished dPublished b1)), (5, .sref 0 43 2 (all5).length), (6, .sref 1 43 2 (out6).length), (7, .p (.int .i64 i7)), (15, .p (.int .i64 j15))], [(oL true 43 2 cPublished dPublished all5), (oL true 43 2 cPublished dPublished out6)]⟩
theorem erasureref35_Differences.p2.run {rec1 : (List TPublished) → (List TPublished) → Int → (List TPublished) → (List TPublished) → Option (List TPublished)} (hrec1 : ∀ (a0 : (List TPublished)) (b1 : (List TPublished)) (i7 : Int) (all5 : (List TPublished)) (out6 : (List TPublished)) r, rec1 a0 b1 i7 all5 out6 = some r → RunC Try.prog Try.f30 erasureref35_Differences.p1.t (erasureref35_Differences.p1.s a0 b1 i7 all5 out6) (.sref 0 43 2 (r).length) [(oL true 43 2 cPublished dPublished (r))]) : ∀ (k : Nat) (a0 : (List TPublished)) (b1 : (List TPublished)) (i7 : Int) (j15 : Int) (all5 : (List TPublished)) (out6 : (List TPublished)) (r : (List TPublished)), erasureref35_Differences.p2 rec1 k a0 b1 i7 j15 all5 out6 = some r → RunC Try.prog Try.f30 erasureref35_Differences.p2.t (erasureref35_Differences.p2.s a0 b1 i7 j15 all5 out6) (.sref 0 43 2 (r).length) [(oL true 43 2 cPublished dPublished (r))] := by
  intro k
  induction k with
  | zero => intro a0 b1 i7 j15 all5 out6 r h; simp [erasureref35_Differences.p2] at h
  | succ k ih =>
    intro a0 b1 i7 j15 all5 out6 r h
    rw [erasureref35_Differences.p2] at h
    rcases ite_or h with ⟨g_17, h⟩ | ⟨g_17, h⟩
    · obtain ⟨g_18, h⟩ := ite_some h
      obtain ⟨g_19, h⟩ := ite_some h
      obtain ⟨y_20, e_21, h⟩ := bind_or h
      rcases ite_or h with ⟨g_22, h⟩ | ⟨g_22, h⟩
      · exact RunC.go [.n 2, .r [(2, .dec true), (14, .call (.p (.int .i64 y_20)) []), (16, .dec true)], .n 4, .r [(15, .obj (oL true 43 2 cPublished dPublished (out6.set (IntKind.i64.wrap (j15 - 1)).toNat (out6.getD j15.toNat dPublished)))), (17, .obj (oL true 43 2 cPublished dPublished ((out6.set (IntKind.i64.wrap (j15 - 1)).toNat (out6.getD j15.toNat dPublished)).set j15.toNat (out6.getD (IntKind.i64.wrap (j15 - 1)).toNat dPublished))))], .n 3, .k [0, 1, 5, 6, 7, 15]] (by kernel_rfl) (Obs.of (by kernel_rfl) (And.intro g_17 (And.intro g_18 (And.intro g_19 (And.intro (erasureref01_CompareRows.spec e_21) (And.intro g_22 (And.intro g_18 (And.intro g_19 (And.intro g_19 (And.intro (le_set 43 2 cPublished dPublished out6 (out6.getD j15.toNat dPublished) (IntKind.i64.wrap (j15 - 1)).toNat rfl) (And.intro g_18 (le_set 43 2 cPublished dPublished (out6.set (IntKind.i64.wrap (j15 - 1)).toNat (out6.getD j15.toNat dPublished)) (out6.getD (IntKind.i64.wrap (j15 - 1)).toNat dPublished) j15.toNat rfl)))))))))))) (ih _ _ _ _ _ _ r h)
      · exact RunC.go [.n 2, .r [(2, .dec true), (14, .call (.p (.int .i64 y_20)) []), (16, .dec false)], .n 5, .k [0, 1, 5, 6, 7]] (by kernel_rfl) (Obs.of (by kernel_rfl) (And.intro g_17 (And.intro g_18 (And.intro g_19 (And.intro (erasureref01_CompareRows.spec e_21) (nt g_22)))))) (hrec1 _ _ _ _ _ r h)
    · exact RunC.go [.n 2, .r [(2, .dec false)], .n 5, .k [0, 1, 5, 6, 7]] (by kernel_rfl) (Obs.of (by kernel_rfl) (nt g_17)) (hrec1 _ _ _ _ _ r h)
theorem erasureref35_Differences.p1.run   : ∀ (k : Nat) (a0 : (List TPublished)) (b1 : (List TPublished)) (i7 : Int) (all5 : (List TPublished)) (out6 : (List TPublished)) (r : (List TPublished)), erasureref35_Differences.p1 k a0 b1 i7 all5 out6 = some r → RunC Try.prog Try.f30 erasureref35_Differences.p1.t (erasureref35_Differences.p1.s a0 b1 i7 all5 out6) (.sref 0 43 2 (r).length) [(oL true 43 2 cPublished dPublished (r))] := by
  intro k
  induction k with
  | zero => intro a0 b1 i7 all5 out6 r h; simp [erasureref35_Differences.p1] at h
  | succ k ih =>
    intro a0 b1 i7 all5 out6 r h
    rw [erasureref35_Differences.p1] at h
    rcases ite_or h with ⟨g_3, h⟩ | ⟨g_3, h⟩
    · obtain ⟨g_4, h⟩ := ite_some h
      obtain ⟨g_5, h⟩ := ite_some h
      obtain ⟨y_6, e_7, h⟩ := bind_or h
      obtain ⟨y_8, e_9, h⟩ := bind_or h
      obtain ⟨y_10, e_11, h⟩ := bind_or h
      rcases ite_or h with ⟨g_12, h⟩ | ⟨g_12, h⟩
      · exact RunC.go [.n 2, .r [(3, .dec true)], .n 7, .r [(4, .callL [.p (eL 2 cPublished dPublished (subL all5 (0 : Int) i7)), .p (eL 3 cValue dValue ((all5.getD i7.toNat dPublished).f0))] (.tup [.p (.int .i64 y_6.1), .p (.bool y_6.2)]) [])], .n 1, .r [(2, .call (.tup [.p (.int .i64 y_8.1), .p (.bool y_8.2)]) [])], .n 1, .r [(2, .call (.tup [.p (.int .i64 y_10.1), .p (.bool y_10.2)]) [])], .n 2, .r [(1, .dec true)], .n 4, .k [0, 1, 5, 6, 7]] (by kernel_rfl) (Obs.of (by kernel_rfl) (And.intro g_3 (And.intro g_4 (And.intro g_5 (And.intro (And.intro (fls_cons (fle_av (av_slice 2 cPublished dPublished all5 (0 : Int) i7 g_5)) (fls_cons (fle_rfl (.p (eL 3 cValue dValue ((all5.getD i7.toNat dPublished).f0)))) fls_nil)) (erasureref35_Find.spec e_7)) (And.intro (erasureref35_Find.spec e_9) (And.intro (erasureref35_Find.spec e_11) g_12))))))) (ih _ _ _ _ _ r h)
      · rcases ite_or h with ⟨g_13, h⟩ | ⟨g_13, h⟩
        · exact RunC.go [.n 2, .r [(3, .dec true)], .n 7, .r [(4, .callL [.p (eL 2 cPublished dPublished (subL all5 (0 : Int) i7)), .p (eL 3 cValue dValue ((all5.getD i7.toNat dPublished).f0))] (.tup [.p (.int .i64 y_6.1), .p (.bool y_6.2)]) [])], .n 1, .r [(2, .call (.tup [.p (.int .i64 y_8.1), .p (.bool y_8.2)]) [])], .n 1, .r [(2, .call (.tup [.p (.int .i64 y_10.1), .p (.bool y_10.2)]) [])], .n 2, .r [(1, .dec false), (5, .dec true)], .n 4, .k [0, 1, 5, 6, 7]] (by kernel_rfl) (Obs.of (by kernel_rfl) (And.intro g_3 (And.intro g_4 (And.intro g_5 (And.intro (And.intro (fls_cons (fle_av (av_slice 2 cPublished dPublished all5 (0 : Int) i7 g_5)) (fls_cons (fle_rfl (.p (eL 3 cValue dValue ((all5.getD i7.toNat dPublished).f0)))) fls_nil)) (erasureref35_Find.spec e_7)) (And.intro (erasureref35_Find.spec e_9) (And.intro (erasureref35_Find.spec e_11) (And.intro (nt g_12) g_13)))))))) (ih _ _ _ _ _ r h)
        · obtain ⟨y_14, e_15, h⟩ := bind_or h
          obtain ⟨g_16, h⟩ := ite_some h
          exact RunC.go [.n 2, .r [(3, .dec true)], .n 7, .r [(4, .callL [.p (eL 2 cPublished dPublished (subL all5 (0 : Int) i7)), .p (eL 3 cValue dValue ((all5.getD i7.toNat dPublished).f0))] (.tup [.p (.int .i64 y_6.1), .p (.bool y_6.2)]) [])], .n 1, .r [(2, .call (.tup [.p (.int .i64 y_8.1), .p (.bool y_8.2)]) [])], .n 1, .r [(2, .call (.tup [.p (.int .i64 y_10.1), .p (.bool y_10.2)]) [])], .n 2, .r [(1, .dec false), (5, .dec false)], .n 3, .r [(2, .call (.sref 0 38 3 (y_14).length) [(oL true 38 3 cValue dValue y_14)]), (7, .obj (oL true 43 2 cPublished dPublished [(TPublished.mk y_14 (IntKind.i64.wrap (y_10.1 - y_8.1)))])), (8, .obj (oL true 43 2 cPublished dPublished (out6 ++ ([(TPublished.mk y_14 (IntKind.i64.wrap (y_10.1 - y_8.1)))]))))], .n 4, .k [0, 1, 5, 6, 7, 15]] (by kernel_rfl) (Obs.of (by kernel_rfl) (And.intro g_3 (And.intro g_4 (And.intro g_5 (And.intro (And.intro (fls_cons (fle_av (av_slice 2 cPublished dPublished all5 (0 : Int) i7 g_5)) (fls_cons (fle_rfl (.p (eL 3 cValue dValue ((all5.getD i7.toNat dPublished).f0)))) fls_nil)) (erasureref35_Find.spec e_7)) (And.intro (erasureref35_Find.spec e_9) (And.intro (erasureref35_Find.spec e_11) (And.intro (nt g_12) (And.intro (nt g_13) (And.intro (erasureref26_CleanRow.spec e_15) (And.intro (le_one 43 2 cPublished dPublished (TPublished.mk y_14 (IntKind.i64.wrap (y_10.1 - y_8.1)))) (And.intro g_16 (le_app 43 2 cPublished dPublished out6 ([(TPublished.mk y_14 (IntKind.i64.wrap (y_10.1 - y_8.1)))])))))))))))))) (erasureref35_Differences.p2.run ih k _ _ _ _ _ _ r h)
    · obtain rfl := Option.some.inj h
      exact RunC.out [.n 2, .r [(3, .dec false)], .n 4] (by kernel_rfl) (Obs.of (by kernel_rfl) (nt g_3))
theorem erasureref35_Differences.run   {k : Nat} {a0 : (List TPublished)} {b1 : (List TPublished)} {r : (List TPublished)} (h : erasureref35_Differences k a0 b1 = some r) : RunC Try.prog Try.f30 erasureref35_Differences.t (erasureref35_Differences.s a0 b1) (.sref 0 43 2 (r).length) [(oL true 43 2 cPublished dPublished (r))] := by
  unfold erasureref35_Differences at h
  obtain ⟨g_1, h⟩ := ite_some h
  obtain ⟨g_2, h⟩ := ite_some h
  exact RunC.go [.n 1, .r [(0, .obj (oL true 43 2 cPublished dPublished ([] : List TPublished)))], .n 1, .r [(0, .obj (oL true 43 2 cPublished dPublished ([] : List TPublished))), (2, .obj (oL true 43 2 cPublished dPublished (([] : List TPublished) ++ a0))), (4, .obj (oL true 43 2 cPublished dPublished ((([] : List TPublished) ++ a0) ++ b1)))], .n 1, .r [(0, .obj (oL true 43 2 cPublished dPublished ([] : List TPublished)))], .n 5, .k [0, 1, 5, 6, 7]] (by kernel_rfl) (Obs.of (by kernel_rfl) (And.intro (le_nil 43 2 cPublished dPublished) (And.intro (le_build0 43 2 cPublished dPublished) (And.intro (And.intro g_1 (le_app 43 2 cPublished dPublished ([] : List TPublished) a0)) (And.intro (And.intro g_2 (le_app 43 2 cPublished dPublished (([] : List TPublished) ++ a0) b1)) (le_nil 43 2 cPublished dPublished)))))) (erasureref35_Differences.p1.run k _ _ _ _ _ r h)
theorem erasureref35_Differences.p2.mono {rec1 rec1' : (List TPublished) → (List TPublished) → Int → (List TPublished) → (List TPublished) → Option (List TPublished)} (hm1 : ∀ (a0 : (List TPublished)) (b1 : (List TPublished)) (i7 : Int) (all5 : (List TPublished)) (out6 : (List TPublished)) r, rec1 a0 b1 i7 all5 out6 = some r → rec1' a0 b1 i7 all5 out6 = some r) : ∀ (k k' : Nat) (a0 : (List TPublished)) (b1 : (List TPublished)) (i7 : Int) (j15 : Int) (all5 : (List TPublished)) (out6 : (List TPublished)) (r : (List TPublished)), k ≤ k' → erasureref35_Differences.p2 rec1 k a0 b1 i7 j15 all5 out6 = some r → erasureref35_Differences.p2 rec1' k' a0 b1 i7 j15 all5 out6 = some r := by
  intro k
  induction k with
  | zero => intro k' a0 b1 i7 j15 all5 out6 r hk h; simp [erasureref35_Differences.p2] at h
  | succ k ih =>
    intro k' a0 b1 i7 j15 all5 out6 r hk h
    obtain ⟨k', rfl⟩ : ∃ m, k' = m + 1 := ⟨k' - 1, by omega⟩
    replace hk := Nat.le_of_succ_le_succ hk
    rw [erasureref35_Differences.p2] at h ⊢
    rcases ite_or h with ⟨g_17, h⟩ | ⟨g_17, h⟩
    · refine itp g_17 ?_
      obtain ⟨g_18, h⟩ := ite_some h
      refine itp g_18 ?_
      obtain ⟨g_19, h⟩ := ite_some h
      refine itp g_19 ?_
      obtain ⟨y_20, e_21, h⟩ := bind_or h
      refine bnd (erasureref01_CompareRows.mono _ _ _ _ _ hk e_21) ?_
      rcases ite_or h with ⟨g_22, h⟩ | ⟨g_22, h⟩
      · refine itp g_22 ?_
        exact ih _ _ _ _ _ _ _ r hk h
      · refine itn g_22 ?_
        exact hm1 _ _ _ _ _ r h
    · refine itn g_17 ?_
      exact hm1 _ _ _ _ _ r h
theorem erasureref35_Differences.p1.mono   : ∀ (k k' : Nat) (a0 : (List TPublished)) (b1 : (List TPublished)) (i7 : Int) (all5 : (List TPublished)) (out6 : (List TPublished)) (r : (List TPublished)), k ≤ k' → erasureref35_Differences.p1 k a0 b1 i7 all5 out6 = some r → erasureref35_Differences.p1 k' a0 b1 i7 all5 out6 = some r := by
  intro k
  induction k with
  | zero => intro k' a0 b1 i7 all5 out6 r hk h; simp [erasureref35_Differences.p1] at h
  | succ k ih =>
    intro k' a0 b1 i7 all5 out6 r hk h
    obtain ⟨k', rfl⟩ : ∃ m, k' = m + 1 := ⟨k' - 1, by omega⟩
    replace hk := Nat.le_of_succ_le_succ hk
    rw [erasureref35_Differences.p1] at h ⊢
    rcases ite_or h with ⟨g_3, h⟩ | ⟨g_3, h⟩
    · refine itp g_3 ?_
      obtain ⟨g_4, h⟩ := ite_some h
      refine itp g_4 ?_
      obtain ⟨g_5, h⟩ := ite_some h
      refine itp g_5 ?_
      obtain ⟨y_6, e_7, h⟩ := bind_or h
      refine bnd (erasureref35_Find.mono _ _ _ _ _ hk e_7) ?_
      obtain ⟨y_8, e_9, h⟩ := bind_or h
      refine bnd (erasureref35_Find.mono _ _ _ _ _ hk e_9) ?_
      obtain ⟨y_10, e_11, h⟩ := bind_or h
      refine bnd (erasureref35_Find.mono _ _ _ _ _ hk e_11) ?_
      rcases ite_or h with ⟨g_12, h⟩ | ⟨g_12, h⟩
      · refine itp g_12 ?_
        exact ih _ _ _ _ _ _ r hk h
      · refine itn g_12 ?_
        rcases ite_or h with ⟨g_13, h⟩ | ⟨g_13, h⟩
        · refine itp g_13 ?_
          exact ih _ _ _ _ _ _ r hk h
        · refine itn g_13 ?_
          obtain ⟨y_14, e_15, h⟩ := bind_or h
          refine bnd (erasureref26_CleanRow.mono _ _ _ _ hk e_15) ?_
          obtain ⟨g_16, h⟩ := ite_some h
          refine itp g_16 ?_
          exact erasureref35_Differences.p2.mono (fun x0 x1 x2 x3 x4 r h => ih _ x0 x1 x2 x3 x4 r hk h) _ _ _ _ _ _ _ _ r hk h
    · refine itn g_3 ?_
      exact h
theorem erasureref35_Differences.mono   : ∀ (k k' : Nat) (a0 : (List TPublished)) (b1 : (List TPublished)) (r : (List TPublished)), k ≤ k' → erasureref35_Differences k a0 b1 = some r → erasureref35_Differences k' a0 b1 = some r := by
  intro k k' a0 b1 r hk h
  unfold erasureref35_Differences at h ⊢
  obtain ⟨g_1, h⟩ := ite_some h
  refine itp g_1 ?_
  obtain ⟨g_2, h⟩ := ite_some h
  refine itp g_2 ?_
  exact erasureref35_Differences.p1.mono _ _ _ _ _ _ _ r hk h
theorem erasureref35_Differences.spec {k : Nat} {a0 : (List TPublished)} {b1 : (List TPublished)} {r : (List TPublished)} (h : erasureref35_Differences k a0 b1 = some r) : Spec Try.prog 30 [.p (eL 2 cPublished dPublished a0), .p (eL 2 cPublished dPublished b1)] (.sref 0 43 2 (r).length) [(oL true 43 2 cPublished dPublished (r))] :=
  spec_of mix Try.func30 (body := bodyOf Try.f30) (by kernel_rfl) (by kernel_rfl) (erasureref35_Differences.run h)
end Go.Proofs.YtjhnpaenhdbhpaaV
set_option linter.unusedVariables false
set_option linter.unusedSimpArgs false
set_option maxRecDepth 100000
namespace Go.Proofs.YtjhnpaenhdbhpaaV
open Go Go.RowKit
noncomputable def erasurelaw35_ReleaseFinds  (k : Nat) (a0 : (List TPublished)) (b1 : (List TPublished)) (keys2 : (List TValue)) : Option Bool := (erasurelaw35_few k a0).bind fun y_1 => (if (!y_1) = true then ((erasurelaw35_awake k ).bind fun y_4 => (some y_4)) else ((erasurelaw35_few k b1).bind fun y_6 => (if (!y_6) = true then ((erasurelaw35_awake k ).bind fun y_9 => (some y_9)) else (if (decide (((keys2).length : Int) > 20)) = true then ((erasurelaw35_awake k ).bind fun y_12 => (some y_12)) else ((release_Find k a0 keys2).bind fun y_14 => ((erasureref35_Find k a0 keys2).bind fun y_16 => (if (y_14.1 == y_16.1) = true then (if (y_14.2 == y_16.2) = true then ((release_Total k a0).bind fun y_20 => ((erasureref35_Total k a0).bind fun y_22 => (if (y_20 == y_22) = true then ((release_Differences k a0 b1).bind fun y_25 => ((erasureref35_Differences k a0 b1).bind fun y_27 => ((erasureref35_Same k y_25 y_27).bind fun y_29 => (if y_29 = true then ((erasurelaw35_awake k ).bind fun y_32 => (some y_32)) else (some false))))) else (some false)))) else (some false)) else (some false))))))))
noncomputable def erasurelaw35_ReleaseFinds.t : List Item := [.code (bodyOf Try.f9)]
noncomputable def erasurelaw35_ReleaseFinds.s (a0 : (List TPublished)) (b1 : (List TPublished)) (keys2 : (List TValue)) : St := ⟨frOf Try.f9.ntmps 0 [(0, .p (eL 2 cPublished dPublished a0)), (1, .p (eL 2 cPublished dPublished b1)), (2, .p (eL 3 cValue dValue keys2))], []⟩
theorem erasurelaw35_ReleaseFinds.run   {k : Nat} {a0 : (List TPublished)} {b1 : (List TPublished)} {keys2 : (List TValue)} {r : Bool} (h : erasurelaw35_ReleaseFinds k a0 b1 keys2 = some r) : RunC Try.prog Try.f9 erasurelaw35_ReleaseFinds.t (erasurelaw35_ReleaseFinds.s a0 b1 keys2) (.p (.bool r)) [] := by
  unfold erasurelaw35_ReleaseFinds at h
  obtain ⟨y_1, e_2, h⟩ := bind_or h
  rcases ite_or h with ⟨g_3, h⟩ | ⟨g_3, h⟩
  · obtain ⟨y_4, e_5, h⟩ := bind_or h
    obtain rfl := Option.some.inj h
    exact RunC.out [.n 4, .r [(1, .call (.p (.bool y_1)) []), (3, .dec true)], .n 2, .r [(0, .call (.p (.bool y_4)) [])]] (by kernel_rfl) (Obs.of (by kernel_rfl) (And.intro (erasurelaw35_few.spec e_2) (And.intro g_3 (erasurelaw35_awake.spec e_5))))
  · obtain ⟨y_6, e_7, h⟩ := bind_or h
    rcases ite_or h with ⟨g_8, h⟩ | ⟨g_8, h⟩
    · obtain ⟨y_9, e_10, h⟩ := bind_or h
      obtain rfl := Option.some.inj h
      exact RunC.out [.n 4, .r [(1, .call (.p (.bool y_1)) []), (3, .dec false), (5, .call (.p (.bool y_6)) []), (8, .dec true)], .n 2, .r [(0, .call (.p (.bool y_9)) [])]] (by kernel_rfl) (Obs.of (by kernel_rfl) (And.intro (erasurelaw35_few.spec e_2) (And.intro (nt g_3) (And.intro (erasurelaw35_few.spec e_7) (And.intro g_8 (erasurelaw35_awake.spec e_10))))))
    · rcases ite_or h with ⟨g_11, h⟩ | ⟨g_11, h⟩
      · obtain ⟨y_12, e_13, h⟩ := bind_or h
        obtain rfl := Option.some.inj h
        exact RunC.out [.n 4, .r [(1, .call (.p (.bool y_1)) []), (3, .dec false), (5, .call (.p (.bool y_6)) []), (8, .dec false), (12, .dec true)], .n 2, .r [(0, .call (.p (.bool y_12)) [])]] (by kernel_rfl) (Obs.of (by kernel_rfl) (And.intro (erasurelaw35_few.spec e_2) (And.intro (nt g_3) (And.intro (erasurelaw35_few.spec e_7) (And.intro (nt g_8) (And.intro g_11 (erasurelaw35_awake.spec e_13)))))))
      · obtain ⟨y_14, e_15, h⟩ := bind_or h
        obtain ⟨y_16, e_17, h⟩ := bind_or h
        rcases ite_or h with ⟨g_18, h⟩ | ⟨g_18, h⟩
        · rcases ite_or h with ⟨g_19, h⟩ | ⟨g_19, h⟩
          · obtain ⟨y_20, e_21, h⟩ := bind_or h
            obtain ⟨y_22, e_23, h⟩ := bind_or h
            rcases ite_or h with ⟨g_24, h⟩ | ⟨g_24, h⟩
            · obtain ⟨y_25, e_26, h⟩ := bind_or h
              obtain ⟨y_27, e_28, h⟩ := bind_or h
              obtain ⟨y_29, e_30, h⟩ := bind_or h
              rcases ite_or h with ⟨g_31, h⟩ | ⟨g_31, h⟩
              · obtain ⟨y_32, e_33, h⟩ := bind_or h
                obtain rfl := Option.some.inj h
                exact RunC.out [.n 4, .r [(1, .call (.p (.bool y_1)) []), (3, .dec false), (5, .call (.p (.bool y_6)) []), (8, .dec false), (12, .dec false)], .n 3, .r [(2, .call (.tup [.p (.int .i64 y_14.1), .p (.bool y_14.2)]) [])], .n 1, .r [(2, .call (.tup [.p (.int .i64 y_16.1), .p (.bool y_16.2)]) [])], .n 1, .r [(3, .dec true), (8, .dec true), (10, .call (.p (.int .i64 y_20)) []), (12, .call (.p (.int .i64 y_22)) []), (15, .dec true), (18, .call (.sref 0 43 2 (y_25).length) [(oL true 43 2 cPublished dPublished y_25)]), (21, .call (.sref 0 43 2 (y_27).length) [(oL true 43 2 cPublished dPublished y_27)]), (22, .call (.p (.bool y_29)) []), (24, .dec true), (25, .call (.p (.bool y_32)) [])]] (by kernel_rfl) (Obs.of (by kernel_rfl) (And.intro (erasurelaw35_few.spec e_2) (And.intro (nt g_3) (And.intro (erasurelaw35_few.spec e_7) (And.intro (nt g_8) (And.intro (nt g_11) (And.intro (release_Find.spec e_15) (And.intro (erasureref35_Find.spec e_17) (And.intro g_18 (And.intro g_19 (And.intro (release_Total.spec e_21) (And.intro (erasureref35_Total.spec e_23) (And.intro g_24 (And.intro (release_Differences.spec e_26) (And.intro (erasureref35_Differences.spec e_28) (And.intro (erasureref35_Same.spec e_30) (And.intro g_31 (erasurelaw35_awake.spec e_33))))))))))))))))))
              · obtain rfl := Option.some.inj h
                exact RunC.out [.n 4, .r [(1, .call (.p (.bool y_1)) []), (3, .dec false), (5, .call (.p (.bool y_6)) []), (8, .dec false), (12, .dec false)], .n 3, .r [(2, .call (.tup [.p (.int .i64 y_14.1), .p (.bool y_14.2)]) [])], .n 1, .r [(2, .call (.tup [.p (.int .i64 y_16.1), .p (.bool y_16.2)]) [])], .n 1, .r [(3, .dec true), (8, .dec true), (10, .call (.p (.int .i64 y_20)) []), (12, .call (.p (.int .i64 y_22)) []), (15, .dec true), (18, .call (.sref 0 43 2 (y_25).length) [(oL true 43 2 cPublished dPublished y_25)]), (21, .call (.sref 0 43 2 (y_27).length) [(oL true 43 2 cPublished dPublished y_27)]), (22, .call (.p (.bool y_29)) []), (24, .dec false)]] (by kernel_rfl) (Obs.of (by kernel_rfl) (And.intro (erasurelaw35_few.spec e_2) (And.intro (nt g_3) (And.intro (erasurelaw35_few.spec e_7) (And.intro (nt g_8) (And.intro (nt g_11) (And.intro (release_Find.spec e_15) (And.intro (erasureref35_Find.spec e_17) (And.intro g_18 (And.intro g_19 (And.intro (release_Total.spec e_21) (And.intro (erasureref35_Total.spec e_23) (And.intro g_24 (And.intro (release_Differences.spec e_26) (And.intro (erasureref35_Differences.spec e_28) (And.intro (erasureref35_Same.spec e_30) (nt g_31)))))))))))))))))
            · obtain rfl := Option.some.inj h
              exact RunC.out [.n 4, .r [(1, .call (.p (.bool y_1)) []), (3, .dec false), (5, .call (.p (.bool y_6)) []), (8, .dec false), (12, .dec false)], .n 3, .r [(2, .call (.tup [.p (.int .i64 y_14.1), .p (.bool y_14.2)]) [])], .n 1, .r [(2, .call (.tup [.p (.int .i64 y_16.1), .p (.bool y_16.2)]) [])], .n 1, .r [(3, .dec true), (8, .dec true), (10, .call (.p (.int .i64 y_20)) []), (12, .call (.p (.int .i64 y_22)) []), (15, .dec false)]] (by kernel_rfl) (Obs.of (by kernel_rfl) (And.intro (erasurelaw35_few.spec e_2) (And.intro (nt g_3) (And.intro (erasurelaw35_few.spec e_7) (And.intro (nt g_8) (And.intro (nt g_11) (And.intro (release_Find.spec e_15) (And.intro (erasureref35_Find.spec e_17) (And.intro g_18 (And.intro g_19 (And.intro (release_Total.spec e_21) (And.intro (erasureref35_Total.spec e_23) (nt g_24)))))))))))))
          · obtain rfl := Option.some.inj h
            exact RunC.out [.n 4, .r [(1, .call (.p (.bool y_1)) []), (3, .dec false), (5, .call (.p (.bool y_6)) []), (8, .dec false), (12, .dec false)], .n 3, .r [(2, .call (.tup [.p (.int .i64 y_14.1), .p (.bool y_14.2)]) [])], .n 1, .r [(2, .call (.tup [.p (.int .i64 y_16.1), .p (.bool y_16.2)]) [])], .n 1, .r [(3, .dec true), (8, .dec false)]] (by kernel_rfl) (Obs.of (by kernel_rfl) (And.intro (erasurelaw35_few.spec e_2) (And.intro (nt g_3) (And.intro (erasurelaw35_few.spec e_7) (And.intro (nt g_8) (And.intro (nt g_11) (And.intro (release_Find.spec e_15) (And.intro (erasureref35_Find.spec e_17) (And.intro g_18 (nt g_19))))))))))
        · obtain rfl := Option.some.inj h
          exact RunC.out [.n 4, .r [(1, .call (.p (.bool y_1)) []), (3, .dec false), (5, .call (.p (.bool y_6)) []), (8, .dec false), (12, .dec false)], .n 3, .r [(2, .call (.tup [.p (.int .i64 y_14.1), .p (.bool y_14.2)]) [])], .n 1, .r [(2, .call (.tup [.p (.int .i64 y_16.1), .p (.bool y_16.2)]) [])], .n 1, .r [(3, .dec false)]] (by kernel_rfl) (Obs.of (by kernel_rfl) (And.intro (erasurelaw35_few.spec e_2) (And.intro (nt g_3) (And.intro (erasurelaw35_few.spec e_7) (And.intro (nt g_8) (And.intro (nt g_11) (And.intro (release_Find.spec e_15) (And.intro (erasureref35_Find.spec e_17) (nt g_18)))))))))
theorem erasurelaw35_ReleaseFinds.mono   : ∀ (k k' : Nat) (a0 : (List TPublished)) (b1 : (List TPublished)) (keys2 : (List TValue)) (r : Bool), k ≤ k' → erasurelaw35_ReleaseFinds k a0 b1 keys2 = some r → erasurelaw35_ReleaseFinds k' a0 b1 keys2 = some r := by
  intro k k' a0 b1 keys2 r hk h
  unfold erasurelaw35_ReleaseFinds at h ⊢
  obtain ⟨y_1, e_2, h⟩ := bind_or h
  refine bnd (erasurelaw35_few.mono _ _ _ _ hk e_2) ?_
  rcases ite_or h with ⟨g_3, h⟩ | ⟨g_3, h⟩
  · refine itp g_3 ?_
    obtain ⟨y_4, e_5, h⟩ := bind_or h
    refine bnd (erasurelaw35_awake.mono _ _  _ hk e_5) ?_
    exact h
  · refine itn g_3 ?_
    obtain ⟨y_6, e_7, h⟩ := bind_or h
    refine bnd (erasurelaw35_few.mono _ _ _ _ hk e_7) ?_
    rcases ite_or h with ⟨g_8, h⟩ | ⟨g_8, h⟩
    · refine itp g_8 ?_
      obtain ⟨y_9, e_10, h⟩ := bind_or h
      refine bnd (erasurelaw35_awake.mono _ _  _ hk e_10) ?_
      exact h
    · refine itn g_8 ?_
      rcases ite_or h with ⟨g_11, h⟩ | ⟨g_11, h⟩
      · refine itp g_11 ?_
        obtain ⟨y_12, e_13, h⟩ := bind_or h
        refine bnd (erasurelaw35_awake.mono _ _  _ hk e_13) ?_
        exact h
      · refine itn g_11 ?_
        obtain ⟨y_14, e_15, h⟩ := bind_or h
        refine bnd (release_Find.mono _ _ _ _ _ hk e_15) ?_
        obtain ⟨y_16, e_17, h⟩ := bind_or h
        refine bnd (erasureref35_Find.mono _ _ _ _ _ hk e_17) ?_
        rcases ite_or h with ⟨g_18, h⟩ | ⟨g_18, h⟩
        · refine itp g_18 ?_
          rcases ite_or h with ⟨g_19, h⟩ | ⟨g_19, h⟩
          · refine itp g_19 ?_
            obtain ⟨y_20, e_21, h⟩ := bind_or h
            refine bnd (release_Total.mono _ _ _ _ hk e_21) ?_
            obtain ⟨y_22, e_23, h⟩ := bind_or h
            refine bnd (erasureref35_Total.mono _ _ _ _ hk e_23) ?_
            rcases ite_or h with ⟨g_24, h⟩ | ⟨g_24, h⟩
            · refine itp g_24 ?_
              obtain ⟨y_25, e_26, h⟩ := bind_or h
              refine bnd (release_Differences.mono _ _ _ _ _ hk e_26) ?_
              obtain ⟨y_27, e_28, h⟩ := bind_or h
              refine bnd (erasureref35_Differences.mono _ _ _ _ _ hk e_28) ?_
              obtain ⟨y_29, e_30, h⟩ := bind_or h
              refine bnd (erasureref35_Same.mono _ _ _ _ _ hk e_30) ?_
              rcases ite_or h with ⟨g_31, h⟩ | ⟨g_31, h⟩
              · refine itp g_31 ?_
                obtain ⟨y_32, e_33, h⟩ := bind_or h
                refine bnd (erasurelaw35_awake.mono _ _  _ hk e_33) ?_
                exact h
              · refine itn g_31 ?_
                exact h
            · refine itn g_24 ?_
              exact h
          · refine itn g_19 ?_
            exact h
        · refine itn g_18 ?_
          exact h
theorem erasurelaw35_ReleaseFinds.spec {k : Nat} {a0 : (List TPublished)} {b1 : (List TPublished)} {keys2 : (List TValue)} {r : Bool} (h : erasurelaw35_ReleaseFinds k a0 b1 keys2 = some r) : Spec Try.prog 9 [.p (eL 2 cPublished dPublished a0), .p (eL 2 cPublished dPublished b1), .p (eL 3 cValue dValue keys2)] (.p (.bool r)) [] :=
  spec_of mix Try.func9 (body := bodyOf Try.f9) (by kernel_rfl) (by kernel_rfl) (erasurelaw35_ReleaseFinds.run h)
end Go.Proofs.YtjhnpaenhdbhpaaV
set_option linter.unusedVariables false
set_option linter.unusedSimpArgs false
namespace Go.Proofs.YtjhnpaenhdbhpaaV
open Go Go.RowKit
def Ev {α : Type} (g : Nat → Option α) (r : α) : Prop := ∃ K, ∀ k, K ≤ k → g k = some r
theorem Ev.now {α : Type} (r : α) : Ev (fun _ => some r) r := ⟨0, fun _ _ => rfl⟩
theorem Ev.any {α : Type} {g : Nat → Option α} {r : α} (h : ∀ k, g k = some r) : Ev g r := ⟨0, fun k _ => h k⟩
theorem Ev.done {α : Type} {a r : α} (h : a = r) : Ev (fun _ => some a) r := by subst h; exact Ev.now _
theorem Ev.bind {α β : Type} {f : Nat → Option α} {g : Nat → α → Option β} {a : α} {r : β} (h : Ev f a) (h' : Ev (fun k => g k a) r) : Ev (fun k => (f k).bind (g k)) r := by
  obtain ⟨K, h⟩ := h; obtain ⟨L, h'⟩ := h'
  exact ⟨max K L, fun k hk => by show (f k).bind (g k) = some r; rw [h k (by omega)]; exact h' k (by omega)⟩
theorem Ev.succ {α : Type} {g : Nat → Option α} {r : α} (h : Ev (fun k => g (k + 1)) r) : Ev g r := by
  obtain ⟨K, h⟩ := h
  exact ⟨K + 1, fun k hk => by obtain ⟨m, rfl⟩ : ∃ m, k = m + 1 := ⟨k - 1, by omega⟩; exact h m (by omega)⟩
theorem Ev.congr {α : Type} {f g : Nat → Option α} {r : α} (h : ∀ k, g k = f k) (k : Ev f r) : Ev g r := by rw [show g = f from funext h]; exact k
theorem Ev.ite_pos {α : Type} {g f : Nat → Option α} {r : α} {c : Prop} [Decidable c] (h : c) (k : Ev g r) : Ev (fun n => if c then g n else f n) r := Ev.congr (fun n => if_pos h) k
theorem Ev.ite_neg {α : Type} {g f : Nat → Option α} {r : α} {c : Prop} [Decidable c] (h : ¬ c) (k : Ev f r) : Ev (fun n => if c then g n else f n) r := Ev.congr (fun n => if_neg h) k
theorem Ev.of {α : Type} {g : Nat → Option α} {r : α} (m : ∀ k k', k ≤ k' → g k = some r → g k' = some r) {k : Nat} (h : g k = some r) : Ev g r := ⟨k, fun k' hk => m k k' hk h⟩
theorem Ev.some {α : Type} {g : Nat → Option α} {r : α} (h : Ev g r) : ∃ k, g k = Option.some r := by obtain ⟨K, h⟩ := h; exact ⟨K, h K (Nat.le_refl _)⟩
theorem Ev.to {α : Type} {g : Nat → Option α} {r s : α} (h : Ev g r) (e : r = s) : Ev g s := by subst e; exact h
theorem bytes_ext {a b : ByteArray} (h : a.data.toList = b.data.toList) : a = b := by
  cases a; cases b; congr 1; exact Array.toList_inj.1 h
theorem bytes_beq (a b : ByteArray) : (a.data.toList == b.data.toList) = decide (a = b) := by
  rw [Bool.eq_iff_iff, beq_iff_eq, decide_eq_true_eq]; exact ⟨bytes_ext, fun h => by rw [h]⟩
theorem loop_down {P : Nat → Prop} (n : Nat) (hend : P n) (hstep : ∀ i, i < n → P (i + 1) → P i) : ∀ i, i ≤ n → P i := by
  intro i hi
  have key : ∀ d i, i + d = n → P i := by
    intro d
    induction d with
    | zero => intro i h; have : i = n := by omega
              rw [this]; exact hend
    | succ d ih => intro i h; exact hstep i (by omega) (ih (i + 1) (by omega))
  exact key (n - i) i (by omega)
theorem wr {n : Int} (h : -9223372036854775808 ≤ n ∧ n ≤ 9223372036854775807) : IntKind.i64.wrap n = n := by rw [IntKind.wrap_i64]; omega
theorem wrn {i n : Nat} (h : i < n) (hn : n ≤ 9223372036854775807) : IntKind.i64.wrap ((i : Int) + 1) = ((i + 1 : Nat) : Int) := by rw [wr (by omega)]; omega
theorem wrp {i : Nat} (h : 0 < i) (hn : i ≤ 9223372036854775807) : IntKind.i64.wrap ((i : Int) - 1) = ((i - 1 : Nat) : Int) := by rw [wr (by omega)]; omega
theorem drop_cons {α : Type} (z : α) {l : List α} {i : Nat} (h : i < l.length) : l.drop i = l.getD (i : Int).toNat z :: l.drop (i + 1) := by
  rw [List.drop_eq_getElem_cons h]; simp [h]
theorem getD_mem {α : Type} (z : α) {l : List α} {i : Nat} (h : i < l.length) : l.getD (i : Int).toNat z ∈ l := by simp [h]
end Go.Proofs.YtjhnpaenhdbhpaaV
set_option linter.unusedVariables false
set_option linter.unusedSimpArgs false
namespace Go.Proofs.YtjhnpaenhdbhpaaV
open Go Go.RowKit
theorem V_ext {x y : TValue} (h0 : x.f0 = y.f0) (h1 : x.f1 = y.f1) (h2 : x.f2 = y.f2) : x = y := by cases x; cases y; simp_all
instance : DecidableEq TValue := fun x y => decidable_of_iff (x.f0 = y.f0 ∧ x.f1 = y.f1 ∧ x.f2 = y.f2) ⟨fun h => V_ext h.1 h.2.1 h.2.2, fun h => by subst h; exact ⟨rfl, rfl, rfl⟩⟩
def okV (x : TValue) : Bool :=
  if x.f0 = 0 then decide (x.f1 = 0) && decide (x.f2 = (⟨#[]⟩ : ByteArray))
  else if x.f0 = 1 then decide (-4294967296 ≤ x.f1 ∧ x.f1 ≤ 4294967296) && decide (x.f2 = (⟨#[]⟩ : ByteArray))
  else if x.f0 = 2 then decide (x.f1 = 0) && decide (x.f2.size ≤ 32)
  else false
def clV (x : TValue) : TValue := if okV x then x else ⟨0, 0, ⟨#[]⟩⟩
theorem beq_empty (a : ByteArray) : (a.data.toList == (#[] : Array UInt8).toList) = decide (a = (⟨#[]⟩ : ByteArray)) := bytes_beq a ⟨#[]⟩
theorem beq_nil (a : ByteArray) : (a.data.toList == ([] : List UInt8)) = decide (a = (⟨#[]⟩ : ByteArray)) := bytes_beq a ⟨#[]⟩
theorem value_Valid_eq (k : Nat) (v : TValue) : value_Valid k v = some (okV v) := by
  unfold value_Valid value_inRange okV
  simp only [beq_empty, beq_nil, beq_iff_eq, decide_eq_true_eq]
  generalize decide (v.f2 = (⟨#[]⟩ : ByteArray)) = q
  by_cases h0 : v.f0 = 0
  · simp only [if_pos h0]
    by_cases h1 : v.f1 = 0 <;> simp [h1]
  · simp only [if_neg h0]
    by_cases h1 : v.f0 = 1
    · simp only [if_pos h1]
      by_cases h2 : v.f1 ≥ -4294967296
      · rw [if_pos h2]; simp only [Option.bind_some, decide_eq_true_eq]
        by_cases h3 : v.f1 ≤ 4294967296
        · rw [if_pos h3]; simp [h3]; omega
        · rw [if_neg h3]; simp [h3]
      · rw [if_neg h2]; simp; omega
    · simp only [if_neg h1]
      by_cases h2 : v.f0 = 2
      · simp only [if_pos h2]
        by_cases h3 : v.f1 = 0
        · simp [h3]; omega
        · simp [h3]
      · simp [h2]
theorem ref01_Valid_eq (k : Nat) (v : TValue) : erasureref01_Valid k v = some (okV v) := by
  rw [← value_Valid_eq k]
  unfold erasureref01_Valid value_Valid value_inRange
  by_cases h0 : (v.f0 == 0) = true
  · simp only [if_pos h0]
  · simp only [if_neg h0]
    by_cases h1 : (v.f0 == 1) = true
    · simp only [if_pos h1]
      by_cases h2 : decide (v.f1 ≥ -4294967296) = true
      · simp only [if_pos h2, Option.bind_some]
      · simp only [if_neg h2, Option.bind_some, Bool.false_eq_true, if_false]
    · simp only [if_neg h1]
theorem value_Clean_eq (k : Nat) (x : TValue) : value_Clean k x = some (clV x) := by
  unfold value_Clean clV value_Clean.p1 value_Clean.p2
  rw [value_Valid_eq, Option.bind_some]
  by_cases h : okV x = true
  · rw [if_pos h, if_pos h]
  · rw [if_neg h, if_neg h]
theorem ref01_Clean_eq (k : Nat) (x : TValue) : erasureref01_Clean k x = some (clV x) := by
  unfold erasureref01_Clean clV erasureref01_Clean.p1 erasureref01_Clean.p2
  rw [ref01_Valid_eq, Option.bind_some]
  by_cases h : okV x = true
  · rw [if_pos h, if_pos h]
  · rw [if_neg h, if_neg h]
theorem eqV_iff (x y : TValue) : ((x.f0 == y.f0) && ((x.f1 == y.f1) && ((x.f2.data.toList == y.f2.data.toList) && true))) = decide (x = y) := by
  rw [bytes_beq, Bool.eq_iff_iff]
  simp only [Bool.and_eq_true, beq_iff_eq, decide_eq_true_eq, and_true]
  exact ⟨fun h => V_ext h.1 h.2.1 h.2.2, fun h => by subst h; exact ⟨rfl, rfl, rfl⟩⟩
theorem dV {l : List TValue} {i : Nat} (h : i < l.length) : l.drop i = l.getD (i : Int).toNat dValue :: l.drop (i + 1) := drop_cons _ h
theorem dE {l : List TEntry} {i : Nat} (h : i < l.length) : l.drop i = l.getD (i : Int).toNat dEntry :: l.drop (i + 1) := drop_cons _ h
end Go.Proofs.YtjhnpaenhdbhpaaV
set_option linter.unusedVariables false
set_option linter.unusedSimpArgs false
namespace Go.Proofs.YtjhnpaenhdbhpaaV
open Go Go.RowKit
theorem bytesLess_eq : ∀ (x y : List UInt8), Op.bytesLess x y = decide (x < y)
  | [], [] => by simp [Op.bytesLess]
  | _ :: _, [] => by simp [Op.bytesLess]
  | [], _ :: _ => by simp [Op.bytesLess]
  | a :: x, b :: y => by
    rw [Op.bytesLess, bytesLess_eq x y]
    simp only [List.cons_lt_cons_iff]
    by_cases h1 : a < b <;> by_cases h2 : a = b <;> by_cases h3 : x < y <;> simp [h1, h2, h3]
theorem gtr_flip (a b : List UInt8) : (!(Op.bytesLess a b || a == b)) = Op.bytesLess b a := by
  rw [bytesLess_eq, bytesLess_eq, Bool.eq_iff_iff]
  simp only [Bool.not_eq_true', Bool.or_eq_false_iff, decide_eq_false_iff_not, beq_eq_false_iff_ne, decide_eq_true_eq]
  constructor
  · rintro ⟨h1, h2⟩
    rcases Std.lt_trichotomy a b with h | h | h
    · exact absurd h h1
    · exact absurd h h2
    · exact h
  · intro h
    exact ⟨fun h1 => (List.lt_asymm h h1), fun h1 => by subst h1; exact List.lt_irrefl _ h⟩
theorem okV_z : okV (⟨0, 0, ⟨#[]⟩⟩ : TValue) = true := by decide +kernel
theorem okV_cl (x : TValue) : okV (clV x) = true := by
  unfold clV
  by_cases h : okV x = true
  · rw [if_pos h]; exact h
  · rw [if_neg h]; exact okV_z
theorem clV_ok {x : TValue} (h : okV x = true) : clV x = x := if_pos h
def cmpI (a b : Int) : Int := if a < b then -1 else if b < a then 1 else 0
def cmpB (a b : ByteArray) : Int := if a.data.toList < b.data.toList then -1 else if b.data.toList < a.data.toList then 1 else 0
def cmpC (a b : TValue) : Int := if a.f0 ≠ b.f0 then cmpI a.f0 b.f0 else if a.f0 = 1 then cmpI a.f1 b.f1 else cmpB a.f2 b.f2
def cmpV (x y : TValue) : Int := cmpC (clV x) (clV y)
theorem cmp_int_eq (k : Nat) (a b : Int) : cmp_Compare_int k a b = some (cmpI a b) := by
  unfold cmp_Compare_int cmp_isNaN_int cmpI
  simp only [Option.bind_some, bne_self_eq_false, Bool.false_eq_true, if_false, GT.gt, decide_eq_true_eq]
  repeat' split
  all_goals rfl
theorem cmp_int64_eq (k : Nat) (a b : Int) : cmp_Compare_int64 k a b = some (cmpI a b) := by
  unfold cmp_Compare_int64 cmp_isNaN_int64 cmpI
  simp only [Option.bind_some, bne_self_eq_false, Bool.false_eq_true, if_false, GT.gt, decide_eq_true_eq]
  repeat' split
  all_goals rfl
theorem cmp_string_eq (k : Nat) (a b : ByteArray) : cmp_Compare_string k a b = some (cmpB a b) := by
  unfold cmp_Compare_string cmp_isNaN_string cmpB
  simp only [gtr_flip]
  simp only [Option.bind_some, beq_self_eq_true, Bool.not_true, Bool.false_eq_true, if_false, bytesLess_eq, decide_eq_true_eq]
  repeat' split
  all_goals rfl
theorem value_Compare_eq (k : Nat) (x y : TValue) : value_Compare k x y = some (cmpV x y) := by
  unfold value_Compare cmpV cmpC
  rw [value_Clean_eq, value_Clean_eq]
  simp only [Option.bind_some, cmp_int_eq, cmp_int64_eq, cmp_string_eq, bne_iff_ne, beq_iff_eq]
  repeat' split
  all_goals rfl
theorem ok_cases {x : TValue} (h : okV x = true) : (x.f0 = 0 ∧ x.f1 = 0 ∧ x.f2 = (⟨#[]⟩ : ByteArray)) ∨ (x.f0 = 1 ∧ x.f2 = (⟨#[]⟩ : ByteArray)) ∨ (x.f0 = 2 ∧ x.f1 = 0) := by
  unfold okV at h
  by_cases h0 : x.f0 = 0
  · rw [if_pos h0] at h; simp at h; exact .inl ⟨h0, h.1, h.2⟩
  · rw [if_neg h0] at h
    by_cases h1 : x.f0 = 1
    · rw [if_pos h1] at h; simp at h; exact .inr (.inl ⟨h1, h.2⟩)
    · rw [if_neg h1] at h
      by_cases h2 : x.f0 = 2
      · rw [if_pos h2] at h; simp at h; exact .inr (.inr ⟨h2, h.1⟩)
      · rw [if_neg h2] at h; cases h
theorem cmpI_zero {a b : Int} : cmpI a b = 0 ↔ a = b := by unfold cmpI; split <;> (try split) <;> omega
theorem cmpI_neg {a b : Int} : cmpI a b < 0 ↔ a < b := by unfold cmpI; split <;> (try split) <;> omega
theorem cmpI_swap (a b : Int) : cmpI b a = - cmpI a b := by unfold cmpI; split <;> split <;> omega
theorem listlt_tri (a b : List UInt8) : a < b ∨ a = b ∨ b < a := Std.lt_trichotomy a b
theorem cmpB_zero {a b : ByteArray} : cmpB a b = 0 ↔ a = b := by
  unfold cmpB
  by_cases h : a.data.toList < b.data.toList
  · rw [if_pos h]; exact ⟨fun e => by omega, fun e => by subst e; exact absurd h (List.lt_irrefl _)⟩
  · rw [if_neg h]
    by_cases h2 : b.data.toList < a.data.toList
    · rw [if_pos h2]; exact ⟨fun e => by omega, fun e => by subst e; exact absurd h2 (List.lt_irrefl _)⟩
    · rw [if_neg h2]
      exact ⟨fun _ => by rcases listlt_tri a.data.toList b.data.toList with h3 | h3 | h3
                         · exact absurd h3 h
                         · exact bytes_ext h3
                         · exact absurd h3 h2, fun _ => rfl⟩
theorem cmpB_neg {a b : ByteArray} : cmpB a b < 0 ↔ a.data.toList < b.data.toList := by
  unfold cmpB
  by_cases h : a.data.toList < b.data.toList
  · rw [if_pos h]; exact ⟨fun _ => h, fun _ => by omega⟩
  · rw [if_neg h]; exact ⟨fun e => by split at e <;> omega, fun e => absurd e h⟩
theorem cmpB_swap (a b : ByteArray) : cmpB b a = - cmpB a b := by
  unfold cmpB
  by_cases h : a.data.toList < b.data.toList
  · have h2 : ¬ b.data.toList < a.data.toList := fun h2 => List.lt_asymm h h2
    rw [if_pos h, if_neg h2, if_pos h]; rfl
  · by_cases h2 : b.data.toList < a.data.toList
    · simp only [h, h2, if_true, if_false]
    · simp only [h, h2, if_false]; rfl
theorem cmpC_swap (a b : TValue) : cmpC b a = - cmpC a b := by
  unfold cmpC
  by_cases h : a.f0 = b.f0
  · have h' := h.symm
    simp only [ne_eq, h, not_true, if_false]
    by_cases h1 : b.f0 = 1
    · rw [if_pos h1, if_pos h1]; exact cmpI_swap _ _
    · rw [if_neg h1, if_neg h1]; exact cmpB_swap _ _
  · have h' : b.f0 ≠ a.f0 := fun e => h e.symm
    rw [if_pos h', if_pos h]; exact cmpI_swap _ _
theorem cmpC_zero {a b : TValue} (ha : okV a = true) (hb : okV b = true) : cmpC a b = 0 ↔ a = b := by
  unfold cmpC
  by_cases h : a.f0 = b.f0
  · simp only [ne_eq, h, not_true, if_false]
    rcases ok_cases ha with ⟨a0, a1, a2⟩ | ⟨a0, a2⟩ | ⟨a0, a1⟩ <;> rcases ok_cases hb with ⟨b0, b1, b2⟩ | ⟨b0, b2⟩ | ⟨b0, b1⟩ <;> (try (rw [a0, b0] at h; omega))
    · rw [if_neg (by omega), cmpB_zero]; exact ⟨fun e => V_ext h (by omega) e, fun e => by rw [e]⟩
    · rw [if_pos b0, cmpI_zero]; exact ⟨fun e => V_ext h e (a2.trans b2.symm), fun e => by rw [e]⟩
    · rw [if_neg (by omega), cmpB_zero]; exact ⟨fun e => V_ext h (by omega) e, fun e => by rw [e]⟩
  · rw [if_pos h, cmpI_zero]; exact ⟨fun e => absurd e h, fun e => absurd (by rw [e]) h⟩
theorem cmpC_neg {a b : TValue} (ha : okV a = true) (hb : okV b = true) : cmpC a b < 0 ↔ (a.f0 < b.f0 ∨ (a.f0 = b.f0 ∧ (a.f1 < b.f1 ∨ a.f2.data.toList < b.f2.data.toList))) := by
  unfold cmpC
  by_cases h : a.f0 = b.f0
  · simp only [ne_eq, h, not_true, if_false, Int.lt_irrefl, false_or, true_and]
    rcases ok_cases ha with ⟨a0, a1, a2⟩ | ⟨a0, a2⟩ | ⟨a0, a1⟩ <;> rcases ok_cases hb with ⟨b0, b1, b2⟩ | ⟨b0, b2⟩ | ⟨b0, b1⟩ <;> (try (rw [a0, b0] at h; omega))
    · rw [if_neg (by omega), cmpB_neg, a1, b1]; simp
    · rw [if_pos b0, cmpI_neg, a2, b2]; exact ⟨.inl, fun e => e.elim id (fun e => absurd e (List.lt_irrefl _))⟩
    · rw [if_neg (by omega), cmpB_neg, a1, b1]; simp
  · rw [if_pos h, cmpI_neg]; exact ⟨.inl, fun e => e.elim id (fun e => absurd e.1 h)⟩
end Go.Proofs.YtjhnpaenhdbhpaaV
