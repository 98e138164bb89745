/- Part of the proof of CacheFresh: printed by programs of this repo out of the translation, and by hand. Each theorem's conditions stand in its statement. -/
import Derived.Test.YtjhnpaenhdbhpacProg
import Derived.Test.YtjhnpaenhdbhpacMCacheFresha
import Derived.Test.YtjhnpaenhdbhpacMCacheFreshb
import Derived.Test.YtjhnpaenhdbhpacMCacheFreshc
set_option linter.unusedVariables false
set_option linter.unusedSimpArgs false
set_option maxRecDepth 100000
namespace Go.Proofs.YtjhnpaenhdbhpacV
open Go Go.RowKit
noncomputable def erasureref01_Compare  (k : Nat) (a0 : TValue) (b1 : TValue) : Option Int := (erasureref01_Clean k a0).bind fun y_1 => ((erasureref01_Clean k b1).bind fun y_3 => (if ((y_1.f0 == y_3.f0) && ((y_1.f1 == y_3.f1) && ((y_1.f2.data.toList == y_3.f2.data.toList) && true))) = true then (some 0) else (if (decide (y_1.f0 < y_3.f0)) = true then (some (-1)) else (if (y_1.f0 == y_3.f0) = true then (if (decide (y_1.f1 < y_3.f1)) = true then (some (-1)) else (if (Op.bytesLess y_1.f2.data.toList y_3.f2.data.toList) = true then (some (-1)) else (some 1))) else (some 1)))))
noncomputable def erasureref01_Compare.t : List Item := [.code (bodyOf Try.f75)]
noncomputable def erasureref01_Compare.s (a0 : TValue) (b1 : TValue) : St := ⟨frOf Try.f75.ntmps 0 [(0, .agg ((cValue a0).map .p)), (1, .agg ((cValue b1).map .p))], []⟩
theorem erasureref01_Compare.run   {k : Nat} {a0 : TValue} {b1 : TValue} {r : Int} (h : erasureref01_Compare k a0 b1 = some r) : RunC Try.prog Try.f75 erasureref01_Compare.t (erasureref01_Compare.s a0 b1) (.p (.int .i64 r)) [] := by
  unfold erasureref01_Compare at h
  obtain ⟨y_1, e_2, h⟩ := bind_or h
  obtain ⟨y_3, e_4, h⟩ := bind_or h
  rcases ite_or h with ⟨g_5, h⟩ | ⟨g_5, h⟩
  · obtain rfl := Option.some.inj h
    exact RunC.out [.n 3, .r [(1, .call (.agg ((cValue y_1).map .p)) []), (3, .call (.agg ((cValue y_3).map .p)) [])], .n 2, .r [(2, .dec true)], .n 3] (by kernel_rfl) (Obs.of (by kernel_rfl) (And.intro (erasureref01_Clean.spec e_2) (And.intro (erasureref01_Clean.spec e_4) g_5)))
  · rcases ite_or h with ⟨g_6, h⟩ | ⟨g_6, h⟩
    · obtain rfl := Option.some.inj h
      exact RunC.out [.n 3, .r [(1, .call (.agg ((cValue y_1).map .p)) []), (3, .call (.agg ((cValue y_3).map .p)) [])], .n 2, .r [(2, .dec false)], .n 4, .r [(5, .dec true)], .n 3] (by kernel_rfl) (Obs.of (by kernel_rfl) (And.intro (erasureref01_Clean.spec e_2) (And.intro (erasureref01_Clean.spec e_4) (And.intro (nt g_5) g_6))))
    · rcases ite_or h with ⟨g_7, h⟩ | ⟨g_7, h⟩
      · rcases ite_or h with ⟨g_8, h⟩ | ⟨g_8, h⟩
        · obtain rfl := Option.some.inj h
          exact RunC.out [.n 3, .r [(1, .call (.agg ((cValue y_1).map .p)) []), (3, .call (.agg ((cValue y_3).map .p)) [])], .n 2, .r [(2, .dec false)], .n 4, .r [(5, .dec false), (11, .dec true), (17, .dec true)], .n 3] (by kernel_rfl) (Obs.of (by kernel_rfl) (And.intro (erasureref01_Clean.spec e_2) (And.intro (erasureref01_Clean.spec e_4) (And.intro (nt g_5) (And.intro (nt g_6) (And.intro g_7 g_8))))))
        · rcases ite_or h with ⟨g_9, h⟩ | ⟨g_9, h⟩
          · obtain rfl := Option.some.inj h
            exact RunC.out [.n 3, .r [(1, .call (.agg ((cValue y_1).map .p)) []), (3, .call (.agg ((cValue y_3).map .p)) [])], .n 2, .r [(2, .dec false)], .n 4, .r [(5, .dec false), (11, .dec true), (17, .dec false), (25, .dec true)], .n 3] (by kernel_rfl) (Obs.of (by kernel_rfl) (And.intro (erasureref01_Clean.spec e_2) (And.intro (erasureref01_Clean.spec e_4) (And.intro (nt g_5) (And.intro (nt g_6) (And.intro g_7 (And.intro (nt g_8) g_9)))))))
          · obtain rfl := Option.some.inj h
            exact RunC.out [.n 3, .r [(1, .call (.agg ((cValue y_1).map .p)) []), (3, .call (.agg ((cValue y_3).map .p)) [])], .n 2, .r [(2, .dec false)], .n 4, .r [(5, .dec false), (11, .dec true), (17, .dec false), (25, .dec false)], .n 4] (by kernel_rfl) (Obs.of (by kernel_rfl) (And.intro (erasureref01_Clean.spec e_2) (And.intro (erasureref01_Clean.spec e_4) (And.intro (nt g_5) (And.intro (nt g_6) (And.intro g_7 (And.intro (nt g_8) (nt g_9))))))))
      · obtain rfl := Option.some.inj h
        exact RunC.out [.n 3, .r [(1, .call (.agg ((cValue y_1).map .p)) []), (3, .call (.agg ((cValue y_3).map .p)) [])], .n 2, .r [(2, .dec false)], .n 4, .r [(5, .dec false), (11, .dec false)], .n 4] (by kernel_rfl) (Obs.of (by kernel_rfl) (And.intro (erasureref01_Clean.spec e_2) (And.intro (erasureref01_Clean.spec e_4) (And.intro (nt g_5) (And.intro (nt g_6) (nt g_7))))))
theorem erasureref01_Compare.mono   : ∀ (k k' : Nat) (a0 : TValue) (b1 : TValue) (r : Int), k ≤ k' → erasureref01_Compare k a0 b1 = some r → erasureref01_Compare k' a0 b1 = some r := by
  intro k k' a0 b1 r hk h
  unfold erasureref01_Compare at h ⊢
  obtain ⟨y_1, e_2, h⟩ := bind_or h
  refine bnd (erasureref01_Clean.mono _ _ _ _ hk e_2) ?_
  obtain ⟨y_3, e_4, h⟩ := bind_or h
  refine bnd (erasureref01_Clean.mono _ _ _ _ hk e_4) ?_
  rcases ite_or h with ⟨g_5, h⟩ | ⟨g_5, h⟩
  · refine itp g_5 ?_
    exact h
  · refine itn g_5 ?_
    rcases ite_or h with ⟨g_6, h⟩ | ⟨g_6, h⟩
    · refine itp g_6 ?_
      exact h
    · refine itn g_6 ?_
      rcases ite_or h with ⟨g_7, h⟩ | ⟨g_7, h⟩
      · refine itp g_7 ?_
        rcases ite_or h with ⟨g_8, h⟩ | ⟨g_8, h⟩
        · refine itp g_8 ?_
          exact h
        · refine itn g_8 ?_
          rcases ite_or h with ⟨g_9, h⟩ | ⟨g_9, h⟩
          · refine itp g_9 ?_
            exact h
          · refine itn g_9 ?_
            exact h
      · refine itn g_7 ?_
        exact h
theorem erasureref01_Compare.spec {k : Nat} {a0 : TValue} {b1 : TValue} {r : Int} (h : erasureref01_Compare k a0 b1 = some r) : Spec Try.prog 75 [.agg ((cValue a0).map .p), .agg ((cValue b1).map .p)] (.p (.int .i64 r)) [] :=
  spec_of mix Try.func75 (body := bodyOf Try.f75) (by kernel_rfl) (by kernel_rfl) (erasureref01_Compare.run h)
end Go.Proofs.YtjhnpaenhdbhpacV
set_option linter.unusedVariables false
set_option linter.unusedSimpArgs false
set_option maxRecDepth 100000
namespace Go.Proofs.YtjhnpaenhdbhpacV
open Go Go.RowKit
noncomputable def erasureref01_CompareRows.p1  : Nat → (List TValue) → (List TValue) → Int → Option Int
  | 0, _, _, _ => none
  | k + 1, a0, b1, i5 => if (decide (i5 < ((a0).length : Int))) = true then (if (decide (i5 < ((b1).length : Int))) = true then (if 0 ≤ i5 ∧ i5 < ((a0).length : Int) then (if 0 ≤ i5 ∧ i5 < ((b1).length : Int) then ((erasureref01_Compare k (a0.getD i5.toNat dValue) (b1.getD i5.toNat dValue)).bind fun y_5 => (if (y_5 != 0) = true then (some y_5) else (erasureref01_CompareRows.p1 k a0 b1 (IntKind.i64.wrap (i5 + 1))))) else none) else none) else (if (decide (((a0).length : Int) < ((b1).length : Int))) = true then (some (-1)) else (if (decide (((a0).length : Int) > ((b1).length : Int))) = true then (some 1) else (some 0)))) else (if (decide (((a0).length : Int) < ((b1).length : Int))) = true then (some (-1)) else (if (decide (((a0).length : Int) > ((b1).length : Int))) = true then (some 1) else (some 0)))
noncomputable def erasureref01_CompareRows  (k : Nat) (a0 : (List TValue)) (b1 : (List TValue)) : Option Int := erasureref01_CompareRows.p1 k a0 b1 0
noncomputable def erasureref01_CompareRows.t : List Item := [.code (bodyOf Try.f55)]
noncomputable def erasureref01_CompareRows.s (a0 : (List TValue)) (b1 : (List TValue)) : St := ⟨frOf Try.f55.ntmps 0 [(0, .p (eL 3 cValue dValue a0)), (1, .p (eL 3 cValue dValue b1))], []⟩
noncomputable def erasureref01_CompareRows.p1.t : List Item := nav 7 [] erasureref01_CompareRows.t
noncomputable def erasureref01_CompareRows.p1.s (a0 : (List TValue)) (b1 : (List TValue)) (i5 : Int) : St := ⟨frOf Try.f55.ntmps 0 [(0, .p (eL 3 cValue dValue a0)), (1, .p (eL 3 cValue dValue b1)), (5, .p (.int .i64 i5))], []⟩
theorem erasureref01_CompareRows.p1.run   : ∀ (k : Nat) (a0 : (List TValue)) (b1 : (List TValue)) (i5 : Int) (r : Int), erasureref01_CompareRows.p1 k a0 b1 i5 = some r → RunC Try.prog Try.f55 erasureref01_CompareRows.p1.t (erasureref01_CompareRows.p1.s a0 b1 i5) (.p (.int .i64 r)) [] := by
  intro k
  induction k with
  | zero => intro a0 b1 i5 r h; simp [erasureref01_CompareRows.p1] at h
  | succ k ih =>
    intro a0 b1 i5 r h
    rw [erasureref01_CompareRows.p1] at h
    rcases ite_or h with ⟨g_1, h⟩ | ⟨g_1, h⟩
    · rcases ite_or h with ⟨g_2, h⟩ | ⟨g_2, h⟩
      · obtain ⟨g_3, h⟩ := ite_some h
        obtain ⟨g_4, h⟩ := ite_some h
        obtain ⟨y_5, e_6, h⟩ := bind_or h
        rcases ite_or h with ⟨g_7, h⟩ | ⟨g_7, h⟩
        · obtain rfl := Option.some.inj h
          exact RunC.out [.n 2, .r [(4, .dec true), (9, .dec true)], .n 5, .r [(8, .call (.p (.int .i64 y_5)) [])], .n 1, .r [(1, .dec true)], .n 3] (by kernel_rfl) (Obs.of (by kernel_rfl) (And.intro g_1 (And.intro g_2 (And.intro g_3 (And.intro g_4 (And.intro (erasureref01_Compare.spec e_6) g_7))))))
        · exact RunC.go [.n 2, .r [(4, .dec true), (9, .dec true)], .n 5, .r [(8, .call (.p (.int .i64 y_5)) [])], .n 1, .r [(1, .dec false)], .n 5, .k [0, 1, 5]] (by kernel_rfl) (Obs.of (by kernel_rfl) (And.intro g_1 (And.intro g_2 (And.intro g_3 (And.intro g_4 (And.intro (erasureref01_Compare.spec e_6) (nt g_7))))))) (ih _ _ _ r h)
      · rcases ite_or h with ⟨g_8, h⟩ | ⟨g_8, h⟩
        · obtain rfl := Option.some.inj h
          exact RunC.out [.n 2, .r [(4, .dec true), (9, .dec false)], .n 5, .r [(5, .dec true)], .n 3] (by kernel_rfl) (Obs.of (by kernel_rfl) (And.intro g_1 (And.intro (nt g_2) g_8)))
        · rcases ite_or h with ⟨g_9, h⟩ | ⟨g_9, h⟩
          · obtain rfl := Option.some.inj h
            exact RunC.out [.n 2, .r [(4, .dec true), (9, .dec false)], .n 5, .r [(5, .dec false)], .n 2, .r [(5, .dec true)], .n 3] (by kernel_rfl) (Obs.of (by kernel_rfl) (And.intro g_1 (And.intro (nt g_2) (And.intro (nt g_8) g_9))))
          · obtain rfl := Option.some.inj h
            exact RunC.out [.n 2, .r [(4, .dec true), (9, .dec false)], .n 5, .r [(5, .dec false)], .n 2, .r [(5, .dec false)], .n 5] (by kernel_rfl) (Obs.of (by kernel_rfl) (And.intro g_1 (And.intro (nt g_2) (And.intro (nt g_8) (nt g_9)))))
    · rcases ite_or h with ⟨g_10, h⟩ | ⟨g_10, h⟩
      · obtain rfl := Option.some.inj h
        exact RunC.out [.n 2, .r [(4, .dec false)], .n 5, .r [(5, .dec true)], .n 3] (by kernel_rfl) (Obs.of (by kernel_rfl) (And.intro (nt g_1) g_10))
      · rcases ite_or h with ⟨g_11, h⟩ | ⟨g_11, h⟩
        · obtain rfl := Option.some.inj h
          exact RunC.out [.n 2, .r [(4, .dec false)], .n 5, .r [(5, .dec false)], .n 2, .r [(5, .dec true)], .n 3] (by kernel_rfl) (Obs.of (by kernel_rfl) (And.intro (nt g_1) (And.intro (nt g_10) g_11)))
        · obtain rfl := Option.some.inj h
          exact RunC.out [.n 2, .r [(4, .dec false)], .n 5, .r [(5, .dec false)], .n 2, .r [(5, .dec false)], .n 5] (by kernel_rfl) (Obs.of (by kernel_rfl) (And.intro (nt g_1) (And.intro (nt g_10) (nt g_11))))
theorem erasureref01_CompareRows.run   {k : Nat} {a0 : (List TValue)} {b1 : (List TValue)} {r : Int} (h : erasureref01_CompareRows k a0 b1 = some r) : RunC Try.prog Try.f55 erasureref01_CompareRows.t (erasureref01_CompareRows.s a0 b1) (.p (.int .i64 r)) [] := by
  unfold erasureref01_CompareRows at h
  exact RunC.go [.n 7, .k [0, 1, 5]] (by kernel_rfl) (Obs.tt (by kernel_rfl)) (erasureref01_CompareRows.p1.run k _ _ _ r h)
theorem erasureref01_CompareRows.p1.mono   : ∀ (k k' : Nat) (a0 : (List TValue)) (b1 : (List TValue)) (i5 : Int) (r : Int), k ≤ k' → erasureref01_CompareRows.p1 k a0 b1 i5 = some r → erasureref01_CompareRows.p1 k' a0 b1 i5 = some r := by
  intro k
  induction k with
  | zero => intro k' a0 b1 i5 r hk h; simp [erasureref01_CompareRows.p1] at h
  | succ k ih =>
    intro k' a0 b1 i5 r hk h
    obtain ⟨k', rfl⟩ : ∃ m, k' = m + 1 := ⟨k' - 1, by omega⟩
    replace hk := Nat.le_of_succ_le_succ hk
    rw [erasureref01_CompareRows.p1] at h ⊢
    rcases ite_or h with ⟨g_1, h⟩ | ⟨g_1, h⟩
    · refine itp g_1 ?_
      rcases ite_or h with ⟨g_2, h⟩ | ⟨g_2, h⟩
      · refine itp g_2 ?_
        obtain ⟨g_3, h⟩ := ite_some h
        refine itp g_3 ?_
        obtain ⟨g_4, h⟩ := ite_some h
        refine itp g_4 ?_
        obtain ⟨y_5, e_6, h⟩ := bind_or h
        refine bnd (erasureref01_Compare.mono _ _ _ _ _ hk e_6) ?_
        rcases ite_or h with ⟨g_7, h⟩ | ⟨g_7, h⟩
        · refine itp g_7 ?_
          exact h
        · refine itn g_7 ?_
          exact ih _ _ _ _ r hk h
      · refine itn g_2 ?_
        rcases ite_or h with ⟨g_8, h⟩ | ⟨g_8, h⟩
        · refine itp g_8 ?_
          exact h
        · refine itn g_8 ?_
          rcases ite_or h with ⟨g_9, h⟩ | ⟨g_9, h⟩
          · refine itp g_9 ?_
            exact h
          · refine itn g_9 ?_
            exact h
    · refine itn g_1 ?_
      rcases ite_or h with ⟨g_10, h⟩ | ⟨g_10, h⟩
      · refine itp g_10 ?_
        exact h
      · refine itn g_10 ?_
        rcases ite_or h with ⟨g_11, h⟩ | ⟨g_11, h⟩
        · refine itp g_11 ?_
          exact h
        · refine itn g_11 ?_
          exact h
theorem erasureref01_CompareRows.mono   : ∀ (k k' : Nat) (a0 : (List TValue)) (b1 : (List TValue)) (r : Int), k ≤ k' → erasureref01_CompareRows k a0 b1 = some r → erasureref01_CompareRows k' a0 b1 = some r := by
  intro k k' a0 b1 r hk h
  unfold erasureref01_CompareRows at h ⊢
  exact erasureref01_CompareRows.p1.mono _ _ _ _ _ r hk h
theorem erasureref01_CompareRows.spec {k : Nat} {a0 : (List TValue)} {b1 : (List TValue)} {r : Int} (h : erasureref01_CompareRows k a0 b1 = some r) : Spec Try.prog 55 [.p (eL 3 cValue dValue a0), .p (eL 3 cValue dValue b1)] (.p (.int .i64 r)) [] :=
  spec_of mix Try.func55 (body := bodyOf Try.f55) (by kernel_rfl) (by kernel_rfl) (erasureref01_CompareRows.run h)
end Go.Proofs.YtjhnpaenhdbhpacV
set_option linter.unusedVariables false
set_option linter.unusedSimpArgs false
set_option maxRecDepth 100000
namespace Go.Proofs.YtjhnpaenhdbhpacV
open Go Go.RowKit
noncomputable def erasureref06_merge.p1  : Nat → (List TEntry) → (List TEntry) → Int → Int → (List TEntry) → Option (List TEntry)
  | 0, _, _, _, _, _ => none
  | k + 1, a0, b1, i6, k7, out5 => if (decide (i6 < ((a0).length : Int))) = true then (if (i6 == ((a0).length : Int)) = true then (if (decide (1 < 0)) = true then (if 0 ≤ i6 ∧ i6 < ((a0).length : Int) then (if (out5).length + ([(a0.getD i6.toNat dEntry)]).length ≤ maxLen ∧ ((out5).length + ([(a0.getD i6.toNat dEntry)]).length) * 32 ≤ 140737488355328 then (erasureref06_merge.p1 k a0 b1 (IntKind.i64.wrap (i6 + 1)) k7 (out5 ++ ([(a0.getD i6.toNat dEntry)]))) else none) else none) else (if (decide (1 > 0)) = true then (if 0 ≤ k7 ∧ k7 < ((b1).length : Int) then (if (out5).length + ([(b1.getD k7.toNat dEntry)]).length ≤ maxLen ∧ ((out5).length + ([(b1.getD k7.toNat dEntry)]).length) * 32 ≤ 140737488355328 then (erasureref06_merge.p1 k a0 b1 i6 (IntKind.i64.wrap (k7 + 1)) (out5 ++ ([(b1.getD k7.toNat dEntry)]))) else none) else none) else (if 0 ≤ i6 ∧ i6 < ((a0).length : Int) then (if 0 ≤ k7 ∧ k7 < ((b1).length : Int) then (if ((IntKind.i64.wrap ((a0.getD i6.toNat dEntry).f1 + (b1.getD k7.toNat dEntry).f1)) != 0) = true then (if (out5).length + ([(TEntry.mk ((a0.getD i6.toNat dEntry).f0) (IntKind.i64.wrap ((a0.getD i6.toNat dEntry).f1 + (b1.getD k7.toNat dEntry).f1)))]).length ≤ maxLen ∧ ((out5).length + ([(TEntry.mk ((a0.getD i6.toNat dEntry).f0) (IntKind.i64.wrap ((a0.getD i6.toNat dEntry).f1 + (b1.getD k7.toNat dEntry).f1)))]).length) * 32 ≤ 140737488355328 then (erasureref06_merge.p1 k a0 b1 (IntKind.i64.wrap (i6 + 1)) (IntKind.i64.wrap (k7 + 1)) (out5 ++ ([(TEntry.mk ((a0.getD i6.toNat dEntry).f0) (IntKind.i64.wrap ((a0.getD i6.toNat dEntry).f1 + (b1.getD k7.toNat dEntry).f1)))]))) else none) else (erasureref06_merge.p1 k a0 b1 (IntKind.i64.wrap (i6 + 1)) (IntKind.i64.wrap (k7 + 1)) out5)) else none) else none))) else (if (k7 == ((b1).length : Int)) = true then (if (decide ((-1) < 0)) = true then (if 0 ≤ i6 ∧ i6 < ((a0).length : Int) then (if (out5).length + ([(a0.getD i6.toNat dEntry)]).length ≤ maxLen ∧ ((out5).length + ([(a0.getD i6.toNat dEntry)]).length) * 32 ≤ 140737488355328 then (erasureref06_merge.p1 k a0 b1 (IntKind.i64.wrap (i6 + 1)) k7 (out5 ++ ([(a0.getD i6.toNat dEntry)]))) else none) else none) else (if (decide ((-1) > 0)) = true then (if 0 ≤ k7 ∧ k7 < ((b1).length : Int) then (if (out5).length + ([(b1.getD k7.toNat dEntry)]).length ≤ maxLen ∧ ((out5).length + ([(b1.getD k7.toNat dEntry)]).length) * 32 ≤ 140737488355328 then (erasureref06_merge.p1 k a0 b1 i6 (IntKind.i64.wrap (k7 + 1)) (out5 ++ ([(b1.getD k7.toNat dEntry)]))) else none) else none) else (if 0 ≤ i6 ∧ i6 < ((a0).length : Int) then (if 0 ≤ k7 ∧ k7 < ((b1).length : Int) then (if ((IntKind.i64.wrap ((a0.getD i6.toNat dEntry).f1 + (b1.getD k7.toNat dEntry).f1)) != 0) = true then (if (out5).length + ([(TEntry.mk ((a0.getD i6.toNat dEntry).f0) (IntKind.i64.wrap ((a0.getD i6.toNat dEntry).f1 + (b1.getD k7.toNat dEntry).f1)))]).length ≤ maxLen ∧ ((out5).length + ([(TEntry.mk ((a0.getD i6.toNat dEntry).f0) (IntKind.i64.wrap ((a0.getD i6.toNat dEntry).f1 + (b1.getD k7.toNat dEntry).f1)))]).length) * 32 ≤ 140737488355328 then (erasureref06_merge.p1 k a0 b1 (IntKind.i64.wrap (i6 + 1)) (IntKind.i64.wrap (k7 + 1)) (out5 ++ ([(TEntry.mk ((a0.getD i6.toNat dEntry).f0) (IntKind.i64.wrap ((a0.getD i6.toNat dEntry).f1 + (b1.getD k7.toNat dEntry).f1)))]))) else none) else (erasureref06_merge.p1 k a0 b1 (IntKind.i64.wrap (i6 + 1)) (IntKind.i64.wrap (k7 + 1)) out5)) else none) else none))) else (if 0 ≤ i6 ∧ i6 < ((a0).length : Int) then (if 0 ≤ k7 ∧ k7 < ((b1).length : Int) then ((erasureref01_CompareRows k ((a0.getD i6.toNat dEntry).f0) ((b1.getD k7.toNat dEntry).f0)).bind fun y_26 => (if (decide (y_26 < 0)) = true then (if (out5).length + ([(a0.getD i6.toNat dEntry)]).length ≤ maxLen ∧ ((out5).length + ([(a0.getD i6.toNat dEntry)]).length) * 32 ≤ 140737488355328 then (erasureref06_merge.p1 k a0 b1 (IntKind.i64.wrap (i6 + 1)) k7 (out5 ++ ([(a0.getD i6.toNat dEntry)]))) else none) else (if (decide (y_26 > 0)) = true then (if (out5).length + ([(b1.getD k7.toNat dEntry)]).length ≤ maxLen ∧ ((out5).length + ([(b1.getD k7.toNat dEntry)]).length) * 32 ≤ 140737488355328 then (erasureref06_merge.p1 k a0 b1 i6 (IntKind.i64.wrap (k7 + 1)) (out5 ++ ([(b1.getD k7.toNat dEntry)]))) else none) else (if ((IntKind.i64.wrap ((a0.getD i6.toNat dEntry).f1 + (b1.getD k7.toNat dEntry).f1)) != 0) = true then (if (out5).length + ([(TEntry.mk ((a0.getD i6.toNat dEntry).f0) (IntKind.i64.wrap ((a0.getD i6.toNat dEntry).f1 + (b1.getD k7.toNat dEntry).f1)))]).length ≤ maxLen ∧ ((out5).length + ([(TEntry.mk ((a0.getD i6.toNat dEntry).f0) (IntKind.i64.wrap ((a0.getD i6.toNat dEntry).f1 + (b1.getD k7.toNat dEntry).f1)))]).length) * 32 ≤ 140737488355328 then (erasureref06_merge.p1 k a0 b1 (IntKind.i64.wrap (i6 + 1)) (IntKind.i64.wrap (k7 + 1)) (out5 ++ ([(TEntry.mk ((a0.getD i6.toNat dEntry).f0) (IntKind.i64.wrap ((a0.getD i6.toNat dEntry).f1 + (b1.getD k7.toNat dEntry).f1)))]))) else none) else (erasureref06_merge.p1 k a0 b1 (IntKind.i64.wrap (i6 + 1)) (IntKind.i64.wrap (k7 + 1)) out5))))) else none) else none))) else (if (decide (k7 < ((b1).length : Int))) = true then (if (i6 == ((a0).length : Int)) = true then (if (decide (1 < 0)) = true then (if 0 ≤ i6 ∧ i6 < ((a0).length : Int) then (if (out5).length + ([(a0.getD i6.toNat dEntry)]).length ≤ maxLen ∧ ((out5).length + ([(a0.getD i6.toNat dEntry)]).length) * 32 ≤ 140737488355328 then (erasureref06_merge.p1 k a0 b1 (IntKind.i64.wrap (i6 + 1)) k7 (out5 ++ ([(a0.getD i6.toNat dEntry)]))) else none) else none) else (if (decide (1 > 0)) = true then (if 0 ≤ k7 ∧ k7 < ((b1).length : Int) then (if (out5).length + ([(b1.getD k7.toNat dEntry)]).length ≤ maxLen ∧ ((out5).length + ([(b1.getD k7.toNat dEntry)]).length) * 32 ≤ 140737488355328 then (erasureref06_merge.p1 k a0 b1 i6 (IntKind.i64.wrap (k7 + 1)) (out5 ++ ([(b1.getD k7.toNat dEntry)]))) else none) else none) else (if 0 ≤ i6 ∧ i6 < ((a0).length : Int) then (if 0 ≤ k7 ∧ k7 < ((b1).length : Int) then (if ((IntKind.i64.wrap ((a0.getD i6.toNat dEntry).f1 + (b1.getD k7.toNat dEntry).f1)) != 0) = true then (if (out5).length + ([(TEntry.mk ((a0.getD i6.toNat dEntry).f0) (IntKind.i64.wrap ((a0.getD i6.toNat dEntry).f1 + (b1.getD k7.toNat dEntry).f1)))]).length ≤ maxLen ∧ ((out5).length + ([(TEntry.mk ((a0.getD i6.toNat dEntry).f0) (IntKind.i64.wrap ((a0.getD i6.toNat dEntry).f1 + (b1.getD k7.toNat dEntry).f1)))]).length) * 32 ≤ 140737488355328 then (erasureref06_merge.p1 k a0 b1 (IntKind.i64.wrap (i6 + 1)) (IntKind.i64.wrap (k7 + 1)) (out5 ++ ([(TEntry.mk ((a0.getD i6.toNat dEntry).f0) (IntKind.i64.wrap ((a0.getD i6.toNat dEntry).f1 + (b1.getD k7.toNat dEntry).f1)))]))) else none) else (erasureref06_merge.p1 k a0 b1 (IntKind.i64.wrap (i6 + 1)) (IntKind.i64.wrap (k7 + 1)) out5)) else none) else none))) else (if (k7 == ((b1).length : Int)) = true then (if (decide ((-1) < 0)) = true then (if 0 ≤ i6 ∧ i6 < ((a0).length : Int) then (if (out5).length + ([(a0.getD i6.toNat dEntry)]).length ≤ maxLen ∧ ((out5).length + ([(a0.getD i6.toNat dEntry)]).length) * 32 ≤ 140737488355328 then (erasureref06_merge.p1 k a0 b1 (IntKind.i64.wrap (i6 + 1)) k7 (out5 ++ ([(a0.getD i6.toNat dEntry)]))) else none) else none) else (if (decide ((-1) > 0)) = true then (if 0 ≤ k7 ∧ k7 < ((b1).length : Int) then (if (out5).length + ([(b1.getD k7.toNat dEntry)]).length ≤ maxLen ∧ ((out5).length + ([(b1.getD k7.toNat dEntry)]).length) * 32 ≤ 140737488355328 then (erasureref06_merge.p1 k a0 b1 i6 (IntKind.i64.wrap (k7 + 1)) (out5 ++ ([(b1.getD k7.toNat dEntry)]))) else none) else none) else (if 0 ≤ i6 ∧ i6 < ((a0).length : Int) then (if 0 ≤ k7 ∧ k7 < ((b1).length : Int) then (if ((IntKind.i64.wrap ((a0.getD i6.toNat dEntry).f1 + (b1.getD k7.toNat dEntry).f1)) != 0) = true then (if (out5).length + ([(TEntry.mk ((a0.getD i6.toNat dEntry).f0) (IntKind.i64.wrap ((a0.getD i6.toNat dEntry).f1 + (b1.getD k7.toNat dEntry).f1)))]).length ≤ maxLen ∧ ((out5).length + ([(TEntry.mk ((a0.getD i6.toNat dEntry).f0) (IntKind.i64.wrap ((a0.getD i6.toNat dEntry).f1 + (b1.getD k7.toNat dEntry).f1)))]).length) * 32 ≤ 140737488355328 then (erasureref06_merge.p1 k a0 b1 (IntKind.i64.wrap (i6 + 1)) (IntKind.i64.wrap (k7 + 1)) (out5 ++ ([(TEntry.mk ((a0.getD i6.toNat dEntry).f0) (IntKind.i64.wrap ((a0.getD i6.toNat dEntry).f1 + (b1.getD k7.toNat dEntry).f1)))]))) else none) else (erasureref06_merge.p1 k a0 b1 (IntKind.i64.wrap (i6 + 1)) (IntKind.i64.wrap (k7 + 1)) out5)) else none) else none))) else (if 0 ≤ i6 ∧ i6 < ((a0).length : Int) then (if 0 ≤ k7 ∧ k7 < ((b1).length : Int) then ((erasureref01_CompareRows k ((a0.getD i6.toNat dEntry).f0) ((b1.getD k7.toNat dEntry).f0)).bind fun y_59 => (if (decide (y_59 < 0)) = true then (if (out5).length + ([(a0.getD i6.toNat dEntry)]).length ≤ maxLen ∧ ((out5).length + ([(a0.getD i6.toNat dEntry)]).length) * 32 ≤ 140737488355328 then (erasureref06_merge.p1 k a0 b1 (IntKind.i64.wrap (i6 + 1)) k7 (out5 ++ ([(a0.getD i6.toNat dEntry)]))) else none) else (if (decide (y_59 > 0)) = true then (if (out5).length + ([(b1.getD k7.toNat dEntry)]).length ≤ maxLen ∧ ((out5).length + ([(b1.getD k7.toNat dEntry)]).length) * 32 ≤ 140737488355328 then (erasureref06_merge.p1 k a0 b1 i6 (IntKind.i64.wrap (k7 + 1)) (out5 ++ ([(b1.getD k7.toNat dEntry)]))) else none) else (if ((IntKind.i64.wrap ((a0.getD i6.toNat dEntry).f1 + (b1.getD k7.toNat dEntry).f1)) != 0) = true then (if (out5).length + ([(TEntry.mk ((a0.getD i6.toNat dEntry).f0) (IntKind.i64.wrap ((a0.getD i6.toNat dEntry).f1 + (b1.getD k7.toNat dEntry).f1)))]).length ≤ maxLen ∧ ((out5).length + ([(TEntry.mk ((a0.getD i6.toNat dEntry).f0) (IntKind.i64.wrap ((a0.getD i6.toNat dEntry).f1 + (b1.getD k7.toNat dEntry).f1)))]).length) * 32 ≤ 140737488355328 then (erasureref06_merge.p1 k a0 b1 (IntKind.i64.wrap (i6 + 1)) (IntKind.i64.wrap (k7 + 1)) (out5 ++ ([(TEntry.mk ((a0.getD i6.toNat dEntry).f0) (IntKind.i64.wrap ((a0.getD i6.toNat dEntry).f1 + (b1.getD k7.toNat dEntry).f1)))]))) else none) else (erasureref06_merge.p1 k a0 b1 (IntKind.i64.wrap (i6 + 1)) (IntKind.i64.wrap (k7 + 1)) out5))))) else none) else none))) else (some out5))
noncomputable def erasureref06_merge  (k : Nat) (a0 : (List TEntry)) (b1 : (List TEntry)) : Option (List TEntry) := erasureref06_merge.p1 k a0 b1 0 0 ([] : List TEntry)
noncomputable def erasureref06_merge.t : List Item := [.code (bodyOf Try.f37)]
noncomputable def erasureref06_merge.s (a0 : (List TEntry)) (b1 : (List TEntry)) : St := ⟨frOf Try.f37.ntmps 0 [(0, .p (eL 2 cEntry dEntry a0)), (1, .p (eL 2 cEntry dEntry b1))], []⟩
noncomputable def erasureref06_merge.p1.t : List Item := nav 9 [] erasureref06_merge.t
noncomputable def erasureref06_merge.p1.s (a0 : (List TEntry)) (b1 : (List TEntry)) (i6 : Int) (k7 : Int) (out5 : (List TEntry)) : St := ⟨frOf Try.f37.ntmps 0 [(0, .p (eL 2 cEntry dEntry a0)), (1, .p (eL 2 cEntry dEntry b1)), (5, .sref 0 42 2 (out5).length), (6, .p (.int .i64 i6)), (7, .p (.int .i64 k7))], [(oL true 42 2 cEntry dEntry out5)]⟩
theorem erasureref06_merge.p1.run   : ∀ (k : Nat) (a0 : (List TEntry)) (b1 : (List TEntry)) (i6 : Int) (k7 : Int) (out5 : (List TEntry)) (r : (List TEntry)), erasureref06_merge.p1 k a0 b1 i6 k7 out5 = some r → RunC Try.prog Try.f37 erasureref06_merge.p1.t (erasureref06_merge.p1.s a0 b1 i6 k7 out5) (.sref 0 42 2 (r).length) [(oL true 42 2 cEntry dEntry (r))] := by
  intro k
  induction k with
  | zero => intro a0 b1 i6 k7 out5 r h; simp [erasureref06_merge.p1] at h
  | succ k ih =>
    intro a0 b1 i6 k7 out5 r h
    rw [erasureref06_merge.p1] at h
    rcases ite_or h with ⟨g_1, h⟩ | ⟨g_1, h⟩
    · rcases ite_or h with ⟨g_2, h⟩ | ⟨g_2, h⟩
      · rcases ite_or h with ⟨g_3, h⟩ | ⟨g_3, h⟩
        · obtain ⟨g_4, h⟩ := ite_some h
          obtain ⟨g_5, h⟩ := ite_some h
          exact RunC.go [.n 2, .r [(4, .dec true)], .n 8, .r [(4, .dec true)], .n 5, .r [(2, .dec true)], .n 2, .r [(5, .obj (oL true 42 2 cEntry dEntry [(a0.getD i6.toNat dEntry)])), (6, .obj (oL true 42 2 cEntry dEntry (out5 ++ ([(a0.getD i6.toNat dEntry)]))))], .n 4, .k [0, 1, 5, 6, 7]] (by kernel_rfl) (Obs.of (by kernel_rfl) (And.intro g_1 (And.intro g_2 (And.intro g_3 (And.intro g_4 (And.intro (le_one 42 2 cEntry dEntry (a0.getD i6.toNat dEntry)) (And.intro g_5 (le_app 42 2 cEntry dEntry out5 ([(a0.getD i6.toNat dEntry)]))))))))) (ih _ _ _ _ _ r h)
        · rcases ite_or h with ⟨g_6, h⟩ | ⟨g_6, h⟩
          · obtain ⟨g_7, h⟩ := ite_some h
            obtain ⟨g_8, h⟩ := ite_some h
            exact RunC.go [.n 2, .r [(4, .dec true)], .n 8, .r [(4, .dec true)], .n 5, .r [(2, .dec false)], .n 2, .r [(2, .dec true)], .n 2, .r [(5, .obj (oL true 42 2 cEntry dEntry [(b1.getD k7.toNat dEntry)])), (6, .obj (oL true 42 2 cEntry dEntry (out5 ++ ([(b1.getD k7.toNat dEntry)]))))], .n 4, .k [0, 1, 5, 6, 7]] (by kernel_rfl) (Obs.of (by kernel_rfl) (And.intro g_1 (And.intro g_2 (And.intro (nt g_3) (And.intro g_6 (And.intro g_7 (And.intro (le_one 42 2 cEntry dEntry (b1.getD k7.toNat dEntry)) (And.intro g_8 (le_app 42 2 cEntry dEntry out5 ([(b1.getD k7.toNat dEntry)])))))))))) (ih _ _ _ _ _ r h)
          · obtain ⟨g_9, h⟩ := ite_some h
            obtain ⟨g_10, h⟩ := ite_some h
            rcases ite_or h with ⟨g_11, h⟩ | ⟨g_11, h⟩
            · obtain ⟨g_12, h⟩ := ite_some h
              exact RunC.go [.n 2, .r [(4, .dec true)], .n 8, .r [(4, .dec true)], .n 5, .r [(2, .dec false)], .n 2, .r [(2, .dec false)], .n 5, .r [(1, .dec true)], .n 1, .r [(8, .obj (oL true 42 2 cEntry dEntry [(TEntry.mk ((a0.getD i6.toNat dEntry).f0) (IntKind.i64.wrap ((a0.getD i6.toNat dEntry).f1 + (b1.getD k7.toNat dEntry).f1)))])), (9, .obj (oL true 42 2 cEntry dEntry (out5 ++ ([(TEntry.mk ((a0.getD i6.toNat dEntry).f0) (IntKind.i64.wrap ((a0.getD i6.toNat dEntry).f1 + (b1.getD k7.toNat dEntry).f1)))]))))], .n 6, .k [0, 1, 5, 6, 7]] (by kernel_rfl) (Obs.of (by kernel_rfl) (And.intro g_1 (And.intro g_2 (And.intro (nt g_3) (And.intro (nt g_6) (And.intro g_9 (And.intro g_10 (And.intro g_11 (And.intro g_9 (And.intro (le_one 42 2 cEntry dEntry (TEntry.mk ((a0.getD i6.toNat dEntry).f0) (IntKind.i64.wrap ((a0.getD i6.toNat dEntry).f1 + (b1.getD k7.toNat dEntry).f1)))) (And.intro g_12 (le_app 42 2 cEntry dEntry out5 ([(TEntry.mk ((a0.getD i6.toNat dEntry).f0) (IntKind.i64.wrap ((a0.getD i6.toNat dEntry).f1 + (b1.getD k7.toNat dEntry).f1)))]))))))))))))) (ih _ _ _ _ _ r h)
            · exact RunC.go [.n 2, .r [(4, .dec true)], .n 8, .r [(4, .dec true)], .n 5, .r [(2, .dec false)], .n 2, .r [(2, .dec false)], .n 5, .r [(1, .dec false)], .n 8, .k [0, 1, 5, 6, 7]] (by kernel_rfl) (Obs.of (by kernel_rfl) (And.intro g_1 (And.intro g_2 (And.intro (nt g_3) (And.intro (nt g_6) (And.intro g_9 (And.intro g_10 (nt g_11)))))))) (ih _ _ _ _ _ r h)
      · rcases ite_or h with ⟨g_13, h⟩ | ⟨g_13, h⟩
        · rcases ite_or h with ⟨g_14, h⟩ | ⟨g_14, h⟩
          · obtain ⟨g_15, h⟩ := ite_some h
            obtain ⟨g_16, h⟩ := ite_some h
            exact RunC.go [.n 2, .r [(4, .dec true)], .n 8, .r [(4, .dec false)], .n 2, .r [(4, .dec true)], .n 5, .r [(2, .dec true)], .n 2, .r [(5, .obj (oL true 42 2 cEntry dEntry [(a0.getD i6.toNat dEntry)])), (6, .obj (oL true 42 2 cEntry dEntry (out5 ++ ([(a0.getD i6.toNat dEntry)]))))], .n 4, .k [0, 1, 5, 6, 7]] (by kernel_rfl) (Obs.of (by kernel_rfl) (And.intro g_1 (And.intro (nt g_2) (And.intro g_13 (And.intro g_14 (And.intro g_15 (And.intro (le_one 42 2 cEntry dEntry (a0.getD i6.toNat dEntry)) (And.intro g_16 (le_app 42 2 cEntry dEntry out5 ([(a0.getD i6.toNat dEntry)])))))))))) (ih _ _ _ _ _ r h)
          · rcases ite_or h with ⟨g_17, h⟩ | ⟨g_17, h⟩
            · obtain ⟨g_18, h⟩ := ite_some h
              obtain ⟨g_19, h⟩ := ite_some h
              exact RunC.go [.n 2, .r [(4, .dec true)], .n 8, .r [(4, .dec false)], .n 2, .r [(4, .dec true)], .n 5, .r [(2, .dec false)], .n 2, .r [(2, .dec true)], .n 2, .r [(5, .obj (oL true 42 2 cEntry dEntry [(b1.getD k7.toNat dEntry)])), (6, .obj (oL true 42 2 cEntry dEntry (out5 ++ ([(b1.getD k7.toNat dEntry)]))))], .n 4, .k [0, 1, 5, 6, 7]] (by kernel_rfl) (Obs.of (by kernel_rfl) (And.intro g_1 (And.intro (nt g_2) (And.intro g_13 (And.intro (nt g_14) (And.intro g_17 (And.intro g_18 (And.intro (le_one 42 2 cEntry dEntry (b1.getD k7.toNat dEntry)) (And.intro g_19 (le_app 42 2 cEntry dEntry out5 ([(b1.getD k7.toNat dEntry)]))))))))))) (ih _ _ _ _ _ r h)
            · obtain ⟨g_20, h⟩ := ite_some h
              obtain ⟨g_21, h⟩ := ite_some h
              rcases ite_or h with ⟨g_22, h⟩ | ⟨g_22, h⟩
              · obtain ⟨g_23, h⟩ := ite_some h
                exact RunC.go [.n 2, .r [(4, .dec true)], .n 8, .r [(4, .dec false)], .n 2, .r [(4, .dec true)], .n 5, .r [(2, .dec false)], .n 2, .r [(2, .dec false)], .n 5, .r [(1, .dec true)], .n 1, .r [(8, .obj (oL true 42 2 cEntry dEntry [(TEntry.mk ((a0.getD i6.toNat dEntry).f0) (IntKind.i64.wrap ((a0.getD i6.toNat dEntry).f1 + (b1.getD k7.toNat dEntry).f1)))])), (9, .obj (oL true 42 2 cEntry dEntry (out5 ++ ([(TEntry.mk ((a0.getD i6.toNat dEntry).f0) (IntKind.i64.wrap ((a0.getD i6.toNat dEntry).f1 + (b1.getD k7.toNat dEntry).f1)))]))))], .n 6, .k [0, 1, 5, 6, 7]] (by kernel_rfl) (Obs.of (by kernel_rfl) (And.intro g_1 (And.intro (nt g_2) (And.intro g_13 (And.intro (nt g_14) (And.intro (nt g_17) (And.intro g_20 (And.intro g_21 (And.intro g_22 (And.intro g_20 (And.intro (le_one 42 2 cEntry dEntry (TEntry.mk ((a0.getD i6.toNat dEntry).f0) (IntKind.i64.wrap ((a0.getD i6.toNat dEntry).f1 + (b1.getD k7.toNat dEntry).f1)))) (And.intro g_23 (le_app 42 2 cEntry dEntry out5 ([(TEntry.mk ((a0.getD i6.toNat dEntry).f0) (IntKind.i64.wrap ((a0.getD i6.toNat dEntry).f1 + (b1.getD k7.toNat dEntry).f1)))])))))))))))))) (ih _ _ _ _ _ r h)
              · exact RunC.go [.n 2, .r [(4, .dec true)], .n 8, .r [(4, .dec false)], .n 2, .r [(4, .dec true)], .n 5, .r [(2, .dec false)], .n 2, .r [(2, .dec false)], .n 5, .r [(1, .dec false)], .n 8, .k [0, 1, 5, 6, 7]] (by kernel_rfl) (Obs.of (by kernel_rfl) (And.intro g_1 (And.intro (nt g_2) (And.intro g_13 (And.intro (nt g_14) (And.intro (nt g_17) (And.intro g_20 (And.intro g_21 (nt g_22))))))))) (ih _ _ _ _ _ r h)
        · obtain ⟨g_24, h⟩ := ite_some h
          obtain ⟨g_25, h⟩ := ite_some h
          obtain ⟨y_26, e_27, h⟩ := bind_or h
          rcases ite_or h with ⟨g_28, h⟩ | ⟨g_28, h⟩
          · obtain ⟨g_29, h⟩ := ite_some h
            exact RunC.go [.n 2, .r [(4, .dec true)], .n 8, .r [(4, .dec false)], .n 2, .r [(4, .dec false)], .n 1, .r [(10, .call (.p (.int .i64 y_26)) [])], .n 3, .r [(2, .dec true)], .n 2, .r [(5, .obj (oL true 42 2 cEntry dEntry [(a0.getD i6.toNat dEntry)])), (6, .obj (oL true 42 2 cEntry dEntry (out5 ++ ([(a0.getD i6.toNat dEntry)]))))], .n 4, .k [0, 1, 5, 6, 7]] (by kernel_rfl) (Obs.of (by kernel_rfl) (And.intro g_1 (And.intro (nt g_2) (And.intro (nt g_13) (And.intro g_24 (And.intro g_25 (And.intro (erasureref01_CompareRows.spec e_27) (And.intro g_28 (And.intro g_24 (And.intro (le_one 42 2 cEntry dEntry (a0.getD i6.toNat dEntry)) (And.intro g_29 (le_app 42 2 cEntry dEntry out5 ([(a0.getD i6.toNat dEntry)]))))))))))))) (ih _ _ _ _ _ r h)
          · rcases ite_or h with ⟨g_30, h⟩ | ⟨g_30, h⟩
            · obtain ⟨g_31, h⟩ := ite_some h
              exact RunC.go [.n 2, .r [(4, .dec true)], .n 8, .r [(4, .dec false)], .n 2, .r [(4, .dec false)], .n 1, .r [(10, .call (.p (.int .i64 y_26)) [])], .n 3, .r [(2, .dec false)], .n 2, .r [(2, .dec true)], .n 2, .r [(5, .obj (oL true 42 2 cEntry dEntry [(b1.getD k7.toNat dEntry)])), (6, .obj (oL true 42 2 cEntry dEntry (out5 ++ ([(b1.getD k7.toNat dEntry)]))))], .n 4, .k [0, 1, 5, 6, 7]] (by kernel_rfl) (Obs.of (by kernel_rfl) (And.intro g_1 (And.intro (nt g_2) (And.intro (nt g_13) (And.intro g_24 (And.intro g_25 (And.intro (erasureref01_CompareRows.spec e_27) (And.intro (nt g_28) (And.intro g_30 (And.intro g_25 (And.intro (le_one 42 2 cEntry dEntry (b1.getD k7.toNat dEntry)) (And.intro g_31 (le_app 42 2 cEntry dEntry out5 ([(b1.getD k7.toNat dEntry)])))))))))))))) (ih _ _ _ _ _ r h)
            · rcases ite_or h with ⟨g_32, h⟩ | ⟨g_32, h⟩
              · obtain ⟨g_33, h⟩ := ite_some h
                exact RunC.go [.n 2, .r [(4, .dec true)], .n 8, .r [(4, .dec false)], .n 2, .r [(4, .dec false)], .n 1, .r [(10, .call (.p (.int .i64 y_26)) [])], .n 3, .r [(2, .dec false)], .n 2, .r [(2, .dec false)], .n 5, .r [(1, .dec true)], .n 1, .r [(8, .obj (oL true 42 2 cEntry dEntry [(TEntry.mk ((a0.getD i6.toNat dEntry).f0) (IntKind.i64.wrap ((a0.getD i6.toNat dEntry).f1 + (b1.getD k7.toNat dEntry).f1)))])), (9, .obj (oL true 42 2 cEntry dEntry (out5 ++ ([(TEntry.mk ((a0.getD i6.toNat dEntry).f0) (IntKind.i64.wrap ((a0.getD i6.toNat dEntry).f1 + (b1.getD k7.toNat dEntry).f1)))]))))], .n 6, .k [0, 1, 5, 6, 7]] (by kernel_rfl) (Obs.of (by kernel_rfl) (And.intro g_1 (And.intro (nt g_2) (And.intro (nt g_13) (And.intro g_24 (And.intro g_25 (And.intro (erasureref01_CompareRows.spec e_27) (And.intro (nt g_28) (And.intro (nt g_30) (And.intro g_24 (And.intro g_25 (And.intro g_32 (And.intro g_24 (And.intro (le_one 42 2 cEntry dEntry (TEntry.mk ((a0.getD i6.toNat dEntry).f0) (IntKind.i64.wrap ((a0.getD i6.toNat dEntry).f1 + (b1.getD k7.toNat dEntry).f1)))) (And.intro g_33 (le_app 42 2 cEntry dEntry out5 ([(TEntry.mk ((a0.getD i6.toNat dEntry).f0) (IntKind.i64.wrap ((a0.getD i6.toNat dEntry).f1 + (b1.getD k7.toNat dEntry).f1)))]))))))))))))))))) (ih _ _ _ _ _ r h)
              · exact RunC.go [.n 2, .r [(4, .dec true)], .n 8, .r [(4, .dec false)], .n 2, .r [(4, .dec false)], .n 1, .r [(10, .call (.p (.int .i64 y_26)) [])], .n 3, .r [(2, .dec false)], .n 2, .r [(2, .dec false)], .n 5, .r [(1, .dec false)], .n 8, .k [0, 1, 5, 6, 7]] (by kernel_rfl) (Obs.of (by kernel_rfl) (And.intro g_1 (And.intro (nt g_2) (And.intro (nt g_13) (And.intro g_24 (And.intro g_25 (And.intro (erasureref01_CompareRows.spec e_27) (And.intro (nt g_28) (And.intro (nt g_30) (And.intro g_24 (And.intro g_25 (nt g_32)))))))))))) (ih _ _ _ _ _ r h)
    · rcases ite_or h with ⟨g_34, h⟩ | ⟨g_34, h⟩
      · rcases ite_or h with ⟨g_35, h⟩ | ⟨g_35, h⟩
        · rcases ite_or h with ⟨g_36, h⟩ | ⟨g_36, h⟩
          · obtain ⟨g_37, h⟩ := ite_some h
            obtain ⟨g_38, h⟩ := ite_some h
            exact RunC.go [.n 2, .r [(4, .dec false), (9, .dec true)], .n 8, .r [(4, .dec true)], .n 5, .r [(2, .dec true)], .n 2, .r [(5, .obj (oL true 42 2 cEntry dEntry [(a0.getD i6.toNat dEntry)])), (6, .obj (oL true 42 2 cEntry dEntry (out5 ++ ([(a0.getD i6.toNat dEntry)]))))], .n 4, .k [0, 1, 5, 6, 7]] (by kernel_rfl) (Obs.of (by kernel_rfl) (And.intro (nt g_1) (And.intro g_34 (And.intro g_35 (And.intro g_36 (And.intro g_37 (And.intro (le_one 42 2 cEntry dEntry (a0.getD i6.toNat dEntry)) (And.intro g_38 (le_app 42 2 cEntry dEntry out5 ([(a0.getD i6.toNat dEntry)])))))))))) (ih _ _ _ _ _ r h)
          · rcases ite_or h with ⟨g_39, h⟩ | ⟨g_39, h⟩
            · obtain ⟨g_40, h⟩ := ite_some h
              obtain ⟨g_41, h⟩ := ite_some h
              exact RunC.go [.n 2, .r [(4, .dec false), (9, .dec true)], .n 8, .r [(4, .dec true)], .n 5, .r [(2, .dec false)], .n 2, .r [(2, .dec true)], .n 2, .r [(5, .obj (oL true 42 2 cEntry dEntry [(b1.getD k7.toNat dEntry)])), (6, .obj (oL true 42 2 cEntry dEntry (out5 ++ ([(b1.getD k7.toNat dEntry)]))))], .n 4, .k [0, 1, 5, 6, 7]] (by kernel_rfl) (Obs.of (by kernel_rfl) (And.intro (nt g_1) (And.intro g_34 (And.intro g_35 (And.intro (nt g_36) (And.intro g_39 (And.intro g_40 (And.intro (le_one 42 2 cEntry dEntry (b1.getD k7.toNat dEntry)) (And.intro g_41 (le_app 42 2 cEntry dEntry out5 ([(b1.getD k7.toNat dEntry)]))))))))))) (ih _ _ _ _ _ r h)
            · obtain ⟨g_42, h⟩ := ite_some h
              obtain ⟨g_43, h⟩ := ite_some h
              rcases ite_or h with ⟨g_44, h⟩ | ⟨g_44, h⟩
              · obtain ⟨g_45, h⟩ := ite_some h
                exact RunC.go [.n 2, .r [(4, .dec false), (9, .dec true)], .n 8, .r [(4, .dec true)], .n 5, .r [(2, .dec false)], .n 2, .r [(2, .dec false)], .n 5, .r [(1, .dec true)], .n 1, .r [(8, .obj (oL true 42 2 cEntry dEntry [(TEntry.mk ((a0.getD i6.toNat dEntry).f0) (IntKind.i64.wrap ((a0.getD i6.toNat dEntry).f1 + (b1.getD k7.toNat dEntry).f1)))])), (9, .obj (oL true 42 2 cEntry dEntry (out5 ++ ([(TEntry.mk ((a0.getD i6.toNat dEntry).f0) (IntKind.i64.wrap ((a0.getD i6.toNat dEntry).f1 + (b1.getD k7.toNat dEntry).f1)))]))))], .n 6, .k [0, 1, 5, 6, 7]] (by kernel_rfl) (Obs.of (by kernel_rfl) (And.intro (nt g_1) (And.intro g_34 (And.intro g_35 (And.intro (nt g_36) (And.intro (nt g_39) (And.intro g_42 (And.intro g_43 (And.intro g_44 (And.intro g_42 (And.intro (le_one 42 2 cEntry dEntry (TEntry.mk ((a0.getD i6.toNat dEntry).f0) (IntKind.i64.wrap ((a0.getD i6.toNat dEntry).f1 + (b1.getD k7.toNat dEntry).f1)))) (And.intro g_45 (le_app 42 2 cEntry dEntry out5 ([(TEntry.mk ((a0.getD i6.toNat dEntry).f0) (IntKind.i64.wrap ((a0.getD i6.toNat dEntry).f1 + (b1.getD k7.toNat dEntry).f1)))])))))))))))))) (ih _ _ _ _ _ r h)
              · exact RunC.go [.n 2, .r [(4, .dec false), (9, .dec true)], .n 8, .r [(4, .dec true)], .n 5, .r [(2, .dec false)], .n 2, .r [(2, .dec false)], .n 5, .r [(1, .dec false)], .n 8, .k [0, 1, 5, 6, 7]] (by kernel_rfl) (Obs.of (by kernel_rfl) (And.intro (nt g_1) (And.intro g_34 (And.intro g_35 (And.intro (nt g_36) (And.intro (nt g_39) (And.intro g_42 (And.intro g_43 (nt g_44))))))))) (ih _ _ _ _ _ r h)
        · rcases ite_or h with ⟨g_46, h⟩ | ⟨g_46, h⟩
          · rcases ite_or h with ⟨g_47, h⟩ | ⟨g_47, h⟩
            · obtain ⟨g_48, h⟩ := ite_some h
              obtain ⟨g_49, h⟩ := ite_some h
              exact RunC.go [.n 2, .r [(4, .dec false), (9, .dec true)], .n 8, .r [(4, .dec false)], .n 2, .r [(4, .dec true)], .n 5, .r [(2, .dec true)], .n 2, .r [(5, .obj (oL true 42 2 cEntry dEntry [(a0.getD i6.toNat dEntry)])), (6, .obj (oL true 42 2 cEntry dEntry (out5 ++ ([(a0.getD i6.toNat dEntry)]))))], .n 4, .k [0, 1, 5, 6, 7]] (by kernel_rfl) (Obs.of (by kernel_rfl) (And.intro (nt g_1) (And.intro g_34 (And.intro (nt g_35) (And.intro g_46 (And.intro g_47 (And.intro g_48 (And.intro (le_one 42 2 cEntry dEntry (a0.getD i6.toNat dEntry)) (And.intro g_49 (le_app 42 2 cEntry dEntry out5 ([(a0.getD i6.toNat dEntry)]))))))))))) (ih _ _ _ _ _ r h)
            · rcases ite_or h with ⟨g_50, h⟩ | ⟨g_50, h⟩
              · obtain ⟨g_51, h⟩ := ite_some h
                obtain ⟨g_52, h⟩ := ite_some h
                exact RunC.go [.n 2, .r [(4, .dec false), (9, .dec true)], .n 8, .r [(4, .dec false)], .n 2, .r [(4, .dec true)], .n 5, .r [(2, .dec false)], .n 2, .r [(2, .dec true)], .n 2, .r [(5, .obj (oL true 42 2 cEntry dEntry [(b1.getD k7.toNat dEntry)])), (6, .obj (oL true 42 2 cEntry dEntry (out5 ++ ([(b1.getD k7.toNat dEntry)]))))], .n 4, .k [0, 1, 5, 6, 7]] (by kernel_rfl) (Obs.of (by kernel_rfl) (And.intro (nt g_1) (And.intro g_34 (And.intro (nt g_35) (And.intro g_46 (And.intro (nt g_47) (And.intro g_50 (And.intro g_51 (And.intro (le_one 42 2 cEntry dEntry (b1.getD k7.toNat dEntry)) (And.intro g_52 (le_app 42 2 cEntry dEntry out5 ([(b1.getD k7.toNat dEntry)])))))))))))) (ih _ _ _ _ _ r h)
              · obtain ⟨g_53, h⟩ := ite_some h
                obtain ⟨g_54, h⟩ := ite_some h
                rcases ite_or h with ⟨g_55, h⟩ | ⟨g_55, h⟩
                · obtain ⟨g_56, h⟩ := ite_some h
                  exact RunC.go [.n 2, .r [(4, .dec false), (9, .dec true)], .n 8, .r [(4, .dec false)], .n 2, .r [(4, .dec true)], .n 5, .r [(2, .dec false)], .n 2, .r [(2, .dec false)], .n 5, .r [(1, .dec true)], .n 1, .r [(8, .obj (oL true 42 2 cEntry dEntry [(TEntry.mk ((a0.getD i6.toNat dEntry).f0) (IntKind.i64.wrap ((a0.getD i6.toNat dEntry).f1 + (b1.getD k7.toNat dEntry).f1)))])), (9, .obj (oL true 42 2 cEntry dEntry (out5 ++ ([(TEntry.mk ((a0.getD i6.toNat dEntry).f0) (IntKind.i64.wrap ((a0.getD i6.toNat dEntry).f1 + (b1.getD k7.toNat dEntry).f1)))]))))], .n 6, .k [0, 1, 5, 6, 7]] (by kernel_rfl) (Obs.of (by kernel_rfl) (And.intro (nt g_1) (And.intro g_34 (And.intro (nt g_35) (And.intro g_46 (And.intro (nt g_47) (And.intro (nt g_50) (And.intro g_53 (And.intro g_54 (And.intro g_55 (And.intro g_53 (And.intro (le_one 42 2 cEntry dEntry (TEntry.mk ((a0.getD i6.toNat dEntry).f0) (IntKind.i64.wrap ((a0.getD i6.toNat dEntry).f1 + (b1.getD k7.toNat dEntry).f1)))) (And.intro g_56 (le_app 42 2 cEntry dEntry out5 ([(TEntry.mk ((a0.getD i6.toNat dEntry).f0) (IntKind.i64.wrap ((a0.getD i6.toNat dEntry).f1 + (b1.getD k7.toNat dEntry).f1)))]))))))))))))))) (ih _ _ _ _ _ r h)
                · exact RunC.go [.n 2, .r [(4, .dec false), (9, .dec true)], .n 8, .r [(4, .dec false)], .n 2, .r [(4, .dec true)], .n 5, .r [(2, .dec false)], .n 2, .r [(2, .dec false)], .n 5, .r [(1, .dec false)], .n 8, .k [0, 1, 5, 6, 7]] (by kernel_rfl) (Obs.of (by kernel_rfl) (And.intro (nt g_1) (And.intro g_34 (And.intro (nt g_35) (And.intro g_46 (And.intro (nt g_47) (And.intro (nt g_50) (And.intro g_53 (And.intro g_54 (nt g_55)))))))))) (ih _ _ _ _ _ r h)
          · obtain ⟨g_57, h⟩ := ite_some h
            obtain ⟨g_58, h⟩ := ite_some h
            obtain ⟨y_59, e_60, h⟩ := bind_or h
            rcases ite_or h with ⟨g_61, h⟩ | ⟨g_61, h⟩
            · obtain ⟨g_62, h⟩ := ite_some h
              exact RunC.go [.n 2, .r [(4, .dec false), (9, .dec true)], .n 8, .r [(4, .dec false)], .n 2, .r [(4, .dec false)], .n 1, .r [(10, .call (.p (.int .i64 y_59)) [])], .n 3, .r [(2, .dec true)], .n 2, .r [(5, .obj (oL true 42 2 cEntry dEntry [(a0.getD i6.toNat dEntry)])), (6, .obj (oL true 42 2 cEntry dEntry (out5 ++ ([(a0.getD i6.toNat dEntry)]))))], .n 4, .k [0, 1, 5, 6, 7]] (by kernel_rfl) (Obs.of (by kernel_rfl) (And.intro (nt g_1) (And.intro g_34 (And.intro (nt g_35) (And.intro (nt g_46) (And.intro g_57 (And.intro g_58 (And.intro (erasureref01_CompareRows.spec e_60) (And.intro g_61 (And.intro g_57 (And.intro (le_one 42 2 cEntry dEntry (a0.getD i6.toNat dEntry)) (And.intro g_62 (le_app 42 2 cEntry dEntry out5 ([(a0.getD i6.toNat dEntry)])))))))))))))) (ih _ _ _ _ _ r h)
            · rcases ite_or h with ⟨g_63, h⟩ | ⟨g_63, h⟩
              · obtain ⟨g_64, h⟩ := ite_some h
                exact RunC.go [.n 2, .r [(4, .dec false), (9, .dec true)], .n 8, .r [(4, .dec false)], .n 2, .r [(4, .dec false)], .n 1, .r [(10, .call (.p (.int .i64 y_59)) [])], .n 3, .r [(2, .dec false)], .n 2, .r [(2, .dec true)], .n 2, .r [(5, .obj (oL true 42 2 cEntry dEntry [(b1.getD k7.toNat dEntry)])), (6, .obj (oL true 42 2 cEntry dEntry (out5 ++ ([(b1.getD k7.toNat dEntry)]))))], .n 4, .k [0, 1, 5, 6, 7]] (by kernel_rfl) (Obs.of (by kernel_rfl) (And.intro (nt g_1) (And.intro g_34 (And.intro (nt g_35) (And.intro (nt g_46) (And.intro g_57 (And.intro g_58 (And.intro (erasureref01_CompareRows.spec e_60) (And.intro (nt g_61) (And.intro g_63 (And.intro g_58 (And.intro (le_one 42 2 cEntry dEntry (b1.getD k7.toNat dEntry)) (And.intro g_64 (le_app 42 2 cEntry dEntry out5 ([(b1.getD k7.toNat dEntry)]))))))))))))))) (ih _ _ _ _ _ r h)
              · rcases ite_or h with ⟨g_65, h⟩ | ⟨g_65, h⟩
                · obtain ⟨g_66, h⟩ := ite_some h
                  exact RunC.go [.n 2, .r [(4, .dec false), (9, .dec true)], .n 8, .r [(4, .dec false)], .n 2, .r [(4, .dec false)], .n 1, .r [(10, .call (.p (.int .i64 y_59)) [])], .n 3, .r [(2, .dec false)], .n 2, .r [(2, .dec false)], .n 5, .r [(1, .dec true)], .n 1, .r [(8, .obj (oL true 42 2 cEntry dEntry [(TEntry.mk ((a0.getD i6.toNat dEntry).f0) (IntKind.i64.wrap ((a0.getD i6.toNat dEntry).f1 + (b1.getD k7.toNat dEntry).f1)))])), (9, .obj (oL true 42 2 cEntry dEntry (out5 ++ ([(TEntry.mk ((a0.getD i6.toNat dEntry).f0) (IntKind.i64.wrap ((a0.getD i6.toNat dEntry).f1 + (b1.getD k7.toNat dEntry).f1)))]))))], .n 6, .k [0, 1, 5, 6, 7]] (by kernel_rfl) (Obs.of (by kernel_rfl) (And.intro (nt g_1) (And.intro g_34 (And.intro (nt g_35) (And.intro (nt g_46) (And.intro g_57 (And.intro g_58 (And.intro (erasureref01_CompareRows.spec e_60) (And.intro (nt g_61) (And.intro (nt g_63) (And.intro g_57 (And.intro g_58 (And.intro g_65 (And.intro g_57 (And.intro (le_one 42 2 cEntry dEntry (TEntry.mk ((a0.getD i6.toNat dEntry).f0) (IntKind.i64.wrap ((a0.getD i6.toNat dEntry).f1 + (b1.getD k7.toNat dEntry).f1)))) (And.intro g_66 (le_app 42 2 cEntry dEntry out5 ([(TEntry.mk ((a0.getD i6.toNat dEntry).f0) (IntKind.i64.wrap ((a0.getD i6.toNat dEntry).f1 + (b1.getD k7.toNat dEntry).f1)))])))))))))))))))))) (ih _ _ _ _ _ r h)
                · exact RunC.go [.n 2, .r [(4, .dec false), (9, .dec true)], .n 8, .r [(4, .dec false)], .n 2, .r [(4, .dec false)], .n 1, .r [(10, .call (.p (.int .i64 y_59)) [])], .n 3, .r [(2, .dec false)], .n 2, .r [(2, .dec false)], .n 5, .r [(1, .dec false)], .n 8, .k [0, 1, 5, 6, 7]] (by kernel_rfl) (Obs.of (by kernel_rfl) (And.intro (nt g_1) (And.intro g_34 (And.intro (nt g_35) (And.intro (nt g_46) (And.intro g_57 (And.intro g_58 (And.intro (erasureref01_CompareRows.spec e_60) (And.intro (nt g_61) (And.intro (nt g_63) (And.intro g_57 (And.intro g_58 (nt g_65))))))))))))) (ih _ _ _ _ _ r h)
      · obtain rfl := Option.some.inj h
        exact RunC.out [.n 2, .r [(4, .dec false), (9, .dec false)], .n 4] (by kernel_rfl) (Obs.of (by kernel_rfl) (And.intro (nt g_1) (nt g_34)))
theorem erasureref06_merge.run   {k : Nat} {a0 : (List TEntry)} {b1 : (List TEntry)} {r : (List TEntry)} (h : erasureref06_merge k a0 b1 = some r) : RunC Try.prog Try.f37 erasureref06_merge.t (erasureref06_merge.s a0 b1) (.sref 0 42 2 (r).length) [(oL true 42 2 cEntry dEntry (r))] := by
  unfold erasureref06_merge at h
  exact RunC.go [.n 1, .r [(0, .obj (oL true 42 2 cEntry dEntry ([] : List TEntry)))], .n 1, .r [(0, .obj (oL true 42 2 cEntry dEntry ([] : List TEntry)))], .n 5, .k [0, 1, 5, 6, 7]] (by kernel_rfl) (Obs.of (by kernel_rfl) (And.intro (le_nil 42 2 cEntry dEntry) (le_nil 42 2 cEntry dEntry))) (erasureref06_merge.p1.run k _ _ _ _ _ r h)
theorem erasureref06_merge.p1.mono   : ∀ (k k' : Nat) (a0 : (List TEntry)) (b1 : (List TEntry)) (i6 : Int) (k7 : Int) (out5 : (List TEntry)) (r : (List TEntry)), k ≤ k' → erasureref06_merge.p1 k a0 b1 i6 k7 out5 = some r → erasureref06_merge.p1 k' a0 b1 i6 k7 out5 = some r := by
  intro k
  induction k with
  | zero => intro k' a0 b1 i6 k7 out5 r hk h; simp [erasureref06_merge.p1] at h
  | succ k ih =>
    intro k' a0 b1 i6 k7 out5 r hk h
    obtain ⟨k', rfl⟩ : ∃ m, k' = m + 1 := ⟨k' - 1, by omega⟩
    replace hk := Nat.le_of_succ_le_succ hk
    rw [erasureref06_merge.p1] at h ⊢
    rcases ite_or h with ⟨g_1, h⟩ | ⟨g_1, h⟩
    · refine itp g_1 ?_
      rcases ite_or h with ⟨g_2, h⟩ | ⟨g_2, h⟩
      · refine itp g_2 ?_
        rcases ite_or h with ⟨g_3, h⟩ | ⟨g_3, h⟩
        · refine itp g_3 ?_
          obtain ⟨g_4, h⟩ := ite_some h
          refine itp g_4 ?_
          obtain ⟨g_5, h⟩ := ite_some h
          refine itp g_5 ?_
          exact ih _ _ _ _ _ _ r hk h
        · refine itn g_3 ?_
          rcases ite_or h with ⟨g_6, h⟩ | ⟨g_6, h⟩
          · refine itp g_6 ?_
            obtain ⟨g_7, h⟩ := ite_some h
            refine itp g_7 ?_
            obtain ⟨g_8, h⟩ := ite_some h
            refine itp g_8 ?_
            exact ih _ _ _ _ _ _ r hk h
          · refine itn g_6 ?_
            obtain ⟨g_9, h⟩ := ite_some h
            refine itp g_9 ?_
            obtain ⟨g_10, h⟩ := ite_some h
            refine itp g_10 ?_
            rcases ite_or h with ⟨g_11, h⟩ | ⟨g_11, h⟩
            · refine itp g_11 ?_
              obtain ⟨g_12, h⟩ := ite_some h
              refine itp g_12 ?_
              exact ih _ _ _ _ _ _ r hk h
            · refine itn g_11 ?_
              exact ih _ _ _ _ _ _ r hk h
      · refine itn g_2 ?_
        rcases ite_or h with ⟨g_13, h⟩ | ⟨g_13, h⟩
        · refine itp g_13 ?_
          rcases ite_or h with ⟨g_14, h⟩ | ⟨g_14, h⟩
          · refine itp g_14 ?_
            obtain ⟨g_15, h⟩ := ite_some h
            refine itp g_15 ?_
            obtain ⟨g_16, h⟩ := ite_some h
            refine itp g_16 ?_
            exact ih _ _ _ _ _ _ r hk h
          · refine itn g_14 ?_
            rcases ite_or h with ⟨g_17, h⟩ | ⟨g_17, h⟩
            · refine itp g_17 ?_
              obtain ⟨g_18, h⟩ := ite_some h
              refine itp g_18 ?_
              obtain ⟨g_19, h⟩ := ite_some h
              refine itp g_19 ?_
              exact ih _ _ _ _ _ _ r hk h
            · refine itn g_17 ?_
              obtain ⟨g_20, h⟩ := ite_some h
              refine itp g_20 ?_
              obtain ⟨g_21, h⟩ := ite_some h
              refine itp g_21 ?_
              rcases ite_or h with ⟨g_22, h⟩ | ⟨g_22, h⟩
              · refine itp g_22 ?_
                obtain ⟨g_23, h⟩ := ite_some h
                refine itp g_23 ?_
                exact ih _ _ _ _ _ _ r hk h
              · refine itn g_22 ?_
                exact ih _ _ _ _ _ _ r hk h
        · refine itn g_13 ?_
          obtain ⟨g_24, h⟩ := ite_some h
          refine itp g_24 ?_
          obtain ⟨g_25, h⟩ := ite_some h
          refine itp g_25 ?_
          obtain ⟨y_26, e_27, h⟩ := bind_or h
          refine bnd (erasureref01_CompareRows.mono _ _ _ _ _ hk e_27) ?_
          rcases ite_or h with ⟨g_28, h⟩ | ⟨g_28, h⟩
          · refine itp g_28 ?_
            obtain ⟨g_29, h⟩ := ite_some h
            refine itp g_29 ?_
            exact ih _ _ _ _ _ _ r hk h
          · refine itn g_28 ?_
            rcases ite_or h with ⟨g_30, h⟩ | ⟨g_30, h⟩
            · refine itp g_30 ?_
              obtain ⟨g_31, h⟩ := ite_some h
              refine itp g_31 ?_
              exact ih _ _ _ _ _ _ r hk h
            · refine itn g_30 ?_
              rcases ite_or h with ⟨g_32, h⟩ | ⟨g_32, h⟩
              · refine itp g_32 ?_
                obtain ⟨g_33, h⟩ := ite_some h
                refine itp g_33 ?_
                exact ih _ _ _ _ _ _ r hk h
              · refine itn g_32 ?_
                exact ih _ _ _ _ _ _ r hk h
    · refine itn g_1 ?_
      rcases ite_or h with ⟨g_34, h⟩ | ⟨g_34, h⟩
      · refine itp g_34 ?_
        rcases ite_or h with ⟨g_35, h⟩ | ⟨g_35, h⟩
        · refine itp g_35 ?_
          rcases ite_or h with ⟨g_36, h⟩ | ⟨g_36, h⟩
          · refine itp g_36 ?_
            obtain ⟨g_37, h⟩ := ite_some h
            refine itp g_37 ?_
            obtain ⟨g_38, h⟩ := ite_some h
            refine itp g_38 ?_
            exact ih _ _ _ _ _ _ r hk h
          · refine itn g_36 ?_
            rcases ite_or h with ⟨g_39, h⟩ | ⟨g_39, h⟩
            · refine itp g_39 ?_
              obtain ⟨g_40, h⟩ := ite_some h
              refine itp g_40 ?_
              obtain ⟨g_41, h⟩ := ite_some h
              refine itp g_41 ?_
              exact ih _ _ _ _ _ _ r hk h
            · refine itn g_39 ?_
              obtain ⟨g_42, h⟩ := ite_some h
              refine itp g_42 ?_
              obtain ⟨g_43, h⟩ := ite_some h
              refine itp g_43 ?_
              rcases ite_or h with ⟨g_44, h⟩ | ⟨g_44, h⟩
              · refine itp g_44 ?_
                obtain ⟨g_45, h⟩ := ite_some h
                refine itp g_45 ?_
                exact ih _ _ _ _ _ _ r hk h
              · refine itn g_44 ?_
                exact ih _ _ _ _ _ _ r hk h
        · refine itn g_35 ?_
          rcases ite_or h with ⟨g_46, h⟩ | ⟨g_46, h⟩
          · refine itp g_46 ?_
            rcases ite_or h with ⟨g_47, h⟩ | ⟨g_47, h⟩
            · refine itp g_47 ?_
              obtain ⟨g_48, h⟩ := ite_some h
              refine itp g_48 ?_
              obtain ⟨g_49, h⟩ := ite_some h
              refine itp g_49 ?_
              exact ih _ _ _ _ _ _ r hk h
            · refine itn g_47 ?_
              rcases ite_or h with ⟨g_50, h⟩ | ⟨g_50, h⟩
              · refine itp g_50 ?_
                obtain ⟨g_51, h⟩ := ite_some h
                refine itp g_51 ?_
                obtain ⟨g_52, h⟩ := ite_some h
                refine itp g_52 ?_
                exact ih _ _ _ _ _ _ r hk h
              · refine itn g_50 ?_
                obtain ⟨g_53, h⟩ := ite_some h
                refine itp g_53 ?_
                obtain ⟨g_54, h⟩ := ite_some h
                refine itp g_54 ?_
                rcases ite_or h with ⟨g_55, h⟩ | ⟨g_55, h⟩
                · refine itp g_55 ?_
                  obtain ⟨g_56, h⟩ := ite_some h
                  refine itp g_56 ?_
                  exact ih _ _ _ _ _ _ r hk h
                · refine itn g_55 ?_
                  exact ih _ _ _ _ _ _ r hk h
          · refine itn g_46 ?_
            obtain ⟨g_57, h⟩ := ite_some h
            refine itp g_57 ?_
            obtain ⟨g_58, h⟩ := ite_some h
            refine itp g_58 ?_
            obtain ⟨y_59, e_60, h⟩ := bind_or h
            refine bnd (erasureref01_CompareRows.mono _ _ _ _ _ hk e_60) ?_
            rcases ite_or h with ⟨g_61, h⟩ | ⟨g_61, h⟩
            · refine itp g_61 ?_
              obtain ⟨g_62, h⟩ := ite_some h
              refine itp g_62 ?_
              exact ih _ _ _ _ _ _ r hk h
            · refine itn g_61 ?_
              rcases ite_or h with ⟨g_63, h⟩ | ⟨g_63, h⟩
              · refine itp g_63 ?_
                obtain ⟨g_64, h⟩ := ite_some h
                refine itp g_64 ?_
                exact ih _ _ _ _ _ _ r hk h
              · refine itn g_63 ?_
                rcases ite_or h with ⟨g_65, h⟩ | ⟨g_65, h⟩
                · refine itp g_65 ?_
                  obtain ⟨g_66, h⟩ := ite_some h
                  refine itp g_66 ?_
                  exact ih _ _ _ _ _ _ r hk h
                · refine itn g_65 ?_
                  exact ih _ _ _ _ _ _ r hk h
      · refine itn g_34 ?_
        exact h
theorem erasureref06_merge.mono   : ∀ (k k' : Nat) (a0 : (List TEntry)) (b1 : (List TEntry)) (r : (List TEntry)), k ≤ k' → erasureref06_merge k a0 b1 = some r → erasureref06_merge k' a0 b1 = some r := by
  intro k k' a0 b1 r hk h
  unfold erasureref06_merge at h ⊢
  exact erasureref06_merge.p1.mono _ _ _ _ _ _ _ r hk h
theorem erasureref06_merge.spec {k : Nat} {a0 : (List TEntry)} {b1 : (List TEntry)} {r : (List TEntry)} (h : erasureref06_merge k a0 b1 = some r) : Spec Try.prog 37 [.p (eL 2 cEntry dEntry a0), .p (eL 2 cEntry dEntry b1)] (.sref 0 42 2 (r).length) [(oL true 42 2 cEntry dEntry (r))] :=
  spec_of mix Try.func37 (body := bodyOf Try.f37) (by kernel_rfl) (by kernel_rfl) (erasureref06_merge.run h)
end Go.Proofs.YtjhnpaenhdbhpacV
set_option linter.unusedVariables false
set_option linter.unusedSimpArgs false
set_option maxRecDepth 100000
namespace Go.Proofs.YtjhnpaenhdbhpacV
open Go Go.RowKit
noncomputable def erasureref06_sort  : Nat → (List TEntry) → Option (List TEntry)
  | 0, _ => none
  | k + 1, l0 => if (((l0).length : Int) == 0) = true then (some ([] : List TEntry)) else (if (((l0).length : Int) == 1) = true then (if 0 ≤ (0 : Int) ∧ (0 : Int) < ((l0).length : Int) then (if ((l0.getD (0 : Int).toNat dEntry).f1 == 0) = true then (some ([] : List TEntry)) else (some ([(l0.getD (0 : Int).toNat dEntry)]))) else none) else (if 0 ≤ (0 : Int) ∧ (0 : Int) ≤ (IntKind.i64.wrap (((l0).length : Int).tdiv 2)) ∧ (IntKind.i64.wrap (((l0).length : Int).tdiv 2)) ≤ ((l0).length : Int) then ((erasureref06_sort k (subL l0 (0 : Int) (IntKind.i64.wrap (((l0).length : Int).tdiv 2)))).bind fun y_6 => (if 0 ≤ (IntKind.i64.wrap (((l0).length : Int).tdiv 2)) ∧ (IntKind.i64.wrap (((l0).length : Int).tdiv 2)) ≤ ((l0).length : Int) ∧ ((l0).length : Int) ≤ ((l0).length : Int) then ((erasureref06_sort k (subL l0 (IntKind.i64.wrap (((l0).length : Int).tdiv 2)) ((l0).length : Int))).bind fun y_9 => ((erasureref06_merge k y_6 y_9).bind fun y_11 => (some y_11))) else none)) else none))
noncomputable def erasureref06_sort.t : List Item := [.code (bodyOf Try.f18)]
noncomputable def erasureref06_sort.s (l0 : (List TEntry)) : St := ⟨frOf Try.f18.ntmps 0 [(0, .p (eL 2 cEntry dEntry l0))], []⟩
theorem erasureref06_sort.run {k : Nat} (ih : ∀ {l0 : (List TEntry)} {r : (List TEntry)}, erasureref06_sort k l0 = some r → Spec Try.prog 18 [.p (eL 2 cEntry dEntry l0)] (.p ((eL 2 cEntry dEntry r))) []) {l0 : (List TEntry)} {r : (List TEntry)} (h : erasureref06_sort (k + 1) l0 = some r) : RunC Try.prog Try.f18 erasureref06_sort.t (erasureref06_sort.s l0) (.p ((eL 2 cEntry dEntry r))) [] := by
  rw [erasureref06_sort] at h
  rcases ite_or h with ⟨g_1, h⟩ | ⟨g_1, h⟩
  · obtain rfl := Option.some.inj h
    exact RunC.out [.n 1, .r [(0, .obj (oL true 42 2 cEntry dEntry ([] : List TEntry)))], .n 2, .r [(2, .dec true)], .n 2, .r [(0, .obj (oL true 42 2 cEntry dEntry ([] : List TEntry)))], .f 2] (by kernel_rfl) (Obs.of (by kernel_rfl) (And.intro (le_nil 42 2 cEntry dEntry) (And.intro g_1 (le_nil 42 2 cEntry dEntry))))
  · rcases ite_or h with ⟨g_2, h⟩ | ⟨g_2, h⟩
    · obtain ⟨g_3, h⟩ := ite_some h
      rcases ite_or h with ⟨g_4, h⟩ | ⟨g_4, h⟩
      · obtain rfl := Option.some.inj h
        exact RunC.out [.n 1, .r [(0, .obj (oL true 42 2 cEntry dEntry ([] : List TEntry)))], .n 2, .r [(2, .dec false)], .n 4, .r [(2, .dec true)], .n 3, .r [(4, .dec true)], .n 2, .r [(0, .obj (oL true 42 2 cEntry dEntry ([] : List TEntry)))], .f 2] (by kernel_rfl) (Obs.of (by kernel_rfl) (And.intro (le_nil 42 2 cEntry dEntry) (And.intro (nt g_1) (And.intro g_2 (And.intro g_3 (And.intro g_4 (le_nil 42 2 cEntry dEntry)))))))
      · obtain rfl := Option.some.inj h
        exact RunC.out [.n 1, .r [(0, .obj (oL true 42 2 cEntry dEntry ([] : List TEntry)))], .n 2, .r [(2, .dec false)], .n 4, .r [(2, .dec true)], .n 3, .r [(4, .dec false)], .n 3, .r [(3, .obj (oL true 42 2 cEntry dEntry [(l0.getD (0 : Int).toNat dEntry)]))], .f 2] (by kernel_rfl) (Obs.of (by kernel_rfl) (And.intro (le_nil 42 2 cEntry dEntry) (And.intro (nt g_1) (And.intro g_2 (And.intro g_3 (And.intro (nt g_4) (And.intro g_3 (le_one 42 2 cEntry dEntry (l0.getD (0 : Int).toNat dEntry)))))))))
    · obtain ⟨g_5, h⟩ := ite_some h
      obtain ⟨y_6, e_7, h⟩ := bind_or h
      obtain ⟨g_8, h⟩ := ite_some h
      obtain ⟨y_9, e_10, h⟩ := bind_or h
      obtain ⟨y_11, e_12, h⟩ := bind_or h
      obtain rfl := Option.some.inj h
      exact RunC.out [.n 1, .r [(0, .obj (oL true 42 2 cEntry dEntry ([] : List TEntry)))], .n 2, .r [(2, .dec false)], .n 4, .r [(2, .dec false)], .n 3, .r [(4, .av (eL 2 cEntry dEntry (subL l0 (0 : Int) (IntKind.i64.wrap (((l0).length : Int).tdiv 2))))), (5, .call (.p (eL 2 cEntry dEntry y_6)) []), (10, .av (eL 2 cEntry dEntry (subL l0 (IntKind.i64.wrap (((l0).length : Int).tdiv 2)) ((l0).length : Int)))), (11, .call (.p (eL 2 cEntry dEntry y_9)) []), (12, .call (.sref 0 42 2 (y_11).length) [(oL true 42 2 cEntry dEntry y_11)])], .f 2] (by kernel_rfl) (Obs.of (by kernel_rfl) (And.intro (le_nil 42 2 cEntry dEntry) (And.intro (nt g_1) (And.intro (nt g_2) (And.intro (show (2 : Int) ≠ 0 from (by decide)) (And.intro (And.intro g_5 (av_slice 2 cEntry dEntry l0 (0 : Int) (IntKind.i64.wrap (((l0).length : Int).tdiv 2)) g_5)) (And.intro (ih e_7) (And.intro (show (2 : Int) ≠ 0 from (by decide)) (And.intro (And.intro g_8 (av_slice 2 cEntry dEntry l0 (IntKind.i64.wrap (((l0).length : Int).tdiv 2)) ((l0).length : Int) g_8)) (And.intro (ih e_10) (erasureref06_merge.spec e_12)))))))))))
theorem erasureref06_sort.mono   : ∀ (k k' : Nat) (l0 : (List TEntry)) (r : (List TEntry)), k ≤ k' → erasureref06_sort k l0 = some r → erasureref06_sort k' l0 = some r := by
  intro k
  induction k with
  | zero => intro k' l0 r hk h; simp [erasureref06_sort] at h
  | succ k ih =>
    intro k' l0 r hk h
    obtain ⟨k', rfl⟩ : ∃ m, k' = m + 1 := ⟨k' - 1, by omega⟩
    replace hk := Nat.le_of_succ_le_succ hk
    rw [erasureref06_sort] at h ⊢
    rcases ite_or h with ⟨g_1, h⟩ | ⟨g_1, h⟩
    · refine itp g_1 ?_
      exact h
    · refine itn g_1 ?_
      rcases ite_or h with ⟨g_2, h⟩ | ⟨g_2, h⟩
      · refine itp g_2 ?_
        obtain ⟨g_3, h⟩ := ite_some h
        refine itp g_3 ?_
        rcases ite_or h with ⟨g_4, h⟩ | ⟨g_4, h⟩
        · refine itp g_4 ?_
          exact h
        · refine itn g_4 ?_
          exact h
      · refine itn g_2 ?_
        obtain ⟨g_5, h⟩ := ite_some h
        refine itp g_5 ?_
        obtain ⟨y_6, e_7, h⟩ := bind_or h
        refine bnd (ih _ _ _ hk e_7) ?_
        obtain ⟨g_8, h⟩ := ite_some h
        refine itp g_8 ?_
        obtain ⟨y_9, e_10, h⟩ := bind_or h
        refine bnd (ih _ _ _ hk e_10) ?_
        obtain ⟨y_11, e_12, h⟩ := bind_or h
        refine bnd (erasureref06_merge.mono _ _ _ _ _ hk e_12) ?_
        exact h
theorem erasureref06_sort.specs (k : Nat) : ∀ {l0 : (List TEntry)} {r : (List TEntry)}, erasureref06_sort k l0 = some r → Spec Try.prog 18 [.p (eL 2 cEntry dEntry l0)] (.p ((eL 2 cEntry dEntry r))) [] := by
  induction k with
  | zero => intro l0 r h; simp [erasureref06_sort] at h
  | succ k ih => intro l0 r h; exact spec_of mix Try.func18 (body := bodyOf Try.f18) (by kernel_rfl) (by kernel_rfl) (erasureref06_sort.run ih h)
theorem erasureref06_sort.spec {k : Nat} {l0 : (List TEntry)} {r : (List TEntry)} (h : erasureref06_sort k l0 = some r) : Spec Try.prog 18 [.p (eL 2 cEntry dEntry l0)] (.p ((eL 2 cEntry dEntry r))) [] := erasureref06_sort.specs k h
end Go.Proofs.YtjhnpaenhdbhpacV
set_option linter.unusedVariables false
set_option linter.unusedSimpArgs false
set_option maxRecDepth 100000
namespace Go.Proofs.YtjhnpaenhdbhpacV
open Go Go.RowKit
noncomputable def erasureref06_fits.p1  : Nat → (List TEntry) → Int → Option ((List TEntry) × Int)
  | 0, _, _ => none
  | k + 1, l0, i4 => if (decide (i4 < ((l0).length : Int))) = true then (if 0 ≤ i4 ∧ i4 < ((l0).length : Int) then ((erasureref06_countOK k ((l0.getD i4.toNat dEntry).f1)).bind fun y_4 => (if (!y_4) = true then (some (([] : List TEntry), 9)) else (erasureref06_fits.p1 k l0 (IntKind.i64.wrap (i4 + 1))))) else none) else (some (l0, 0))
noncomputable def erasureref06_fits  (k : Nat) (l0 : (List TEntry)) : Option ((List TEntry) × Int) := if (decide (((l0).length : Int) > 4096)) = true then (some (([] : List TEntry), 8)) else (erasureref06_fits.p1 k l0 0)
noncomputable def erasureref06_fits.t : List Item := [.code (bodyOf Try.f17)]
noncomputable def erasureref06_fits.s (l0 : (List TEntry)) : St := ⟨frOf Try.f17.ntmps 0 [(0, .p (eL 2 cEntry dEntry l0))], []⟩
noncomputable def erasureref06_fits.p1.t : List Item := nav 12 [false] erasureref06_fits.t
noncomputable def erasureref06_fits.p1.s (l0 : (List TEntry)) (i4 : Int) : St := ⟨frOf Try.f17.ntmps 0 [(0, .p (eL 2 cEntry dEntry l0)), (4, .p (.int .i64 i4))], []⟩
theorem erasureref06_fits.p1.run   : ∀ (k : Nat) (l0 : (List TEntry)) (i4 : Int) (r : ((List TEntry) × Int)), erasureref06_fits.p1 k l0 i4 = some r → RunC Try.prog Try.f17 erasureref06_fits.p1.t (erasureref06_fits.p1.s l0 i4) (.tup [.p ((eL 2 cEntry dEntry r.1)), .p (.int .i64 r.2)]) [] := by
  intro k
  induction k with
  | zero => intro l0 i4 r h; simp [erasureref06_fits.p1] at h
  | succ k ih =>
    intro l0 i4 r h
    rw [erasureref06_fits.p1] at h
    rcases ite_or h with ⟨g_2, h⟩ | ⟨g_2, h⟩
    · obtain ⟨g_3, h⟩ := ite_some h
      obtain ⟨y_4, e_5, h⟩ := bind_or h
      rcases ite_or h with ⟨g_6, h⟩ | ⟨g_6, h⟩
      · obtain rfl := Option.some.inj h
        exact RunC.out [.n 2, .r [(3, .dec true)], .n 5, .r [(5, .call (.p (.bool y_4)) []), (6, .dec true)], .n 2, .r [(0, .obj (oL true 42 2 cEntry dEntry ([] : List TEntry)))], .f 2] (by kernel_rfl) (Obs.of (by kernel_rfl) (And.intro g_2 (And.intro g_3 (And.intro (erasureref06_countOK.spec e_5) (And.intro g_6 (le_nil 42 2 cEntry dEntry))))))
      · exact RunC.go [.n 2, .r [(3, .dec true)], .n 5, .r [(5, .call (.p (.bool y_4)) []), (6, .dec false)], .n 5, .k [0, 4]] (by kernel_rfl) (Obs.of (by kernel_rfl) (And.intro g_2 (And.intro g_3 (And.intro (erasureref06_countOK.spec e_5) (nt g_6))))) (ih _ _ r h)
    · obtain rfl := Option.some.inj h
      exact RunC.out [.n 2, .r [(3, .dec false)], .n 4] (by kernel_rfl) (Obs.of (by kernel_rfl) (nt g_2))
theorem erasureref06_fits.run   {k : Nat} {l0 : (List TEntry)} {r : ((List TEntry) × Int)} (h : erasureref06_fits k l0 = some r) : RunC Try.prog Try.f17 erasureref06_fits.t (erasureref06_fits.s l0) (.tup [.p ((eL 2 cEntry dEntry r.1)), .p (.int .i64 r.2)]) [] := by
  unfold erasureref06_fits at h
  rcases ite_or h with ⟨g_1, h⟩ | ⟨g_1, h⟩
  · obtain rfl := Option.some.inj h
    exact RunC.out [.n 1, .r [(0, .obj (oL true 42 2 cEntry dEntry ([] : List TEntry)))], .n 2, .r [(2, .dec true)], .n 2, .r [(0, .obj (oL true 42 2 cEntry dEntry ([] : List TEntry)))], .f 2] (by kernel_rfl) (Obs.of (by kernel_rfl) (And.intro (le_nil 42 2 cEntry dEntry) (And.intro g_1 (le_nil 42 2 cEntry dEntry))))
  · exact RunC.go [.n 1, .r [(0, .obj (oL true 42 2 cEntry dEntry ([] : List TEntry)))], .n 2, .r [(2, .dec false)], .n 7, .k [0, 4]] (by kernel_rfl) (Obs.of (by kernel_rfl) (And.intro (le_nil 42 2 cEntry dEntry) (nt g_1))) (erasureref06_fits.p1.run k _ _ r h)
theorem erasureref06_fits.p1.mono   : ∀ (k k' : Nat) (l0 : (List TEntry)) (i4 : Int) (r : ((List TEntry) × Int)), k ≤ k' → erasureref06_fits.p1 k l0 i4 = some r → erasureref06_fits.p1 k' l0 i4 = some r := by
  intro k
  induction k with
  | zero => intro k' l0 i4 r hk h; simp [erasureref06_fits.p1] at h
  | succ k ih =>
    intro k' l0 i4 r hk h
    obtain ⟨k', rfl⟩ : ∃ m, k' = m + 1 := ⟨k' - 1, by omega⟩
    replace hk := Nat.le_of_succ_le_succ hk
    rw [erasureref06_fits.p1] at h ⊢
    rcases ite_or h with ⟨g_2, h⟩ | ⟨g_2, h⟩
    · refine itp g_2 ?_
      obtain ⟨g_3, h⟩ := ite_some h
      refine itp g_3 ?_
      obtain ⟨y_4, e_5, h⟩ := bind_or h
      refine bnd (erasureref06_countOK.mono _ _ _ _ hk e_5) ?_
      rcases ite_or h with ⟨g_6, h⟩ | ⟨g_6, h⟩
      · refine itp g_6 ?_
        exact h
      · refine itn g_6 ?_
        exact ih _ _ _ r hk h
    · refine itn g_2 ?_
      exact h
theorem erasureref06_fits.mono   : ∀ (k k' : Nat) (l0 : (List TEntry)) (r : ((List TEntry) × Int)), k ≤ k' → erasureref06_fits k l0 = some r → erasureref06_fits k' l0 = some r := by
  intro k k' l0 r hk h
  unfold erasureref06_fits at h ⊢
  rcases ite_or h with ⟨g_1, h⟩ | ⟨g_1, h⟩
  · refine itp g_1 ?_
    exact h
  · refine itn g_1 ?_
    exact erasureref06_fits.p1.mono _ _ _ _ r hk h
theorem erasureref06_fits.spec {k : Nat} {l0 : (List TEntry)} {r : ((List TEntry) × Int)} (h : erasureref06_fits k l0 = some r) : Spec Try.prog 17 [.p (eL 2 cEntry dEntry l0)] (.tup [.p ((eL 2 cEntry dEntry r.1)), .p (.int .i64 r.2)]) [] :=
  spec_of mix Try.func17 (body := bodyOf Try.f17) (by kernel_rfl) (by kernel_rfl) (erasureref06_fits.run h)
end Go.Proofs.YtjhnpaenhdbhpacV
set_option linter.unusedVariables false
set_option linter.unusedSimpArgs false
set_option maxRecDepth 100000
namespace Go.Proofs.YtjhnpaenhdbhpacV
open Go Go.RowKit
noncomputable def erasureref06_Normalize.p1  : Nat → (List TEntry) → Int → Option ((List TEntry) × Int)
  | 0, _, _ => none
  | k + 1, l0, i4 => if (decide (i4 < ((l0).length : Int))) = true then (if 0 ≤ i4 ∧ i4 < ((l0).length : Int) then ((erasureref01_ValidRow k ((l0.getD i4.toNat dEntry).f0)).bind fun y_3 => (if (!y_3) = true then (some (([] : List TEntry), 1)) else ((erasureref06_countOK k ((l0.getD i4.toNat dEntry).f1)).bind fun y_6 => (if (!y_6) = true then (some (([] : List TEntry), 1)) else (erasureref06_Normalize.p1 k l0 (IntKind.i64.wrap (i4 + 1))))))) else none) else ((erasureref06_sort k l0).bind fun y_9 => ((erasureref06_fits k y_9).bind fun y_11 => (some (y_11.1, y_11.2))))
noncomputable def erasureref06_Normalize  (k : Nat) (l0 : (List TEntry)) : Option ((List TEntry) × Int) := erasureref06_Normalize.p1 k l0 0
noncomputable def erasureref06_Normalize.t : List Item := [.code (bodyOf Try.f6)]
noncomputable def erasureref06_Normalize.s (l0 : (List TEntry)) : St := ⟨frOf Try.f6.ntmps 0 [(0, .p (eL 2 cEntry dEntry l0))], []⟩
noncomputable def erasureref06_Normalize.p1.t : List Item := nav 7 [] erasureref06_Normalize.t
noncomputable def erasureref06_Normalize.p1.s (l0 : (List TEntry)) (i4 : Int) : St := ⟨frOf Try.f6.ntmps 0 [(0, .p (eL 2 cEntry dEntry l0)), (4, .p (.int .i64 i4))], []⟩
theorem erasureref06_Normalize.p1.run   : ∀ (k : Nat) (l0 : (List TEntry)) (i4 : Int) (r : ((List TEntry) × Int)), erasureref06_Normalize.p1 k l0 i4 = some r → RunC Try.prog Try.f6 erasureref06_Normalize.p1.t (erasureref06_Normalize.p1.s l0 i4) (.tup [.p ((eL 2 cEntry dEntry r.1)), .p (.int .i64 r.2)]) [] := by
  intro k
  induction k with
  | zero => intro l0 i4 r h; simp [erasureref06_Normalize.p1] at h
  | succ k ih =>
    intro l0 i4 r h
    rw [erasureref06_Normalize.p1] at h
    rcases ite_or h with ⟨g_1, h⟩ | ⟨g_1, h⟩
    · obtain ⟨g_2, h⟩ := ite_some h
      obtain ⟨y_3, e_4, h⟩ := bind_or h
      rcases ite_or h with ⟨g_5, h⟩ | ⟨g_5, h⟩
      · obtain rfl := Option.some.inj h
        exact RunC.out [.n 2, .r [(3, .dec true)], .n 5, .r [(5, .call (.p (.bool y_3)) []), (7, .dec true)], .n 2, .r [(0, .obj (oL true 42 2 cEntry dEntry ([] : List TEntry)))], .f 2] (by kernel_rfl) (Obs.of (by kernel_rfl) (And.intro g_1 (And.intro g_2 (And.intro (erasureref01_ValidRow.spec e_4) (And.intro g_5 (le_nil 42 2 cEntry dEntry))))))
      · obtain ⟨y_6, e_7, h⟩ := bind_or h
        rcases ite_or h with ⟨g_8, h⟩ | ⟨g_8, h⟩
        · obtain rfl := Option.some.inj h
          exact RunC.out [.n 2, .r [(3, .dec true)], .n 5, .r [(5, .call (.p (.bool y_3)) []), (7, .dec false), (13, .call (.p (.bool y_6)) []), (15, .dec true)], .n 2, .r [(0, .obj (oL true 42 2 cEntry dEntry ([] : List TEntry)))], .f 2] (by kernel_rfl) (Obs.of (by kernel_rfl) (And.intro g_1 (And.intro g_2 (And.intro (erasureref01_ValidRow.spec e_4) (And.intro (nt g_5) (And.intro g_2 (And.intro (erasureref06_countOK.spec e_7) (And.intro g_8 (le_nil 42 2 cEntry dEntry)))))))))
        · exact RunC.go [.n 2, .r [(3, .dec true)], .n 5, .r [(5, .call (.p (.bool y_3)) []), (7, .dec false), (13, .call (.p (.bool y_6)) []), (15, .dec false)], .n 5, .k [0, 4]] (by kernel_rfl) (Obs.of (by kernel_rfl) (And.intro g_1 (And.intro g_2 (And.intro (erasureref01_ValidRow.spec e_4) (And.intro (nt g_5) (And.intro g_2 (And.intro (erasureref06_countOK.spec e_7) (nt g_8)))))))) (ih _ _ r h)
    · obtain ⟨y_9, e_10, h⟩ := bind_or h
      obtain ⟨y_11, e_12, h⟩ := bind_or h
      obtain rfl := Option.some.inj h
      exact RunC.out [.n 2, .r [(3, .dec false)], .n 3, .r [(1, .call (.p (eL 2 cEntry dEntry y_9)) []), (2, .call (.tup [.p (eL 2 cEntry dEntry y_11.1), .p (.int .i64 y_11.2)]) [])]] (by kernel_rfl) (Obs.of (by kernel_rfl) (And.intro (nt g_1) (And.intro (erasureref06_sort.spec e_10) (erasureref06_fits.spec e_12))))
theorem erasureref06_Normalize.run   {k : Nat} {l0 : (List TEntry)} {r : ((List TEntry) × Int)} (h : erasureref06_Normalize k l0 = some r) : RunC Try.prog Try.f6 erasureref06_Normalize.t (erasureref06_Normalize.s l0) (.tup [.p ((eL 2 cEntry dEntry r.1)), .p (.int .i64 r.2)]) [] := by
  unfold erasureref06_Normalize at h
  exact RunC.go [.n 1, .r [(0, .obj (oL true 42 2 cEntry dEntry ([] : List TEntry)))], .n 5, .k [0, 4]] (by kernel_rfl) (Obs.of (by kernel_rfl) (le_nil 42 2 cEntry dEntry)) (erasureref06_Normalize.p1.run k _ _ r h)
theorem erasureref06_Normalize.p1.mono   : ∀ (k k' : Nat) (l0 : (List TEntry)) (i4 : Int) (r : ((List TEntry) × Int)), k ≤ k' → erasureref06_Normalize.p1 k l0 i4 = some r → erasureref06_Normalize.p1 k' l0 i4 = some r := by
  intro k
  induction k with
  | zero => intro k' l0 i4 r hk h; simp [erasureref06_Normalize.p1] at h
  | succ k ih =>
    intro k' l0 i4 r hk h
    obtain ⟨k', rfl⟩ : ∃ m, k' = m + 1 := ⟨k' - 1, by omega⟩
    replace hk := Nat.le_of_succ_le_succ hk
    rw [erasureref06_Normalize.p1] at h ⊢
    rcases ite_or h with ⟨g_1, h⟩ | ⟨g_1, h⟩
    · refine itp g_1 ?_
      obtain ⟨g_2, h⟩ := ite_some h
      refine itp g_2 ?_
      obtain ⟨y_3, e_4, h⟩ := bind_or h
      refine bnd (erasureref01_ValidRow.mono _ _ _ _ hk e_4) ?_
      rcases ite_or h with ⟨g_5, h⟩ | ⟨g_5, h⟩
      · refine itp g_5 ?_
        exact h
      · refine itn g_5 ?_
        obtain ⟨y_6, e_7, h⟩ := bind_or h
        refine bnd (erasureref06_countOK.mono _ _ _ _ hk e_7) ?_
        rcases ite_or h with ⟨g_8, h⟩ | ⟨g_8, h⟩
        · refine itp g_8 ?_
          exact h
        · refine itn g_8 ?_
          exact ih _ _ _ r hk h
    · refine itn g_1 ?_
      obtain ⟨y_9, e_10, h⟩ := bind_or h
      refine bnd (erasureref06_sort.mono _ _ _ _ hk e_10) ?_
      obtain ⟨y_11, e_12, h⟩ := bind_or h
      refine bnd (erasureref06_fits.mono _ _ _ _ hk e_12) ?_
      exact h
theorem erasureref06_Normalize.mono   : ∀ (k k' : Nat) (l0 : (List TEntry)) (r : ((List TEntry) × Int)), k ≤ k' → erasureref06_Normalize k l0 = some r → erasureref06_Normalize k' l0 = some r := by
  intro k k' l0 r hk h
  unfold erasureref06_Normalize at h ⊢
  exact erasureref06_Normalize.p1.mono _ _ _ _ r hk h
theorem erasureref06_Normalize.spec {k : Nat} {l0 : (List TEntry)} {r : ((List TEntry) × Int)} (h : erasureref06_Normalize k l0 = some r) : Spec Try.prog 6 [.p (eL 2 cEntry dEntry l0)] (.tup [.p ((eL 2 cEntry dEntry r.1)), .p (.int .i64 r.2)]) [] :=
  spec_of mix Try.func6 (body := bodyOf Try.f6) (by kernel_rfl) (by kernel_rfl) (erasureref06_Normalize.run h)
end Go.Proofs.YtjhnpaenhdbhpacV
set_option linter.unusedVariables false
set_option linter.unusedSimpArgs false
set_option maxRecDepth 100000
namespace Go.Proofs.YtjhnpaenhdbhpacV
open Go Go.RowKit
noncomputable def erasureref30_at  (k : Nat) (row0 : (List TValue)) (column1 : Int) : Option TValue := if (decide (column1 < 0)) = true then (some (TValue.mk 0 0 (⟨#[]⟩ : ByteArray))) else (if (decide (column1 ≥ ((row0).length : Int))) = true then (some (TValue.mk 0 0 (⟨#[]⟩ : ByteArray))) else (if 0 ≤ column1 ∧ column1 < ((row0).length : Int) then ((erasureref01_Clean k (row0.getD column1.toNat dValue)).bind fun y_4 => (some y_4)) else none))
noncomputable def erasureref30_at.t : List Item := [.code (bodyOf Try.f39)]
noncomputable def erasureref30_at.s (row0 : (List TValue)) (column1 : Int) : St := ⟨frOf Try.f39.ntmps 0 [(0, .p (eL 3 cValue dValue row0)), (1, .p (.int .i64 column1))], []⟩
theorem erasureref30_at.run   {k : Nat} {row0 : (List TValue)} {column1 : Int} {r : TValue} (h : erasureref30_at k row0 column1 = some r) : RunC Try.prog Try.f39 erasureref30_at.t (erasureref30_at.s row0 column1) (.agg ((cValue r).map .p)) [] := by
  unfold erasureref30_at at h
  rcases ite_or h with ⟨g_1, h⟩ | ⟨g_1, h⟩
  · obtain rfl := Option.some.inj h
    exact RunC.out [.n 4, .r [(2, .dec true)], .n 3] (by kernel_rfl) (Obs.of (by kernel_rfl) g_1)
  · rcases ite_or h with ⟨g_2, h⟩ | ⟨g_2, h⟩
    · obtain rfl := Option.some.inj h
      exact RunC.out [.n 4, .r [(2, .dec false), (7, .dec true)], .n 3] (by kernel_rfl) (Obs.of (by kernel_rfl) (And.intro (nt g_1) g_2))
    · obtain ⟨g_3, h⟩ := ite_some h
      obtain ⟨y_4, e_5, h⟩ := bind_or h
      obtain rfl := Option.some.inj h
      exact RunC.out [.n 4, .r [(2, .dec false), (7, .dec false)], .n 3, .r [(4, .call (.agg ((cValue y_4).map .p)) [])]] (by kernel_rfl) (Obs.of (by kernel_rfl) (And.intro (nt g_1) (And.intro (nt g_2) (And.intro g_3 (erasureref01_Clean.spec e_5)))))
theorem erasureref30_at.mono   : ∀ (k k' : Nat) (row0 : (List TValue)) (column1 : Int) (r : TValue), k ≤ k' → erasureref30_at k row0 column1 = some r → erasureref30_at k' row0 column1 = some r := by
  intro k k' row0 column1 r hk h
  unfold erasureref30_at at h ⊢
  rcases ite_or h with ⟨g_1, h⟩ | ⟨g_1, h⟩
  · refine itp g_1 ?_
    exact h
  · refine itn g_1 ?_
    rcases ite_or h with ⟨g_2, h⟩ | ⟨g_2, h⟩
    · refine itp g_2 ?_
      exact h
    · refine itn g_2 ?_
      obtain ⟨g_3, h⟩ := ite_some h
      refine itp g_3 ?_
      obtain ⟨y_4, e_5, h⟩ := bind_or h
      refine bnd (erasureref01_Clean.mono _ _ _ _ hk e_5) ?_
      exact h
theorem erasureref30_at.spec {k : Nat} {row0 : (List TValue)} {column1 : Int} {r : TValue} (h : erasureref30_at k row0 column1 = some r) : Spec Try.prog 39 [.p (eL 3 cValue dValue row0), .p (.int .i64 column1)] (.agg ((cValue r).map .p)) [] :=
  spec_of mix Try.func39 (body := bodyOf Try.f39) (by kernel_rfl) (by kernel_rfl) (erasureref30_at.run h)
end Go.Proofs.YtjhnpaenhdbhpacV
set_option linter.unusedVariables false
set_option linter.unusedSimpArgs false
set_option maxRecDepth 100000
namespace Go.Proofs.YtjhnpaenhdbhpacV
open Go Go.RowKit
noncomputable def erasureref30_Select.p1  : Nat → (List TEntry) → Int → Int → TValue → (List TEntry) → Option (List TEntry)
  | 0, _, _, _, _, _ => none
  | k + 1, rows0, column1, i8, v5b, out7 => if (decide (i8 < ((rows0).length : Int))) = true then (if 0 ≤ i8 ∧ i8 < ((rows0).length : Int) then ((erasureref30_at k ((rows0.getD i8.toNat dEntry).f0) column1).bind fun y_3 => ((erasureref01_Clean k v5b).bind fun y_5 => (if ((y_3.f0 == y_5.f0) && ((y_3.f1 == y_5.f1) && ((y_3.f2.data.toList == y_5.f2.data.toList) && true))) = true then (if (out7).length + ([(rows0.getD i8.toNat dEntry)]).length ≤ maxLen ∧ ((out7).length + ([(rows0.getD i8.toNat dEntry)]).length) * 32 ≤ 140737488355328 then (erasureref30_Select.p1 k rows0 column1 (IntKind.i64.wrap (i8 + 1)) v5b (out7 ++ ([(rows0.getD i8.toNat dEntry)]))) else none) else (erasureref30_Select.p1 k rows0 column1 (IntKind.i64.wrap (i8 + 1)) v5b out7)))) else none) else (some out7)
noncomputable def erasureref30_Select  (k : Nat) (rows0 : (List TEntry)) (column1 : Int) (v2 : TValue) : Option (List TEntry) := erasureref30_Select.p1 k rows0 column1 0 v2 ([] : List TEntry)
noncomputable def erasureref30_Select.t : List Item := [.code (bodyOf Try.f20)]
noncomputable def erasureref30_Select.s (rows0 : (List TEntry)) (column1 : Int) (v2 : TValue) : St := ⟨frOf Try.f20.ntmps 0 [(0, .p (eL 2 cEntry dEntry rows0)), (1, .p (.int .i64 column1)), (2, .agg ((cValue v2).map .p))], []⟩
noncomputable def erasureref30_Select.p1.t : List Item := nav 9 [] erasureref30_Select.t
noncomputable def erasureref30_Select.p1.s (rows0 : (List TEntry)) (column1 : Int) (i8 : Int) (v5b : TValue) (out7 : (List TEntry)) : St := ⟨frOf Try.f20.ntmps 0 [(0, .p (eL 2 cEntry dEntry rows0)), (1, .p (.int .i64 column1)), (5, .ptr 0 0 0), (7, .sref 1 42 2 (out7).length), (8, .p (.int .i64 i8))], [.box ((cValue v5b).map .p), (oL true 42 2 cEntry dEntry out7)]⟩
theorem erasureref30_Select.p1.run   : ∀ (k : Nat) (rows0 : (List TEntry)) (column1 : Int) (i8 : Int) (v5b : TValue) (out7 : (List TEntry)) (r : (List TEntry)), erasureref30_Select.p1 k rows0 column1 i8 v5b out7 = some r → RunC Try.prog Try.f20 erasureref30_Select.p1.t (erasureref30_Select.p1.s rows0 column1 i8 v5b out7) (.sref 0 42 2 (r).length) [(oL true 42 2 cEntry dEntry (r))] := by
  intro k
  induction k with
  | zero => intro rows0 column1 i8 v5b out7 r h; simp [erasureref30_Select.p1] at h
  | succ k ih =>
    intro rows0 column1 i8 v5b out7 r h
    rw [erasureref30_Select.p1] at h
    rcases ite_or h with ⟨g_1, h⟩ | ⟨g_1, h⟩
    · obtain ⟨g_2, h⟩ := ite_some h
      obtain ⟨y_3, e_4, h⟩ := bind_or h
      obtain ⟨y_5, e_6, h⟩ := bind_or h
      rcases ite_or h with ⟨g_7, h⟩ | ⟨g_7, h⟩
      · obtain ⟨g_8, h⟩ := ite_some h
        exact RunC.go [.n 2, .r [(3, .dec true)], .n 5, .r [(6, .call (.agg ((cValue y_3).map .p)) []), (8, .call (.agg ((cValue y_5).map .p)) []), (9, .dec true)], .n 1, .r [(5, .obj (oL true 42 2 cEntry dEntry [(rows0.getD i8.toNat dEntry)])), (6, .obj (oL true 42 2 cEntry dEntry (out7 ++ ([(rows0.getD i8.toNat dEntry)]))))], .n 3, .k [0, 1, 5, 7, 8]] (by kernel_rfl) (Obs.of (by kernel_rfl) (And.intro g_1 (And.intro g_2 (And.intro (erasureref30_at.spec e_4) (And.intro (erasureref01_Clean.spec e_6) (And.intro g_7 (And.intro g_2 (And.intro (le_one 42 2 cEntry dEntry (rows0.getD i8.toNat dEntry)) (And.intro g_8 (le_app 42 2 cEntry dEntry out7 ([(rows0.getD i8.toNat dEntry)]))))))))))) (ih _ _ _ _ _ r h)
      · exact RunC.go [.n 2, .r [(3, .dec true)], .n 5, .r [(6, .call (.agg ((cValue y_3).map .p)) []), (8, .call (.agg ((cValue y_5).map .p)) []), (9, .dec false)], .n 5, .k [0, 1, 5, 7, 8]] (by kernel_rfl) (Obs.of (by kernel_rfl) (And.intro g_1 (And.intro g_2 (And.intro (erasureref30_at.spec e_4) (And.intro (erasureref01_Clean.spec e_6) (nt g_7)))))) (ih _ _ _ _ _ r h)
    · obtain rfl := Option.some.inj h
      exact RunC.out [.n 2, .r [(3, .dec false)], .n 4] (by kernel_rfl) (Obs.of (by kernel_rfl) (nt g_1))
theorem erasureref30_Select.run   {k : Nat} {rows0 : (List TEntry)} {column1 : Int} {v2 : TValue} {r : (List TEntry)} (h : erasureref30_Select k rows0 column1 v2 = some r) : RunC Try.prog Try.f20 erasureref30_Select.t (erasureref30_Select.s rows0 column1 v2) (.sref 0 42 2 (r).length) [(oL true 42 2 cEntry dEntry (r))] := by
  unfold erasureref30_Select at h
  exact RunC.go [.n 1, .r [(1, .obj (oL true 42 2 cEntry dEntry ([] : List TEntry)))], .n 1, .r [(0, .obj (oL true 42 2 cEntry dEntry ([] : List TEntry)))], .n 5, .k [0, 1, 5, 7, 8]] (by kernel_rfl) (Obs.of (by kernel_rfl) (And.intro (le_nil 42 2 cEntry dEntry) (le_nil 42 2 cEntry dEntry))) (erasureref30_Select.p1.run k _ _ _ _ _ r h)
theorem erasureref30_Select.p1.mono   : ∀ (k k' : Nat) (rows0 : (List TEntry)) (column1 : Int) (i8 : Int) (v5b : TValue) (out7 : (List TEntry)) (r : (List TEntry)), k ≤ k' → erasureref30_Select.p1 k rows0 column1 i8 v5b out7 = some r → erasureref30_Select.p1 k' rows0 column1 i8 v5b out7 = some r := by
  intro k
  induction k with
  | zero => intro k' rows0 column1 i8 v5b out7 r hk h; simp [erasureref30_Select.p1] at h
  | succ k ih =>
    intro k' rows0 column1 i8 v5b out7 r hk h
    obtain ⟨k', rfl⟩ : ∃ m, k' = m + 1 := ⟨k' - 1, by omega⟩
    replace hk := Nat.le_of_succ_le_succ hk
    rw [erasureref30_Select.p1] at h ⊢
    rcases ite_or h with ⟨g_1, h⟩ | ⟨g_1, h⟩
    · refine itp g_1 ?_
      obtain ⟨g_2, h⟩ := ite_some h
      refine itp g_2 ?_
      obtain ⟨y_3, e_4, h⟩ := bind_or h
      refine bnd (erasureref30_at.mono _ _ _ _ _ hk e_4) ?_
      obtain ⟨y_5, e_6, h⟩ := bind_or h
      refine bnd (erasureref01_Clean.mono _ _ _ _ hk e_6) ?_
      rcases ite_or h with ⟨g_7, h⟩ | ⟨g_7, h⟩
      · refine itp g_7 ?_
        obtain ⟨g_8, h⟩ := ite_some h
        refine itp g_8 ?_
        exact ih _ _ _ _ _ _ r hk h
      · refine itn g_7 ?_
        exact ih _ _ _ _ _ _ r hk h
    · refine itn g_1 ?_
      exact h
theorem erasureref30_Select.mono   : ∀ (k k' : Nat) (rows0 : (List TEntry)) (column1 : Int) (v2 : TValue) (r : (List TEntry)), k ≤ k' → erasureref30_Select k rows0 column1 v2 = some r → erasureref30_Select k' rows0 column1 v2 = some r := by
  intro k k' rows0 column1 v2 r hk h
  unfold erasureref30_Select at h ⊢
  exact erasureref30_Select.p1.mono _ _ _ _ _ _ _ r hk h
theorem erasureref30_Select.spec {k : Nat} {rows0 : (List TEntry)} {column1 : Int} {v2 : TValue} {r : (List TEntry)} (h : erasureref30_Select k rows0 column1 v2 = some r) : Spec Try.prog 20 [.p (eL 2 cEntry dEntry rows0), .p (.int .i64 column1), .agg ((cValue v2).map .p)] (.sref 0 42 2 (r).length) [(oL true 42 2 cEntry dEntry (r))] :=
  spec_of mix Try.func20 (body := bodyOf Try.f20) (by kernel_rfl) (by kernel_rfl) (erasureref30_Select.run h)
end Go.Proofs.YtjhnpaenhdbhpacV
set_option linter.unusedVariables false
set_option linter.unusedSimpArgs false
set_option maxRecDepth 100000
namespace Go.Proofs.YtjhnpaenhdbhpacV
open Go Go.RowKit
noncomputable def erasureref22_SameRow.p1  : Nat → (List TValue) → (List TValue) → Int → Option Bool
  | 0, _, _, _ => none
  | k + 1, a0, b1, i5 => if (decide (i5 < ((a0).length : Int))) = true then (if 0 ≤ i5 ∧ i5 < ((a0).length : Int) then (if 0 ≤ i5 ∧ i5 < ((b1).length : Int) then (if (!(((a0.getD i5.toNat dValue).f0 == (b1.getD i5.toNat dValue).f0) && (((a0.getD i5.toNat dValue).f1 == (b1.getD i5.toNat dValue).f1) && ((((a0.getD i5.toNat dValue).f2).data.toList == ((b1.getD i5.toNat dValue).f2).data.toList) && true)))) = true then (some false) else (erasureref22_SameRow.p1 k a0 b1 (IntKind.i64.wrap (i5 + 1)))) else none) else none) else (some true)
noncomputable def erasureref22_SameRow  (k : Nat) (a0 : (List TValue)) (b1 : (List TValue)) : Option Bool := if (((a0).length : Int) != ((b1).length : Int)) = true then (some false) else (erasureref22_SameRow.p1 k a0 b1 0)
noncomputable def erasureref22_SameRow.t : List Item := [.code (bodyOf Try.f56)]
noncomputable def erasureref22_SameRow.s (a0 : (List TValue)) (b1 : (List TValue)) : St := ⟨frOf Try.f56.ntmps 0 [(0, .p (eL 3 cValue dValue a0)), (1, .p (eL 3 cValue dValue b1))], []⟩
noncomputable def erasureref22_SameRow.p1.t : List Item := nav 12 [false] erasureref22_SameRow.t
noncomputable def erasureref22_SameRow.p1.s (a0 : (List TValue)) (b1 : (List TValue)) (i5 : Int) : St := ⟨frOf Try.f56.ntmps 0 [(0, .p (eL 3 cValue dValue a0)), (1, .p (eL 3 cValue dValue b1)), (5, .p (.int .i64 i5))], []⟩
theorem erasureref22_SameRow.p1.run   : ∀ (k : Nat) (a0 : (List TValue)) (b1 : (List TValue)) (i5 : Int) (r : Bool), erasureref22_SameRow.p1 k a0 b1 i5 = some r → RunC Try.prog Try.f56 erasureref22_SameRow.p1.t (erasureref22_SameRow.p1.s a0 b1 i5) (.p (.bool r)) [] := by
  intro k
  induction k with
  | zero => intro a0 b1 i5 r h; simp [erasureref22_SameRow.p1] at h
  | succ k ih =>
    intro a0 b1 i5 r h
    rw [erasureref22_SameRow.p1] at h
    rcases ite_or h with ⟨g_2, h⟩ | ⟨g_2, h⟩
    · obtain ⟨g_3, h⟩ := ite_some h
      obtain ⟨g_4, h⟩ := ite_some h
      rcases ite_or h with ⟨g_5, h⟩ | ⟨g_5, h⟩
      · obtain rfl := Option.some.inj h
        exact RunC.out [.n 2, .r [(3, .dec true)], .n 5, .r [(8, .dec true)], .n 3] (by kernel_rfl) (Obs.of (by kernel_rfl) (And.intro g_2 (And.intro g_3 (And.intro g_4 g_5))))
      · exact RunC.go [.n 2, .r [(3, .dec true)], .n 5, .r [(8, .dec false)], .n 5, .k [0, 1, 5]] (by kernel_rfl) (Obs.of (by kernel_rfl) (And.intro g_2 (And.intro g_3 (And.intro g_4 (nt g_5))))) (ih _ _ _ r h)
    · obtain rfl := Option.some.inj h
      exact RunC.out [.n 2, .r [(3, .dec false)], .n 4] (by kernel_rfl) (Obs.of (by kernel_rfl) (nt g_2))
theorem erasureref22_SameRow.run   {k : Nat} {a0 : (List TValue)} {b1 : (List TValue)} {r : Bool} (h : erasureref22_SameRow k a0 b1 = some r) : RunC Try.prog Try.f56 erasureref22_SameRow.t (erasureref22_SameRow.s a0 b1) (.p (.bool r)) [] := by
  unfold erasureref22_SameRow at h
  rcases ite_or h with ⟨g_1, h⟩ | ⟨g_1, h⟩
  · obtain rfl := Option.some.inj h
    exact RunC.out [.n 4, .r [(4, .dec true)], .n 3] (by kernel_rfl) (Obs.of (by kernel_rfl) g_1)
  · exact RunC.go [.n 4, .r [(4, .dec false)], .n 7, .k [0, 1, 5]] (by kernel_rfl) (Obs.of (by kernel_rfl) (nt g_1)) (erasureref22_SameRow.p1.run k _ _ _ r h)
theorem erasureref22_SameRow.p1.mono   : ∀ (k k' : Nat) (a0 : (List TValue)) (b1 : (List TValue)) (i5 : Int) (r : Bool), k ≤ k' → erasureref22_SameRow.p1 k a0 b1 i5 = some r → erasureref22_SameRow.p1 k' a0 b1 i5 = some r := by
  intro k
  induction k with
  | zero => intro k' a0 b1 i5 r hk h; simp [erasureref22_SameRow.p1] at h
  | succ k ih =>
    intro k' a0 b1 i5 r hk h
    obtain ⟨k', rfl⟩ : ∃ m, k' = m + 1 := ⟨k' - 1, by omega⟩
    replace hk := Nat.le_of_succ_le_succ hk
    rw [erasureref22_SameRow.p1] at h ⊢
    rcases ite_or h with ⟨g_2, h⟩ | ⟨g_2, h⟩
    · refine itp g_2 ?_
      obtain ⟨g_3, h⟩ := ite_some h
      refine itp g_3 ?_
      obtain ⟨g_4, h⟩ := ite_some h
      refine itp g_4 ?_
      rcases ite_or h with ⟨g_5, h⟩ | ⟨g_5, h⟩
      · refine itp g_5 ?_
        exact h
      · refine itn g_5 ?_
        exact ih _ _ _ _ r hk h
    · refine itn g_2 ?_
      exact h
theorem erasureref22_SameRow.mono   : ∀ (k k' : Nat) (a0 : (List TValue)) (b1 : (List TValue)) (r : Bool), k ≤ k' → erasureref22_SameRow k a0 b1 = some r → erasureref22_SameRow k' a0 b1 = some r := by
  intro k k' a0 b1 r hk h
  unfold erasureref22_SameRow at h ⊢
  rcases ite_or h with ⟨g_1, h⟩ | ⟨g_1, h⟩
  · refine itp g_1 ?_
    exact h
  · refine itn g_1 ?_
    exact erasureref22_SameRow.p1.mono _ _ _ _ _ r hk h
theorem erasureref22_SameRow.spec {k : Nat} {a0 : (List TValue)} {b1 : (List TValue)} {r : Bool} (h : erasureref22_SameRow k a0 b1 = some r) : Spec Try.prog 56 [.p (eL 3 cValue dValue a0), .p (eL 3 cValue dValue b1)] (.p (.bool r)) [] :=
  spec_of mix Try.func56 (body := bodyOf Try.f56) (by kernel_rfl) (by kernel_rfl) (erasureref22_SameRow.run h)
end Go.Proofs.YtjhnpaenhdbhpacV
set_option linter.unusedVariables false
set_option linter.unusedSimpArgs false
set_option maxRecDepth 100000
namespace Go.Proofs.YtjhnpaenhdbhpacV
open Go Go.RowKit
noncomputable def erasureref22_SameBag.p1  : Nat → (List TEntry) → (List TEntry) → Int → Option Bool
  | 0, _, _, _ => none
  | k + 1, a0, b1, i5 => if (decide (i5 < ((a0).length : Int))) = true then (if 0 ≤ i5 ∧ i5 < ((a0).length : Int) then (if 0 ≤ i5 ∧ i5 < ((b1).length : Int) then ((erasureref22_SameRow k ((a0.getD i5.toNat dEntry).f0) ((b1.getD i5.toNat dEntry).f0)).bind fun y_5 => (if (!y_5) = true then (some false) else (if ((a0.getD i5.toNat dEntry).f1 != (b1.getD i5.toNat dEntry).f1) = true then (some false) else (erasureref22_SameBag.p1 k a0 b1 (IntKind.i64.wrap (i5 + 1)))))) else none) else none) else (some true)
noncomputable def erasureref22_SameBag  (k : Nat) (a0 : (List TEntry)) (b1 : (List TEntry)) : Option Bool := if (((a0).length : Int) != ((b1).length : Int)) = true then (some false) else (erasureref22_SameBag.p1 k a0 b1 0)
noncomputable def erasureref22_SameBag.t : List Item := [.code (bodyOf Try.f38)]
noncomputable def erasureref22_SameBag.s (a0 : (List TEntry)) (b1 : (List TEntry)) : St := ⟨frOf Try.f38.ntmps 0 [(0, .p (eL 2 cEntry dEntry a0)), (1, .p (eL 2 cEntry dEntry b1))], []⟩
noncomputable def erasureref22_SameBag.p1.t : List Item := nav 12 [false] erasureref22_SameBag.t
noncomputable def erasureref22_SameBag.p1.s (a0 : (List TEntry)) (b1 : (List TEntry)) (i5 : Int) : St := ⟨frOf Try.f38.ntmps 0 [(0, .p (eL 2 cEntry dEntry a0)), (1, .p (eL 2 cEntry dEntry b1)), (5, .p (.int .i64 i5))], []⟩
theorem erasureref22_SameBag.p1.run   : ∀ (k : Nat) (a0 : (List TEntry)) (b1 : (List TEntry)) (i5 : Int) (r : Bool), erasureref22_SameBag.p1 k a0 b1 i5 = some r → RunC Try.prog Try.f38 erasureref22_SameBag.p1.t (erasureref22_SameBag.p1.s a0 b1 i5) (.p (.bool r)) [] := by
  intro k
  induction k with
  | zero => intro a0 b1 i5 r h; simp [erasureref22_SameBag.p1] at h
  | succ k ih =>
    intro a0 b1 i5 r h
    rw [erasureref22_SameBag.p1] at h
    rcases ite_or h with ⟨g_2, h⟩ | ⟨g_2, h⟩
    · obtain ⟨g_3, h⟩ := ite_some h
      obtain ⟨g_4, h⟩ := ite_some h
      obtain ⟨y_5, e_6, h⟩ := bind_or h
      rcases ite_or h with ⟨g_7, h⟩ | ⟨g_7, h⟩
      · obtain rfl := Option.some.inj h
        exact RunC.out [.n 2, .r [(3, .dec true)], .n 5, .r [(10, .call (.p (.bool y_5)) []), (12, .dec true)], .n 3] (by kernel_rfl) (Obs.of (by kernel_rfl) (And.intro g_2 (And.intro g_3 (And.intro g_4 (And.intro (erasureref22_SameRow.spec e_6) g_7)))))
      · rcases ite_or h with ⟨g_8, h⟩ | ⟨g_8, h⟩
        · obtain rfl := Option.some.inj h
          exact RunC.out [.n 2, .r [(3, .dec true)], .n 5, .r [(10, .call (.p (.bool y_5)) []), (12, .dec false), (24, .dec true)], .n 3] (by kernel_rfl) (Obs.of (by kernel_rfl) (And.intro g_2 (And.intro g_3 (And.intro g_4 (And.intro (erasureref22_SameRow.spec e_6) (And.intro (nt g_7) (And.intro g_3 (And.intro g_4 g_8))))))))
        · exact RunC.go [.n 2, .r [(3, .dec true)], .n 5, .r [(10, .call (.p (.bool y_5)) []), (12, .dec false), (24, .dec false)], .n 5, .k [0, 1, 5]] (by kernel_rfl) (Obs.of (by kernel_rfl) (And.intro g_2 (And.intro g_3 (And.intro g_4 (And.intro (erasureref22_SameRow.spec e_6) (And.intro (nt g_7) (And.intro g_3 (And.intro g_4 (nt g_8))))))))) (ih _ _ _ r h)
    · obtain rfl := Option.some.inj h
      exact RunC.out [.n 2, .r [(3, .dec false)], .n 4] (by kernel_rfl) (Obs.of (by kernel_rfl) (nt g_2))
theorem erasureref22_SameBag.run   {k : Nat} {a0 : (List TEntry)} {b1 : (List TEntry)} {r : Bool} (h : erasureref22_SameBag k a0 b1 = some r) : RunC Try.prog Try.f38 erasureref22_SameBag.t (erasureref22_SameBag.s a0 b1) (.p (.bool r)) [] := by
  unfold erasureref22_SameBag at h
  rcases ite_or h with ⟨g_1, h⟩ | ⟨g_1, h⟩
  · obtain rfl := Option.some.inj h
    exact RunC.out [.n 4, .r [(4, .dec true)], .n 3] (by kernel_rfl) (Obs.of (by kernel_rfl) g_1)
  · exact RunC.go [.n 4, .r [(4, .dec false)], .n 7, .k [0, 1, 5]] (by kernel_rfl) (Obs.of (by kernel_rfl) (nt g_1)) (erasureref22_SameBag.p1.run k _ _ _ r h)
theorem erasureref22_SameBag.p1.mono   : ∀ (k k' : Nat) (a0 : (List TEntry)) (b1 : (List TEntry)) (i5 : Int) (r : Bool), k ≤ k' → erasureref22_SameBag.p1 k a0 b1 i5 = some r → erasureref22_SameBag.p1 k' a0 b1 i5 = some r := by
  intro k
  induction k with
  | zero => intro k' a0 b1 i5 r hk h; simp [erasureref22_SameBag.p1] at h
  | succ k ih =>
    intro k' a0 b1 i5 r hk h
    obtain ⟨k', rfl⟩ : ∃ m, k' = m + 1 := ⟨k' - 1, by omega⟩
    replace hk := Nat.le_of_succ_le_succ hk
    rw [erasureref22_SameBag.p1] at h ⊢
    rcases ite_or h with ⟨g_2, h⟩ | ⟨g_2, h⟩
    · refine itp g_2 ?_
      obtain ⟨g_3, h⟩ := ite_some h
      refine itp g_3 ?_
      obtain ⟨g_4, h⟩ := ite_some h
      refine itp g_4 ?_
      obtain ⟨y_5, e_6, h⟩ := bind_or h
      refine bnd (erasureref22_SameRow.mono _ _ _ _ _ hk e_6) ?_
      rcases ite_or h with ⟨g_7, h⟩ | ⟨g_7, h⟩
      · refine itp g_7 ?_
        exact h
      · refine itn g_7 ?_
        rcases ite_or h with ⟨g_8, h⟩ | ⟨g_8, h⟩
        · refine itp g_8 ?_
          exact h
        · refine itn g_8 ?_
          exact ih _ _ _ _ r hk h
    · refine itn g_2 ?_
      exact h
theorem erasureref22_SameBag.mono   : ∀ (k k' : Nat) (a0 : (List TEntry)) (b1 : (List TEntry)) (r : Bool), k ≤ k' → erasureref22_SameBag k a0 b1 = some r → erasureref22_SameBag k' a0 b1 = some r := by
  intro k k' a0 b1 r hk h
  unfold erasureref22_SameBag at h ⊢
  rcases ite_or h with ⟨g_1, h⟩ | ⟨g_1, h⟩
  · refine itp g_1 ?_
    exact h
  · refine itn g_1 ?_
    exact erasureref22_SameBag.p1.mono _ _ _ _ _ r hk h
theorem erasureref22_SameBag.spec {k : Nat} {a0 : (List TEntry)} {b1 : (List TEntry)} {r : Bool} (h : erasureref22_SameBag k a0 b1 = some r) : Spec Try.prog 38 [.p (eL 2 cEntry dEntry a0), .p (eL 2 cEntry dEntry b1)] (.p (.bool r)) [] :=
  spec_of mix Try.func38 (body := bodyOf Try.f38) (by kernel_rfl) (by kernel_rfl) (erasureref22_SameBag.run h)
end Go.Proofs.YtjhnpaenhdbhpacV
set_option linter.unusedVariables false
set_option linter.unusedSimpArgs false
set_option maxRecDepth 100000
namespace Go.Proofs.YtjhnpaenhdbhpacV
open Go Go.RowKit
noncomputable def erasureref26_SameBag  (k : Nat) (a0 : (List TEntry)) (b1 : (List TEntry)) : Option Bool := (erasureref22_SameBag k a0 b1).bind fun y_1 => (some y_1)
noncomputable def erasureref26_SameBag.t : List Item := [.code (bodyOf Try.f19)]
noncomputable def erasureref26_SameBag.s (a0 : (List TEntry)) (b1 : (List TEntry)) : St := ⟨frOf Try.f19.ntmps 0 [(0, .p (eL 2 cEntry dEntry a0)), (1, .p (eL 2 cEntry dEntry b1))], []⟩
theorem erasureref26_SameBag.run   {k : Nat} {a0 : (List TEntry)} {b1 : (List TEntry)} {r : Bool} (h : erasureref26_SameBag k a0 b1 = some r) : RunC Try.prog Try.f19 erasureref26_SameBag.t (erasureref26_SameBag.s a0 b1) (.p (.bool r)) [] := by
  unfold erasureref26_SameBag at h
  obtain ⟨y_1, e_2, h⟩ := bind_or h
  obtain rfl := Option.some.inj h
  exact RunC.out [.n 3, .r [(2, .call (.p (.bool y_1)) [])]] (by kernel_rfl) (Obs.of (by kernel_rfl) (erasureref22_SameBag.spec e_2))
theorem erasureref26_SameBag.mono   : ∀ (k k' : Nat) (a0 : (List TEntry)) (b1 : (List TEntry)) (r : Bool), k ≤ k' → erasureref26_SameBag k a0 b1 = some r → erasureref26_SameBag k' a0 b1 = some r := by
  intro k k' a0 b1 r hk h
  unfold erasureref26_SameBag at h ⊢
  obtain ⟨y_1, e_2, h⟩ := bind_or h
  refine bnd (erasureref22_SameBag.mono _ _ _ _ _ hk e_2) ?_
  exact h
theorem erasureref26_SameBag.spec {k : Nat} {a0 : (List TEntry)} {b1 : (List TEntry)} {r : Bool} (h : erasureref26_SameBag k a0 b1 = some r) : Spec Try.prog 19 [.p (eL 2 cEntry dEntry a0), .p (eL 2 cEntry dEntry b1)] (.p (.bool r)) [] :=
  spec_of mix Try.func19 (body := bodyOf Try.f19) (by kernel_rfl) (by kernel_rfl) (erasureref26_SameBag.run h)
end Go.Proofs.YtjhnpaenhdbhpacV
set_option linter.unusedVariables false
set_option linter.unusedSimpArgs false
set_option maxRecDepth 100000
namespace Go.Proofs.YtjhnpaenhdbhpacV
open Go Go.RowKit
noncomputable def erasurelaw30_filled.p1  : Nat → (List TEntry) → (List TValue) → Int → Int → TCache → (List TCached) → Option ((List TCached) × Bool)
  | 0, _, _, _, _, _, _ => none
  | k + 1, rows1, values2, day3, i11, c4b, s10 => if (decide (i11 < ((values2).length : Int))) = true then (if (decide (i11 < 12)) = true then (if 0 ≤ i11 ∧ i11 < ((values2).length : Int) then ((cache_Lookup k c4b s10 rows1 (values2.getD i11.toNat dValue) day3).bind fun y_4 => (if (y_4.2.2 != 0) = true then (some (([] : List TCached), false)) else ((erasureref30_Select k rows1 c4b.f2 (values2.getD i11.toNat dValue)).bind fun y_7 => ((erasureref26_SameBag k y_4.2.1 y_7).bind fun y_9 => (if (!y_9) = true then (some (([] : List TCached), false)) else (erasurelaw30_filled.p1 k rows1 values2 day3 (IntKind.i64.wrap (i11 + 1)) c4b y_4.1)))))) else none) else (some (s10, true))) else (some (s10, true))
noncomputable def erasurelaw30_filled  (k : Nat) (c0 : TCache) (rows1 : (List TEntry)) (values2 : (List TValue)) (day3 : Int) : Option ((List TCached) × Bool) := erasurelaw30_filled.p1 k rows1 values2 day3 0 c0 ([] : List TCached)
noncomputable def erasurelaw30_filled.t : List Item := [.code (bodyOf Try.f7)]
noncomputable def erasurelaw30_filled.s (c0 : TCache) (rows1 : (List TEntry)) (values2 : (List TValue)) (day3 : Int) : St := ⟨frOf Try.f7.ntmps 0 [(0, .agg ((cCache c0).map .p)), (1, .p (eL 2 cEntry dEntry rows1)), (2, .p (eL 3 cValue dValue values2)), (3, .p (.int .i64 day3))], []⟩
noncomputable def erasurelaw30_filled.p1.t : List Item := nav 9 [] erasurelaw30_filled.t
noncomputable def erasurelaw30_filled.p1.s (rows1 : (List TEntry)) (values2 : (List TValue)) (day3 : Int) (i11 : Int) (c4b : TCache) (s10 : (List TCached)) : St := ⟨frOf Try.f7.ntmps 0 [(1, .p (eL 2 cEntry dEntry rows1)), (2, .p (eL 3 cValue dValue values2)), (3, .p (.int .i64 day3)), (4, .ptr 0 0 0), (10, .sref 1 55 5 (s10).length), (11, .p (.int .i64 i11))], [.box ((cCache c4b).map .p), (oL true 55 5 cCached dCached s10)]⟩
theorem erasurelaw30_filled.p1.run   : ∀ (k : Nat) (rows1 : (List TEntry)) (values2 : (List TValue)) (day3 : Int) (i11 : Int) (c4b : TCache) (s10 : (List TCached)) (r : ((List TCached) × Bool)), erasurelaw30_filled.p1 k rows1 values2 day3 i11 c4b s10 = some r → RunC Try.prog Try.f7 erasurelaw30_filled.p1.t (erasurelaw30_filled.p1.s rows1 values2 day3 i11 c4b s10) (.tup [.sref 0 55 5 (r.1).length, .p (.bool r.2)]) [(oL true 55 5 cCached dCached (r.1))] := by
  intro k
  induction k with
  | zero => intro rows1 values2 day3 i11 c4b s10 r h; simp [erasurelaw30_filled.p1] at h
  | succ k ih =>
    intro rows1 values2 day3 i11 c4b s10 r h
    rw [erasurelaw30_filled.p1] at h
    rcases ite_or h with ⟨g_1, h⟩ | ⟨g_1, h⟩
    · rcases ite_or h with ⟨g_2, h⟩ | ⟨g_2, h⟩
      · obtain ⟨g_3, h⟩ := ite_some h
        obtain ⟨y_4, e_5, h⟩ := bind_or h
        rcases ite_or h with ⟨g_6, h⟩ | ⟨g_6, h⟩
        · obtain rfl := Option.some.inj h
          exact RunC.out [.n 2, .r [(4, .dec true), (7, .dec true)], .n 5, .r [(8, .call (.tup [.sref 0 55 5 (y_4.1).length, .sref 1 42 2 (y_4.2.1).length, .p (.int .i64 y_4.2.2)]) [(oL true 55 5 cCached dCached y_4.1), (oL true 42 2 cEntry dEntry y_4.2.1)])], .n 2, .r [(2, .dec true)], .n 2, .r [(0, .obj (oL true 55 5 cCached dCached ([] : List TCached)))]] (by kernel_rfl) (Obs.of (by kernel_rfl) (And.intro g_1 (And.intro g_2 (And.intro g_3 (And.intro (cache_Lookup.spec e_5) (And.intro g_6 (le_nil 55 5 cCached dCached)))))))
        · obtain ⟨y_7, e_8, h⟩ := bind_or h
          obtain ⟨y_9, e_10, h⟩ := bind_or h
          rcases ite_or h with ⟨g_11, h⟩ | ⟨g_11, h⟩
          · obtain rfl := Option.some.inj h
            exact RunC.out [.n 2, .r [(4, .dec true), (7, .dec true)], .n 5, .r [(8, .call (.tup [.sref 0 55 5 (y_4.1).length, .sref 1 42 2 (y_4.2.1).length, .p (.int .i64 y_4.2.2)]) [(oL true 55 5 cCached dCached y_4.1), (oL true 42 2 cEntry dEntry y_4.2.1)])], .n 2, .r [(2, .dec false), (11, .call (.sref 0 42 2 (y_7).length) [(oL true 42 2 cEntry dEntry y_7)]), (12, .call (.p (.bool y_9)) []), (14, .dec true)], .n 2, .r [(0, .obj (oL true 55 5 cCached dCached ([] : List TCached)))]] (by kernel_rfl) (Obs.of (by kernel_rfl) (And.intro g_1 (And.intro g_2 (And.intro g_3 (And.intro (cache_Lookup.spec e_5) (And.intro (nt g_6) (And.intro g_3 (And.intro (erasureref30_Select.spec e_8) (And.intro (erasureref26_SameBag.spec e_10) (And.intro g_11 (le_nil 55 5 cCached dCached)))))))))))
          · exact RunC.go [.n 2, .r [(4, .dec true), (7, .dec true)], .n 5, .r [(8, .call (.tup [.sref 0 55 5 (y_4.1).length, .sref 1 42 2 (y_4.2.1).length, .p (.int .i64 y_4.2.2)]) [(oL true 55 5 cCached dCached y_4.1), (oL true 42 2 cEntry dEntry y_4.2.1)])], .n 2, .r [(2, .dec false), (11, .call (.sref 0 42 2 (y_7).length) [(oL true 42 2 cEntry dEntry y_7)]), (12, .call (.p (.bool y_9)) []), (14, .dec false)], .n 6, .k [1, 2, 3, 4, 10, 11]] (by kernel_rfl) (Obs.of (by kernel_rfl) (And.intro g_1 (And.intro g_2 (And.intro g_3 (And.intro (cache_Lookup.spec e_5) (And.intro (nt g_6) (And.intro g_3 (And.intro (erasureref30_Select.spec e_8) (And.intro (erasureref26_SameBag.spec e_10) (nt g_11)))))))))) (ih _ _ _ _ _ _ r h)
      · obtain rfl := Option.some.inj h
        exact RunC.out [.n 2, .r [(4, .dec true), (7, .dec false)], .n 4] (by kernel_rfl) (Obs.of (by kernel_rfl) (And.intro g_1 (nt g_2)))
    · obtain rfl := Option.some.inj h
      exact RunC.out [.n 2, .r [(4, .dec false)], .n 4] (by kernel_rfl) (Obs.of (by kernel_rfl) (nt g_1))
theorem erasurelaw30_filled.run   {k : Nat} {c0 : TCache} {rows1 : (List TEntry)} {values2 : (List TValue)} {day3 : Int} {r : ((List TCached) × Bool)} (h : erasurelaw30_filled k c0 rows1 values2 day3 = some r) : RunC Try.prog Try.f7 erasurelaw30_filled.t (erasurelaw30_filled.s c0 rows1 values2 day3) (.tup [.sref 0 55 5 (r.1).length, .p (.bool r.2)]) [(oL true 55 5 cCached dCached (r.1))] := by
  unfold erasurelaw30_filled at h
  exact RunC.go [.n 1, .r [(1, .obj (oL true 55 5 cCached dCached ([] : List TCached)))], .n 1, .r [(0, .obj (oL true 55 5 cCached dCached ([] : List TCached)))], .n 5, .k [1, 2, 3, 4, 10, 11]] (by kernel_rfl) (Obs.of (by kernel_rfl) (And.intro (le_nil 55 5 cCached dCached) (le_nil 55 5 cCached dCached))) (erasurelaw30_filled.p1.run k _ _ _ _ _ _ r h)
theorem erasurelaw30_filled.p1.mono   : ∀ (k k' : Nat) (rows1 : (List TEntry)) (values2 : (List TValue)) (day3 : Int) (i11 : Int) (c4b : TCache) (s10 : (List TCached)) (r : ((List TCached) × Bool)), k ≤ k' → erasurelaw30_filled.p1 k rows1 values2 day3 i11 c4b s10 = some r → erasurelaw30_filled.p1 k' rows1 values2 day3 i11 c4b s10 = some r := by
  intro k
  induction k with
  | zero => intro k' rows1 values2 day3 i11 c4b s10 r hk h; simp [erasurelaw30_filled.p1] at h
  | succ k ih =>
    intro k' rows1 values2 day3 i11 c4b s10 r hk h
    obtain ⟨k', rfl⟩ : ∃ m, k' = m + 1 := ⟨k' - 1, by omega⟩
    replace hk := Nat.le_of_succ_le_succ hk
    rw [erasurelaw30_filled.p1] at h ⊢
    rcases ite_or h with ⟨g_1, h⟩ | ⟨g_1, h⟩
    · refine itp g_1 ?_
      rcases ite_or h with ⟨g_2, h⟩ | ⟨g_2, h⟩
      · refine itp g_2 ?_
        obtain ⟨g_3, h⟩ := ite_some h
        refine itp g_3 ?_
        obtain ⟨y_4, e_5, h⟩ := bind_or h
        refine bnd (cache_Lookup.mono _ _ _ _ _ _ _ _ hk e_5) ?_
        rcases ite_or h with ⟨g_6, h⟩ | ⟨g_6, h⟩
        · refine itp g_6 ?_
          exact h
        · refine itn g_6 ?_
          obtain ⟨y_7, e_8, h⟩ := bind_or h
          refine bnd (erasureref30_Select.mono _ _ _ _ _ _ hk e_8) ?_
          obtain ⟨y_9, e_10, h⟩ := bind_or h
          refine bnd (erasureref26_SameBag.mono _ _ _ _ _ hk e_10) ?_
          rcases ite_or h with ⟨g_11, h⟩ | ⟨g_11, h⟩
          · refine itp g_11 ?_
            exact h
          · refine itn g_11 ?_
            exact ih _ _ _ _ _ _ _ r hk h
      · refine itn g_2 ?_
        exact h
    · refine itn g_1 ?_
      exact h
theorem erasurelaw30_filled.mono   : ∀ (k k' : Nat) (c0 : TCache) (rows1 : (List TEntry)) (values2 : (List TValue)) (day3 : Int) (r : ((List TCached) × Bool)), k ≤ k' → erasurelaw30_filled k c0 rows1 values2 day3 = some r → erasurelaw30_filled k' c0 rows1 values2 day3 = some r := by
  intro k k' c0 rows1 values2 day3 r hk h
  unfold erasurelaw30_filled at h ⊢
  exact erasurelaw30_filled.p1.mono _ _ _ _ _ _ _ _ r hk h
theorem erasurelaw30_filled.spec {k : Nat} {c0 : TCache} {rows1 : (List TEntry)} {values2 : (List TValue)} {day3 : Int} {r : ((List TCached) × Bool)} (h : erasurelaw30_filled k c0 rows1 values2 day3 = some r) : Spec Try.prog 7 [.agg ((cCache c0).map .p), .p (eL 2 cEntry dEntry rows1), .p (eL 3 cValue dValue values2), .p (.int .i64 day3)] (.tup [.sref 0 55 5 (r.1).length, .p (.bool r.2)]) [(oL true 55 5 cCached dCached (r.1))] :=
  spec_of mix Try.func7 (body := bodyOf Try.f7) (by kernel_rfl) (by kernel_rfl) (erasurelaw30_filled.run h)
end Go.Proofs.YtjhnpaenhdbhpacV
set_option linter.unusedVariables false
set_option linter.unusedSimpArgs false
set_option maxRecDepth 100000
namespace Go.Proofs.YtjhnpaenhdbhpacV
open Go Go.RowKit
noncomputable def slices_Equal_api_Value.p1  : Nat → (List TValue) → (List TValue) → Int → Int → Option Bool
  | 0, _, _, _, _ => none
  | k + 1, s10, s21, v12, v13 => if (decide (v13 < v12)) = true then (if 0 ≤ v13 ∧ v13 < ((s10).length : Int) then (if 0 ≤ v13 ∧ v13 < ((s21).length : Int) then (if (!(((s10.getD v13.toNat dValue).f0 == (s21.getD v13.toNat dValue).f0) && (((s10.getD v13.toNat dValue).f1 == (s21.getD v13.toNat dValue).f1) && ((((s10.getD v13.toNat dValue).f2).data.toList == ((s21.getD v13.toNat dValue).f2).data.toList) && true)))) = true then (some false) else (slices_Equal_api_Value.p1 k s10 s21 v12 (IntKind.i64.wrap (v13 + 1)))) else none) else none) else (some true)
noncomputable def slices_Equal_api_Value  (k : Nat) (s10 : (List TValue)) (s21 : (List TValue)) : Option Bool := if (((s10).length : Int) != ((s21).length : Int)) = true then (some false) else (slices_Equal_api_Value.p1 k s10 s21 ((s10).length : Int) 0)
noncomputable def slices_Equal_api_Value.t : List Item := [.code (bodyOf Try.f49)]
noncomputable def slices_Equal_api_Value.s (s10 : (List TValue)) (s21 : (List TValue)) : St := ⟨frOf Try.f49.ntmps 0 [(0, .p (eL 3 cValue dValue s10)), (1, .p (eL 3 cValue dValue s21))], []⟩
noncomputable def slices_Equal_api_Value.p1.t : List Item := nav 12 [false] slices_Equal_api_Value.t
noncomputable def slices_Equal_api_Value.p1.s (s10 : (List TValue)) (s21 : (List TValue)) (v12 : Int) (v13 : Int) : St := ⟨frOf Try.f49.ntmps 0 [(0, .p (eL 3 cValue dValue s10)), (1, .p (eL 3 cValue dValue s21)), (12, .p (.int .i64 v12)), (13, .p (.int .i64 v13))], []⟩
theorem slices_Equal_api_Value.p1.run   : ∀ (k : Nat) (s10 : (List TValue)) (s21 : (List TValue)) (v12 : Int) (v13 : Int) (r : Bool), slices_Equal_api_Value.p1 k s10 s21 v12 v13 = some r → RunC Try.prog Try.f49 slices_Equal_api_Value.p1.t (slices_Equal_api_Value.p1.s s10 s21 v12 v13) (.p (.bool r)) [] := by
  intro k
  induction k with
  | zero => intro s10 s21 v12 v13 r h; simp [slices_Equal_api_Value.p1] at h
  | succ k ih =>
    intro s10 s21 v12 v13 r h
    rw [slices_Equal_api_Value.p1] at h
    rcases ite_or h with ⟨g_2, h⟩ | ⟨g_2, h⟩
    · obtain ⟨g_3, h⟩ := ite_some h
      obtain ⟨g_4, h⟩ := ite_some h
      rcases ite_or h with ⟨g_5, h⟩ | ⟨g_5, h⟩
      · obtain rfl := Option.some.inj h
        exact RunC.out [.n 1, .r [(0, .dec true)], .n 8, .r [(8, .dec true)], .n 3] (by kernel_rfl) (Obs.of (by kernel_rfl) (And.intro g_2 (And.intro g_3 (And.intro g_4 g_5))))
      · exact RunC.go [.n 1, .r [(0, .dec true)], .n 8, .r [(8, .dec false)], .n 5, .k [0, 1, 12, 13]] (by kernel_rfl) (Obs.of (by kernel_rfl) (And.intro g_2 (And.intro g_3 (And.intro g_4 (nt g_5))))) (ih _ _ _ _ r h)
    · obtain rfl := Option.some.inj h
      exact RunC.out [.n 1, .r [(0, .dec false)], .n 5] (by kernel_rfl) (Obs.of (by kernel_rfl) (nt g_2))
theorem slices_Equal_api_Value.run   {k : Nat} {s10 : (List TValue)} {s21 : (List TValue)} {r : Bool} (h : slices_Equal_api_Value k s10 s21 = some r) : RunC Try.prog Try.f49 slices_Equal_api_Value.t (slices_Equal_api_Value.s s10 s21) (.p (.bool r)) [] := by
  unfold slices_Equal_api_Value at h
  rcases ite_or h with ⟨g_1, h⟩ | ⟨g_1, h⟩
  · obtain rfl := Option.some.inj h
    exact RunC.out [.n 4, .r [(4, .dec true)], .n 3] (by kernel_rfl) (Obs.of (by kernel_rfl) g_1)
  · exact RunC.go [.n 4, .r [(4, .dec false)], .n 7, .k [0, 1, 12, 13]] (by kernel_rfl) (Obs.of (by kernel_rfl) (nt g_1)) (slices_Equal_api_Value.p1.run k _ _ _ _ r h)
theorem slices_Equal_api_Value.p1.mono   : ∀ (k k' : Nat) (s10 : (List TValue)) (s21 : (List TValue)) (v12 : Int) (v13 : Int) (r : Bool), k ≤ k' → slices_Equal_api_Value.p1 k s10 s21 v12 v13 = some r → slices_Equal_api_Value.p1 k' s10 s21 v12 v13 = some r := by
  intro k
  induction k with
  | zero => intro k' s10 s21 v12 v13 r hk h; simp [slices_Equal_api_Value.p1] at h
  | succ k ih =>
    intro k' s10 s21 v12 v13 r hk h
    obtain ⟨k', rfl⟩ : ∃ m, k' = m + 1 := ⟨k' - 1, by omega⟩
    replace hk := Nat.le_of_succ_le_succ hk
    rw [slices_Equal_api_Value.p1] at h ⊢
    rcases ite_or h with ⟨g_2, h⟩ | ⟨g_2, h⟩
    · refine itp g_2 ?_
      obtain ⟨g_3, h⟩ := ite_some h
      refine itp g_3 ?_
      obtain ⟨g_4, h⟩ := ite_some h
      refine itp g_4 ?_
      rcases ite_or h with ⟨g_5, h⟩ | ⟨g_5, h⟩
      · refine itp g_5 ?_
        exact h
      · refine itn g_5 ?_
        exact ih _ _ _ _ _ r hk h
    · refine itn g_2 ?_
      exact h
theorem slices_Equal_api_Value.mono   : ∀ (k k' : Nat) (s10 : (List TValue)) (s21 : (List TValue)) (r : Bool), k ≤ k' → slices_Equal_api_Value k s10 s21 = some r → slices_Equal_api_Value k' s10 s21 = some r := by
  intro k k' s10 s21 r hk h
  unfold slices_Equal_api_Value at h ⊢
  rcases ite_or h with ⟨g_1, h⟩ | ⟨g_1, h⟩
  · refine itp g_1 ?_
    exact h
  · refine itn g_1 ?_
    exact slices_Equal_api_Value.p1.mono _ _ _ _ _ _ r hk h
theorem slices_Equal_api_Value.spec {k : Nat} {s10 : (List TValue)} {s21 : (List TValue)} {r : Bool} (h : slices_Equal_api_Value k s10 s21 = some r) : Spec Try.prog 49 [.p (eL 3 cValue dValue s10), .p (eL 3 cValue dValue s21)] (.p (.bool r)) [] :=
  spec_of mix Try.func49 (body := bodyOf Try.f49) (by kernel_rfl) (by kernel_rfl) (slices_Equal_api_Value.run h)
end Go.Proofs.YtjhnpaenhdbhpacV
set_option linter.unusedVariables false
set_option linter.unusedSimpArgs false
set_option maxRecDepth 100000
namespace Go.Proofs.YtjhnpaenhdbhpacV
open Go Go.RowKit
noncomputable def cache_same.p1  : Nat → (List TEntry) → (List TEntry) → Int → Option Bool
  | 0, _, _, _ => none
  | k + 1, a0, b1, i5 => if (decide (i5 < ((a0).length : Int))) = true then (if 0 ≤ i5 ∧ i5 < ((a0).length : Int) then (if 0 ≤ i5 ∧ i5 < ((b1).length : Int) then (if ((a0.getD i5.toNat dEntry).f1 != (b1.getD i5.toNat dEntry).f1) = true then (some false) else ((slices_Equal_api_Value k ((a0.getD i5.toNat dEntry).f0) ((b1.getD i5.toNat dEntry).f0)).bind fun y_6 => (if (!y_6) = true then (some false) else (cache_same.p1 k a0 b1 (IntKind.i64.wrap (i5 + 1)))))) else none) else none) else (some true)
noncomputable def cache_same  (k : Nat) (a0 : (List TEntry)) (b1 : (List TEntry)) : Option Bool := if (((a0).length : Int) != ((b1).length : Int)) = true then (some false) else (cache_same.p1 k a0 b1 0)
noncomputable def cache_same.t : List Item := [.code (bodyOf Try.f25)]
noncomputable def cache_same.s (a0 : (List TEntry)) (b1 : (List TEntry)) : St := ⟨frOf Try.f25.ntmps 0 [(0, .p (eL 2 cEntry dEntry a0)), (1, .p (eL 2 cEntry dEntry b1))], []⟩
noncomputable def cache_same.p1.t : List Item := nav 12 [false] cache_same.t
noncomputable def cache_same.p1.s (a0 : (List TEntry)) (b1 : (List TEntry)) (i5 : Int) : St := ⟨frOf Try.f25.ntmps 0 [(0, .p (eL 2 cEntry dEntry a0)), (1, .p (eL 2 cEntry dEntry b1)), (5, .p (.int .i64 i5))], []⟩
theorem cache_same.p1.run   : ∀ (k : Nat) (a0 : (List TEntry)) (b1 : (List TEntry)) (i5 : Int) (r : Bool), cache_same.p1 k a0 b1 i5 = some r → RunC Try.prog Try.f25 cache_same.p1.t (cache_same.p1.s a0 b1 i5) (.p (.bool r)) [] := by
  intro k
  induction k with
  | zero => intro a0 b1 i5 r h; simp [cache_same.p1] at h
  | succ k ih =>
    intro a0 b1 i5 r h
    rw [cache_same.p1] at h
    rcases ite_or h with ⟨g_2, h⟩ | ⟨g_2, h⟩
    · obtain ⟨g_3, h⟩ := ite_some h
      obtain ⟨g_4, h⟩ := ite_some h
      rcases ite_or h with ⟨g_5, h⟩ | ⟨g_5, h⟩
      · obtain rfl := Option.some.inj h
        exact RunC.out [.n 2, .r [(3, .dec true)], .n 5, .r [(11, .dec true)], .n 3] (by kernel_rfl) (Obs.of (by kernel_rfl) (And.intro g_2 (And.intro g_3 (And.intro g_4 g_5))))
      · obtain ⟨y_6, e_7, h⟩ := bind_or h
        rcases ite_or h with ⟨g_8, h⟩ | ⟨g_8, h⟩
        · obtain rfl := Option.some.inj h
          exact RunC.out [.n 2, .r [(3, .dec true)], .n 5, .r [(11, .dec false), (22, .call (.p (.bool y_6)) []), (24, .dec true)], .n 3] (by kernel_rfl) (Obs.of (by kernel_rfl) (And.intro g_2 (And.intro g_3 (And.intro g_4 (And.intro (nt g_5) (And.intro g_3 (And.intro g_4 (And.intro (slices_Equal_api_Value.spec e_7) g_8))))))))
        · exact RunC.go [.n 2, .r [(3, .dec true)], .n 5, .r [(11, .dec false), (22, .call (.p (.bool y_6)) []), (24, .dec false)], .n 5, .k [0, 1, 5]] (by kernel_rfl) (Obs.of (by kernel_rfl) (And.intro g_2 (And.intro g_3 (And.intro g_4 (And.intro (nt g_5) (And.intro g_3 (And.intro g_4 (And.intro (slices_Equal_api_Value.spec e_7) (nt g_8))))))))) (ih _ _ _ r h)
    · obtain rfl := Option.some.inj h
      exact RunC.out [.n 2, .r [(3, .dec false)], .n 4] (by kernel_rfl) (Obs.of (by kernel_rfl) (nt g_2))
theorem cache_same.run   {k : Nat} {a0 : (List TEntry)} {b1 : (List TEntry)} {r : Bool} (h : cache_same k a0 b1 = some r) : RunC Try.prog Try.f25 cache_same.t (cache_same.s a0 b1) (.p (.bool r)) [] := by
  unfold cache_same at h
  rcases ite_or h with ⟨g_1, h⟩ | ⟨g_1, h⟩
  · obtain rfl := Option.some.inj h
    exact RunC.out [.n 4, .r [(4, .dec true)], .n 3] (by kernel_rfl) (Obs.of (by kernel_rfl) g_1)
  · exact RunC.go [.n 4, .r [(4, .dec false)], .n 7, .k [0, 1, 5]] (by kernel_rfl) (Obs.of (by kernel_rfl) (nt g_1)) (cache_same.p1.run k _ _ _ r h)
theorem cache_same.p1.mono   : ∀ (k k' : Nat) (a0 : (List TEntry)) (b1 : (List TEntry)) (i5 : Int) (r : Bool), k ≤ k' → cache_same.p1 k a0 b1 i5 = some r → cache_same.p1 k' a0 b1 i5 = some r := by
  intro k
  induction k with
  | zero => intro k' a0 b1 i5 r hk h; simp [cache_same.p1] at h
  | succ k ih =>
    intro k' a0 b1 i5 r hk h
    obtain ⟨k', rfl⟩ : ∃ m, k' = m + 1 := ⟨k' - 1, by omega⟩
    replace hk := Nat.le_of_succ_le_succ hk
    rw [cache_same.p1] at h ⊢
    rcases ite_or h with ⟨g_2, h⟩ | ⟨g_2, h⟩
    · refine itp g_2 ?_
      obtain ⟨g_3, h⟩ := ite_some h
      refine itp g_3 ?_
      obtain ⟨g_4, h⟩ := ite_some h
      refine itp g_4 ?_
      rcases ite_or h with ⟨g_5, h⟩ | ⟨g_5, h⟩
      · refine itp g_5 ?_
        exact h
      · refine itn g_5 ?_
        obtain ⟨y_6, e_7, h⟩ := bind_or h
        refine bnd (slices_Equal_api_Value.mono _ _ _ _ _ hk e_7) ?_
        rcases ite_or h with ⟨g_8, h⟩ | ⟨g_8, h⟩
        · refine itp g_8 ?_
          exact h
        · refine itn g_8 ?_
          exact ih _ _ _ _ r hk h
    · refine itn g_2 ?_
      exact h
theorem cache_same.mono   : ∀ (k k' : Nat) (a0 : (List TEntry)) (b1 : (List TEntry)) (r : Bool), k ≤ k' → cache_same k a0 b1 = some r → cache_same k' a0 b1 = some r := by
  intro k k' a0 b1 r hk h
  unfold cache_same at h ⊢
  rcases ite_or h with ⟨g_1, h⟩ | ⟨g_1, h⟩
  · refine itp g_1 ?_
    exact h
  · refine itn g_1 ?_
    exact cache_same.p1.mono _ _ _ _ _ r hk h
theorem cache_same.spec {k : Nat} {a0 : (List TEntry)} {b1 : (List TEntry)} {r : Bool} (h : cache_same k a0 b1 = some r) : Spec Try.prog 25 [.p (eL 2 cEntry dEntry a0), .p (eL 2 cEntry dEntry b1)] (.p (.bool r)) [] :=
  spec_of mix Try.func25 (body := bodyOf Try.f25) (by kernel_rfl) (by kernel_rfl) (cache_same.run h)
end Go.Proofs.YtjhnpaenhdbhpacV
set_option linter.unusedVariables false
set_option linter.unusedSimpArgs false
set_option maxRecDepth 100000
namespace Go.Proofs.YtjhnpaenhdbhpacV
open Go Go.RowKit
noncomputable def cache_Fresh.p1  : Nat → (List TCached) → (List TEntry) → Int → TCache → Option Bool
  | 0, _, _, _, _ => none
  | k + 1, s1, rows2, i7, c3b => if (decide (i7 < ((s1).length : Int))) = true then (if 0 ≤ i7 ∧ i7 < ((s1).length : Int) then ((cache_Select k rows2 c3b.f2 ((s1.getD i7.toNat dCached).f0)).bind fun y_9 => ((cache_same k ((s1.getD i7.toNat dCached).f1) y_9).bind fun y_11 => (if (!y_11) = true then (some false) else (cache_Fresh.p1 k s1 rows2 (IntKind.i64.wrap (i7 + 1)) c3b)))) else none) else (some true)
noncomputable def cache_Fresh  (k : Nat) (c0 : TCache) (s1 : (List TCached)) (rows2 : (List TEntry)) : Option Bool := (cache_Valid k s1).bind fun y_1 => (if (!y_1) = true then (some false) else ((bag_Valid k rows2).bind fun y_4 => (if (!y_4) = true then (some false) else (cache_Fresh.p1 k s1 rows2 0 c0))))
noncomputable def cache_Fresh.t : List Item := [.code (bodyOf Try.f9)]
noncomputable def cache_Fresh.s (c0 : TCache) (s1 : (List TCached)) (rows2 : (List TEntry)) : St := ⟨frOf Try.f9.ntmps 0 [(0, .agg ((cCache c0).map .p)), (1, .p (eL 5 cCached dCached s1)), (2, .p (eL 2 cEntry dEntry rows2))], []⟩
noncomputable def cache_Fresh.p1.t : List Item := nav 12 [false] cache_Fresh.t
noncomputable def cache_Fresh.p1.s (s1 : (List TCached)) (rows2 : (List TEntry)) (i7 : Int) (c3b : TCache) : St := ⟨frOf Try.f9.ntmps 0 [(1, .p (eL 5 cCached dCached s1)), (2, .p (eL 2 cEntry dEntry rows2)), (3, .ptr 0 0 0), (7, .p (.int .i64 i7))], [.box ((cCache c3b).map .p)]⟩
theorem cache_Fresh.p1.run   : ∀ (k : Nat) (s1 : (List TCached)) (rows2 : (List TEntry)) (i7 : Int) (c3b : TCache) (r : Bool), cache_Fresh.p1 k s1 rows2 i7 c3b = some r → RunC Try.prog Try.f9 cache_Fresh.p1.t (cache_Fresh.p1.s s1 rows2 i7 c3b) (.p (.bool r)) [] := by
  intro k
  induction k with
  | zero => intro s1 rows2 i7 c3b r h; simp [cache_Fresh.p1] at h
  | succ k ih =>
    intro s1 rows2 i7 c3b r h
    rw [cache_Fresh.p1] at h
    rcases ite_or h with ⟨g_7, h⟩ | ⟨g_7, h⟩
    · obtain ⟨g_8, h⟩ := ite_some h
      obtain ⟨y_9, e_10, h⟩ := bind_or h
      obtain ⟨y_11, e_12, h⟩ := bind_or h
      rcases ite_or h with ⟨g_13, h⟩ | ⟨g_13, h⟩
      · obtain rfl := Option.some.inj h
        exact RunC.out [.n 2, .r [(3, .dec true)], .n 5, .r [(13, .call (.sref 0 42 2 (y_9).length) [(oL true 42 2 cEntry dEntry y_9)]), (14, .call (.p (.bool y_11)) []), (15, .dec true)], .n 3] (by kernel_rfl) (Obs.of (by kernel_rfl) (And.intro g_7 (And.intro g_8 (And.intro g_8 (And.intro (cache_Select.spec e_10) (And.intro (cache_same.spec e_12) g_13))))))
      · exact RunC.go [.n 2, .r [(3, .dec true)], .n 5, .r [(13, .call (.sref 0 42 2 (y_9).length) [(oL true 42 2 cEntry dEntry y_9)]), (14, .call (.p (.bool y_11)) []), (15, .dec false)], .n 5, .k [1, 2, 3, 7]] (by kernel_rfl) (Obs.of (by kernel_rfl) (And.intro g_7 (And.intro g_8 (And.intro g_8 (And.intro (cache_Select.spec e_10) (And.intro (cache_same.spec e_12) (nt g_13))))))) (ih _ _ _ _ r h)
    · obtain rfl := Option.some.inj h
      exact RunC.out [.n 2, .r [(3, .dec false)], .n 4] (by kernel_rfl) (Obs.of (by kernel_rfl) (nt g_7))
theorem cache_Fresh.run   {k : Nat} {c0 : TCache} {s1 : (List TCached)} {rows2 : (List TEntry)} {r : Bool} (h : cache_Fresh k c0 s1 rows2 = some r) : RunC Try.prog Try.f9 cache_Fresh.t (cache_Fresh.s c0 s1 rows2) (.p (.bool r)) [] := by
  unfold cache_Fresh at h
  obtain ⟨y_1, e_2, h⟩ := bind_or h
  rcases ite_or h with ⟨g_3, h⟩ | ⟨g_3, h⟩
  · obtain rfl := Option.some.inj h
    exact RunC.out [.n 4, .r [(1, .call (.p (.bool y_1)) []), (3, .dec true)], .n 3] (by kernel_rfl) (Obs.of (by kernel_rfl) (And.intro (cache_Valid.spec e_2) g_3))
  · obtain ⟨y_4, e_5, h⟩ := bind_or h
    rcases ite_or h with ⟨g_6, h⟩ | ⟨g_6, h⟩
    · obtain rfl := Option.some.inj h
      exact RunC.out [.n 4, .r [(1, .call (.p (.bool y_1)) []), (3, .dec false), (5, .call (.p (.bool y_4)) []), (7, .dec true)], .n 3] (by kernel_rfl) (Obs.of (by kernel_rfl) (And.intro (cache_Valid.spec e_2) (And.intro (nt g_3) (And.intro (bag_Valid.spec e_5) g_6))))
    · exact RunC.go [.n 4, .r [(1, .call (.p (.bool y_1)) []), (3, .dec false), (5, .call (.p (.bool y_4)) []), (7, .dec false)], .n 7, .k [1, 2, 3, 7]] (by kernel_rfl) (Obs.of (by kernel_rfl) (And.intro (cache_Valid.spec e_2) (And.intro (nt g_3) (And.intro (bag_Valid.spec e_5) (nt g_6))))) (cache_Fresh.p1.run k _ _ _ _ r h)
theorem cache_Fresh.p1.mono   : ∀ (k k' : Nat) (s1 : (List TCached)) (rows2 : (List TEntry)) (i7 : Int) (c3b : TCache) (r : Bool), k ≤ k' → cache_Fresh.p1 k s1 rows2 i7 c3b = some r → cache_Fresh.p1 k' s1 rows2 i7 c3b = some r := by
  intro k
  induction k with
  | zero => intro k' s1 rows2 i7 c3b r hk h; simp [cache_Fresh.p1] at h
  | succ k ih =>
    intro k' s1 rows2 i7 c3b r hk h
    obtain ⟨k', rfl⟩ : ∃ m, k' = m + 1 := ⟨k' - 1, by omega⟩
    replace hk := Nat.le_of_succ_le_succ hk
    rw [cache_Fresh.p1] at h ⊢
    rcases ite_or h with ⟨g_7, h⟩ | ⟨g_7, h⟩
    · refine itp g_7 ?_
      obtain ⟨g_8, h⟩ := ite_some h
      refine itp g_8 ?_
      obtain ⟨y_9, e_10, h⟩ := bind_or h
      refine bnd (cache_Select.mono _ _ _ _ _ _ hk e_10) ?_
      obtain ⟨y_11, e_12, h⟩ := bind_or h
      refine bnd (cache_same.mono _ _ _ _ _ hk e_12) ?_
      rcases ite_or h with ⟨g_13, h⟩ | ⟨g_13, h⟩
      · refine itp g_13 ?_
        exact h
      · refine itn g_13 ?_
        exact ih _ _ _ _ _ r hk h
    · refine itn g_7 ?_
      exact h
theorem cache_Fresh.mono   : ∀ (k k' : Nat) (c0 : TCache) (s1 : (List TCached)) (rows2 : (List TEntry)) (r : Bool), k ≤ k' → cache_Fresh k c0 s1 rows2 = some r → cache_Fresh k' c0 s1 rows2 = some r := by
  intro k k' c0 s1 rows2 r hk h
  unfold cache_Fresh at h ⊢
  obtain ⟨y_1, e_2, h⟩ := bind_or h
  refine bnd (cache_Valid.mono _ _ _ _ hk e_2) ?_
  rcases ite_or h with ⟨g_3, h⟩ | ⟨g_3, h⟩
  · refine itp g_3 ?_
    exact h
  · refine itn g_3 ?_
    obtain ⟨y_4, e_5, h⟩ := bind_or h
    refine bnd (bag_Valid.mono _ _ _ _ hk e_5) ?_
    rcases ite_or h with ⟨g_6, h⟩ | ⟨g_6, h⟩
    · refine itp g_6 ?_
      exact h
    · refine itn g_6 ?_
      exact cache_Fresh.p1.mono _ _ _ _ _ _ r hk h
theorem cache_Fresh.spec {k : Nat} {c0 : TCache} {s1 : (List TCached)} {rows2 : (List TEntry)} {r : Bool} (h : cache_Fresh k c0 s1 rows2 = some r) : Spec Try.prog 9 [.agg ((cCache c0).map .p), .p (eL 5 cCached dCached s1), .p (eL 2 cEntry dEntry rows2)] (.p (.bool r)) [] :=
  spec_of mix Try.func9 (body := bodyOf Try.f9) (by kernel_rfl) (by kernel_rfl) (cache_Fresh.run h)
end Go.Proofs.YtjhnpaenhdbhpacV
set_option maxRecDepth 100000
namespace Go.Proofs.YtjhnpaenhdbhpacV
open Go Go.RowKit Go.Shelf
def sl30_ren : Go.Shelf.Ren := ⟨fun | 6 => 30 | 15 => 51 | 14 => 50 | 28 => 70 | 29 => 71 | 20 => 62 | 21 => 63 | 22 => 64 | 23 => 65 | 24 => 66 | 25 => 67 | 26 => 68 | 27 => 69 | 46 => 85 | 47 => 86 | 48 => 87 | 49 => 88 | 50 => 89 | 57 => 93 | n => n, fun | 22 => 26 | 24 => 44 | 25 => 62 | 3 => 3 | 39 => 79 | 0 => 0 | 53 => 98 | 55 => 85 | 4 => 4 | 46 => 91 | 45 => 90 | 50 => 95 | 5 => 5 | 9 => 9 | 66 => 108 | 70 => 112 | 76 => 116 | 77 => 117 | n => n, fun n => n⟩
theorem sl30 : SlLaysF0.n6 Try.prog sl30_ren where
  mixed := by kernel_rfl
  f6 := ⟨"slices.SortFunc[[]erasure/api.Value,erasure/api.Value]", by decide, Try.func30.trans (congrArg some (by kernel_rfl))⟩
  f14 := ⟨"slices.pdqsortCmpFunc[erasure/api.Value]", by decide, Try.func50.trans (congrArg some (by kernel_rfl))⟩
  f15 := Try.func51.trans (congrArg some (by kernel_rfl))
  f20 := ⟨"slices.insertionSortCmpFunc[erasure/api.Value]", by decide, Try.func62.trans (congrArg some (by kernel_rfl))⟩
  f21 := ⟨"slices.heapSortCmpFunc[erasure/api.Value]", by decide, Try.func63.trans (congrArg some (by kernel_rfl))⟩
  f22 := ⟨"slices.breakPatternsCmpFunc[erasure/api.Value]", by decide, Try.func64.trans (congrArg some (by kernel_rfl))⟩
  f23 := ⟨"slices.choosePivotCmpFunc[erasure/api.Value]", by decide, Try.func65.trans (congrArg some (by kernel_rfl))⟩
  f24 := ⟨"slices.reverseRangeCmpFunc[erasure/api.Value]", by decide, Try.func66.trans (congrArg some (by kernel_rfl))⟩
  f25 := ⟨"slices.partialInsertionSortCmpFunc[erasure/api.Value]", by decide, Try.func67.trans (congrArg some (by kernel_rfl))⟩
  f26 := ⟨"slices.partitionEqualCmpFunc[erasure/api.Value]", by decide, Try.func68.trans (congrArg some (by kernel_rfl))⟩
  f27 := ⟨"slices.partitionCmpFunc[erasure/api.Value]", by decide, Try.func69.trans (congrArg some (by kernel_rfl))⟩
  f28 := Try.func70.trans (congrArg some (by kernel_rfl))
  f29 := Try.func71.trans (congrArg some (by kernel_rfl))
  f46 := ⟨"slices.siftDownCmpFunc[erasure/api.Value]", by decide, Try.func85.trans (congrArg some (by kernel_rfl))⟩
  f47 := Try.func86.trans (congrArg some (by kernel_rfl))
  f48 := Try.func87.trans (congrArg some (by kernel_rfl))
  f49 := ⟨"slices.medianAdjacentCmpFunc[erasure/api.Value]", by decide, Try.func88.trans (congrArg some (by kernel_rfl))⟩
  f50 := ⟨"slices.medianCmpFunc[erasure/api.Value]", by decide, Try.func89.trans (congrArg some (by kernel_rfl))⟩
  f57 := ⟨"slices.order2CmpFunc[erasure/api.Value]", by decide, Try.func93.trans (congrArg some (by kernel_rfl))⟩
  t0 := Try.underlying0
  a0 := Try.isAgg0
  z0 := Try.sizeOf0
  v0 := Try.zeroValue0
  t3 := Try.underlying3
  a3 := Try.isAgg3
  z3 := Try.sizeOf3
  v3 := Try.zeroValue3
  t4 := Try.underlying4
  a4 := Try.isAgg4
  z4 := Try.sizeOf4
  v4 := Try.zeroValue4
  t5 := Try.underlying5
  a5 := Try.isAgg5
  z5 := Try.sizeOf5
  v5 := Try.zeroValue5
  t9 := Try.underlying9
  a9 := Try.isAgg9
  z9 := Try.sizeOf9
  v9 := Try.zeroValue9
  t22 := Try.underlying26
  a22 := Try.isAgg26
  z22 := Try.sizeOf26
  v22 := Try.zeroValue26
  t25 := Try.underlying62
  a25 := Try.isAgg62
  z25 := Try.sizeOf62
  v25 := Try.zeroValue62
  t39 := Try.underlying79
  a39 := Try.isAgg79
  z39 := Try.sizeOf79
  v39 := Try.zeroValue79
  t45 := Try.underlying90
  a45 := Try.isAgg90
  z45 := Try.sizeOf90
  v45 := Try.zeroValue90
  t46 := Try.underlying91
  a46 := Try.isAgg91
  z46 := Try.sizeOf91
  v46 := Try.zeroValue91
  t50 := Try.underlying95
  a50 := Try.isAgg95
  z50 := Try.sizeOf95
  v50 := Try.zeroValue95
  t53 := Try.underlying98
  a53 := Try.isAgg98
  z53 := Try.sizeOf98
  v53 := Try.zeroValue98
  t55 := Try.underlying85
  a55 := Try.isAgg85
  z55 := Try.sizeOf85
  v55 := Try.zeroValue85
  t66 := Try.underlying108
  a66 := Try.isAgg108
  z66 := Try.sizeOf108
  v66 := Try.zeroValue108
  t70 := Try.underlying112
  a70 := Try.isAgg112
  z70 := Try.sizeOf112
  v70 := Try.zeroValue112
  t76 := Try.underlying116
  a76 := Try.isAgg116
  z76 := Try.sizeOf116
  v76 := Try.zeroValue116
  t77 := Try.underlying117
  a77 := Try.isAgg117
  z77 := Try.sizeOf117
  v77 := Try.zeroValue117
end Go.Proofs.YtjhnpaenhdbhpacV
set_option linter.unusedVariables false
set_option linter.unusedSimpArgs false
set_option maxRecDepth 100000
namespace Go.Proofs.YtjhnpaenhdbhpacV
open Go Go.RowKit
noncomputable def cache_Touched.p2 (rec1 : Int → Int → Int → (List (TValue × Bool)) → (List TValue) → (List (List TEntry)) → Option (List TValue)) : Nat → Int → (List TEntry) → Int → Int → Int → (List (TValue × Bool)) → (List TValue) → (List (List TEntry)) → Option (List TValue)
  | 0, _, _, _, _, _, _, _, _ => none
  | k + 1, column2, l10, i11, v17, v18, seen7b, out8, v16 => if (decide (i11 < ((l10).length : Int))) = true then (if 0 ≤ i11 ∧ i11 < ((l10).length : Int) then ((cache_at k ((l10.getD i11.toNat dEntry).f0) column2).bind fun y_5 => (if (!(getM seen7b y_5 false)) = true then (if (out8).length + ([y_5]).length ≤ maxLen ∧ ((out8).length + ([y_5]).length) * 32 ≤ 140737488355328 then (cache_Touched.p2 rec1 k column2 l10 (IntKind.i64.wrap (i11 + 1)) v17 v18 (putM seen7b y_5 true) (out8 ++ ([y_5])) v16) else none) else (cache_Touched.p2 rec1 k column2 l10 (IntKind.i64.wrap (i11 + 1)) v17 v18 seen7b out8 v16))) else none) else (rec1 column2 v17 (IntKind.i64.wrap (v18 + 1)) seen7b out8 v16)
noncomputable def cache_Touched.p1  : Nat → Int → Int → Int → (List (TValue × Bool)) → (List TValue) → (List (List TEntry)) → Option (List TValue)
  | 0, _, _, _, _, _, _ => none
  | k + 1, column2, v17, v18, seen7b, out8, v16 => if (decide (v18 < v17)) = true then (if 0 ≤ v18 ∧ v18 < ((v16).length : Int) then (cache_Touched.p2 (cache_Touched.p1 k) k column2 (v16.getD v18.toNat ([] : List TEntry)) 0 v17 v18 seen7b out8 v16) else none) else ((sortC (fun k x y => value_Compare k x y) out8).bind fun y_9 => (some y_9))
noncomputable def cache_Touched  (k : Nat) (minus0 : (List TEntry)) (plus1 : (List TEntry)) (column2 : Int) : Option (List TValue) := cache_Touched.p1 k column2 (([minus0, plus1]).length : Int) 0 ([] : (List (TValue × Bool))) ([] : List TValue) ([minus0, plus1])
noncomputable def cache_Touched.t : List Item := [.code (bodyOf Try.f11)]
noncomputable def cache_Touched.s (minus0 : (List TEntry)) (plus1 : (List TEntry)) (column2 : Int) : St := ⟨frOf Try.f11.ntmps 0 [(0, .p (eL 2 cEntry dEntry minus0)), (1, .p (eL 2 cEntry dEntry plus1)), (2, .p (.int .i64 column2))], []⟩
noncomputable def cache_Touched.p1.t : List Item := nav 11 [] cache_Touched.t
noncomputable def cache_Touched.p1.s (column2 : Int) (v17 : Int) (v18 : Int) (seen7b : (List (TValue × Bool))) (out8 : (List TValue)) (v16 : (List (List TEntry))) : St := ⟨frOf Try.f11.ntmps 0 [(2, .p (.int .i64 column2)), (7, .mref 0 0), (8, .sref 1 44 3 (out8).length), (16, .sref 2 24 1 (v16).length), (17, .p (.int .i64 v17)), (18, .p (.int .i64 v18))], [.reg (.map (mE (pvT cValue) pvB seen7b)), (oL true 44 3 cValue dValue out8), (oL true 24 1 (cL 2 cEntry dEntry) ([] : List TEntry) v16)]⟩
noncomputable def cache_Touched.p2.t : List Item := nav 13 [true] cache_Touched.p1.t
noncomputable def cache_Touched.p2.s (column2 : Int) (l10 : (List TEntry)) (i11 : Int) (v17 : Int) (v18 : Int) (seen7b : (List (TValue × Bool))) (out8 : (List TValue)) (v16 : (List (List TEntry))) : St := ⟨frOf Try.f11.ntmps 0 [(2, .p (.int .i64 column2)), (7, .mref 0 0), (8, .sref 1 44 3 (out8).length), (10, .p (eL 2 cEntry dEntry l10)), (11, .p (.int .i64 i11)), (16, .sref 2 24 1 (v16).length), (17, .p (.int .i64 v17)), (18, .p (.int .i64 v18))], [.reg (.map (mE (pvT cValue) pvB seen7b)), (oL true 44 3 cValue dValue out8), (oL true 24 1 (cL 2 cEntry dEntry) ([] : List TEntry) v16)]⟩
theorem cache_Touched.p2.run {rec1 : Int → Int → Int → (List (TValue × Bool)) → (List TValue) → (List (List TEntry)) → Option (List TValue)} (hrec1 : ∀ (column2 : Int) (v17 : Int) (v18 : Int) (seen7b : (List (TValue × Bool))) (out8 : (List TValue)) (v16 : (List (List TEntry))) r, rec1 column2 v17 v18 seen7b out8 v16 = some r → RunC Try.prog Try.f11 cache_Touched.p1.t (cache_Touched.p1.s column2 v17 v18 seen7b out8 v16) (.sref 0 44 3 (r).length) [(oL true 44 3 cValue dValue (r))]) : ∀ (k : Nat) (column2 : Int) (l10 : (List TEntry)) (i11 : Int) (v17 : Int) (v18 : Int) (seen7b : (List (TValue × Bool))) (out8 : (List TValue)) (v16 : (List (List TEntry))) (r : (List TValue)), cache_Touched.p2 rec1 k column2 l10 i11 v17 v18 seen7b out8 v16 = some r → RunC Try.prog Try.f11 cache_Touched.p2.t (cache_Touched.p2.s column2 l10 i11 v17 v18 seen7b out8 v16) (.sref 0 44 3 (r).length) [(oL true 44 3 cValue dValue (r))] := by
  intro k
  induction k with
  | zero => intro column2 l10 i11 v17 v18 seen7b out8 v16 r h; simp [cache_Touched.p2] at h
  | succ k ih =>
    intro column2 l10 i11 v17 v18 seen7b out8 v16 r h
    rw [cache_Touched.p2] at h
    rcases ite_or h with ⟨g_3, h⟩ | ⟨g_3, h⟩
    · obtain ⟨g_4, h⟩ := ite_some h
      obtain ⟨y_5, e_6, h⟩ := bind_or h
      rcases ite_or h with ⟨g_7, h⟩ | ⟨g_7, h⟩
      · obtain ⟨g_8, h⟩ := ite_some h
        exact RunC.go [.n 2, .r [(3, .dec true)], .n 5, .r [(6, .call (.agg ((cValue y_5).map .p)) [])], .n 1, .r [(2, .fv (.p (.bool (getM seen7b y_5 false)))), (3, .dec true)], .n 2, .r [(2, .mp (mE (pvT cValue) pvB (putM seen7b y_5 true)))], .r [(2, .obj (oL true 44 3 cValue dValue [y_5])), (3, .obj (oL true 44 3 cValue dValue (out8 ++ ([y_5]))))], .n 3, .k [2, 7, 8, 10, 11, 16, 17, 18]] (by kernel_rfl) (Obs.of (by kernel_rfl) (And.intro g_3 (And.intro g_4 (And.intro (cache_at.spec e_6) (And.intro (le_get (P := Try.prog) (kt := 44) (q := pvB) inj_Value (fun _ => by kernel_rfl) y_5 false seen7b) (And.intro g_7 (And.intro (le_put (P := Try.prog) (kt := 44) (q := pvB) inj_Value (fun _ => by kernel_rfl) y_5 true seen7b) (And.intro (le_one 44 3 cValue dValue y_5) (And.intro g_8 (le_app 44 3 cValue dValue out8 ([y_5]))))))))))) (ih _ _ _ _ _ _ _ _ r h)
      · exact RunC.go [.n 2, .r [(3, .dec true)], .n 5, .r [(6, .call (.agg ((cValue y_5).map .p)) [])], .n 1, .r [(2, .fv (.p (.bool (getM seen7b y_5 false)))), (3, .dec false)], .n 5, .k [2, 7, 8, 10, 11, 16, 17, 18]] (by kernel_rfl) (Obs.of (by kernel_rfl) (And.intro g_3 (And.intro g_4 (And.intro (cache_at.spec e_6) (And.intro (le_get (P := Try.prog) (kt := 44) (q := pvB) inj_Value (fun _ => by kernel_rfl) y_5 false seen7b) (nt g_7)))))) (ih _ _ _ _ _ _ _ _ r h)
    · exact RunC.go [.n 2, .r [(3, .dec false)], .n 5, .k [2, 7, 8, 16, 17, 18]] (by kernel_rfl) (Obs.of (by kernel_rfl) (nt g_3)) (hrec1 _ _ _ _ _ _ r h)
theorem cache_Touched.p1.run   : ∀ (k : Nat) (column2 : Int) (v17 : Int) (v18 : Int) (seen7b : (List (TValue × Bool))) (out8 : (List TValue)) (v16 : (List (List TEntry))) (r : (List TValue)), cache_Touched.p1 k column2 v17 v18 seen7b out8 v16 = some r → RunC Try.prog Try.f11 cache_Touched.p1.t (cache_Touched.p1.s column2 v17 v18 seen7b out8 v16) (.sref 0 44 3 (r).length) [(oL true 44 3 cValue dValue (r))] := by
  intro k
  induction k with
  | zero => intro column2 v17 v18 seen7b out8 v16 r h; simp [cache_Touched.p1] at h
  | succ k ih =>
    intro column2 v17 v18 seen7b out8 v16 r h
    rw [cache_Touched.p1] at h
    rcases ite_or h with ⟨g_1, h⟩ | ⟨g_1, h⟩
    · obtain ⟨g_2, h⟩ := ite_some h
      exact RunC.go [.n 1, .r [(0, .dec true)], .n 11, .k [2, 7, 8, 10, 11, 16, 17, 18]] (by kernel_rfl) (Obs.of (by kernel_rfl) (And.intro g_1 g_2)) (cache_Touched.p2.run ih k _ _ _ _ _ _ _ _ r h)
    · obtain ⟨y_9, e_10, h⟩ := bind_or h
      obtain rfl := Option.some.inj h
      exact RunC.out [.n 1, .r [(0, .dec false)], .n 4, .r [(1, .callX [1] [0] (.sref 0 44 3 (y_9).length) [(oL true 44 3 cValue dValue y_9)])], .n 2] (by kernel_rfl) (Obs.of (by kernel_rfl) (And.intro (nt g_1) (sortK_call sl30 rfl (by decide) Try.isAgg44 Try.sizeOf44 44 cValue dValue (fun _ => rfl) (enters_of Try.func31 (by kernel_rfl) rfl) (fun k x y r h => value_Compare.spec h) e_10)))
theorem cache_Touched.run   {k : Nat} {minus0 : (List TEntry)} {plus1 : (List TEntry)} {column2 : Int} {r : (List TValue)} (h : cache_Touched k minus0 plus1 column2 = some r) : RunC Try.prog Try.f11 cache_Touched.t (cache_Touched.s minus0 plus1 column2) (.sref 0 44 3 (r).length) [(oL true 44 3 cValue dValue (r))] := by
  unfold cache_Touched at h
  exact RunC.go [.n 1, .r [(0, .obj (oL true 44 3 cValue dValue ([] : List TValue)))], .n 1, .r [(0, .mp (mE (pvT cValue) pvB ([] : (List (TValue × Bool)))))], .n 1, .r [(0, .obj (oL true 44 3 cValue dValue ([] : List TValue)))], .n 2, .r [(2, .obj (oL true 24 1 (cL 2 cEntry dEntry) ([] : List TEntry) [minus0, plus1]))], .n 2, .k [2, 7, 8, 16, 17, 18]] (by kernel_rfl) (Obs.of (by kernel_rfl) (And.intro (le_nil 44 3 cValue dValue) (And.intro (le_mnil (pvT cValue) pvB) (And.intro (le_nil 44 3 cValue dValue) (le_lit 24 1 (cL 2 cEntry dEntry) ([] : List TEntry) [minus0, plus1] (fun _ => rfl)))))) (cache_Touched.p1.run k _ _ _ _ _ _ r h)
theorem cache_Touched.p2.mono {rec1 rec1' : Int → Int → Int → (List (TValue × Bool)) → (List TValue) → (List (List TEntry)) → Option (List TValue)} (hm1 : ∀ (column2 : Int) (v17 : Int) (v18 : Int) (seen7b : (List (TValue × Bool))) (out8 : (List TValue)) (v16 : (List (List TEntry))) r, rec1 column2 v17 v18 seen7b out8 v16 = some r → rec1' column2 v17 v18 seen7b out8 v16 = some r) : ∀ (k k' : Nat) (column2 : Int) (l10 : (List TEntry)) (i11 : Int) (v17 : Int) (v18 : Int) (seen7b : (List (TValue × Bool))) (out8 : (List TValue)) (v16 : (List (List TEntry))) (r : (List TValue)), k ≤ k' → cache_Touched.p2 rec1 k column2 l10 i11 v17 v18 seen7b out8 v16 = some r → cache_Touched.p2 rec1' k' column2 l10 i11 v17 v18 seen7b out8 v16 = some r := by
  intro k
  induction k with
  | zero => intro k' column2 l10 i11 v17 v18 seen7b out8 v16 r hk h; simp [cache_Touched.p2] at h
  | succ k ih =>
    intro k' column2 l10 i11 v17 v18 seen7b out8 v16 r hk h
    obtain ⟨k', rfl⟩ : ∃ m, k' = m + 1 := ⟨k' - 1, by omega⟩
    replace hk := Nat.le_of_succ_le_succ hk
    rw [cache_Touched.p2] at h ⊢
    rcases ite_or h with ⟨g_3, h⟩ | ⟨g_3, h⟩
    · refine itp g_3 ?_
      obtain ⟨g_4, h⟩ := ite_some h
      refine itp g_4 ?_
      obtain ⟨y_5, e_6, h⟩ := bind_or h
      refine bnd (cache_at.mono _ _ _ _ _ hk e_6) ?_
      rcases ite_or h with ⟨g_7, h⟩ | ⟨g_7, h⟩
      · refine itp g_7 ?_
        obtain ⟨g_8, h⟩ := ite_some h
        refine itp g_8 ?_
        exact ih _ _ _ _ _ _ _ _ _ r hk h
      · refine itn g_7 ?_
        exact ih _ _ _ _ _ _ _ _ _ r hk h
    · refine itn g_3 ?_
      exact hm1 _ _ _ _ _ _ r h
theorem cache_Touched.p1.mono   : ∀ (k k' : Nat) (column2 : Int) (v17 : Int) (v18 : Int) (seen7b : (List (TValue × Bool))) (out8 : (List TValue)) (v16 : (List (List TEntry))) (r : (List TValue)), k ≤ k' → cache_Touched.p1 k column2 v17 v18 seen7b out8 v16 = some r → cache_Touched.p1 k' column2 v17 v18 seen7b out8 v16 = some r := by
  intro k
  induction k with
  | zero => intro k' column2 v17 v18 seen7b out8 v16 r hk h; simp [cache_Touched.p1] at h
  | succ k ih =>
    intro k' column2 v17 v18 seen7b out8 v16 r hk h
    obtain ⟨k', rfl⟩ : ∃ m, k' = m + 1 := ⟨k' - 1, by omega⟩
    replace hk := Nat.le_of_succ_le_succ hk
    rw [cache_Touched.p1] at h ⊢
    rcases ite_or h with ⟨g_1, h⟩ | ⟨g_1, h⟩
    · refine itp g_1 ?_
      obtain ⟨g_2, h⟩ := ite_some h
      refine itp g_2 ?_
      exact cache_Touched.p2.mono (fun x0 x1 x2 x3 x4 x5 r h => ih _ x0 x1 x2 x3 x4 x5 r hk h) _ _ _ _ _ _ _ _ _ _ r hk h
    · refine itn g_1 ?_
      obtain ⟨y_9, e_10, h⟩ := bind_or h
      refine bnd e_10 ?_
      exact h
theorem cache_Touched.mono   : ∀ (k k' : Nat) (minus0 : (List TEntry)) (plus1 : (List TEntry)) (column2 : Int) (r : (List TValue)), k ≤ k' → cache_Touched k minus0 plus1 column2 = some r → cache_Touched k' minus0 plus1 column2 = some r := by
  intro k k' minus0 plus1 column2 r hk h
  unfold cache_Touched at h ⊢
  exact cache_Touched.p1.mono _ _ _ _ _ _ _ _ r hk h
theorem cache_Touched.spec {k : Nat} {minus0 : (List TEntry)} {plus1 : (List TEntry)} {column2 : Int} {r : (List TValue)} (h : cache_Touched k minus0 plus1 column2 = some r) : Spec Try.prog 11 [.p (eL 2 cEntry dEntry minus0), .p (eL 2 cEntry dEntry plus1), .p (.int .i64 column2)] (.sref 0 44 3 (r).length) [(oL true 44 3 cValue dValue (r))] :=
  spec_of mix Try.func11 (body := bodyOf Try.f11) (by kernel_rfl) (by kernel_rfl) (cache_Touched.run h)
end Go.Proofs.YtjhnpaenhdbhpacV
set_option linter.unusedVariables false
set_option linter.unusedSimpArgs false
set_option maxRecDepth 100000
namespace Go.Proofs.YtjhnpaenhdbhpacV
open Go Go.RowKit
noncomputable def cache_Purge.p2  : Nat → (List TCached) → Int → (List (TValue × Bool)) → (List TCached) → Option (List TCached)
  | 0, _, _, _, _ => none
  | k + 1, s0, i8, gone5b, out7 => if (decide (i8 < ((s0).length : Int))) = true then (if 0 ≤ i8 ∧ i8 < ((s0).length : Int) then (if (!(getM gone5b ((s0.getD i8.toNat dCached).f0) false)) = true then ((cache_duplicate k (s0.getD i8.toNat dCached)).bind fun y_11 => (if (out7).length + ([y_11]).length ≤ maxLen ∧ ((out7).length + ([y_11]).length) * 64 ≤ 140737488355328 then (cache_Purge.p2 k s0 (IntKind.i64.wrap (i8 + 1)) gone5b (out7 ++ ([y_11]))) else none)) else (cache_Purge.p2 k s0 (IntKind.i64.wrap (i8 + 1)) gone5b out7)) else none) else (some out7)
noncomputable def cache_Purge.p1  : Nat → (List TCached) → (List TValue) → Int → (List (TValue × Bool)) → Option (List TCached)
  | 0, _, _, _, _ => none
  | k + 1, s0, values1, i6, gone5b => if (decide (i6 < ((values1).length : Int))) = true then (if 0 ≤ i6 ∧ i6 < ((values1).length : Int) then ((value_Clean k (values1.getD i6.toNat dValue)).bind fun y_6 => (cache_Purge.p1 k s0 values1 (IntKind.i64.wrap (i6 + 1)) (putM gone5b y_6 true))) else none) else (cache_Purge.p2 k s0 0 gone5b ([] : List TCached))
noncomputable def cache_Purge  (k : Nat) (s0 : (List TCached)) (values1 : (List TValue)) : Option (List TCached) := (cache_Valid k s0).bind fun y_1 => (if (!y_1) = true then (some ([] : List TCached)) else (cache_Purge.p1 k s0 values1 0 ([] : (List (TValue × Bool)))))
noncomputable def cache_Purge.t : List Item := [.code (bodyOf Try.f10)]
noncomputable def cache_Purge.s (s0 : (List TCached)) (values1 : (List TValue)) : St := ⟨frOf Try.f10.ntmps 0 [(0, .p (eL 5 cCached dCached s0)), (1, .p (eL 3 cValue dValue values1))], []⟩
noncomputable def cache_Purge.p1.t : List Item := nav 14 [false] cache_Purge.t
noncomputable def cache_Purge.p1.s (s0 : (List TCached)) (values1 : (List TValue)) (i6 : Int) (gone5b : (List (TValue × Bool))) : St := ⟨frOf Try.f10.ntmps 0 [(0, .p (eL 5 cCached dCached s0)), (1, .p (eL 3 cValue dValue values1)), (5, .mref 0 0), (6, .p (.int .i64 i6))], [.reg (.map (mE (pvT cValue) pvB gone5b))]⟩
noncomputable def cache_Purge.p2.t : List Item := nav 12 [false] cache_Purge.p1.t
noncomputable def cache_Purge.p2.s (s0 : (List TCached)) (i8 : Int) (gone5b : (List (TValue × Bool))) (out7 : (List TCached)) : St := ⟨frOf Try.f10.ntmps 0 [(0, .p (eL 5 cCached dCached s0)), (5, .mref 0 0), (7, .sref 1 55 5 (out7).length), (8, .p (.int .i64 i8))], [.reg (.map (mE (pvT cValue) pvB gone5b)), (oL true 55 5 cCached dCached out7)]⟩
theorem cache_Purge.p2.run   : ∀ (k : Nat) (s0 : (List TCached)) (i8 : Int) (gone5b : (List (TValue × Bool))) (out7 : (List TCached)) (r : (List TCached)), cache_Purge.p2 k s0 i8 gone5b out7 = some r → RunC Try.prog Try.f10 cache_Purge.p2.t (cache_Purge.p2.s s0 i8 gone5b out7) (.sref 0 55 5 (r).length) [(oL true 55 5 cCached dCached (r))] := by
  intro k
  induction k with
  | zero => intro s0 i8 gone5b out7 r h; simp [cache_Purge.p2] at h
  | succ k ih =>
    intro s0 i8 gone5b out7 r h
    rw [cache_Purge.p2] at h
    rcases ite_or h with ⟨g_8, h⟩ | ⟨g_8, h⟩
    · obtain ⟨g_9, h⟩ := ite_some h
      rcases ite_or h with ⟨g_10, h⟩ | ⟨g_10, h⟩
      · obtain ⟨y_11, e_12, h⟩ := bind_or h
        obtain ⟨g_13, h⟩ := ite_some h
        exact RunC.go [.n 2, .r [(3, .dec true)], .n 5, .r [(6, .fv (.p (.bool (getM gone5b ((s0.getD i8.toNat dCached).f0) false)))), (7, .dec true)], .n 1, .r [(5, .call (.agg ((cCached y_11).map .p)) []), (6, .obj (oL true 55 5 cCached dCached [y_11])), (7, .obj (oL true 55 5 cCached dCached (out7 ++ ([y_11]))))], .n 3, .k [0, 5, 7, 8]] (by kernel_rfl) (Obs.of (by kernel_rfl) (And.intro g_8 (And.intro g_9 (And.intro (le_get (P := Try.prog) (kt := 44) (q := pvB) inj_Value (fun _ => by kernel_rfl) ((s0.getD i8.toNat dCached).f0) false gone5b) (And.intro g_10 (And.intro g_9 (And.intro (cache_duplicate.spec e_12) (And.intro (le_one 55 5 cCached dCached y_11) (And.intro g_13 (le_app 55 5 cCached dCached out7 ([y_11]))))))))))) (ih _ _ _ _ r h)
      · exact RunC.go [.n 2, .r [(3, .dec true)], .n 5, .r [(6, .fv (.p (.bool (getM gone5b ((s0.getD i8.toNat dCached).f0) false)))), (7, .dec false)], .n 5, .k [0, 5, 7, 8]] (by kernel_rfl) (Obs.of (by kernel_rfl) (And.intro g_8 (And.intro g_9 (And.intro (le_get (P := Try.prog) (kt := 44) (q := pvB) inj_Value (fun _ => by kernel_rfl) ((s0.getD i8.toNat dCached).f0) false gone5b) (nt g_10))))) (ih _ _ _ _ r h)
    · obtain rfl := Option.some.inj h
      exact RunC.out [.n 2, .r [(3, .dec false)], .n 4] (by kernel_rfl) (Obs.of (by kernel_rfl) (nt g_8))
theorem cache_Purge.p1.run   : ∀ (k : Nat) (s0 : (List TCached)) (values1 : (List TValue)) (i6 : Int) (gone5b : (List (TValue × Bool))) (r : (List TCached)), cache_Purge.p1 k s0 values1 i6 gone5b = some r → RunC Try.prog Try.f10 cache_Purge.p1.t (cache_Purge.p1.s s0 values1 i6 gone5b) (.sref 0 55 5 (r).length) [(oL true 55 5 cCached dCached (r))] := by
  intro k
  induction k with
  | zero => intro s0 values1 i6 gone5b r h; simp [cache_Purge.p1] at h
  | succ k ih =>
    intro s0 values1 i6 gone5b r h
    rw [cache_Purge.p1] at h
    rcases ite_or h with ⟨g_4, h⟩ | ⟨g_4, h⟩
    · obtain ⟨g_5, h⟩ := ite_some h
      obtain ⟨y_6, e_7, h⟩ := bind_or h
      exact RunC.go [.n 2, .r [(3, .dec true)], .n 4, .r [(5, .call (.agg ((cValue y_6).map .p)) []), (6, .mp (mE (pvT cValue) pvB (putM gone5b y_6 true)))], .n 3, .k [0, 1, 5, 6]] (by kernel_rfl) (Obs.of (by kernel_rfl) (And.intro g_4 (And.intro g_5 (And.intro (value_Clean.spec e_7) (le_put (P := Try.prog) (kt := 44) (q := pvB) inj_Value (fun _ => by kernel_rfl) y_6 true gone5b))))) (ih _ _ _ _ r h)
    · exact RunC.go [.n 2, .r [(3, .dec false)], .n 3, .r [(0, .obj (oL true 55 5 cCached dCached ([] : List TCached)))], .n 5, .k [0, 5, 7, 8]] (by kernel_rfl) (Obs.of (by kernel_rfl) (And.intro (nt g_4) (le_nil 55 5 cCached dCached))) (cache_Purge.p2.run k _ _ _ _ r h)
theorem cache_Purge.run   {k : Nat} {s0 : (List TCached)} {values1 : (List TValue)} {r : (List TCached)} (h : cache_Purge k s0 values1 = some r) : RunC Try.prog Try.f10 cache_Purge.t (cache_Purge.s s0 values1) (.sref 0 55 5 (r).length) [(oL true 55 5 cCached dCached (r))] := by
  unfold cache_Purge at h
  obtain ⟨y_1, e_2, h⟩ := bind_or h
  rcases ite_or h with ⟨g_3, h⟩ | ⟨g_3, h⟩
  · obtain rfl := Option.some.inj h
    exact RunC.out [.n 1, .r [(0, .obj (oL true 55 5 cCached dCached ([] : List TCached)))], .n 2, .r [(1, .call (.p (.bool y_1)) []), (2, .dec true)], .n 2, .r [(0, .obj (oL true 55 5 cCached dCached ([] : List TCached)))]] (by kernel_rfl) (Obs.of (by kernel_rfl) (And.intro (le_nil 55 5 cCached dCached) (And.intro (cache_Valid.spec e_2) (And.intro g_3 (le_nil 55 5 cCached dCached)))))
  · exact RunC.go [.n 1, .r [(0, .obj (oL true 55 5 cCached dCached ([] : List TCached)))], .n 2, .r [(1, .call (.p (.bool y_1)) []), (2, .dec false)], .n 3, .r [(0, .mp (mE (pvT cValue) pvB ([] : (List (TValue × Bool)))))], .n 5, .k [0, 1, 5, 6]] (by kernel_rfl) (Obs.of (by kernel_rfl) (And.intro (le_nil 55 5 cCached dCached) (And.intro (cache_Valid.spec e_2) (And.intro (nt g_3) (le_mnil (pvT cValue) pvB))))) (cache_Purge.p1.run k _ _ _ _ r h)
theorem cache_Purge.p2.mono   : ∀ (k k' : Nat) (s0 : (List TCached)) (i8 : Int) (gone5b : (List (TValue × Bool))) (out7 : (List TCached)) (r : (List TCached)), k ≤ k' → cache_Purge.p2 k s0 i8 gone5b out7 = some r → cache_Purge.p2 k' s0 i8 gone5b out7 = some r := by
  intro k
  induction k with
  | zero => intro k' s0 i8 gone5b out7 r hk h; simp [cache_Purge.p2] at h
  | succ k ih =>
    intro k' s0 i8 gone5b out7 r hk h
    obtain ⟨k', rfl⟩ : ∃ m, k' = m + 1 := ⟨k' - 1, by omega⟩
    replace hk := Nat.le_of_succ_le_succ hk
    rw [cache_Purge.p2] at h ⊢
    rcases ite_or h with ⟨g_8, h⟩ | ⟨g_8, h⟩
    · refine itp g_8 ?_
      obtain ⟨g_9, h⟩ := ite_some h
      refine itp g_9 ?_
      rcases ite_or h with ⟨g_10, h⟩ | ⟨g_10, h⟩
      · refine itp g_10 ?_
        obtain ⟨y_11, e_12, h⟩ := bind_or h
        refine bnd (cache_duplicate.mono _ _ _ _ hk e_12) ?_
        obtain ⟨g_13, h⟩ := ite_some h
        refine itp g_13 ?_
        exact ih _ _ _ _ _ r hk h
      · refine itn g_10 ?_
        exact ih _ _ _ _ _ r hk h
    · refine itn g_8 ?_
      exact h
theorem cache_Purge.p1.mono   : ∀ (k k' : Nat) (s0 : (List TCached)) (values1 : (List TValue)) (i6 : Int) (gone5b : (List (TValue × Bool))) (r : (List TCached)), k ≤ k' → cache_Purge.p1 k s0 values1 i6 gone5b = some r → cache_Purge.p1 k' s0 values1 i6 gone5b = some r := by
  intro k
  induction k with
  | zero => intro k' s0 values1 i6 gone5b r hk h; simp [cache_Purge.p1] at h
  | succ k ih =>
    intro k' s0 values1 i6 gone5b r hk h
    obtain ⟨k', rfl⟩ : ∃ m, k' = m + 1 := ⟨k' - 1, by omega⟩
    replace hk := Nat.le_of_succ_le_succ hk
    rw [cache_Purge.p1] at h ⊢
    rcases ite_or h with ⟨g_4, h⟩ | ⟨g_4, h⟩
    · refine itp g_4 ?_
      obtain ⟨g_5, h⟩ := ite_some h
      refine itp g_5 ?_
      obtain ⟨y_6, e_7, h⟩ := bind_or h
      refine bnd (value_Clean.mono _ _ _ _ hk e_7) ?_
      exact ih _ _ _ _ _ r hk h
    · refine itn g_4 ?_
      exact cache_Purge.p2.mono _ _ _ _ _ _ r hk h
theorem cache_Purge.mono   : ∀ (k k' : Nat) (s0 : (List TCached)) (values1 : (List TValue)) (r : (List TCached)), k ≤ k' → cache_Purge k s0 values1 = some r → cache_Purge k' s0 values1 = some r := by
  intro k k' s0 values1 r hk h
  unfold cache_Purge at h ⊢
  obtain ⟨y_1, e_2, h⟩ := bind_or h
  refine bnd (cache_Valid.mono _ _ _ _ hk e_2) ?_
  rcases ite_or h with ⟨g_3, h⟩ | ⟨g_3, h⟩
  · refine itp g_3 ?_
    exact h
  · refine itn g_3 ?_
    exact cache_Purge.p1.mono _ _ _ _ _ _ r hk h
theorem cache_Purge.spec {k : Nat} {s0 : (List TCached)} {values1 : (List TValue)} {r : (List TCached)} (h : cache_Purge k s0 values1 = some r) : Spec Try.prog 10 [.p (eL 5 cCached dCached s0), .p (eL 3 cValue dValue values1)] (.sref 0 55 5 (r).length) [(oL true 55 5 cCached dCached (r))] :=
  spec_of mix Try.func10 (body := bodyOf Try.f10) (by kernel_rfl) (by kernel_rfl) (cache_Purge.run h)
end Go.Proofs.YtjhnpaenhdbhpacV
set_option linter.unusedVariables false
set_option linter.unusedSimpArgs false
set_option maxRecDepth 100000
namespace Go.Proofs.YtjhnpaenhdbhpacV
open Go Go.RowKit
noncomputable def cache_Refill.p1  : Nat → (List TCached) → (List TEntry) → Int → Int → TCache → (List TCached) → Option (List TCached)
  | 0, _, _, _, _, _, _ => none
  | k + 1, s1, rows2, day3, i10, c4b, out9 => if (decide (i10 < ((s1).length : Int))) = true then (if 0 ≤ i10 ∧ i10 < ((s1).length : Int) then ((cache_Select k rows2 c4b.f2 ((s1.getD i10.toNat dCached).f0)).bind fun y_6 => (if (decide (((y_6).length : Int) > 0)) = true then (if (out9).length + ([(TCached.mk ((s1.getD i10.toNat dCached).f0) y_6 day3)]).length ≤ maxLen ∧ ((out9).length + ([(TCached.mk ((s1.getD i10.toNat dCached).f0) y_6 day3)]).length) * 64 ≤ 140737488355328 then (cache_Refill.p1 k s1 rows2 day3 (IntKind.i64.wrap (i10 + 1)) c4b (out9 ++ ([(TCached.mk ((s1.getD i10.toNat dCached).f0) y_6 day3)]))) else none) else (cache_Refill.p1 k s1 rows2 day3 (IntKind.i64.wrap (i10 + 1)) c4b out9))) else none) else (some out9)
noncomputable def cache_Refill  (k : Nat) (c0 : TCache) (s1 : (List TCached)) (rows2 : (List TEntry)) (day3 : Int) : Option (List TCached) := (cache_usable k c0 s1 rows2 day3).bind fun y_1 => (if (!y_1) = true then (some ([] : List TCached)) else (cache_Refill.p1 k s1 rows2 day3 0 c0 ([] : List TCached)))
noncomputable def cache_Refill.t : List Item := [.code (bodyOf Try.f12)]
noncomputable def cache_Refill.s (c0 : TCache) (s1 : (List TCached)) (rows2 : (List TEntry)) (day3 : Int) : St := ⟨frOf Try.f12.ntmps 0 [(0, .agg ((cCache c0).map .p)), (1, .p (eL 5 cCached dCached s1)), (2, .p (eL 2 cEntry dEntry rows2)), (3, .p (.int .i64 day3))], []⟩
noncomputable def cache_Refill.p1.t : List Item := nav 14 [false] cache_Refill.t
noncomputable def cache_Refill.p1.s (s1 : (List TCached)) (rows2 : (List TEntry)) (day3 : Int) (i10 : Int) (c4b : TCache) (out9 : (List TCached)) : St := ⟨frOf Try.f12.ntmps 0 [(1, .p (eL 5 cCached dCached s1)), (2, .p (eL 2 cEntry dEntry rows2)), (3, .p (.int .i64 day3)), (4, .ptr 0 0 0), (9, .sref 1 55 5 (out9).length), (10, .p (.int .i64 i10))], [.box ((cCache c4b).map .p), (oL true 55 5 cCached dCached out9)]⟩
theorem cache_Refill.p1.run   : ∀ (k : Nat) (s1 : (List TCached)) (rows2 : (List TEntry)) (day3 : Int) (i10 : Int) (c4b : TCache) (out9 : (List TCached)) (r : (List TCached)), cache_Refill.p1 k s1 rows2 day3 i10 c4b out9 = some r → RunC Try.prog Try.f12 cache_Refill.p1.t (cache_Refill.p1.s s1 rows2 day3 i10 c4b out9) (.sref 0 55 5 (r).length) [(oL true 55 5 cCached dCached (r))] := by
  intro k
  induction k with
  | zero => intro s1 rows2 day3 i10 c4b out9 r h; simp [cache_Refill.p1] at h
  | succ k ih =>
    intro s1 rows2 day3 i10 c4b out9 r h
    rw [cache_Refill.p1] at h
    rcases ite_or h with ⟨g_4, h⟩ | ⟨g_4, h⟩
    · obtain ⟨g_5, h⟩ := ite_some h
      obtain ⟨y_6, e_7, h⟩ := bind_or h
      rcases ite_or h with ⟨g_8, h⟩ | ⟨g_8, h⟩
      · obtain ⟨g_9, h⟩ := ite_some h
        exact RunC.go [.n 2, .r [(3, .dec true)], .n 5, .r [(8, .call (.sref 0 42 2 (y_6).length) [(oL true 42 2 cEntry dEntry y_6)])], .n 1, .r [(2, .dec true)], .n 1, .r [(9, .obj (oL true 55 5 cCached dCached [(TCached.mk ((s1.getD i10.toNat dCached).f0) y_6 day3)])), (10, .obj (oL true 55 5 cCached dCached (out9 ++ ([(TCached.mk ((s1.getD i10.toNat dCached).f0) y_6 day3)]))))], .n 3, .k [1, 2, 3, 4, 9, 10]] (by kernel_rfl) (Obs.of (by kernel_rfl) (And.intro g_4 (And.intro g_5 (And.intro (cache_Select.spec e_7) (And.intro g_8 (And.intro g_5 (And.intro (le_one 55 5 cCached dCached (TCached.mk ((s1.getD i10.toNat dCached).f0) y_6 day3)) (And.intro g_9 (le_app 55 5 cCached dCached out9 ([(TCached.mk ((s1.getD i10.toNat dCached).f0) y_6 day3)])))))))))) (ih _ _ _ _ _ _ r h)
      · exact RunC.go [.n 2, .r [(3, .dec true)], .n 5, .r [(8, .call (.sref 0 42 2 (y_6).length) [(oL true 42 2 cEntry dEntry y_6)])], .n 1, .r [(2, .dec false)], .n 5, .k [1, 2, 3, 4, 9, 10]] (by kernel_rfl) (Obs.of (by kernel_rfl) (And.intro g_4 (And.intro g_5 (And.intro (cache_Select.spec e_7) (nt g_8))))) (ih _ _ _ _ _ _ r h)
    · obtain rfl := Option.some.inj h
      exact RunC.out [.n 2, .r [(3, .dec false)], .n 4] (by kernel_rfl) (Obs.of (by kernel_rfl) (nt g_4))
theorem cache_Refill.run   {k : Nat} {c0 : TCache} {s1 : (List TCached)} {rows2 : (List TEntry)} {day3 : Int} {r : (List TCached)} (h : cache_Refill k c0 s1 rows2 day3 = some r) : RunC Try.prog Try.f12 cache_Refill.t (cache_Refill.s c0 s1 rows2 day3) (.sref 0 55 5 (r).length) [(oL true 55 5 cCached dCached (r))] := by
  unfold cache_Refill at h
  obtain ⟨y_1, e_2, h⟩ := bind_or h
  rcases ite_or h with ⟨g_3, h⟩ | ⟨g_3, h⟩
  · obtain rfl := Option.some.inj h
    exact RunC.out [.n 1, .r [(1, .obj (oL true 55 5 cCached dCached ([] : List TCached)))], .n 2, .r [(4, .call (.p (.bool y_1)) []), (5, .dec true)], .n 2, .r [(0, .obj (oL true 55 5 cCached dCached ([] : List TCached)))]] (by kernel_rfl) (Obs.of (by kernel_rfl) (And.intro (le_nil 55 5 cCached dCached) (And.intro (cache_usable.spec e_2) (And.intro g_3 (le_nil 55 5 cCached dCached)))))
  · exact RunC.go [.n 1, .r [(1, .obj (oL true 55 5 cCached dCached ([] : List TCached)))], .n 2, .r [(4, .call (.p (.bool y_1)) []), (5, .dec false)], .n 3, .r [(0, .obj (oL true 55 5 cCached dCached ([] : List TCached)))], .n 5, .k [1, 2, 3, 4, 9, 10]] (by kernel_rfl) (Obs.of (by kernel_rfl) (And.intro (le_nil 55 5 cCached dCached) (And.intro (cache_usable.spec e_2) (And.intro (nt g_3) (le_nil 55 5 cCached dCached))))) (cache_Refill.p1.run k _ _ _ _ _ _ r h)
theorem cache_Refill.p1.mono   : ∀ (k k' : Nat) (s1 : (List TCached)) (rows2 : (List TEntry)) (day3 : Int) (i10 : Int) (c4b : TCache) (out9 : (List TCached)) (r : (List TCached)), k ≤ k' → cache_Refill.p1 k s1 rows2 day3 i10 c4b out9 = some r → cache_Refill.p1 k' s1 rows2 day3 i10 c4b out9 = some r := by
  intro k
  induction k with
  | zero => intro k' s1 rows2 day3 i10 c4b out9 r hk h; simp [cache_Refill.p1] at h
  | succ k ih =>
    intro k' s1 rows2 day3 i10 c4b out9 r hk h
    obtain ⟨k', rfl⟩ : ∃ m, k' = m + 1 := ⟨k' - 1, by omega⟩
    replace hk := Nat.le_of_succ_le_succ hk
    rw [cache_Refill.p1] at h ⊢
    rcases ite_or h with ⟨g_4, h⟩ | ⟨g_4, h⟩
    · refine itp g_4 ?_
      obtain ⟨g_5, h⟩ := ite_some h
      refine itp g_5 ?_
      obtain ⟨y_6, e_7, h⟩ := bind_or h
      refine bnd (cache_Select.mono _ _ _ _ _ _ hk e_7) ?_
      rcases ite_or h with ⟨g_8, h⟩ | ⟨g_8, h⟩
      · refine itp g_8 ?_
        obtain ⟨g_9, h⟩ := ite_some h
        refine itp g_9 ?_
        exact ih _ _ _ _ _ _ _ r hk h
      · refine itn g_8 ?_
        exact ih _ _ _ _ _ _ _ r hk h
    · refine itn g_4 ?_
      exact h
theorem cache_Refill.mono   : ∀ (k k' : Nat) (c0 : TCache) (s1 : (List TCached)) (rows2 : (List TEntry)) (day3 : Int) (r : (List TCached)), k ≤ k' → cache_Refill k c0 s1 rows2 day3 = some r → cache_Refill k' c0 s1 rows2 day3 = some r := by
  intro k k' c0 s1 rows2 day3 r hk h
  unfold cache_Refill at h ⊢
  obtain ⟨y_1, e_2, h⟩ := bind_or h
  refine bnd (cache_usable.mono _ _ _ _ _ _ _ hk e_2) ?_
  rcases ite_or h with ⟨g_3, h⟩ | ⟨g_3, h⟩
  · refine itp g_3 ?_
    exact h
  · refine itn g_3 ?_
    exact cache_Refill.p1.mono _ _ _ _ _ _ _ _ r hk h
theorem cache_Refill.spec {k : Nat} {c0 : TCache} {s1 : (List TCached)} {rows2 : (List TEntry)} {day3 : Int} {r : (List TCached)} (h : cache_Refill k c0 s1 rows2 day3 = some r) : Spec Try.prog 12 [.agg ((cCache c0).map .p), .p (eL 5 cCached dCached s1), .p (eL 2 cEntry dEntry rows2), .p (.int .i64 day3)] (.sref 0 55 5 (r).length) [(oL true 55 5 cCached dCached (r))] :=
  spec_of mix Try.func12 (body := bodyOf Try.f12) (by kernel_rfl) (by kernel_rfl) (cache_Refill.run h)
end Go.Proofs.YtjhnpaenhdbhpacV
set_option linter.unusedVariables false
set_option linter.unusedSimpArgs false
set_option maxRecDepth 100000
namespace Go.Proofs.YtjhnpaenhdbhpacV
open Go Go.RowKit
noncomputable def erasurelaw30_CacheFresh  (k : Nat) (t0 : TCache) (o1 : T25) (A2 : (List TValue)) : Option Bool := (erasurelaw30_short k o1.f0).bind fun y_1 => (if (!y_1) = true then ((erasurelaw30_awake k ).bind fun y_4 => (some y_4)) else ((erasurelaw30_short k o1.f1).bind fun y_6 => (if (!y_6) = true then ((erasurelaw30_awake k ).bind fun y_9 => (some y_9)) else (if (decide (t0.f3 < 1)) = true then ((erasurelaw30_awake k ).bind fun y_12 => (some y_12)) else (if (decide (t0.f3 > 1000)) = true then ((erasurelaw30_awake k ).bind fun y_15 => (some y_15)) else ((erasureref06_Normalize k o1.f0).bind fun y_17 => ((erasureref06_Normalize k o1.f1).bind fun y_19 => (if (y_17.2 != 0) = true then ((erasurelaw30_awake k ).bind fun y_22 => (some y_22)) else (if (y_19.2 != 0) = true then ((erasurelaw30_awake k ).bind fun y_25 => (some y_25)) else ((erasurelaw30_filled k t0 y_17.1 A2 9).bind fun y_27 => ((bag_Subtract k y_17.1 y_19.1).bind fun y_29 => ((bag_Subtract k y_19.1 y_17.1).bind fun y_31 => (if (!y_27.2) = true then (if (y_29.2 != 0) = true then (if (y_29.2 == y_31.2) = true then (if y_27.2 = true then ((erasurelaw30_awake k ).bind fun y_37 => (some y_37)) else (some false)) else (some false)) else (some false)) else (if (y_29.2 != 0) = true then (if (y_29.2 == y_31.2) = true then (if y_27.2 = true then ((erasurelaw30_awake k ).bind fun y_42 => (some y_42)) else (some false)) else (some false)) else (if (y_31.2 != 0) = true then (some false) else ((cache_Fresh k t0 y_27.1 y_17.1).bind fun y_45 => (if (!y_45) = true then (some false) else ((cache_Touched k y_29.1 y_31.1 t0.f2).bind fun y_48 => ((cache_Purge k y_27.1 y_48).bind fun y_50 => ((cache_Refill k t0 y_27.1 y_19.1 10).bind fun y_52 => ((cache_Fresh k t0 y_50 y_19.1).bind fun y_54 => (if y_54 = true then ((cache_Fresh k t0 y_52 y_19.1).bind fun y_57 => (if y_57 = true then (if (decide (((y_52).length : Int) ≤ ((y_27.1).length : Int))) = true then ((erasurelaw30_awake k ).bind fun y_61 => (some y_61)) else (some false)) else (some false))) else (some false)))))))))))))))))))))))
noncomputable def erasurelaw30_CacheFresh.t : List Item := [.code (bodyOf Try.f3)]
noncomputable def erasurelaw30_CacheFresh.s (t0 : TCache) (o1 : T25) (A2 : (List TValue)) : St := ⟨frOf Try.f3.ntmps 0 [(0, .agg ((cCache t0).map .p)), (1, .agg ((c25 o1).map .p)), (2, .p (eL 3 cValue dValue A2))], []⟩
theorem erasurelaw30_CacheFresh.run   {k : Nat} {t0 : TCache} {o1 : T25} {A2 : (List TValue)} {r : Bool} (h : erasurelaw30_CacheFresh k t0 o1 A2 = some r) : RunC Try.prog Try.f3 erasurelaw30_CacheFresh.t (erasurelaw30_CacheFresh.s t0 o1 A2) (.p (.bool r)) [] := by
  unfold erasurelaw30_CacheFresh at h
  obtain ⟨y_1, e_2, h⟩ := bind_or h
  rcases ite_or h with ⟨g_3, h⟩ | ⟨g_3, h⟩
  · obtain ⟨y_4, e_5, h⟩ := bind_or h
    obtain rfl := Option.some.inj h
    exact RunC.out [.n 4, .r [(2, .call (.p (.bool y_1)) []), (4, .dec true)], .n 2, .r [(0, .call (.p (.bool y_4)) [])]] (by kernel_rfl) (Obs.of (by kernel_rfl) (And.intro (show 0 ≤ (0 : Int) ∧ (0 : Int) < ((2 : Nat) : Int) from by decide) (And.intro (erasurelaw30_short.spec e_2) (And.intro g_3 (erasurelaw30_awake.spec e_5)))))
  · obtain ⟨y_6, e_7, h⟩ := bind_or h
    rcases ite_or h with ⟨g_8, h⟩ | ⟨g_8, h⟩
    · obtain ⟨y_9, e_10, h⟩ := bind_or h
      obtain rfl := Option.some.inj h
      exact RunC.out [.n 4, .r [(2, .call (.p (.bool y_1)) []), (4, .dec false), (7, .call (.p (.bool y_6)) []), (10, .dec true)], .n 2, .r [(0, .call (.p (.bool y_9)) [])]] (by kernel_rfl) (Obs.of (by kernel_rfl) (And.intro (show 0 ≤ (0 : Int) ∧ (0 : Int) < ((2 : Nat) : Int) from by decide) (And.intro (erasurelaw30_short.spec e_2) (And.intro (nt g_3) (And.intro (show 0 ≤ (1 : Int) ∧ (1 : Int) < ((2 : Nat) : Int) from by decide) (And.intro (erasurelaw30_short.spec e_7) (And.intro g_8 (erasurelaw30_awake.spec e_10))))))))
    · rcases ite_or h with ⟨g_11, h⟩ | ⟨g_11, h⟩
      · obtain ⟨y_12, e_13, h⟩ := bind_or h
        obtain rfl := Option.some.inj h
        exact RunC.out [.n 4, .r [(2, .call (.p (.bool y_1)) []), (4, .dec false), (7, .call (.p (.bool y_6)) []), (10, .dec false), (15, .dec true)], .n 2, .r [(0, .call (.p (.bool y_12)) [])]] (by kernel_rfl) (Obs.of (by kernel_rfl) (And.intro (show 0 ≤ (0 : Int) ∧ (0 : Int) < ((2 : Nat) : Int) from by decide) (And.intro (erasurelaw30_short.spec e_2) (And.intro (nt g_3) (And.intro (show 0 ≤ (1 : Int) ∧ (1 : Int) < ((2 : Nat) : Int) from by decide) (And.intro (erasurelaw30_short.spec e_7) (And.intro (nt g_8) (And.intro g_11 (erasurelaw30_awake.spec e_13)))))))))
      · rcases ite_or h with ⟨g_14, h⟩ | ⟨g_14, h⟩
        · obtain ⟨y_15, e_16, h⟩ := bind_or h
          obtain rfl := Option.some.inj h
          exact RunC.out [.n 4, .r [(2, .call (.p (.bool y_1)) []), (4, .dec false), (7, .call (.p (.bool y_6)) []), (10, .dec false), (15, .dec false), (19, .dec true)], .n 2, .r [(0, .call (.p (.bool y_15)) [])]] (by kernel_rfl) (Obs.of (by kernel_rfl) (And.intro (show 0 ≤ (0 : Int) ∧ (0 : Int) < ((2 : Nat) : Int) from by decide) (And.intro (erasurelaw30_short.spec e_2) (And.intro (nt g_3) (And.intro (show 0 ≤ (1 : Int) ∧ (1 : Int) < ((2 : Nat) : Int) from by decide) (And.intro (erasurelaw30_short.spec e_7) (And.intro (nt g_8) (And.intro (nt g_11) (And.intro g_14 (erasurelaw30_awake.spec e_16))))))))))
        · obtain ⟨y_17, e_18, h⟩ := bind_or h
          obtain ⟨y_19, e_20, h⟩ := bind_or h
          rcases ite_or h with ⟨g_21, h⟩ | ⟨g_21, h⟩
          · obtain ⟨y_22, e_23, h⟩ := bind_or h
            obtain rfl := Option.some.inj h
            exact RunC.out [.n 4, .r [(2, .call (.p (.bool y_1)) []), (4, .dec false), (7, .call (.p (.bool y_6)) []), (10, .dec false), (15, .dec false), (19, .dec false)], .n 3, .r [(2, .call (.tup [.p (eL 2 cEntry dEntry y_17.1), .p (.int .i64 y_17.2)]) [])], .n 1, .r [(2, .call (.tup [.p (eL 2 cEntry dEntry y_19.1), .p (.int .i64 y_19.2)]) [])], .n 2, .r [(2, .dec true)], .n 2, .r [(0, .call (.p (.bool y_22)) [])]] (by kernel_rfl) (Obs.of (by kernel_rfl) (And.intro (show 0 ≤ (0 : Int) ∧ (0 : Int) < ((2 : Nat) : Int) from by decide) (And.intro (erasurelaw30_short.spec e_2) (And.intro (nt g_3) (And.intro (show 0 ≤ (1 : Int) ∧ (1 : Int) < ((2 : Nat) : Int) from by decide) (And.intro (erasurelaw30_short.spec e_7) (And.intro (nt g_8) (And.intro (nt g_11) (And.intro (nt g_14) (And.intro (show 0 ≤ (0 : Int) ∧ (0 : Int) < ((2 : Nat) : Int) from by decide) (And.intro (erasureref06_Normalize.spec e_18) (And.intro (show 0 ≤ (1 : Int) ∧ (1 : Int) < ((2 : Nat) : Int) from by decide) (And.intro (erasureref06_Normalize.spec e_20) (And.intro g_21 (erasurelaw30_awake.spec e_23)))))))))))))))
          · rcases ite_or h with ⟨g_24, h⟩ | ⟨g_24, h⟩
            · obtain ⟨y_25, e_26, h⟩ := bind_or h
              obtain rfl := Option.some.inj h
              exact RunC.out [.n 4, .r [(2, .call (.p (.bool y_1)) []), (4, .dec false), (7, .call (.p (.bool y_6)) []), (10, .dec false), (15, .dec false), (19, .dec false)], .n 3, .r [(2, .call (.tup [.p (eL 2 cEntry dEntry y_17.1), .p (.int .i64 y_17.2)]) [])], .n 1, .r [(2, .call (.tup [.p (eL 2 cEntry dEntry y_19.1), .p (.int .i64 y_19.2)]) [])], .n 2, .r [(2, .dec false), (5, .dec true)], .n 2, .r [(0, .call (.p (.bool y_25)) [])]] (by kernel_rfl) (Obs.of (by kernel_rfl) (And.intro (show 0 ≤ (0 : Int) ∧ (0 : Int) < ((2 : Nat) : Int) from by decide) (And.intro (erasurelaw30_short.spec e_2) (And.intro (nt g_3) (And.intro (show 0 ≤ (1 : Int) ∧ (1 : Int) < ((2 : Nat) : Int) from by decide) (And.intro (erasurelaw30_short.spec e_7) (And.intro (nt g_8) (And.intro (nt g_11) (And.intro (nt g_14) (And.intro (show 0 ≤ (0 : Int) ∧ (0 : Int) < ((2 : Nat) : Int) from by decide) (And.intro (erasureref06_Normalize.spec e_18) (And.intro (show 0 ≤ (1 : Int) ∧ (1 : Int) < ((2 : Nat) : Int) from by decide) (And.intro (erasureref06_Normalize.spec e_20) (And.intro (nt g_21) (And.intro g_24 (erasurelaw30_awake.spec e_26))))))))))))))))
            · obtain ⟨y_27, e_28, h⟩ := bind_or h
              obtain ⟨y_29, e_30, h⟩ := bind_or h
              obtain ⟨y_31, e_32, h⟩ := bind_or h
              rcases ite_or h with ⟨g_33, h⟩ | ⟨g_33, h⟩
              · rcases ite_or h with ⟨g_34, h⟩ | ⟨g_34, h⟩
                · rcases ite_or h with ⟨g_35, h⟩ | ⟨g_35, h⟩
                  · rcases ite_or h with ⟨g_36, h⟩ | ⟨g_36, h⟩
                    · obtain ⟨y_37, e_38, h⟩ := bind_or h
                      obtain rfl := Option.some.inj h
                      exact RunC.out [.n 4, .r [(2, .call (.p (.bool y_1)) []), (4, .dec false), (7, .call (.p (.bool y_6)) []), (10, .dec false), (15, .dec false), (19, .dec false)], .n 3, .r [(2, .call (.tup [.p (eL 2 cEntry dEntry y_17.1), .p (.int .i64 y_17.2)]) [])], .n 1, .r [(2, .call (.tup [.p (eL 2 cEntry dEntry y_19.1), .p (.int .i64 y_19.2)]) [])], .n 2, .r [(2, .dec false), (5, .dec false)], .n 3, .r [(3, .call (.tup [.sref 0 55 5 (y_27.1).length, .p (.bool y_27.2)]) [(oL true 55 5 cCached dCached y_27.1)])], .n 1, .r [(2, .call (.tup [.sref 0 42 2 (y_29.1).length, .p (.int .i64 y_29.2)]) [(oL true 42 2 cEntry dEntry y_29.1)])], .n 1, .r [(2, .call (.tup [.sref 0 42 2 (y_31.1).length, .p (.int .i64 y_31.2)]) [(oL true 42 2 cEntry dEntry y_31.1)])], .n 2, .r [(2, .dec true)], .n 2, .r [(2, .dec true), (7, .dec true), (10, .dec true), (11, .call (.p (.bool y_37)) [])]] (by kernel_rfl) (Obs.of (by kernel_rfl) (And.intro (show 0 ≤ (0 : Int) ∧ (0 : Int) < ((2 : Nat) : Int) from by decide) (And.intro (erasurelaw30_short.spec e_2) (And.intro (nt g_3) (And.intro (show 0 ≤ (1 : Int) ∧ (1 : Int) < ((2 : Nat) : Int) from by decide) (And.intro (erasurelaw30_short.spec e_7) (And.intro (nt g_8) (And.intro (nt g_11) (And.intro (nt g_14) (And.intro (show 0 ≤ (0 : Int) ∧ (0 : Int) < ((2 : Nat) : Int) from by decide) (And.intro (erasureref06_Normalize.spec e_18) (And.intro (show 0 ≤ (1 : Int) ∧ (1 : Int) < ((2 : Nat) : Int) from by decide) (And.intro (erasureref06_Normalize.spec e_20) (And.intro (nt g_21) (And.intro (nt g_24) (And.intro (erasurelaw30_filled.spec e_28) (And.intro (bag_Subtract.spec e_30) (And.intro (bag_Subtract.spec e_32) (And.intro g_33 (And.intro g_34 (And.intro g_35 (And.intro g_36 (erasurelaw30_awake.spec e_38)))))))))))))))))))))))
                    · obtain rfl := Option.some.inj h
                      exact RunC.out [.n 4, .r [(2, .call (.p (.bool y_1)) []), (4, .dec false), (7, .call (.p (.bool y_6)) []), (10, .dec false), (15, .dec false), (19, .dec false)], .n 3, .r [(2, .call (.tup [.p (eL 2 cEntry dEntry y_17.1), .p (.int .i64 y_17.2)]) [])], .n 1, .r [(2, .call (.tup [.p (eL 2 cEntry dEntry y_19.1), .p (.int .i64 y_19.2)]) [])], .n 2, .r [(2, .dec false), (5, .dec false)], .n 3, .r [(3, .call (.tup [.sref 0 55 5 (y_27.1).length, .p (.bool y_27.2)]) [(oL true 55 5 cCached dCached y_27.1)])], .n 1, .r [(2, .call (.tup [.sref 0 42 2 (y_29.1).length, .p (.int .i64 y_29.2)]) [(oL true 42 2 cEntry dEntry y_29.1)])], .n 1, .r [(2, .call (.tup [.sref 0 42 2 (y_31.1).length, .p (.int .i64 y_31.2)]) [(oL true 42 2 cEntry dEntry y_31.1)])], .n 2, .r [(2, .dec true)], .n 2, .r [(2, .dec true), (7, .dec true), (10, .dec false)]] (by kernel_rfl) (Obs.of (by kernel_rfl) (And.intro (show 0 ≤ (0 : Int) ∧ (0 : Int) < ((2 : Nat) : Int) from by decide) (And.intro (erasurelaw30_short.spec e_2) (And.intro (nt g_3) (And.intro (show 0 ≤ (1 : Int) ∧ (1 : Int) < ((2 : Nat) : Int) from by decide) (And.intro (erasurelaw30_short.spec e_7) (And.intro (nt g_8) (And.intro (nt g_11) (And.intro (nt g_14) (And.intro (show 0 ≤ (0 : Int) ∧ (0 : Int) < ((2 : Nat) : Int) from by decide) (And.intro (erasureref06_Normalize.spec e_18) (And.intro (show 0 ≤ (1 : Int) ∧ (1 : Int) < ((2 : Nat) : Int) from by decide) (And.intro (erasureref06_Normalize.spec e_20) (And.intro (nt g_21) (And.intro (nt g_24) (And.intro (erasurelaw30_filled.spec e_28) (And.intro (bag_Subtract.spec e_30) (And.intro (bag_Subtract.spec e_32) (And.intro g_33 (And.intro g_34 (And.intro g_35 (nt g_36))))))))))))))))))))))
                  · obtain rfl := Option.some.inj h
                    exact RunC.out [.n 4, .r [(2, .call (.p (.bool y_1)) []), (4, .dec false), (7, .call (.p (.bool y_6)) []), (10, .dec false), (15, .dec false), (19, .dec false)], .n 3, .r [(2, .call (.tup [.p (eL 2 cEntry dEntry y_17.1), .p (.int .i64 y_17.2)]) [])], .n 1, .r [(2, .call (.tup [.p (eL 2 cEntry dEntry y_19.1), .p (.int .i64 y_19.2)]) [])], .n 2, .r [(2, .dec false), (5, .dec false)], .n 3, .r [(3, .call (.tup [.sref 0 55 5 (y_27.1).length, .p (.bool y_27.2)]) [(oL true 55 5 cCached dCached y_27.1)])], .n 1, .r [(2, .call (.tup [.sref 0 42 2 (y_29.1).length, .p (.int .i64 y_29.2)]) [(oL true 42 2 cEntry dEntry y_29.1)])], .n 1, .r [(2, .call (.tup [.sref 0 42 2 (y_31.1).length, .p (.int .i64 y_31.2)]) [(oL true 42 2 cEntry dEntry y_31.1)])], .n 2, .r [(2, .dec true)], .n 2, .r [(2, .dec true), (7, .dec false)]] (by kernel_rfl) (Obs.of (by kernel_rfl) (And.intro (show 0 ≤ (0 : Int) ∧ (0 : Int) < ((2 : Nat) : Int) from by decide) (And.intro (erasurelaw30_short.spec e_2) (And.intro (nt g_3) (And.intro (show 0 ≤ (1 : Int) ∧ (1 : Int) < ((2 : Nat) : Int) from by decide) (And.intro (erasurelaw30_short.spec e_7) (And.intro (nt g_8) (And.intro (nt g_11) (And.intro (nt g_14) (And.intro (show 0 ≤ (0 : Int) ∧ (0 : Int) < ((2 : Nat) : Int) from by decide) (And.intro (erasureref06_Normalize.spec e_18) (And.intro (show 0 ≤ (1 : Int) ∧ (1 : Int) < ((2 : Nat) : Int) from by decide) (And.intro (erasureref06_Normalize.spec e_20) (And.intro (nt g_21) (And.intro (nt g_24) (And.intro (erasurelaw30_filled.spec e_28) (And.intro (bag_Subtract.spec e_30) (And.intro (bag_Subtract.spec e_32) (And.intro g_33 (And.intro g_34 (nt g_35)))))))))))))))))))))
                · obtain rfl := Option.some.inj h
                  exact RunC.out [.n 4, .r [(2, .call (.p (.bool y_1)) []), (4, .dec false), (7, .call (.p (.bool y_6)) []), (10, .dec false), (15, .dec false), (19, .dec false)], .n 3, .r [(2, .call (.tup [.p (eL 2 cEntry dEntry y_17.1), .p (.int .i64 y_17.2)]) [])], .n 1, .r [(2, .call (.tup [.p (eL 2 cEntry dEntry y_19.1), .p (.int .i64 y_19.2)]) [])], .n 2, .r [(2, .dec false), (5, .dec false)], .n 3, .r [(3, .call (.tup [.sref 0 55 5 (y_27.1).length, .p (.bool y_27.2)]) [(oL true 55 5 cCached dCached y_27.1)])], .n 1, .r [(2, .call (.tup [.sref 0 42 2 (y_29.1).length, .p (.int .i64 y_29.2)]) [(oL true 42 2 cEntry dEntry y_29.1)])], .n 1, .r [(2, .call (.tup [.sref 0 42 2 (y_31.1).length, .p (.int .i64 y_31.2)]) [(oL true 42 2 cEntry dEntry y_31.1)])], .n 2, .r [(2, .dec true)], .n 2, .r [(2, .dec false)]] (by kernel_rfl) (Obs.of (by kernel_rfl) (And.intro (show 0 ≤ (0 : Int) ∧ (0 : Int) < ((2 : Nat) : Int) from by decide) (And.intro (erasurelaw30_short.spec e_2) (And.intro (nt g_3) (And.intro (show 0 ≤ (1 : Int) ∧ (1 : Int) < ((2 : Nat) : Int) from by decide) (And.intro (erasurelaw30_short.spec e_7) (And.intro (nt g_8) (And.intro (nt g_11) (And.intro (nt g_14) (And.intro (show 0 ≤ (0 : Int) ∧ (0 : Int) < ((2 : Nat) : Int) from by decide) (And.intro (erasureref06_Normalize.spec e_18) (And.intro (show 0 ≤ (1 : Int) ∧ (1 : Int) < ((2 : Nat) : Int) from by decide) (And.intro (erasureref06_Normalize.spec e_20) (And.intro (nt g_21) (And.intro (nt g_24) (And.intro (erasurelaw30_filled.spec e_28) (And.intro (bag_Subtract.spec e_30) (And.intro (bag_Subtract.spec e_32) (And.intro g_33 (nt g_34))))))))))))))))))))
              · rcases ite_or h with ⟨g_39, h⟩ | ⟨g_39, h⟩
                · rcases ite_or h with ⟨g_40, h⟩ | ⟨g_40, h⟩
                  · rcases ite_or h with ⟨g_41, h⟩ | ⟨g_41, h⟩
                    · obtain ⟨y_42, e_43, h⟩ := bind_or h
                      obtain rfl := Option.some.inj h
                      exact RunC.out [.n 4, .r [(2, .call (.p (.bool y_1)) []), (4, .dec false), (7, .call (.p (.bool y_6)) []), (10, .dec false), (15, .dec false), (19, .dec false)], .n 3, .r [(2, .call (.tup [.p (eL 2 cEntry dEntry y_17.1), .p (.int .i64 y_17.2)]) [])], .n 1, .r [(2, .call (.tup [.p (eL 2 cEntry dEntry y_19.1), .p (.int .i64 y_19.2)]) [])], .n 2, .r [(2, .dec false), (5, .dec false)], .n 3, .r [(3, .call (.tup [.sref 0 55 5 (y_27.1).length, .p (.bool y_27.2)]) [(oL true 55 5 cCached dCached y_27.1)])], .n 1, .r [(2, .call (.tup [.sref 0 42 2 (y_29.1).length, .p (.int .i64 y_29.2)]) [(oL true 42 2 cEntry dEntry y_29.1)])], .n 1, .r [(2, .call (.tup [.sref 0 42 2 (y_31.1).length, .p (.int .i64 y_31.2)]) [(oL true 42 2 cEntry dEntry y_31.1)])], .n 2, .r [(2, .dec false), (6, .dec true)], .n 2, .r [(2, .dec true), (7, .dec true), (10, .dec true), (11, .call (.p (.bool y_42)) [])]] (by kernel_rfl) (Obs.of (by kernel_rfl) (And.intro (show 0 ≤ (0 : Int) ∧ (0 : Int) < ((2 : Nat) : Int) from by decide) (And.intro (erasurelaw30_short.spec e_2) (And.intro (nt g_3) (And.intro (show 0 ≤ (1 : Int) ∧ (1 : Int) < ((2 : Nat) : Int) from by decide) (And.intro (erasurelaw30_short.spec e_7) (And.intro (nt g_8) (And.intro (nt g_11) (And.intro (nt g_14) (And.intro (show 0 ≤ (0 : Int) ∧ (0 : Int) < ((2 : Nat) : Int) from by decide) (And.intro (erasureref06_Normalize.spec e_18) (And.intro (show 0 ≤ (1 : Int) ∧ (1 : Int) < ((2 : Nat) : Int) from by decide) (And.intro (erasureref06_Normalize.spec e_20) (And.intro (nt g_21) (And.intro (nt g_24) (And.intro (erasurelaw30_filled.spec e_28) (And.intro (bag_Subtract.spec e_30) (And.intro (bag_Subtract.spec e_32) (And.intro (nt g_33) (And.intro g_39 (And.intro g_39 (And.intro g_40 (And.intro g_41 (erasurelaw30_awake.spec e_43))))))))))))))))))))))))
                    · obtain rfl := Option.some.inj h
                      exact RunC.out [.n 4, .r [(2, .call (.p (.bool y_1)) []), (4, .dec false), (7, .call (.p (.bool y_6)) []), (10, .dec false), (15, .dec false), (19, .dec false)], .n 3, .r [(2, .call (.tup [.p (eL 2 cEntry dEntry y_17.1), .p (.int .i64 y_17.2)]) [])], .n 1, .r [(2, .call (.tup [.p (eL 2 cEntry dEntry y_19.1), .p (.int .i64 y_19.2)]) [])], .n 2, .r [(2, .dec false), (5, .dec false)], .n 3, .r [(3, .call (.tup [.sref 0 55 5 (y_27.1).length, .p (.bool y_27.2)]) [(oL true 55 5 cCached dCached y_27.1)])], .n 1, .r [(2, .call (.tup [.sref 0 42 2 (y_29.1).length, .p (.int .i64 y_29.2)]) [(oL true 42 2 cEntry dEntry y_29.1)])], .n 1, .r [(2, .call (.tup [.sref 0 42 2 (y_31.1).length, .p (.int .i64 y_31.2)]) [(oL true 42 2 cEntry dEntry y_31.1)])], .n 2, .r [(2, .dec false), (6, .dec true)], .n 2, .r [(2, .dec true), (7, .dec true), (10, .dec false)]] (by kernel_rfl) (Obs.of (by kernel_rfl) (And.intro (show 0 ≤ (0 : Int) ∧ (0 : Int) < ((2 : Nat) : Int) from by decide) (And.intro (erasurelaw30_short.spec e_2) (And.intro (nt g_3) (And.intro (show 0 ≤ (1 : Int) ∧ (1 : Int) < ((2 : Nat) : Int) from by decide) (And.intro (erasurelaw30_short.spec e_7) (And.intro (nt g_8) (And.intro (nt g_11) (And.intro (nt g_14) (And.intro (show 0 ≤ (0 : Int) ∧ (0 : Int) < ((2 : Nat) : Int) from by decide) (And.intro (erasureref06_Normalize.spec e_18) (And.intro (show 0 ≤ (1 : Int) ∧ (1 : Int) < ((2 : Nat) : Int) from by decide) (And.intro (erasureref06_Normalize.spec e_20) (And.intro (nt g_21) (And.intro (nt g_24) (And.intro (erasurelaw30_filled.spec e_28) (And.intro (bag_Subtract.spec e_30) (And.intro (bag_Subtract.spec e_32) (And.intro (nt g_33) (And.intro g_39 (And.intro g_39 (And.intro g_40 (nt g_41)))))))))))))))))))))))
                  · obtain rfl := Option.some.inj h
                    exact RunC.out [.n 4, .r [(2, .call (.p (.bool y_1)) []), (4, .dec false), (7, .call (.p (.bool y_6)) []), (10, .dec false), (15, .dec false), (19, .dec false)], .n 3, .r [(2, .call (.tup [.p (eL 2 cEntry dEntry y_17.1), .p (.int .i64 y_17.2)]) [])], .n 1, .r [(2, .call (.tup [.p (eL 2 cEntry dEntry y_19.1), .p (.int .i64 y_19.2)]) [])], .n 2, .r [(2, .dec false), (5, .dec false)], .n 3, .r [(3, .call (.tup [.sref 0 55 5 (y_27.1).length, .p (.bool y_27.2)]) [(oL true 55 5 cCached dCached y_27.1)])], .n 1, .r [(2, .call (.tup [.sref 0 42 2 (y_29.1).length, .p (.int .i64 y_29.2)]) [(oL true 42 2 cEntry dEntry y_29.1)])], .n 1, .r [(2, .call (.tup [.sref 0 42 2 (y_31.1).length, .p (.int .i64 y_31.2)]) [(oL true 42 2 cEntry dEntry y_31.1)])], .n 2, .r [(2, .dec false), (6, .dec true)], .n 2, .r [(2, .dec true), (7, .dec false)]] (by kernel_rfl) (Obs.of (by kernel_rfl) (And.intro (show 0 ≤ (0 : Int) ∧ (0 : Int) < ((2 : Nat) : Int) from by decide) (And.intro (erasurelaw30_short.spec e_2) (And.intro (nt g_3) (And.intro (show 0 ≤ (1 : Int) ∧ (1 : Int) < ((2 : Nat) : Int) from by decide) (And.intro (erasurelaw30_short.spec e_7) (And.intro (nt g_8) (And.intro (nt g_11) (And.intro (nt g_14) (And.intro (show 0 ≤ (0 : Int) ∧ (0 : Int) < ((2 : Nat) : Int) from by decide) (And.intro (erasureref06_Normalize.spec e_18) (And.intro (show 0 ≤ (1 : Int) ∧ (1 : Int) < ((2 : Nat) : Int) from by decide) (And.intro (erasureref06_Normalize.spec e_20) (And.intro (nt g_21) (And.intro (nt g_24) (And.intro (erasurelaw30_filled.spec e_28) (And.intro (bag_Subtract.spec e_30) (And.intro (bag_Subtract.spec e_32) (And.intro (nt g_33) (And.intro g_39 (And.intro g_39 (nt g_40))))))))))))))))))))))
                · rcases ite_or h with ⟨g_44, h⟩ | ⟨g_44, h⟩
                  · obtain rfl := Option.some.inj h
                    exact RunC.out [.n 4, .r [(2, .call (.p (.bool y_1)) []), (4, .dec false), (7, .call (.p (.bool y_6)) []), (10, .dec false), (15, .dec false), (19, .dec false)], .n 3, .r [(2, .call (.tup [.p (eL 2 cEntry dEntry y_17.1), .p (.int .i64 y_17.2)]) [])], .n 1, .r [(2, .call (.tup [.p (eL 2 cEntry dEntry y_19.1), .p (.int .i64 y_19.2)]) [])], .n 2, .r [(2, .dec false), (5, .dec false)], .n 3, .r [(3, .call (.tup [.sref 0 55 5 (y_27.1).length, .p (.bool y_27.2)]) [(oL true 55 5 cCached dCached y_27.1)])], .n 1, .r [(2, .call (.tup [.sref 0 42 2 (y_29.1).length, .p (.int .i64 y_29.2)]) [(oL true 42 2 cEntry dEntry y_29.1)])], .n 1, .r [(2, .call (.tup [.sref 0 42 2 (y_31.1).length, .p (.int .i64 y_31.2)]) [(oL true 42 2 cEntry dEntry y_31.1)])], .n 2, .r [(2, .dec false), (6, .dec false), (10, .dec true)], .n 2, .r [(2, .dec false)]] (by kernel_rfl) (Obs.of (by kernel_rfl) (And.intro (show 0 ≤ (0 : Int) ∧ (0 : Int) < ((2 : Nat) : Int) from by decide) (And.intro (erasurelaw30_short.spec e_2) (And.intro (nt g_3) (And.intro (show 0 ≤ (1 : Int) ∧ (1 : Int) < ((2 : Nat) : Int) from by decide) (And.intro (erasurelaw30_short.spec e_7) (And.intro (nt g_8) (And.intro (nt g_11) (And.intro (nt g_14) (And.intro (show 0 ≤ (0 : Int) ∧ (0 : Int) < ((2 : Nat) : Int) from by decide) (And.intro (erasureref06_Normalize.spec e_18) (And.intro (show 0 ≤ (1 : Int) ∧ (1 : Int) < ((2 : Nat) : Int) from by decide) (And.intro (erasureref06_Normalize.spec e_20) (And.intro (nt g_21) (And.intro (nt g_24) (And.intro (erasurelaw30_filled.spec e_28) (And.intro (bag_Subtract.spec e_30) (And.intro (bag_Subtract.spec e_32) (And.intro (nt g_33) (And.intro (nt g_39) (And.intro g_44 (nt g_39))))))))))))))))))))))
                  · obtain ⟨y_45, e_46, h⟩ := bind_or h
                    rcases ite_or h with ⟨g_47, h⟩ | ⟨g_47, h⟩
                    · obtain rfl := Option.some.inj h
                      exact RunC.out [.n 4, .r [(2, .call (.p (.bool y_1)) []), (4, .dec false), (7, .call (.p (.bool y_6)) []), (10, .dec false), (15, .dec false), (19, .dec false)], .n 3, .r [(2, .call (.tup [.p (eL 2 cEntry dEntry y_17.1), .p (.int .i64 y_17.2)]) [])], .n 1, .r [(2, .call (.tup [.p (eL 2 cEntry dEntry y_19.1), .p (.int .i64 y_19.2)]) [])], .n 2, .r [(2, .dec false), (5, .dec false)], .n 3, .r [(3, .call (.tup [.sref 0 55 5 (y_27.1).length, .p (.bool y_27.2)]) [(oL true 55 5 cCached dCached y_27.1)])], .n 1, .r [(2, .call (.tup [.sref 0 42 2 (y_29.1).length, .p (.int .i64 y_29.2)]) [(oL true 42 2 cEntry dEntry y_29.1)])], .n 1, .r [(2, .call (.tup [.sref 0 42 2 (y_31.1).length, .p (.int .i64 y_31.2)]) [(oL true 42 2 cEntry dEntry y_31.1)])], .n 2, .r [(2, .dec false), (6, .dec false), (10, .dec false), (14, .call (.p (.bool y_45)) []), (16, .dec true)], .n 2, .r [(2, .dec false)]] (by kernel_rfl) (Obs.of (by kernel_rfl) (And.intro (show 0 ≤ (0 : Int) ∧ (0 : Int) < ((2 : Nat) : Int) from by decide) (And.intro (erasurelaw30_short.spec e_2) (And.intro (nt g_3) (And.intro (show 0 ≤ (1 : Int) ∧ (1 : Int) < ((2 : Nat) : Int) from by decide) (And.intro (erasurelaw30_short.spec e_7) (And.intro (nt g_8) (And.intro (nt g_11) (And.intro (nt g_14) (And.intro (show 0 ≤ (0 : Int) ∧ (0 : Int) < ((2 : Nat) : Int) from by decide) (And.intro (erasureref06_Normalize.spec e_18) (And.intro (show 0 ≤ (1 : Int) ∧ (1 : Int) < ((2 : Nat) : Int) from by decide) (And.intro (erasureref06_Normalize.spec e_20) (And.intro (nt g_21) (And.intro (nt g_24) (And.intro (erasurelaw30_filled.spec e_28) (And.intro (bag_Subtract.spec e_30) (And.intro (bag_Subtract.spec e_32) (And.intro (nt g_33) (And.intro (nt g_39) (And.intro (nt g_44) (And.intro (cache_Fresh.spec e_46) (And.intro g_47 (nt g_39))))))))))))))))))))))))
                    · obtain ⟨y_48, e_49, h⟩ := bind_or h
                      obtain ⟨y_50, e_51, h⟩ := bind_or h
                      obtain ⟨y_52, e_53, h⟩ := bind_or h
                      obtain ⟨y_54, e_55, h⟩ := bind_or h
                      rcases ite_or h with ⟨g_56, h⟩ | ⟨g_56, h⟩
                      · obtain ⟨y_57, e_58, h⟩ := bind_or h
                        rcases ite_or h with ⟨g_59, h⟩ | ⟨g_59, h⟩
                        · rcases ite_or h with ⟨g_60, h⟩ | ⟨g_60, h⟩
                          · obtain ⟨y_61, e_62, h⟩ := bind_or h
                            obtain rfl := Option.some.inj h
                            exact RunC.out [.n 4, .r [(2, .call (.p (.bool y_1)) []), (4, .dec false), (7, .call (.p (.bool y_6)) []), (10, .dec false), (15, .dec false), (19, .dec false)], .n 3, .r [(2, .call (.tup [.p (eL 2 cEntry dEntry y_17.1), .p (.int .i64 y_17.2)]) [])], .n 1, .r [(2, .call (.tup [.p (eL 2 cEntry dEntry y_19.1), .p (.int .i64 y_19.2)]) [])], .n 2, .r [(2, .dec false), (5, .dec false)], .n 3, .r [(3, .call (.tup [.sref 0 55 5 (y_27.1).length, .p (.bool y_27.2)]) [(oL true 55 5 cCached dCached y_27.1)])], .n 1, .r [(2, .call (.tup [.sref 0 42 2 (y_29.1).length, .p (.int .i64 y_29.2)]) [(oL true 42 2 cEntry dEntry y_29.1)])], .n 1, .r [(2, .call (.tup [.sref 0 42 2 (y_31.1).length, .p (.int .i64 y_31.2)]) [(oL true 42 2 cEntry dEntry y_31.1)])], .n 2, .r [(2, .dec false), (6, .dec false), (10, .dec false), (14, .call (.p (.bool y_45)) []), (16, .dec false)], .n 3, .r [(5, .call (.sref 0 44 3 (y_48).length) [(oL true 44 3 cValue dValue y_48)]), (6, .call (.sref 0 55 5 (y_50).length) [(oL true 55 5 cCached dCached y_50)])], .n 1, .r [(3, .call (.sref 0 55 5 (y_52).length) [(oL true 55 5 cCached dCached y_52)])], .n 1, .r [(3, .call (.p (.bool y_54)) []), (4, .dec true), (8, .call (.p (.bool y_57)) []), (10, .dec true), (17, .dec true), (18, .call (.p (.bool y_61)) [])]] (by kernel_rfl) (Obs.of (by kernel_rfl) (And.intro (show 0 ≤ (0 : Int) ∧ (0 : Int) < ((2 : Nat) : Int) from by decide) (And.intro (erasurelaw30_short.spec e_2) (And.intro (nt g_3) (And.intro (show 0 ≤ (1 : Int) ∧ (1 : Int) < ((2 : Nat) : Int) from by decide) (And.intro (erasurelaw30_short.spec e_7) (And.intro (nt g_8) (And.intro (nt g_11) (And.intro (nt g_14) (And.intro (show 0 ≤ (0 : Int) ∧ (0 : Int) < ((2 : Nat) : Int) from by decide) (And.intro (erasureref06_Normalize.spec e_18) (And.intro (show 0 ≤ (1 : Int) ∧ (1 : Int) < ((2 : Nat) : Int) from by decide) (And.intro (erasureref06_Normalize.spec e_20) (And.intro (nt g_21) (And.intro (nt g_24) (And.intro (erasurelaw30_filled.spec e_28) (And.intro (bag_Subtract.spec e_30) (And.intro (bag_Subtract.spec e_32) (And.intro (nt g_33) (And.intro (nt g_39) (And.intro (nt g_44) (And.intro (cache_Fresh.spec e_46) (And.intro (nt g_47) (And.intro (cache_Touched.spec e_49) (And.intro (cache_Purge.spec e_51) (And.intro (cache_Refill.spec e_53) (And.intro (cache_Fresh.spec e_55) (And.intro g_56 (And.intro (cache_Fresh.spec e_58) (And.intro g_59 (And.intro g_60 (erasurelaw30_awake.spec e_62))))))))))))))))))))))))))))))))
                          · obtain rfl := Option.some.inj h
                            exact RunC.out [.n 4, .r [(2, .call (.p (.bool y_1)) []), (4, .dec false), (7, .call (.p (.bool y_6)) []), (10, .dec false), (15, .dec false), (19, .dec false)], .n 3, .r [(2, .call (.tup [.p (eL 2 cEntry dEntry y_17.1), .p (.int .i64 y_17.2)]) [])], .n 1, .r [(2, .call (.tup [.p (eL 2 cEntry dEntry y_19.1), .p (.int .i64 y_19.2)]) [])], .n 2, .r [(2, .dec false), (5, .dec false)], .n 3, .r [(3, .call (.tup [.sref 0 55 5 (y_27.1).length, .p (.bool y_27.2)]) [(oL true 55 5 cCached dCached y_27.1)])], .n 1, .r [(2, .call (.tup [.sref 0 42 2 (y_29.1).length, .p (.int .i64 y_29.2)]) [(oL true 42 2 cEntry dEntry y_29.1)])], .n 1, .r [(2, .call (.tup [.sref 0 42 2 (y_31.1).length, .p (.int .i64 y_31.2)]) [(oL true 42 2 cEntry dEntry y_31.1)])], .n 2, .r [(2, .dec false), (6, .dec false), (10, .dec false), (14, .call (.p (.bool y_45)) []), (16, .dec false)], .n 3, .r [(5, .call (.sref 0 44 3 (y_48).length) [(oL true 44 3 cValue dValue y_48)]), (6, .call (.sref 0 55 5 (y_50).length) [(oL true 55 5 cCached dCached y_50)])], .n 1, .r [(3, .call (.sref 0 55 5 (y_52).length) [(oL true 55 5 cCached dCached y_52)])], .n 1, .r [(3, .call (.p (.bool y_54)) []), (4, .dec true), (8, .call (.p (.bool y_57)) []), (10, .dec true), (17, .dec false)]] (by kernel_rfl) (Obs.of (by kernel_rfl) (And.intro (show 0 ≤ (0 : Int) ∧ (0 : Int) < ((2 : Nat) : Int) from by decide) (And.intro (erasurelaw30_short.spec e_2) (And.intro (nt g_3) (And.intro (show 0 ≤ (1 : Int) ∧ (1 : Int) < ((2 : Nat) : Int) from by decide) (And.intro (erasurelaw30_short.spec e_7) (And.intro (nt g_8) (And.intro (nt g_11) (And.intro (nt g_14) (And.intro (show 0 ≤ (0 : Int) ∧ (0 : Int) < ((2 : Nat) : Int) from by decide) (And.intro (erasureref06_Normalize.spec e_18) (And.intro (show 0 ≤ (1 : Int) ∧ (1 : Int) < ((2 : Nat) : Int) from by decide) (And.intro (erasureref06_Normalize.spec e_20) (And.intro (nt g_21) (And.intro (nt g_24) (And.intro (erasurelaw30_filled.spec e_28) (And.intro (bag_Subtract.spec e_30) (And.intro (bag_Subtract.spec e_32) (And.intro (nt g_33) (And.intro (nt g_39) (And.intro (nt g_44) (And.intro (cache_Fresh.spec e_46) (And.intro (nt g_47) (And.intro (cache_Touched.spec e_49) (And.intro (cache_Purge.spec e_51) (And.intro (cache_Refill.spec e_53) (And.intro (cache_Fresh.spec e_55) (And.intro g_56 (And.intro (cache_Fresh.spec e_58) (And.intro g_59 (nt g_60)))))))))))))))))))))))))))))))
                        · obtain rfl := Option.some.inj h
                          exact RunC.out [.n 4, .r [(2, .call (.p (.bool y_1)) []), (4, .dec false), (7, .call (.p (.bool y_6)) []), (10, .dec false), (15, .dec false), (19, .dec false)], .n 3, .r [(2, .call (.tup [.p (eL 2 cEntry dEntry y_17.1), .p (.int .i64 y_17.2)]) [])], .n 1, .r [(2, .call (.tup [.p (eL 2 cEntry dEntry y_19.1), .p (.int .i64 y_19.2)]) [])], .n 2, .r [(2, .dec false), (5, .dec false)], .n 3, .r [(3, .call (.tup [.sref 0 55 5 (y_27.1).length, .p (.bool y_27.2)]) [(oL true 55 5 cCached dCached y_27.1)])], .n 1, .r [(2, .call (.tup [.sref 0 42 2 (y_29.1).length, .p (.int .i64 y_29.2)]) [(oL true 42 2 cEntry dEntry y_29.1)])], .n 1, .r [(2, .call (.tup [.sref 0 42 2 (y_31.1).length, .p (.int .i64 y_31.2)]) [(oL true 42 2 cEntry dEntry y_31.1)])], .n 2, .r [(2, .dec false), (6, .dec false), (10, .dec false), (14, .call (.p (.bool y_45)) []), (16, .dec false)], .n 3, .r [(5, .call (.sref 0 44 3 (y_48).length) [(oL true 44 3 cValue dValue y_48)]), (6, .call (.sref 0 55 5 (y_50).length) [(oL true 55 5 cCached dCached y_50)])], .n 1, .r [(3, .call (.sref 0 55 5 (y_52).length) [(oL true 55 5 cCached dCached y_52)])], .n 1, .r [(3, .call (.p (.bool y_54)) []), (4, .dec true), (8, .call (.p (.bool y_57)) []), (10, .dec false)]] (by kernel_rfl) (Obs.of (by kernel_rfl) (And.intro (show 0 ≤ (0 : Int) ∧ (0 : Int) < ((2 : Nat) : Int) from by decide) (And.intro (erasurelaw30_short.spec e_2) (And.intro (nt g_3) (And.intro (show 0 ≤ (1 : Int) ∧ (1 : Int) < ((2 : Nat) : Int) from by decide) (And.intro (erasurelaw30_short.spec e_7) (And.intro (nt g_8) (And.intro (nt g_11) (And.intro (nt g_14) (And.intro (show 0 ≤ (0 : Int) ∧ (0 : Int) < ((2 : Nat) : Int) from by decide) (And.intro (erasureref06_Normalize.spec e_18) (And.intro (show 0 ≤ (1 : Int) ∧ (1 : Int) < ((2 : Nat) : Int) from by decide) (And.intro (erasureref06_Normalize.spec e_20) (And.intro (nt g_21) (And.intro (nt g_24) (And.intro (erasurelaw30_filled.spec e_28) (And.intro (bag_Subtract.spec e_30) (And.intro (bag_Subtract.spec e_32) (And.intro (nt g_33) (And.intro (nt g_39) (And.intro (nt g_44) (And.intro (cache_Fresh.spec e_46) (And.intro (nt g_47) (And.intro (cache_Touched.spec e_49) (And.intro (cache_Purge.spec e_51) (And.intro (cache_Refill.spec e_53) (And.intro (cache_Fresh.spec e_55) (And.intro g_56 (And.intro (cache_Fresh.spec e_58) (nt g_59))))))))))))))))))))))))))))))
                      · obtain rfl := Option.some.inj h
                        exact RunC.out [.n 4, .r [(2, .call (.p (.bool y_1)) []), (4, .dec false), (7, .call (.p (.bool y_6)) []), (10, .dec false), (15, .dec false), (19, .dec false)], .n 3, .r [(2, .call (.tup [.p (eL 2 cEntry dEntry y_17.1), .p (.int .i64 y_17.2)]) [])], .n 1, .r [(2, .call (.tup [.p (eL 2 cEntry dEntry y_19.1), .p (.int .i64 y_19.2)]) [])], .n 2, .r [(2, .dec false), (5, .dec false)], .n 3, .r [(3, .call (.tup [.sref 0 55 5 (y_27.1).length, .p (.bool y_27.2)]) [(oL true 55 5 cCached dCached y_27.1)])], .n 1, .r [(2, .call (.tup [.sref 0 42 2 (y_29.1).length, .p (.int .i64 y_29.2)]) [(oL true 42 2 cEntry dEntry y_29.1)])], .n 1, .r [(2, .call (.tup [.sref 0 42 2 (y_31.1).length, .p (.int .i64 y_31.2)]) [(oL true 42 2 cEntry dEntry y_31.1)])], .n 2, .r [(2, .dec false), (6, .dec false), (10, .dec false), (14, .call (.p (.bool y_45)) []), (16, .dec false)], .n 3, .r [(5, .call (.sref 0 44 3 (y_48).length) [(oL true 44 3 cValue dValue y_48)]), (6, .call (.sref 0 55 5 (y_50).length) [(oL true 55 5 cCached dCached y_50)])], .n 1, .r [(3, .call (.sref 0 55 5 (y_52).length) [(oL true 55 5 cCached dCached y_52)])], .n 1, .r [(3, .call (.p (.bool y_54)) []), (4, .dec false)]] (by kernel_rfl) (Obs.of (by kernel_rfl) (And.intro (show 0 ≤ (0 : Int) ∧ (0 : Int) < ((2 : Nat) : Int) from by decide) (And.intro (erasurelaw30_short.spec e_2) (And.intro (nt g_3) (And.intro (show 0 ≤ (1 : Int) ∧ (1 : Int) < ((2 : Nat) : Int) from by decide) (And.intro (erasurelaw30_short.spec e_7) (And.intro (nt g_8) (And.intro (nt g_11) (And.intro (nt g_14) (And.intro (show 0 ≤ (0 : Int) ∧ (0 : Int) < ((2 : Nat) : Int) from by decide) (And.intro (erasureref06_Normalize.spec e_18) (And.intro (show 0 ≤ (1 : Int) ∧ (1 : Int) < ((2 : Nat) : Int) from by decide) (And.intro (erasureref06_Normalize.spec e_20) (And.intro (nt g_21) (And.intro (nt g_24) (And.intro (erasurelaw30_filled.spec e_28) (And.intro (bag_Subtract.spec e_30) (And.intro (bag_Subtract.spec e_32) (And.intro (nt g_33) (And.intro (nt g_39) (And.intro (nt g_44) (And.intro (cache_Fresh.spec e_46) (And.intro (nt g_47) (And.intro (cache_Touched.spec e_49) (And.intro (cache_Purge.spec e_51) (And.intro (cache_Refill.spec e_53) (And.intro (cache_Fresh.spec e_55) (nt g_56))))))))))))))))))))))))))))
theorem erasurelaw30_CacheFresh.mono   : ∀ (k k' : Nat) (t0 : TCache) (o1 : T25) (A2 : (List TValue)) (r : Bool), k ≤ k' → erasurelaw30_CacheFresh k t0 o1 A2 = some r → erasurelaw30_CacheFresh k' t0 o1 A2 = some r := by
  intro k k' t0 o1 A2 r hk h
  unfold erasurelaw30_CacheFresh at h ⊢
  obtain ⟨y_1, e_2, h⟩ := bind_or h
  refine bnd (erasurelaw30_short.mono _ _ _ _ hk e_2) ?_
  rcases ite_or h with ⟨g_3, h⟩ | ⟨g_3, h⟩
  · refine itp g_3 ?_
    obtain ⟨y_4, e_5, h⟩ := bind_or h
    refine bnd (erasurelaw30_awake.mono _ _  _ hk e_5) ?_
    exact h
  · refine itn g_3 ?_
    obtain ⟨y_6, e_7, h⟩ := bind_or h
    refine bnd (erasurelaw30_short.mono _ _ _ _ hk e_7) ?_
    rcases ite_or h with ⟨g_8, h⟩ | ⟨g_8, h⟩
    · refine itp g_8 ?_
      obtain ⟨y_9, e_10, h⟩ := bind_or h
      refine bnd (erasurelaw30_awake.mono _ _  _ hk e_10) ?_
      exact h
    · refine itn g_8 ?_
      rcases ite_or h with ⟨g_11, h⟩ | ⟨g_11, h⟩
      · refine itp g_11 ?_
        obtain ⟨y_12, e_13, h⟩ := bind_or h
        refine bnd (erasurelaw30_awake.mono _ _  _ hk e_13) ?_
        exact h
      · refine itn g_11 ?_
        rcases ite_or h with ⟨g_14, h⟩ | ⟨g_14, h⟩
        · refine itp g_14 ?_
          obtain ⟨y_15, e_16, h⟩ := bind_or h
          refine bnd (erasurelaw30_awake.mono _ _  _ hk e_16) ?_
          exact h
        · refine itn g_14 ?_
          obtain ⟨y_17, e_18, h⟩ := bind_or h
          refine bnd (erasureref06_Normalize.mono _ _ _ _ hk e_18) ?_
          obtain ⟨y_19, e_20, h⟩ := bind_or h
          refine bnd (erasureref06_Normalize.mono _ _ _ _ hk e_20) ?_
          rcases ite_or h with ⟨g_21, h⟩ | ⟨g_21, h⟩
          · refine itp g_21 ?_
            obtain ⟨y_22, e_23, h⟩ := bind_or h
            refine bnd (erasurelaw30_awake.mono _ _  _ hk e_23) ?_
            exact h
          · refine itn g_21 ?_
            rcases ite_or h with ⟨g_24, h⟩ | ⟨g_24, h⟩
            · refine itp g_24 ?_
              obtain ⟨y_25, e_26, h⟩ := bind_or h
              refine bnd (erasurelaw30_awake.mono _ _  _ hk e_26) ?_
              exact h
            · refine itn g_24 ?_
              obtain ⟨y_27, e_28, h⟩ := bind_or h
              refine bnd (erasurelaw30_filled.mono _ _ _ _ _ _ _ hk e_28) ?_
              obtain ⟨y_29, e_30, h⟩ := bind_or h
              refine bnd (bag_Subtract.mono _ _ _ _ _ hk e_30) ?_
              obtain ⟨y_31, e_32, h⟩ := bind_or h
              refine bnd (bag_Subtract.mono _ _ _ _ _ hk e_32) ?_
              rcases ite_or h with ⟨g_33, h⟩ | ⟨g_33, h⟩
              · refine itp g_33 ?_
                rcases ite_or h with ⟨g_34, h⟩ | ⟨g_34, h⟩
                · refine itp g_34 ?_
                  rcases ite_or h with ⟨g_35, h⟩ | ⟨g_35, h⟩
                  · refine itp g_35 ?_
                    rcases ite_or h with ⟨g_36, h⟩ | ⟨g_36, h⟩
                    · refine itp g_36 ?_
                      obtain ⟨y_37, e_38, h⟩ := bind_or h
                      refine bnd (erasurelaw30_awake.mono _ _  _ hk e_38) ?_
                      exact h
                    · refine itn g_36 ?_
                      exact h
                  · refine itn g_35 ?_
                    exact h
                · refine itn g_34 ?_
                  exact h
              · refine itn g_33 ?_
                rcases ite_or h with ⟨g_39, h⟩ | ⟨g_39, h⟩
                · refine itp g_39 ?_
                  rcases ite_or h with ⟨g_40, h⟩ | ⟨g_40, h⟩
                  · refine itp g_40 ?_
                    rcases ite_or h with ⟨g_41, h⟩ | ⟨g_41, h⟩
                    · refine itp g_41 ?_
                      obtain ⟨y_42, e_43, h⟩ := bind_or h
                      refine bnd (erasurelaw30_awake.mono _ _  _ hk e_43) ?_
                      exact h
                    · refine itn g_41 ?_
                      exact h
                  · refine itn g_40 ?_
                    exact h
                · refine itn g_39 ?_
                  rcases ite_or h with ⟨g_44, h⟩ | ⟨g_44, h⟩
                  · refine itp g_44 ?_
                    exact h
                  · refine itn g_44 ?_
                    obtain ⟨y_45, e_46, h⟩ := bind_or h
                    refine bnd (cache_Fresh.mono _ _ _ _ _ _ hk e_46) ?_
                    rcases ite_or h with ⟨g_47, h⟩ | ⟨g_47, h⟩
                    · refine itp g_47 ?_
                      exact h
                    · refine itn g_47 ?_
                      obtain ⟨y_48, e_49, h⟩ := bind_or h
                      refine bnd (cache_Touched.mono _ _ _ _ _ _ hk e_49) ?_
                      obtain ⟨y_50, e_51, h⟩ := bind_or h
                      refine bnd (cache_Purge.mono _ _ _ _ _ hk e_51) ?_
                      obtain ⟨y_52, e_53, h⟩ := bind_or h
                      refine bnd (cache_Refill.mono _ _ _ _ _ _ _ hk e_53) ?_
                      obtain ⟨y_54, e_55, h⟩ := bind_or h
                      refine bnd (cache_Fresh.mono _ _ _ _ _ _ hk e_55) ?_
                      rcases ite_or h with ⟨g_56, h⟩ | ⟨g_56, h⟩
                      · refine itp g_56 ?_
                        obtain ⟨y_57, e_58, h⟩ := bind_or h
                        refine bnd (cache_Fresh.mono _ _ _ _ _ _ hk e_58) ?_
                        rcases ite_or h with ⟨g_59, h⟩ | ⟨g_59, h⟩
                        · refine itp g_59 ?_
                          rcases ite_or h with ⟨g_60, h⟩ | ⟨g_60, h⟩
                          · refine itp g_60 ?_
                            obtain ⟨y_61, e_62, h⟩ := bind_or h
                            refine bnd (erasurelaw30_awake.mono _ _  _ hk e_62) ?_
                            exact h
                          · refine itn g_60 ?_
                            exact h
                        · refine itn g_59 ?_
                          exact h
                      · refine itn g_56 ?_
                        exact h
theorem erasurelaw30_CacheFresh.spec {k : Nat} {t0 : TCache} {o1 : T25} {A2 : (List TValue)} {r : Bool} (h : erasurelaw30_CacheFresh k t0 o1 A2 = some r) : Spec Try.prog 3 [.agg ((cCache t0).map .p), .agg ((c25 o1).map .p), .p (eL 3 cValue dValue A2)] (.p (.bool r)) [] :=
  spec_of mix Try.func3 (body := bodyOf Try.f3) (by kernel_rfl) (by kernel_rfl) (erasurelaw30_CacheFresh.run h)
end Go.Proofs.YtjhnpaenhdbhpacV
set_option linter.unusedVariables false
set_option linter.unusedSimpArgs false
namespace Go.Proofs.YtjhnpaenhdbhpacV
open Go Go.RowKit
def Ev {α : Type} (g : Nat → Option α) (r : α) : Prop := ∃ K, ∀ k, K ≤ k → g k = some r
theorem Ev.now {α : Type} (r : α) : Ev (fun _ => some r) r := ⟨0, fun _ _ => rfl⟩
theorem Ev.any {α : Type} {g : Nat → Option α} {r : α} (h : ∀ k, g k = some r) : Ev g r := ⟨0, fun k _ => h k⟩
theorem Ev.done {α : Type} {a r : α} (h : a = r) : Ev (fun _ => some a) r := by subst h; exact Ev.now _
theorem Ev.bind {α β : Type} {f : Nat → Option α} {g : Nat → α → Option β} {a : α} {r : β} (h : Ev f a) (h' : Ev (fun k => g k a) r) : Ev (fun k => (f k).bind (g k)) r := by
  obtain ⟨K, h⟩ := h; obtain ⟨L, h'⟩ := h'
  exact ⟨max K L, fun k hk => by show (f k).bind (g k) = some r; rw [h k (by omega)]; exact h' k (by omega)⟩
theorem Ev.succ {α : Type} {g : Nat → Option α} {r : α} (h : Ev (fun k => g (k + 1)) r) : Ev g r := by
  obtain ⟨K, h⟩ := h
  exact ⟨K + 1, fun k hk => by obtain ⟨m, rfl⟩ : ∃ m, k = m + 1 := ⟨k - 1, by omega⟩; exact h m (by omega)⟩
theorem Ev.congr {α : Type} {f g : Nat → Option α} {r : α} (h : ∀ k, g k = f k) (k : Ev f r) : Ev g r := by rw [show g = f from funext h]; exact k
theorem Ev.ite_pos {α : Type} {g f : Nat → Option α} {r : α} {c : Prop} [Decidable c] (h : c) (k : Ev g r) : Ev (fun n => if c then g n else f n) r := Ev.congr (fun n => if_pos h) k
theorem Ev.ite_neg {α : Type} {g f : Nat → Option α} {r : α} {c : Prop} [Decidable c] (h : ¬ c) (k : Ev f r) : Ev (fun n => if c then g n else f n) r := Ev.congr (fun n => if_neg h) k
theorem Ev.of {α : Type} {g : Nat → Option α} {r : α} (m : ∀ k k', k ≤ k' → g k = some r → g k' = some r) {k : Nat} (h : g k = some r) : Ev g r := ⟨k, fun k' hk => m k k' hk h⟩
theorem Ev.some {α : Type} {g : Nat → Option α} {r : α} (h : Ev g r) : ∃ k, g k = Option.some r := by obtain ⟨K, h⟩ := h; exact ⟨K, h K (Nat.le_refl _)⟩
theorem Ev.to {α : Type} {g : Nat → Option α} {r s : α} (h : Ev g r) (e : r = s) : Ev g s := by subst e; exact h
theorem bytes_ext {a b : ByteArray} (h : a.data.toList = b.data.toList) : a = b := by
  cases a; cases b; congr 1; exact Array.toList_inj.1 h
theorem bytes_beq (a b : ByteArray) : (a.data.toList == b.data.toList) = decide (a = b) := by
  rw [Bool.eq_iff_iff, beq_iff_eq, decide_eq_true_eq]; exact ⟨bytes_ext, fun h => by rw [h]⟩
theorem loop_down {P : Nat → Prop} (n : Nat) (hend : P n) (hstep : ∀ i, i < n → P (i + 1) → P i) : ∀ i, i ≤ n → P i := by
  intro i hi
  have key : ∀ d i, i + d = n → P i := by
    intro d
    induction d with
    | zero => intro i h; have : i = n := by omega
              rw [this]; exact hend
    | succ d ih => intro i h; exact hstep i (by omega) (ih (i + 1) (by omega))
  exact key (n - i) i (by omega)
theorem wr {n : Int} (h : -9223372036854775808 ≤ n ∧ n ≤ 9223372036854775807) : IntKind.i64.wrap n = n := by rw [IntKind.wrap_i64]; omega
theorem wrn {i n : Nat} (h : i < n) (hn : n ≤ 9223372036854775807) : IntKind.i64.wrap ((i : Int) + 1) = ((i + 1 : Nat) : Int) := by rw [wr (by omega)]; omega
theorem wrp {i : Nat} (h : 0 < i) (hn : i ≤ 9223372036854775807) : IntKind.i64.wrap ((i : Int) - 1) = ((i - 1 : Nat) : Int) := by rw [wr (by omega)]; omega
theorem drop_cons {α : Type} (z : α) {l : List α} {i : Nat} (h : i < l.length) : l.drop i = l.getD (i : Int).toNat z :: l.drop (i + 1) := by
  rw [List.drop_eq_getElem_cons h]; simp [h]
theorem getD_mem {α : Type} (z : α) {l : List α} {i : Nat} (h : i < l.length) : l.getD (i : Int).toNat z ∈ l := by simp [h]
end Go.Proofs.YtjhnpaenhdbhpacV
set_option linter.unusedVariables false
set_option linter.unusedSimpArgs false
namespace Go.Proofs.YtjhnpaenhdbhpacV
open Go Go.RowKit
theorem V_ext {x y : TValue} (h0 : x.f0 = y.f0) (h1 : x.f1 = y.f1) (h2 : x.f2 = y.f2) : x = y := by cases x; cases y; simp_all
instance : DecidableEq TValue := fun x y => decidable_of_iff (x.f0 = y.f0 ∧ x.f1 = y.f1 ∧ x.f2 = y.f2) ⟨fun h => V_ext h.1 h.2.1 h.2.2, fun h => by subst h; exact ⟨rfl, rfl, rfl⟩⟩
def okV (x : TValue) : Bool :=
  if x.f0 = 0 then decide (x.f1 = 0) && decide (x.f2 = (⟨#[]⟩ : ByteArray))
  else if x.f0 = 1 then decide (-4294967296 ≤ x.f1 ∧ x.f1 ≤ 4294967296) && decide (x.f2 = (⟨#[]⟩ : ByteArray))
  else if x.f0 = 2 then decide (x.f1 = 0) && decide (x.f2.size ≤ 32)
  else false
def clV (x : TValue) : TValue := if okV x then x else ⟨0, 0, ⟨#[]⟩⟩
theorem beq_empty (a : ByteArray) : (a.data.toList == (#[] : Array UInt8).toList) = decide (a = (⟨#[]⟩ : ByteArray)) := bytes_beq a ⟨#[]⟩
theorem beq_nil (a : ByteArray) : (a.data.toList == ([] : List UInt8)) = decide (a = (⟨#[]⟩ : ByteArray)) := bytes_beq a ⟨#[]⟩
theorem value_Valid_eq (k : Nat) (v : TValue) : value_Valid k v = some (okV v) := by
  unfold value_Valid value_inRange okV
  simp only [beq_empty, beq_nil, beq_iff_eq, decide_eq_true_eq]
  generalize decide (v.f2 = (⟨#[]⟩ : ByteArray)) = q
  by_cases h0 : v.f0 = 0
  · simp only [if_pos h0]
    by_cases h1 : v.f1 = 0 <;> simp [h1]
  · simp only [if_neg h0]
    by_cases h1 : v.f0 = 1
    · simp only [if_pos h1]
      by_cases h2 : v.f1 ≥ -4294967296
      · rw [if_pos h2]; simp only [Option.bind_some, decide_eq_true_eq]
        by_cases h3 : v.f1 ≤ 4294967296
        · rw [if_pos h3]; simp [h3]; omega
        · rw [if_neg h3]; simp [h3]
      · rw [if_neg h2]; simp; omega
    · simp only [if_neg h1]
      by_cases h2 : v.f0 = 2
      · simp only [if_pos h2]
        by_cases h3 : v.f1 = 0
        · simp [h3]; omega
        · simp [h3]
      · simp [h2]
theorem ref01_Valid_eq (k : Nat) (v : TValue) : erasureref01_Valid k v = some (okV v) := by
  rw [← value_Valid_eq k]
  unfold erasureref01_Valid value_Valid value_inRange
  by_cases h0 : (v.f0 == 0) = true
  · simp only [if_pos h0]
  · simp only [if_neg h0]
    by_cases h1 : (v.f0 == 1) = true
    · simp only [if_pos h1]
      by_cases h2 : decide (v.f1 ≥ -4294967296) = true
      · simp only [if_pos h2, Option.bind_some]
      · simp only [if_neg h2, Option.bind_some, Bool.false_eq_true, if_false]
    · simp only [if_neg h1]
theorem value_Clean_eq (k : Nat) (x : TValue) : value_Clean k x = some (clV x) := by
  unfold value_Clean clV value_Clean.p1 value_Clean.p2
  rw [value_Valid_eq, Option.bind_some]
  by_cases h : okV x = true
  · rw [if_pos h, if_pos h]
  · rw [if_neg h, if_neg h]
theorem ref01_Clean_eq (k : Nat) (x : TValue) : erasureref01_Clean k x = some (clV x) := by
  unfold erasureref01_Clean clV erasureref01_Clean.p1 erasureref01_Clean.p2
  rw [ref01_Valid_eq, Option.bind_some]
  by_cases h : okV x = true
  · rw [if_pos h, if_pos h]
  · rw [if_neg h, if_neg h]
theorem eqV_iff (x y : TValue) : ((x.f0 == y.f0) && ((x.f1 == y.f1) && ((x.f2.data.toList == y.f2.data.toList) && true))) = decide (x = y) := by
  rw [bytes_beq, Bool.eq_iff_iff]
  simp only [Bool.and_eq_true, beq_iff_eq, decide_eq_true_eq, and_true]
  exact ⟨fun h => V_ext h.1 h.2.1 h.2.2, fun h => by subst h; exact ⟨rfl, rfl, rfl⟩⟩
theorem dV {l : List TValue} {i : Nat} (h : i < l.length) : l.drop i = l.getD (i : Int).toNat dValue :: l.drop (i + 1) := drop_cons _ h
theorem dE {l : List TEntry} {i : Nat} (h : i < l.length) : l.drop i = l.getD (i : Int).toNat dEntry :: l.drop (i + 1) := drop_cons _ h
end Go.Proofs.YtjhnpaenhdbhpacV
set_option linter.unusedVariables false
set_option linter.unusedSimpArgs false
namespace Go.Proofs.YtjhnpaenhdbhpacV
open Go Go.RowKit
theorem bytesLess_eq : ∀ (x y : List UInt8), Op.bytesLess x y = decide (x < y)
  | [], [] => by simp [Op.bytesLess]
  | _ :: _, [] => by simp [Op.bytesLess]
  | [], _ :: _ => by simp [Op.bytesLess]
  | a :: x, b :: y => by
    rw [Op.bytesLess, bytesLess_eq x y]
    simp only [List.cons_lt_cons_iff]
    by_cases h1 : a < b <;> by_cases h2 : a = b <;> by_cases h3 : x < y <;> simp [h1, h2, h3]
theorem gtr_flip (a b : List UInt8) : (!(Op.bytesLess a b || a == b)) = Op.bytesLess b a := by
  rw [bytesLess_eq, bytesLess_eq, Bool.eq_iff_iff]
  simp only [Bool.not_eq_true', Bool.or_eq_false_iff, decide_eq_false_iff_not, beq_eq_false_iff_ne, decide_eq_true_eq]
  constructor
  · rintro ⟨h1, h2⟩
    rcases Std.lt_trichotomy a b with h | h | h
    · exact absurd h h1
    · exact absurd h h2
    · exact h
  · intro h
    exact ⟨fun h1 => (List.lt_asymm h h1), fun h1 => by subst h1; exact List.lt_irrefl _ h⟩
theorem okV_z : okV (⟨0, 0, ⟨#[]⟩⟩ : TValue) = true := by decide +kernel
theorem okV_cl (x : TValue) : okV (clV x) = true := by
  unfold clV
  by_cases h : okV x = true
  · rw [if_pos h]; exact h
  · rw [if_neg h]; exact okV_z
theorem clV_ok {x : TValue} (h : okV x = true) : clV x = x := if_pos h
def cmpI (a b : Int) : Int := if a < b then -1 else if b < a then 1 else 0
def cmpB (a b : ByteArray) : Int := if a.data.toList < b.data.toList then -1 else if b.data.toList < a.data.toList then 1 else 0
def cmpC (a b : TValue) : Int := if a.f0 ≠ b.f0 then cmpI a.f0 b.f0 else if a.f0 = 1 then cmpI a.f1 b.f1 else cmpB a.f2 b.f2
def cmpV (x y : TValue) : Int := cmpC (clV x) (clV y)
theorem cmp_int_eq (k : Nat) (a b : Int) : cmp_Compare_int k a b = some (cmpI a b) := by
  unfold cmp_Compare_int cmp_isNaN_int cmpI
  simp only [Option.bind_some, bne_self_eq_false, Bool.false_eq_true, if_false, GT.gt, decide_eq_true_eq]
  repeat' split
  all_goals rfl
theorem cmp_int64_eq (k : Nat) (a b : Int) : cmp_Compare_int64 k a b = some (cmpI a b) := by
  unfold cmp_Compare_int64 cmp_isNaN_int64 cmpI
  simp only [Option.bind_some, bne_self_eq_false, Bool.false_eq_true, if_false, GT.gt, decide_eq_true_eq]
  repeat' split
  all_goals rfl
theorem cmp_string_eq (k : Nat) (a b : ByteArray) : cmp_Compare_string k a b = some (cmpB a b) := by
  unfold cmp_Compare_string cmp_isNaN_string cmpB
  simp only [gtr_flip]
  simp only [Option.bind_some, beq_self_eq_true, Bool.not_true, Bool.false_eq_true, if_false, bytesLess_eq, decide_eq_true_eq]
  repeat' split
  all_goals rfl
theorem value_Compare_eq (k : Nat) (x y : TValue) : value_Compare k x y = some (cmpV x y) := by
  unfold value_Compare cmpV cmpC
  rw [value_Clean_eq, value_Clean_eq]
  simp only [Option.bind_some, cmp_int_eq, cmp_int64_eq, cmp_string_eq, bne_iff_ne, beq_iff_eq]
  repeat' split
  all_goals rfl
theorem ok_cases {x : TValue} (h : okV x = true) : (x.f0 = 0 ∧ x.f1 = 0 ∧ x.f2 = (⟨#[]⟩ : ByteArray)) ∨ (x.f0 = 1 ∧ x.f2 = (⟨#[]⟩ : ByteArray)) ∨ (x.f0 = 2 ∧ x.f1 = 0) := by
  unfold okV at h
  by_cases h0 : x.f0 = 0
  · rw [if_pos h0] at h; simp at h; exact .inl ⟨h0, h.1, h.2⟩
  · rw [if_neg h0] at h
    by_cases h1 : x.f0 = 1
    · rw [if_pos h1] at h; simp at h; exact .inr (.inl ⟨h1, h.2⟩)
    · rw [if_neg h1] at h
      by_cases h2 : x.f0 = 2
      · rw [if_pos h2] at h; simp at h; exact .inr (.inr ⟨h2, h.1⟩)
      · rw [if_neg h2] at h; cases h
theorem cmpI_zero {a b : Int} : cmpI a b = 0 ↔ a = b := by unfold cmpI; split <;> (try split) <;> omega
theorem cmpI_neg {a b : Int} : cmpI a b < 0 ↔ a < b := by unfold cmpI; split <;> (try split) <;> omega
theorem cmpI_swap (a b : Int) : cmpI b a = - cmpI a b := by unfold cmpI; split <;> split <;> omega
theorem listlt_tri (a b : List UInt8) : a < b ∨ a = b ∨ b < a := Std.lt_trichotomy a b
theorem cmpB_zero {a b : ByteArray} : cmpB a b = 0 ↔ a = b := by
  unfold cmpB
  by_cases h : a.data.toList < b.data.toList
  · rw [if_pos h]; exact ⟨fun e => by omega, fun e => by subst e; exact absurd h (List.lt_irrefl _)⟩
  · rw [if_neg h]
    by_cases h2 : b.data.toList < a.data.toList
    · rw [if_pos h2]; exact ⟨fun e => by omega, fun e => by subst e; exact absurd h2 (List.lt_irrefl _)⟩
    · rw [if_neg h2]
      exact ⟨fun _ => by rcases listlt_tri a.data.toList b.data.toList with h3 | h3 | h3
                         · exact absurd h3 h
                         · exact bytes_ext h3
                         · exact absurd h3 h2, fun _ => rfl⟩
theorem cmpB_neg {a b : ByteArray} : cmpB a b < 0 ↔ a.data.toList < b.data.toList := by
  unfold cmpB
  by_cases h : a.data.toList < b.data.toList
  · rw [if_pos h]; exact ⟨fun _ => h, fun _ => by omega⟩
  · rw [if_neg h]; exact ⟨fun e => by split at e <;> omega, fun e => absurd e h⟩
theorem cmpB_swap (a b : ByteArray) : cmpB b a = - cmpB a b := by
  unfold cmpB
  by_cases h : a.data.toList < b.data.toList
  · have h2 : ¬ b.data.toList < a.data.toList := fun h2 => List.lt_asymm h h2
    rw [if_pos h, if_neg h2, if_pos h]; rfl
  · by_cases h2 : b.data.toList < a.data.toList
    · simp only [h, h2, if_true, if_false]
    · simp only [h, h2, if_false]; rfl
theorem cmpC_swap (a b : TValue) : cmpC b a = - cmpC a b := by
  unfold cmpC
  by_cases h : a.f0 = b.f0
  · have h' := h.symm
    simp only [ne_eq, h, not_true, if_false]
    by_cases h1 : b.f0 = 1
    · rw [if_pos h1, if_pos h1]; exact cmpI_swap _ _
    · rw [if_neg h1, if_neg h1]; exact cmpB_swap _ _
  · have h' : b.f0 ≠ a.f0 := fun e => h e.symm
    rw [if_pos h', if_pos h]; exact cmpI_swap _ _
theorem cmpC_zero {a b : TValue} (ha : okV a = true) (hb : okV b = true) : cmpC a b = 0 ↔ a = b := by
  unfold cmpC
  by_cases h : a.f0 = b.f0
  · simp only [ne_eq, h, not_true, if_false]
    rcases ok_cases ha with ⟨a0, a1, a2⟩ | ⟨a0, a2⟩ | ⟨a0, a1⟩ <;> rcases ok_cases hb with ⟨b0, b1, b2⟩ | ⟨b0, b2⟩ | ⟨b0, b1⟩ <;> (try (rw [a0, b0] at h; omega))
    · rw [if_neg (by omega), cmpB_zero]; exact ⟨fun e => V_ext h (by omega) e, fun e => by rw [e]⟩
    · rw [if_pos b0, cmpI_zero]; exact ⟨fun e => V_ext h e (a2.trans b2.symm), fun e => by rw [e]⟩
    · rw [if_neg (by omega), cmpB_zero]; exact ⟨fun e => V_ext h (by omega) e, fun e => by rw [e]⟩
  · rw [if_pos h, cmpI_zero]; exact ⟨fun e => absurd e h, fun e => absurd (by rw [e]) h⟩
theorem cmpC_neg {a b : TValue} (ha : okV a = true) (hb : okV b = true) : cmpC a b < 0 ↔ (a.f0 < b.f0 ∨ (a.f0 = b.f0 ∧ (a.f1 < b.f1 ∨ a.f2.data.toList < b.f2.data.toList))) := by
  unfold cmpC
  by_cases h : a.f0 = b.f0
  · simp only [ne_eq, h, not_true, if_false, Int.lt_irrefl, false_or, true_and]
    rcases ok_cases ha with ⟨a0, a1, a2⟩ | ⟨a0, a2⟩ | ⟨a0, a1⟩ <;> rcases ok_cases hb with ⟨b0, b1, b2⟩ | ⟨b0, b2⟩ | ⟨b0, b1⟩ <;> (try (rw [a0, b0] at h; omega))
    · rw [if_neg (by omega), cmpB_neg, a1, b1]; simp
    · rw [if_pos b0, cmpI_neg, a2, b2]; exact ⟨.inl, fun e => e.elim id (fun e => absurd e (List.lt_irrefl _))⟩
    · rw [if_neg (by omega), cmpB_neg, a1, b1]; simp
  · rw [if_pos h, cmpI_neg]; exact ⟨.inl, fun e => e.elim id (fun e => absurd e.1 h)⟩
theorem ref01_Compare_eq (k : Nat) (x y : TValue) : erasureref01_Compare k x y = some (cmpV x y) := by
  have hx := okV_cl x
  have hy := okV_cl y
  have hz := cmpC_zero hx hy
  have hn := cmpC_neg hx hy
  have hr : cmpC (clV x) (clV y) = -1 ∨ cmpC (clV x) (clV y) = 0 ∨ cmpC (clV x) (clV y) = 1 := by
    unfold cmpC cmpI cmpB; repeat' split
    all_goals simp
  unfold cmpV erasureref01_Compare
  rw [ref01_Clean_eq, ref01_Clean_eq]
  simp only [Option.bind_some, eqV_iff, decide_eq_true_eq, bytesLess_eq, beq_iff_eq]
  generalize clV x = a at *
  generalize clV y = b at *
  by_cases h : a = b
  · rw [hz.2 h]; rw [if_pos h]
  · have h0 : cmpC a b ≠ 0 := fun e => h (hz.1 e)
    rw [if_neg h]
    by_cases hlt : cmpC a b < 0
    · have e1 : cmpC a b = -1 := by omega
      have hd := hn.1 hlt
      simp only [e1]
      repeat' split
      all_goals first | rfl | (exfalso; simp_all; try omega)
    · have e1 : cmpC a b = 1 := by omega
      have hd : ¬ _ := fun e => hlt (hn.2 e)
      simp only [not_or, not_and] at hd
      simp only [e1]
      repeat' split
      all_goals first | rfl | (exfalso; simp_all; try omega)
end Go.Proofs.YtjhnpaenhdbhpacV
set_option linter.unusedVariables false
set_option linter.unusedSimpArgs false
namespace Go.Proofs.YtjhnpaenhdbhpacV
open Go Go.RowKit
def cmpR : List TValue → List TValue → Int
  | [], [] => 0
  | [], _ :: _ => -1
  | _ :: _, [] => 1
  | x :: xs, y :: ys => if cmpV x y = 0 then cmpR xs ys else cmpV x y
theorem cmpR_nil (xs : List TValue) : cmpR xs [] = if xs.length = 0 then 0 else 1 := by cases xs <;> rfl
theorem nil_cmpR (ys : List TValue) : cmpR [] ys = if ys.length = 0 then 0 else -1 := by cases ys <;> rfl
theorem value_CompareRows_ev (xs ys : List TValue) (hx : xs.length ≤ 9223372036854775807) : Ev (fun k => value_CompareRows k xs ys) (cmpR xs ys) := by
  unfold value_CompareRows slices_CompareFunc_api_Value__value_Compare
  refine Ev.bind ?_ (Ev.now _)
  refine (loop_down (P := fun i => i ≤ ys.length → Ev (fun k => slices_CompareFunc_api_Value__value_Compare.p1 k xs ys xs (xs.length : Int) (i : Int)) (cmpR (xs.drop i) (ys.drop i))) xs.length ?_ ?_ 0 (by omega)) (by omega)
  · intro hy
    refine Ev.succ ?_
    simp only [slices_CompareFunc_api_Value__value_Compare.p1, decide_eq_true_eq]
    rw [List.drop_length, nil_cmpR, List.length_drop]
    refine Ev.ite_neg (by omega) ?_
    by_cases h : xs.length < ys.length
    · exact Ev.ite_pos (by omega) (Ev.done (by rw [if_neg (by omega)]))
    · exact Ev.ite_neg (by omega) (Ev.done (by rw [if_pos (by omega)]))
  · intro i hi ih hy
    refine Ev.succ ?_
    simp only [slices_CompareFunc_api_Value__value_Compare.p1, decide_eq_true_eq, value_Compare_eq, Option.bind_some, bne_iff_ne, ne_eq, ite_not]
    refine Ev.ite_pos (by omega) (Ev.ite_pos (by omega) ?_)
    by_cases h : i < ys.length
    · refine Ev.ite_neg (by omega) (Ev.ite_pos (by omega) ?_)
      rw [dV hi, dV h, wrn hi hx]
      unfold cmpR
      by_cases hc : cmpV (xs.getD (i : Int).toNat dValue) (ys.getD (i : Int).toNat dValue) = 0
      · rw [if_pos hc]; exact Ev.ite_pos hc (ih (by omega))
      · rw [if_neg hc]; exact Ev.ite_neg hc (Ev.now _)
    · rw [List.drop_eq_nil_of_le (show ys.length ≤ i by omega), cmpR_nil, List.length_drop, if_neg (by omega)]
      exact Ev.ite_pos (by omega) (Ev.now _)
def okRow (l : List TValue) : Bool := l.all okV && decide (l.length ≤ 16)
theorem value_ValidRow_ev (l : List TValue) (hl : l.length ≤ 9223372036854775807) : Ev (fun k => value_ValidRow k l) (okRow l) := by
  unfold value_ValidRow
  refine (loop_down (P := fun i => Ev (fun k => value_ValidRow.p1 k l l (l.length : Int) (i : Int)) ((l.drop i).all okV && decide (l.length ≤ 16))) l.length ?_ ?_ 0 (by omega))
  · refine Ev.succ ?_
    simp only [value_ValidRow.p1, decide_eq_true_eq]
    rw [List.drop_length]
    refine Ev.ite_neg (by omega) (Ev.done ?_)
    simp; omega
  · intro i hi ih
    refine Ev.succ ?_
    simp only [value_ValidRow.p1, value_Valid_eq, Option.bind_some, decide_eq_true_eq]
    refine Ev.ite_pos (by omega) (Ev.ite_pos (by omega) ?_)
    rw [dV hi, wrn hi hl, List.all_cons]
    cases hc : okV (l.getD (i : Int).toNat dValue) with
    | true => exact Ev.ite_neg (by simp) ih
    | false => exact Ev.ite_pos rfl (Ev.now _)
def okE (e : TEntry) : Bool := okRow e.f0 && decide (-262144 ≤ e.f1 ∧ e.f1 ≤ 262144)
theorem countFits_eq (k : Nat) (n : Int) : bag_countFits k n = some (decide (-262144 ≤ n ∧ n ≤ 262144)) := by
  unfold bag_countFits
  simp only [decide_eq_true_eq]
  by_cases h : n ≥ -262144
  · rw [if_pos h]; simp; omega
  · rw [if_neg h]; simp; omega
theorem entryFits_ev (e : TEntry) (hl : e.f0.length ≤ 9223372036854775807) : Ev (fun k => bag_entryFits k e) (okE e) := by
  unfold bag_entryFits okE
  refine Ev.bind (value_ValidRow_ev _ hl) ?_
  cases hc : okRow e.f0 with
  | true => simp only [if_true, countFits_eq, Option.bind_some, Bool.true_and]; exact Ev.now _
  | false => simp only [Bool.false_eq_true, if_false, Bool.false_and]; exact Ev.now _
def bvF : Option TEntry → List TEntry → Bool
  | _, [] => true
  | none, e :: l => okE e && !decide (e.f1 = 0) && bvF (some e) l
  | some p, e :: l => okE e && !decide (e.f1 = 0) && decide (cmpR p.f0 e.f0 < 0) && bvF (some e) l
def bagV (l : List TEntry) : Bool := bvF none l && decide (l.length ≤ 4096)
def prevE (l : List TEntry) (i : Nat) : Option TEntry := if i = 0 then none else some (l.getD ((i - 1 : Nat) : Int).toNat dEntry)
def Fin (l : List TEntry) : Prop := l.length ≤ 9223372036854775807 ∧ ∀ e ∈ l, e.f0.length ≤ 9223372036854775807
theorem Fin.at {l : List TEntry} (h : Fin l) {i : Nat} (hi : i < l.length) : (l.getD (i : Int).toNat dEntry).f0.length ≤ 9223372036854775807 := h.2 _ (getD_mem _ hi)
theorem bag_Valid_ev (l : List TEntry) (hl : Fin l) : Ev (fun k => bag_Valid k l) (bagV l) := by
  unfold bag_Valid
  refine (loop_down (P := fun i => Ev (fun k => bag_Valid.p1 k l l (l.length : Int) (i : Int)) (bvF (prevE l i) (l.drop i) && decide (l.length ≤ 4096))) l.length ?_ ?_ 0 (by omega))
  · refine Ev.succ ?_
    simp only [bag_Valid.p1, decide_eq_true_eq]
    rw [List.drop_length]
    refine Ev.ite_neg (by omega) (Ev.done ?_)
    simp [bvF]; omega
  · intro i hi ih
    have hp : prevE l (i + 1) = some (l.getD (i : Int).toNat dEntry) := by simp [prevE]
    rw [hp] at ih
    refine Ev.succ ?_
    simp only [bag_Valid.p1, decide_eq_true_eq, beq_iff_eq]
    refine Ev.ite_pos (by omega) (Ev.ite_pos (by omega) (Ev.bind (entryFits_ev _ (hl.at hi)) ?_))
    rw [dE hi, wrn hi hl.1]
    cases hc : okE (l.getD (i : Int).toNat dEntry) with
    | false => refine Ev.ite_pos rfl (Ev.done ?_); unfold bvF; cases prevE l i <;> simp only [hc, Bool.false_and]
    | true =>
      refine Ev.ite_neg (by simp) ?_
      by_cases hz : (l.getD (i : Int).toNat dEntry).f1 = 0
      · refine Ev.ite_pos hz (Ev.done ?_); unfold bvF; cases prevE l i <;> simp only [hz, decide_true, Bool.not_true, Bool.and_false, Bool.false_and]
      · refine Ev.ite_neg hz ?_
        by_cases h0 : i = 0
        · subst h0
          refine Ev.ite_neg (by omega) (ih.to ?_)
          simp only [prevE, if_true, bvF, hc, decide_eq_false hz, Bool.not_false, Bool.and_self, Bool.true_and]
        · have hl1 := hl.1
          rw [wrp (by omega) (by omega)]
          refine Ev.ite_pos (by omega) (Ev.ite_pos (by omega) (Ev.bind (value_CompareRows_ev _ _ (hl.at (show i - 1 < l.length by omega))) ?_))
          simp only [prevE, if_neg h0, bvF, hc, decide_eq_false hz, Bool.not_false, Bool.true_and]
          by_cases hcmp : cmpR (l.getD ((i - 1 : Nat) : Int).toNat dEntry).f0 (l.getD (i : Int).toNat dEntry).f0 < 0
          · rw [decide_eq_true hcmp]; exact Ev.ite_neg (by omega) (by simpa using ih)
          · rw [decide_eq_false hcmp]; exact Ev.ite_pos (by omega) (Ev.now _)
end Go.Proofs.YtjhnpaenhdbhpacV
set_option linter.unusedVariables false
set_option linter.unusedSimpArgs false
namespace Go.Proofs.YtjhnpaenhdbhpacV
open Go Go.RowKit
def EvU {ρ α : Type} (c : ρ → Prop) (g : ρ → Nat → Option α) (r : α) : Prop := ∃ K, ∀ x, c x → ∀ k, K ≤ k → g x k = some r
theorem EvU.of {ρ α : Type} {c : ρ → Prop} {g : Nat → Option α} {r : α} (h : Ev g r) : EvU c (fun _ k => g k) r := by obtain ⟨K, h⟩ := h; exact ⟨K, fun _ _ k hk => h k hk⟩
theorem EvU.rec {ρ α : Type} {c : ρ → Prop} {g : ρ → Option α} {r : α} (h : ∀ x, c x → g x = some r) : EvU c (fun x _ => g x) r := ⟨0, fun x hx _ _ => h x hx⟩
theorem EvU.now {ρ α : Type} {c : ρ → Prop} (r : α) : EvU c (fun _ _ => some r) r := ⟨0, fun _ _ _ _ => rfl⟩
theorem EvU.done {ρ α : Type} {c : ρ → Prop} {a r : α} (h : a = r) : EvU c (fun _ _ => some a) r := by subst h; exact EvU.now _
theorem EvU.bind {ρ α β : Type} {c : ρ → Prop} {f : Nat → Option α} {g : ρ → Nat → α → Option β} {a : α} {r : β} (h : Ev f a) (h' : EvU c (fun x k => g x k a) r) : EvU c (fun x k => (f k).bind (g x k)) r := by
  obtain ⟨K, h⟩ := h; obtain ⟨L, h'⟩ := h'
  exact ⟨max K L, fun x hx k hk => by show (f k).bind (g x k) = some r; rw [h k (by omega)]; exact h' x hx k (by omega)⟩
theorem EvU.succ {ρ α : Type} {c : ρ → Prop} {g : ρ → Nat → Option α} {r : α} (h : EvU c (fun x k => g x (k + 1)) r) : EvU c g r := by
  obtain ⟨K, h⟩ := h
  exact ⟨K + 1, fun x hx k hk => by obtain ⟨m, rfl⟩ : ∃ m, k = m + 1 := ⟨k - 1, by omega⟩; exact h x hx m (by omega)⟩
theorem EvU.congr {ρ α : Type} {c : ρ → Prop} {f g : ρ → Nat → Option α} {r : α} (h : ∀ x k, g x k = f x k) (k : EvU c f r) : EvU c g r := by rw [show g = f from funext fun x => funext (h x)]; exact k
theorem EvU.ite_pos {ρ α : Type} {q : ρ → Prop} {g f : ρ → Nat → Option α} {r : α} {c : Prop} [Decidable c] (h : c) (k : EvU q g r) : EvU q (fun x n => if c then g x n else f x n) r := EvU.congr (fun x n => if_pos h) k
theorem EvU.ite_neg {ρ α : Type} {q : ρ → Prop} {g f : ρ → Nat → Option α} {r : α} {c : Prop} [Decidable c] (h : ¬ c) (k : EvU q f r) : EvU q (fun x n => if c then g x n else f x n) r := EvU.congr (fun x n => if_neg h) k
theorem EvU.to {ρ α : Type} {q : ρ → Prop} {g : ρ → Nat → Option α} {r s : α} (h : EvU q g r) (e : r = s) : EvU q g s := by subst e; exact h
theorem EvU.use {ρ α : Type} {q : ρ → Prop} {g : ρ → Nat → Option α} {r : α} (h : EvU q g r) {F : Nat → ρ} (hF : ∃ K, ∀ k, K ≤ k → q (F k)) : Ev (fun k => g (F k) k) r := by
  obtain ⟨K, h⟩ := h; obtain ⟨L, hF⟩ := hF
  exact ⟨max K L, fun k hk => h _ (hF k (by omega)) k (by omega)⟩
theorem EvU.weak {ρ α : Type} {q q' : ρ → Prop} {g : ρ → Nat → Option α} {r : α} (h : EvU q g r) (hq : ∀ x, q' x → q x) : EvU q' g r := by
  obtain ⟨K, h⟩ := h
  exact ⟨K, fun x hx => h x (hq x hx)⟩
theorem get_put {K V : Type} (k k' : K) (x z : V) : ∀ m : List (K × V), (k' = k → getM (putM m k x) k' z = x) ∧ (k' ≠ k → getM (putM m k x) k' z = getM m k' z)
  | [] => by
    constructor
    · rintro rfl; simp [putM, getM]
    · intro h; simp only [putM, getM]; rw [if_neg (fun e => h e.symm)]
  | e :: m => by
    obtain ⟨h1, h2⟩ := get_put k k' x z m
    simp only [putM]
    by_cases he : e.1 = k
    · rw [if_pos he]
      constructor
      · rintro rfl; simp [getM]
      · intro h
        have : e.1 ≠ k' := fun q => h (q.symm.trans he)
        simp only [getM]; rw [if_neg (fun e => h e.symm), if_neg this]
    · rw [if_neg he]
      constructor
      · intro h
        have : e.1 ≠ k' := fun q => he (q.trans h)
        simp [getM, this, h1 h]
      · intro h
        simp only [getM]
        by_cases hk : e.1 = k'
        · simp [hk]
        · simp [hk, h2 h]
theorem getM_nil {K V : Type} (k : K) (z : V) : getM ([] : List (K × V)) k z = z := rfl
end Go.Proofs.YtjhnpaenhdbhpacV
set_option linter.unusedVariables false
set_option linter.unusedSimpArgs false
namespace Go.Proofs.YtjhnpaenhdbhpacV
open Go Go.RowKit
def isB (l : List Int) : Prop := ∀ x ∈ l, 0 ≤ x ∧ x ≤ 255
theorem isB_app {a b : List Int} : isB (a ++ b) ↔ isB a ∧ isB b := by
  constructor
  · intro h; exact ⟨fun x hx => h x (List.mem_append.2 (Or.inl hx)), fun x hx => h x (List.mem_append.2 (Or.inr hx))⟩
  · rintro ⟨h1, h2⟩ x hx; exact (List.mem_append.1 hx).elim (h1 x) (h2 x)
theorem isB_cons {x : Int} {l : List Int} : isB (x :: l) ↔ (0 ≤ x ∧ x ≤ 255) ∧ isB l := by
  constructor
  · intro h; exact ⟨h x (List.mem_cons_self ..), fun y hy => h y (List.mem_cons_of_mem _ hy)⟩
  · rintro ⟨h1, h2⟩ y hy; rcases List.mem_cons.1 hy with rfl | hy; exact h1; exact h2 y hy
theorem isB_nil : isB [] := fun x hx => by cases hx
theorem isB_str (s : ByteArray) : isB (strL s) := by
  intro x hx
  obtain ⟨b, _, rfl⟩ := List.mem_map.1 hx
  have := b.toNat_lt
  omega
theorem byteL_str (s : ByteArray) : byteL (strL s) = s := by
  unfold byteL strL
  apply ByteArray.ext
  rw [List.map_map]
  have : ((fun n : Int => UInt8.ofNat n.toNat) ∘ fun b : UInt8 => (b.toNat : Int)) = id := by funext b; simp
  rw [this, List.map_id]
theorem ofNat_toNat {x : Int} (h : 0 ≤ x ∧ x ≤ 255) : ((UInt8.ofNat x.toNat).toNat : Int) = x := by
  rw [UInt8.toNat_ofNat']
  omega
theorem str_byteL {l : List Int} (h : isB l) : strL (byteL l) = l := by
  unfold byteL strL
  rw [List.map_map]
  conv => rhs; rw [← List.map_id l]
  exact List.map_congr_left fun x hx => ofNat_toNat (h x hx)
theorem byteL_size (l : List Int) : (byteL l).size = l.length := by
  unfold byteL
  simp [ByteArray.size]
theorem byteL_get {l : List Int} (h : isB l) (i : Nat) : (((byteL l).data.getD i 0).toNat : Int) = l.getD i 0 := by
  unfold byteL
  by_cases hi : i < l.length
  · have e : l.getD i 0 = l[i] := by rw [List.getD_eq_getElem?_getD, List.getElem?_eq_getElem hi]; rfl
    rw [e]
    have := ofNat_toNat (h l[i] (List.getElem_mem hi))
    simp [hi]
    simpa using this
  · rw [List.getD_eq_getElem?_getD, List.getElem?_eq_none (by omega)]
    simp [hi]
theorem byteL_ext (l : List Int) (a b : Nat) : (byteL l).extract a b = byteL ((l.take b).drop a) := by
  unfold byteL
  apply ByteArray.ext
  apply Array.toList_inj.1
  simp [List.map_drop, List.map_take, List.take_drop]
  rcases Nat.le_total a b with h | h
  · rw [show a + (b - a) = b from by omega]
  · rw [List.drop_eq_nil_of_le (by simp; omega), List.drop_eq_nil_of_le (by simp; omega)]
theorem byteL_nil {l : List Int} : (byteL l).data.toList = [] ↔ l = [] := by
  unfold byteL
  simp
def be5 (n : Int) : List Int := [n / 4294967296 % 256, n / 16777216 % 256, n / 65536 % 256, n / 256 % 256, n % 256]
def escL : List Int → List Int
  | [] => []
  | c :: l => if c = 0 then 0 :: 255 :: escL l else c :: escL l
def encV (v : TValue) : List Int := if v.f0 = 1 then 2 :: be5 (v.f1 + 4294967296) else if v.f0 = 2 then 3 :: (escL (strL v.f2) ++ [0, 0]) else [1]
def encR (r : List TValue) : List Int := r.flatMap encV
theorem escL_len : ∀ l : List Int, (escL l).length ≤ 2 * l.length
  | [] => by simp [escL]
  | c :: l => by
    have := escL_len l
    unfold escL
    split <;> simp <;> omega
theorem escL_isB : ∀ {l : List Int}, isB l → isB (escL l)
  | [], _ => isB_nil
  | c :: l, h => by
    have h1 := isB_cons.1 h
    have ih := escL_isB h1.2
    unfold escL
    split
    · exact isB_cons.2 ⟨by omega, isB_cons.2 ⟨by omega, ih⟩⟩
    · exact isB_cons.2 ⟨h1.1, ih⟩
theorem be5_isB (n : Int) : isB (be5 n) := by
  unfold be5
  intro x hx
  simp only [List.mem_cons, List.not_mem_nil, or_false] at hx
  rcases hx with rfl | rfl | rfl | rfl | rfl <;> omega
theorem encV_isB (v : TValue) : isB (encV v) := by
  unfold encV
  split
  · exact isB_cons.2 ⟨by omega, be5_isB _⟩
  · split
    · exact isB_cons.2 ⟨by omega, isB_app.2 ⟨escL_isB (isB_str _), isB_cons.2 ⟨by omega, isB_cons.2 ⟨by omega, isB_nil⟩⟩⟩⟩
    · exact isB_cons.2 ⟨by omega, isB_nil⟩
theorem encR_isB : ∀ r : List TValue, isB (encR r)
  | [] => isB_nil
  | v :: r => by
    unfold encR
    rw [List.flatMap_cons]
    exact isB_app.2 ⟨encV_isB v, encR_isB r⟩
theorem strL_len (s : ByteArray) : (strL s).length = s.size := by simp [strL]
theorem okV_txt {v : TValue} (h : okV v = true) : v.f2.size ≤ 32 := by
  unfold okV at h
  split at h
  · simp only [Bool.and_eq_true, decide_eq_true_eq] at h; rw [h.2]; decide
  · split at h
    · simp only [Bool.and_eq_true, decide_eq_true_eq] at h; rw [h.2]; decide
    · split at h
      · simp only [Bool.and_eq_true, decide_eq_true_eq] at h; exact h.2
      · cases h
theorem encV_len {v : TValue} (h : okV v = true) : (encV v).length ≤ 70 := by
  have h2 := okV_txt h
  unfold encV
  split
  · simp [be5]
  · split
    · have := escL_len (strL v.f2)
      rw [strL_len] at this
      simp; omega
    · simp
theorem enc_p2 (n : Int) (v10 : List TValue) (v11 v12 : Int) (out : List Int) (hn : 0 ≤ n ∧ n ≤ 8589934592) (ho : out.length ≤ 1099511627776) (r : ByteArray) :
    EvU (fun rec1 => rec1 v10 v11 (IntKind.i64.wrap (v12 + 1)) (out ++ be5 n) = some r) (fun rec1 k => value_EncodeRow.p2 rec1 k n 4 v10 v11 v12 out) r := by
  have sh : ∀ (j : Int) (d : Int), 0 < d → (2 : Int) ^ min (IntKind.i64.wrap (8 * j)).toNat IntKind.u64.bits = d → IntKind.u8.wrap (n.fdiv (2 ^ min (IntKind.i64.wrap (8 * j)).toNat IntKind.u64.bits)) = n / d % 256 := by
    intro j d hd e
    rw [e, Int.fdiv_eq_ediv_of_nonneg _ (by omega)]
    simp [IntKind.wrap, IntKind.bits, IntKind.signed]
  have b4 := sh 4 4294967296 (by omega) (by decide)
  have b3 := sh 3 16777216 (by omega) (by decide)
  have b2 := sh 2 65536 (by omega) (by decide)
  have b1 := sh 1 256 (by omega) (by decide)
  have b0 := sh 0 1 (by omega) (by decide)
  have e5 : be5 n = [n / 4294967296 % 256] ++ [n / 16777216 % 256] ++ [n / 65536 % 256] ++ [n / 256 % 256] ++ [n / 1 % 256] := by simp [be5]
  rw [e5]
  refine EvU.succ ?_
  simp only [value_EncodeRow.p2, decide_eq_true_eq, b4]
  refine EvU.ite_pos (by omega) (EvU.ite_pos (by decide) (EvU.ite_pos (by simp only [maxLen, List.length_singleton]; omega) (EvU.succ ?_)))
  rw [show IntKind.i64.wrap (4 - 1) = 3 from rfl]
  simp only [value_EncodeRow.p2, decide_eq_true_eq, b3]
  refine EvU.ite_pos (by omega) (EvU.ite_pos (by decide) (EvU.ite_pos (by simp only [maxLen, List.length_singleton, List.length_append]; omega) (EvU.succ ?_)))
  rw [show IntKind.i64.wrap (3 - 1) = 2 from rfl]
  simp only [value_EncodeRow.p2, decide_eq_true_eq, b2]
  refine EvU.ite_pos (by omega) (EvU.ite_pos (by decide) (EvU.ite_pos (by simp only [maxLen, List.length_singleton, List.length_append]; omega) (EvU.succ ?_)))
  rw [show IntKind.i64.wrap (2 - 1) = 1 from rfl]
  simp only [value_EncodeRow.p2, decide_eq_true_eq, b1]
  refine EvU.ite_pos (by omega) (EvU.ite_pos (by decide) (EvU.ite_pos (by simp only [maxLen, List.length_singleton, List.length_append]; omega) (EvU.succ ?_)))
  rw [show IntKind.i64.wrap (1 - 1) = 0 from rfl]
  simp only [value_EncodeRow.p2, decide_eq_true_eq, b0]
  refine EvU.ite_pos (by omega) (EvU.ite_pos (by decide) (EvU.ite_pos (by simp only [maxLen, List.length_singleton, List.length_append]; omega) (EvU.succ ?_)))
  rw [show IntKind.i64.wrap (0 - 1) = -1 from rfl]
  simp only [value_EncodeRow.p2, decide_eq_true_eq]
  refine EvU.ite_neg (by omega) (EvU.rec fun x hx => ?_)
  simpa using hx
theorem dI {l : List Int} {i : Nat} (h : i < l.length) : l.drop i = l.getD (i : Int).toNat 0 :: l.drop (i + 1) := drop_cons _ h
theorem enc_p3 (v10 : List TValue) (v11 v12 : Int) (t : List Int) (r : ByteArray) (ht : t.length ≤ 1000000) : ∀ i, i ≤ t.length → ∀ out : List Int, out.length ≤ 1099511627776 + 2 * i →
    EvU (fun rec1 => rec1 v10 v11 (IntKind.i64.wrap (v12 + 1)) (out ++ (escL (t.drop i) ++ [0, 0])) = some r) (fun rec1 k => value_EncodeRow.p3 rec1 k v10 v11 v12 t (t.length : Int) (i : Int) out) r := by
  refine loop_down (P := fun i => ∀ out : List Int, out.length ≤ 1099511627776 + 2 * i →
    EvU (fun rec1 => rec1 v10 v11 (IntKind.i64.wrap (v12 + 1)) (out ++ (escL (t.drop i) ++ [0, 0])) = some r) (fun rec1 k => value_EncodeRow.p3 rec1 k v10 v11 v12 t (t.length : Int) (i : Int) out) r) t.length ?_ ?_
  · intro out ho
    refine EvU.succ ?_
    simp only [value_EncodeRow.p3, decide_eq_true_eq]
    rw [List.drop_length]
    exact EvU.ite_neg (by omega) (EvU.ite_pos (by simp only [maxLen, List.length_cons, List.length_nil]; omega) (EvU.rec fun x hx => by simpa [escL] using hx))
  · intro i hi ih out ho
    refine EvU.succ ?_
    simp only [value_EncodeRow.p3, decide_eq_true_eq, beq_iff_eq]
    rw [dI hi, wrn hi (by omega)]
    refine EvU.ite_pos (by omega) (EvU.ite_pos (by omega) (EvU.ite_pos (by simp only [maxLen, List.length_singleton]; omega) ?_))
    unfold escL
    by_cases h0 : t.getD (i : Int).toNat 0 = 0
    · rw [if_pos h0]
      refine EvU.ite_pos h0 (EvU.ite_pos (by simp only [maxLen, List.length_singleton, List.length_append]; omega) ((ih _ (by simp; omega)).weak fun x hx => ?_))
      rw [h0]
      simpa using hx
    · rw [if_neg h0]
      refine EvU.ite_neg h0 ((ih _ (by simp; omega)).weak fun x hx => ?_)
      simpa using hx
theorem okV_int1 {v : TValue} (h : okV v = true) (h1 : v.f0 = 1) : -4294967296 ≤ v.f1 ∧ v.f1 ≤ 4294967296 ∧ v.f2 = (⟨#[]⟩ : ByteArray) := by
  unfold okV at h
  rw [if_neg (by omega), if_pos h1] at h
  simp only [Bool.and_eq_true, decide_eq_true_eq] at h
  exact ⟨h.1.1, h.1.2, h.2⟩
theorem EncodeRow_ev (l : List TValue) (hl : l.length ≤ 1000000) : Ev (fun k => value_EncodeRow k l) (byteL (encR (l.map clV))) := by
  unfold value_EncodeRow
  have key : ∀ i, i ≤ l.length → ∀ out : List Int, out.length ≤ 70 * i → Ev (fun k => value_EncodeRow.p1 k l (l.length : Int) (i : Int) out) (byteL (out ++ encR ((l.drop i).map clV))) := by
    refine loop_down (P := fun i => ∀ out : List Int, out.length ≤ 70 * i → Ev (fun k => value_EncodeRow.p1 k l (l.length : Int) (i : Int) out) (byteL (out ++ encR ((l.drop i).map clV)))) l.length ?_ ?_
    · intro out _
      refine Ev.succ ?_
      simp only [value_EncodeRow.p1, decide_eq_true_eq]
      rw [List.drop_length]
      exact Ev.ite_neg (by omega) (Ev.done (by simp [encR]))
    · intro i hi ih out ho
      refine Ev.succ ?_
      simp only [value_EncodeRow.p1, decide_eq_true_eq, beq_iff_eq, value_Clean_eq, Option.bind_some]
      rw [dV hi, List.map_cons]
      have hv := okV_cl (l.getD (i : Int).toNat dValue)
      generalize clV (l.getD (i : Int).toNat dValue) = v at hv
      have hvl := encV_len hv
      have e0 : out ++ encR (v :: (l.drop (i + 1)).map clV) = (out ++ encV v) ++ encR ((l.drop (i + 1)).map clV) := by unfold encR; rw [List.flatMap_cons, List.append_assoc]
      rw [e0]
      have next : ∃ K, ∀ k, K ≤ k → value_EncodeRow.p1 k l (l.length : Int) (IntKind.i64.wrap ((i : Int) + 1)) (out ++ encV v) = some (byteL ((out ++ encV v) ++ encR ((l.drop (i + 1)).map clV))) := by
        rw [wrn hi (by omega)]
        exact ih (out ++ encV v) (by simp; omega)
      refine Ev.ite_pos (by omega) (Ev.ite_pos (by omega) ?_)
      by_cases h1 : v.f0 = 1
      · obtain ⟨a1, a2, a3⟩ := okV_int1 hv h1
        have hev : encV v = 2 :: be5 (v.f1 + 4294967296) := by unfold encV; rw [if_pos h1]
        rw [hev] at next ⊢
        refine Ev.ite_pos h1 (Ev.ite_pos (by simp only [maxLen, List.length_singleton]; omega) ?_)
        have ew : IntKind.u64.wrap (IntKind.i64.wrap (v.f1 + 4294967296)) = v.f1 + 4294967296 := by
          rw [wr (by omega)]
          simp [IntKind.wrap, IntKind.bits, IntKind.signed]; omega
        rw [ew]
        refine EvU.use (F := fun k => value_EncodeRow.p1 k) (enc_p2 (v.f1 + 4294967296) l (l.length : Int) (i : Int) (out ++ [2]) (by omega) (by simp; omega) _) ?_
        obtain ⟨K, hK⟩ := next
        exact ⟨K, fun k hk => by have := hK k hk; simpa using this⟩
      · refine Ev.ite_neg h1 ?_
        by_cases h2 : v.f0 = 2
        · have hev : encV v = 3 :: (escL (strL v.f2) ++ [0, 0]) := by unfold encV; rw [if_neg h1, if_pos h2]
          rw [hev] at next ⊢
          have h32 := okV_txt hv
          refine Ev.ite_pos h2 (Ev.ite_pos (by simp only [maxLen, List.length_singleton]; omega) ?_)
          refine EvU.use (F := fun k => value_EncodeRow.p1 k) (enc_p3 l (l.length : Int) (i : Int) (strL v.f2) _ (by rw [strL_len]; omega) 0 (by omega) (out ++ [3]) (by simp; omega)) ?_
          obtain ⟨K, hK⟩ := next
          exact ⟨K, fun k hk => by have := hK k hk; simpa using this⟩
        · have hev : encV v = [1] := by unfold encV; rw [if_neg h1, if_neg h2]
          rw [hev] at next ⊢
          exact Ev.ite_neg h2 (Ev.ite_pos (by simp only [maxLen, List.length_singleton]; omega) next)
  exact (key 0 (by omega) [] (by simp)).to (by simp)
end Go.Proofs.YtjhnpaenhdbhpacV
