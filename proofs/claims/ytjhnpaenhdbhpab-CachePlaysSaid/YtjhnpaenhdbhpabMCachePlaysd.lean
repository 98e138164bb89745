/- Part of the proof of CachePlays: printed by programs of this repo out of the translation, and by hand. Each theorem's conditions stand in its statement. -/
import Derived.Shelf.SlSortCmp.NoneTotal
import Derived.Orders
import Derived.Below
import Derived.Laws.AppendOwn
import Derived.Laws.OwnMore
import Derived.KernelRfl
import Derived.Test.YtjhnpaenhdbhpabProg
import Derived.Test.YtjhnpaenhdbhpabMCachePlaysa
import Derived.Test.YtjhnpaenhdbhpabMCachePlaysb
import Derived.Test.YtjhnpaenhdbhpabMCachePlaysc
set_option linter.unusedVariables false
set_option linter.unusedSimpArgs false
set_option maxRecDepth 100000
namespace Go.Proofs.YtjhnpaenhdbhpabV
open Go Go.RowKit
noncomputable def cache_Fresh.p1  : Nat → (List TCached) → (List TEntry) → Int → TCache → Option Bool
  | 0, _, _, _, _ => none
  | k + 1, s1, rows2, i7, c3b => if (decide (i7 < ((s1).length : Int))) = true then (if 0 ≤ i7 ∧ i7 < ((s1).length : Int) then ((cache_Select k rows2 c3b.f2 ((s1.getD i7.toNat dCached).f0)).bind fun y_9 => ((cache_same k ((s1.getD i7.toNat dCached).f1) y_9).bind fun y_11 => (if (!y_11) = true then (some false) else (cache_Fresh.p1 k s1 rows2 (IntKind.i64.wrap (i7 + 1)) c3b)))) else none) else (some true)
noncomputable def cache_Fresh  (k : Nat) (c0 : TCache) (s1 : (List TCached)) (rows2 : (List TEntry)) : Option Bool := (cache_Valid k s1).bind fun y_1 => (if (!y_1) = true then (some false) else ((bag_Valid k rows2).bind fun y_4 => (if (!y_4) = true then (some false) else (cache_Fresh.p1 k s1 rows2 0 c0))))
noncomputable def cache_Fresh.t : List Item := [.code (bodyOf Try.f28)]
noncomputable def cache_Fresh.s (c0 : TCache) (s1 : (List TCached)) (rows2 : (List TEntry)) : St := ⟨frOf Try.f28.ntmps 0 [(0, .agg ((cCache c0).map .p)), (1, .p (eL 5 cCached dCached s1)), (2, .p (eL 2 cEntry dEntry rows2))], []⟩
noncomputable def cache_Fresh.p1.t : List Item := nav 12 [false] cache_Fresh.t
noncomputable def cache_Fresh.p1.s (s1 : (List TCached)) (rows2 : (List TEntry)) (i7 : Int) (c3b : TCache) : St := ⟨frOf Try.f28.ntmps 0 [(1, .p (eL 5 cCached dCached s1)), (2, .p (eL 2 cEntry dEntry rows2)), (3, .ptr 0 0 0), (7, .p (.int .i64 i7))], [.box ((cCache c3b).map .p)]⟩
theorem cache_Fresh.p1.run   : ∀ (k : Nat) (s1 : (List TCached)) (rows2 : (List TEntry)) (i7 : Int) (c3b : TCache) (r : Bool), cache_Fresh.p1 k s1 rows2 i7 c3b = some r → RunC Try.prog Try.f28 cache_Fresh.p1.t (cache_Fresh.p1.s s1 rows2 i7 c3b) (.p (.bool r)) [] := by
  intro k
  induction k with
  | zero => intro s1 rows2 i7 c3b r h; simp [cache_Fresh.p1] at h
  | succ k ih =>
    intro s1 rows2 i7 c3b r h
    rw [cache_Fresh.p1] at h
    rcases ite_or h with ⟨g_7, h⟩ | ⟨g_7, h⟩
    · obtain ⟨g_8, h⟩ := ite_some h
      obtain ⟨y_9, e_10, h⟩ := bind_or h
      obtain ⟨y_11, e_12, h⟩ := bind_or h
      rcases ite_or h with ⟨g_13, h⟩ | ⟨g_13, h⟩
      · obtain rfl := Option.some.inj h
        exact RunC.out [.n 2, .r [(3, .dec true)], .n 5, .r [(13, .call (.sref 0 36 2 (y_9).length) [(oL true 36 2 cEntry dEntry y_9)]), (14, .call (.p (.bool y_11)) []), (15, .dec true)], .n 3] (by kernel_rfl) (Obs.of (by kernel_rfl) (And.intro g_7 (And.intro g_8 (And.intro g_8 (And.intro (cache_Select.spec e_10) (And.intro (cache_same.spec e_12) g_13))))))
      · exact RunC.go [.n 2, .r [(3, .dec true)], .n 5, .r [(13, .call (.sref 0 36 2 (y_9).length) [(oL true 36 2 cEntry dEntry y_9)]), (14, .call (.p (.bool y_11)) []), (15, .dec false)], .n 5, .k [1, 2, 3, 7]] (by kernel_rfl) (Obs.of (by kernel_rfl) (And.intro g_7 (And.intro g_8 (And.intro g_8 (And.intro (cache_Select.spec e_10) (And.intro (cache_same.spec e_12) (nt g_13))))))) (ih _ _ _ _ r h)
    · obtain rfl := Option.some.inj h
      exact RunC.out [.n 2, .r [(3, .dec false)], .n 4] (by kernel_rfl) (Obs.of (by kernel_rfl) (nt g_7))
theorem cache_Fresh.run   {k : Nat} {c0 : TCache} {s1 : (List TCached)} {rows2 : (List TEntry)} {r : Bool} (h : cache_Fresh k c0 s1 rows2 = some r) : RunC Try.prog Try.f28 cache_Fresh.t (cache_Fresh.s c0 s1 rows2) (.p (.bool r)) [] := by
  unfold cache_Fresh at h
  obtain ⟨y_1, e_2, h⟩ := bind_or h
  rcases ite_or h with ⟨g_3, h⟩ | ⟨g_3, h⟩
  · obtain rfl := Option.some.inj h
    exact RunC.out [.n 4, .r [(1, .call (.p (.bool y_1)) []), (3, .dec true)], .n 3] (by kernel_rfl) (Obs.of (by kernel_rfl) (And.intro (cache_Valid.spec e_2) g_3))
  · obtain ⟨y_4, e_5, h⟩ := bind_or h
    rcases ite_or h with ⟨g_6, h⟩ | ⟨g_6, h⟩
    · obtain rfl := Option.some.inj h
      exact RunC.out [.n 4, .r [(1, .call (.p (.bool y_1)) []), (3, .dec false), (5, .call (.p (.bool y_4)) []), (7, .dec true)], .n 3] (by kernel_rfl) (Obs.of (by kernel_rfl) (And.intro (cache_Valid.spec e_2) (And.intro (nt g_3) (And.intro (bag_Valid.spec e_5) g_6))))
    · exact RunC.go [.n 4, .r [(1, .call (.p (.bool y_1)) []), (3, .dec false), (5, .call (.p (.bool y_4)) []), (7, .dec false)], .n 7, .k [1, 2, 3, 7]] (by kernel_rfl) (Obs.of (by kernel_rfl) (And.intro (cache_Valid.spec e_2) (And.intro (nt g_3) (And.intro (bag_Valid.spec e_5) (nt g_6))))) (cache_Fresh.p1.run k _ _ _ _ r h)
theorem cache_Fresh.p1.mono   : ∀ (k k' : Nat) (s1 : (List TCached)) (rows2 : (List TEntry)) (i7 : Int) (c3b : TCache) (r : Bool), k ≤ k' → cache_Fresh.p1 k s1 rows2 i7 c3b = some r → cache_Fresh.p1 k' s1 rows2 i7 c3b = some r := by
  intro k
  induction k with
  | zero => intro k' s1 rows2 i7 c3b r hk h; simp [cache_Fresh.p1] at h
  | succ k ih =>
    intro k' s1 rows2 i7 c3b r hk h
    obtain ⟨k', rfl⟩ : ∃ m, k' = m + 1 := ⟨k' - 1, by omega⟩
    replace hk := Nat.le_of_succ_le_succ hk
    rw [cache_Fresh.p1] at h ⊢
    rcases ite_or h with ⟨g_7, h⟩ | ⟨g_7, h⟩
    · refine itp g_7 ?_
      obtain ⟨g_8, h⟩ := ite_some h
      refine itp g_8 ?_
      obtain ⟨y_9, e_10, h⟩ := bind_or h
      refine bnd (cache_Select.mono _ _ _ _ _ _ hk e_10) ?_
      obtain ⟨y_11, e_12, h⟩ := bind_or h
      refine bnd (cache_same.mono _ _ _ _ _ hk e_12) ?_
      rcases ite_or h with ⟨g_13, h⟩ | ⟨g_13, h⟩
      · refine itp g_13 ?_
        exact h
      · refine itn g_13 ?_
        exact ih _ _ _ _ _ r hk h
    · refine itn g_7 ?_
      exact h
theorem cache_Fresh.mono   : ∀ (k k' : Nat) (c0 : TCache) (s1 : (List TCached)) (rows2 : (List TEntry)) (r : Bool), k ≤ k' → cache_Fresh k c0 s1 rows2 = some r → cache_Fresh k' c0 s1 rows2 = some r := by
  intro k k' c0 s1 rows2 r hk h
  unfold cache_Fresh at h ⊢
  obtain ⟨y_1, e_2, h⟩ := bind_or h
  refine bnd (cache_Valid.mono _ _ _ _ hk e_2) ?_
  rcases ite_or h with ⟨g_3, h⟩ | ⟨g_3, h⟩
  · refine itp g_3 ?_
    exact h
  · refine itn g_3 ?_
    obtain ⟨y_4, e_5, h⟩ := bind_or h
    refine bnd (bag_Valid.mono _ _ _ _ hk e_5) ?_
    rcases ite_or h with ⟨g_6, h⟩ | ⟨g_6, h⟩
    · refine itp g_6 ?_
      exact h
    · refine itn g_6 ?_
      exact cache_Fresh.p1.mono _ _ _ _ _ _ r hk h
theorem cache_Fresh.spec {k : Nat} {c0 : TCache} {s1 : (List TCached)} {rows2 : (List TEntry)} {r : Bool} (h : cache_Fresh k c0 s1 rows2 = some r) : Spec Try.prog 28 [.agg ((cCache c0).map .p), .p (eL 5 cCached dCached s1), .p (eL 2 cEntry dEntry rows2)] (.p (.bool r)) [] :=
  spec_of mix Try.func28 (body := bodyOf Try.f28) (by kernel_rfl) (by kernel_rfl) (cache_Fresh.run h)
end Go.Proofs.YtjhnpaenhdbhpabV
set_option linter.unusedVariables false
set_option linter.unusedSimpArgs false
set_option maxRecDepth 100000
namespace Go.Proofs.YtjhnpaenhdbhpabV
open Go Go.RowKit
noncomputable def erasureref30_Fresh.p1  : Nat → (List TCached) → (List TEntry) → Int → TCache → Option Bool
  | 0, _, _, _, _ => none
  | k + 1, s1, rows2, i7, c3b => if (decide (i7 < ((s1).length : Int))) = true then (if 0 ≤ i7 ∧ i7 < ((s1).length : Int) then ((erasureref30_Select k rows2 c3b.f2 ((s1.getD i7.toNat dCached).f0)).bind fun y_9 => ((erasureref26_SameBag k ((s1.getD i7.toNat dCached).f1) y_9).bind fun y_11 => (if (!y_11) = true then (some false) else (erasureref30_Fresh.p1 k s1 rows2 (IntKind.i64.wrap (i7 + 1)) c3b)))) else none) else (some true)
noncomputable def erasureref30_Fresh  (k : Nat) (c0 : TCache) (s1 : (List TCached)) (rows2 : (List TEntry)) : Option Bool := (erasureref30_Valid k s1).bind fun y_1 => (if (!y_1) = true then (some false) else ((erasureref06_Valid k rows2).bind fun y_4 => (if (!y_4) = true then (some false) else (erasureref30_Fresh.p1 k s1 rows2 0 c0))))
noncomputable def erasureref30_Fresh.t : List Item := [.code (bodyOf Try.f29)]
noncomputable def erasureref30_Fresh.s (c0 : TCache) (s1 : (List TCached)) (rows2 : (List TEntry)) : St := ⟨frOf Try.f29.ntmps 0 [(0, .agg ((cCache c0).map .p)), (1, .p (eL 5 cCached dCached s1)), (2, .p (eL 2 cEntry dEntry rows2))], []⟩
noncomputable def erasureref30_Fresh.p1.t : List Item := nav 12 [false] erasureref30_Fresh.t
noncomputable def erasureref30_Fresh.p1.s (s1 : (List TCached)) (rows2 : (List TEntry)) (i7 : Int) (c3b : TCache) : St := ⟨frOf Try.f29.ntmps 0 [(1, .p (eL 5 cCached dCached s1)), (2, .p (eL 2 cEntry dEntry rows2)), (3, .ptr 0 0 0), (7, .p (.int .i64 i7))], [.box ((cCache c3b).map .p)]⟩
theorem erasureref30_Fresh.p1.run   : ∀ (k : Nat) (s1 : (List TCached)) (rows2 : (List TEntry)) (i7 : Int) (c3b : TCache) (r : Bool), erasureref30_Fresh.p1 k s1 rows2 i7 c3b = some r → RunC Try.prog Try.f29 erasureref30_Fresh.p1.t (erasureref30_Fresh.p1.s s1 rows2 i7 c3b) (.p (.bool r)) [] := by
  intro k
  induction k with
  | zero => intro s1 rows2 i7 c3b r h; simp [erasureref30_Fresh.p1] at h
  | succ k ih =>
    intro s1 rows2 i7 c3b r h
    rw [erasureref30_Fresh.p1] at h
    rcases ite_or h with ⟨g_7, h⟩ | ⟨g_7, h⟩
    · obtain ⟨g_8, h⟩ := ite_some h
      obtain ⟨y_9, e_10, h⟩ := bind_or h
      obtain ⟨y_11, e_12, h⟩ := bind_or h
      rcases ite_or h with ⟨g_13, h⟩ | ⟨g_13, h⟩
      · obtain rfl := Option.some.inj h
        exact RunC.out [.n 2, .r [(3, .dec true)], .n 5, .r [(13, .call (.sref 0 36 2 (y_9).length) [(oL true 36 2 cEntry dEntry y_9)]), (14, .call (.p (.bool y_11)) []), (15, .dec true)], .n 3] (by kernel_rfl) (Obs.of (by kernel_rfl) (And.intro g_7 (And.intro g_8 (And.intro g_8 (And.intro (erasureref30_Select.spec e_10) (And.intro (erasureref26_SameBag.spec e_12) g_13))))))
      · exact RunC.go [.n 2, .r [(3, .dec true)], .n 5, .r [(13, .call (.sref 0 36 2 (y_9).length) [(oL true 36 2 cEntry dEntry y_9)]), (14, .call (.p (.bool y_11)) []), (15, .dec false)], .n 5, .k [1, 2, 3, 7]] (by kernel_rfl) (Obs.of (by kernel_rfl) (And.intro g_7 (And.intro g_8 (And.intro g_8 (And.intro (erasureref30_Select.spec e_10) (And.intro (erasureref26_SameBag.spec e_12) (nt g_13))))))) (ih _ _ _ _ r h)
    · obtain rfl := Option.some.inj h
      exact RunC.out [.n 2, .r [(3, .dec false)], .n 4] (by kernel_rfl) (Obs.of (by kernel_rfl) (nt g_7))
theorem erasureref30_Fresh.run   {k : Nat} {c0 : TCache} {s1 : (List TCached)} {rows2 : (List TEntry)} {r : Bool} (h : erasureref30_Fresh k c0 s1 rows2 = some r) : RunC Try.prog Try.f29 erasureref30_Fresh.t (erasureref30_Fresh.s c0 s1 rows2) (.p (.bool r)) [] := by
  unfold erasureref30_Fresh at h
  obtain ⟨y_1, e_2, h⟩ := bind_or h
  rcases ite_or h with ⟨g_3, h⟩ | ⟨g_3, h⟩
  · obtain rfl := Option.some.inj h
    exact RunC.out [.n 4, .r [(1, .call (.p (.bool y_1)) []), (3, .dec true)], .n 3] (by kernel_rfl) (Obs.of (by kernel_rfl) (And.intro (erasureref30_Valid.spec e_2) g_3))
  · obtain ⟨y_4, e_5, h⟩ := bind_or h
    rcases ite_or h with ⟨g_6, h⟩ | ⟨g_6, h⟩
    · obtain rfl := Option.some.inj h
      exact RunC.out [.n 4, .r [(1, .call (.p (.bool y_1)) []), (3, .dec false), (5, .call (.p (.bool y_4)) []), (7, .dec true)], .n 3] (by kernel_rfl) (Obs.of (by kernel_rfl) (And.intro (erasureref30_Valid.spec e_2) (And.intro (nt g_3) (And.intro (erasureref06_Valid.spec e_5) g_6))))
    · exact RunC.go [.n 4, .r [(1, .call (.p (.bool y_1)) []), (3, .dec false), (5, .call (.p (.bool y_4)) []), (7, .dec false)], .n 7, .k [1, 2, 3, 7]] (by kernel_rfl) (Obs.of (by kernel_rfl) (And.intro (erasureref30_Valid.spec e_2) (And.intro (nt g_3) (And.intro (erasureref06_Valid.spec e_5) (nt g_6))))) (erasureref30_Fresh.p1.run k _ _ _ _ r h)
theorem erasureref30_Fresh.p1.mono   : ∀ (k k' : Nat) (s1 : (List TCached)) (rows2 : (List TEntry)) (i7 : Int) (c3b : TCache) (r : Bool), k ≤ k' → erasureref30_Fresh.p1 k s1 rows2 i7 c3b = some r → erasureref30_Fresh.p1 k' s1 rows2 i7 c3b = some r := by
  intro k
  induction k with
  | zero => intro k' s1 rows2 i7 c3b r hk h; simp [erasureref30_Fresh.p1] at h
  | succ k ih =>
    intro k' s1 rows2 i7 c3b r hk h
    obtain ⟨k', rfl⟩ : ∃ m, k' = m + 1 := ⟨k' - 1, by omega⟩
    replace hk := Nat.le_of_succ_le_succ hk
    rw [erasureref30_Fresh.p1] at h ⊢
    rcases ite_or h with ⟨g_7, h⟩ | ⟨g_7, h⟩
    · refine itp g_7 ?_
      obtain ⟨g_8, h⟩ := ite_some h
      refine itp g_8 ?_
      obtain ⟨y_9, e_10, h⟩ := bind_or h
      refine bnd (erasureref30_Select.mono _ _ _ _ _ _ hk e_10) ?_
      obtain ⟨y_11, e_12, h⟩ := bind_or h
      refine bnd (erasureref26_SameBag.mono _ _ _ _ _ hk e_12) ?_
      rcases ite_or h with ⟨g_13, h⟩ | ⟨g_13, h⟩
      · refine itp g_13 ?_
        exact h
      · refine itn g_13 ?_
        exact ih _ _ _ _ _ r hk h
    · refine itn g_7 ?_
      exact h
theorem erasureref30_Fresh.mono   : ∀ (k k' : Nat) (c0 : TCache) (s1 : (List TCached)) (rows2 : (List TEntry)) (r : Bool), k ≤ k' → erasureref30_Fresh k c0 s1 rows2 = some r → erasureref30_Fresh k' c0 s1 rows2 = some r := by
  intro k k' c0 s1 rows2 r hk h
  unfold erasureref30_Fresh at h ⊢
  obtain ⟨y_1, e_2, h⟩ := bind_or h
  refine bnd (erasureref30_Valid.mono _ _ _ _ hk e_2) ?_
  rcases ite_or h with ⟨g_3, h⟩ | ⟨g_3, h⟩
  · refine itp g_3 ?_
    exact h
  · refine itn g_3 ?_
    obtain ⟨y_4, e_5, h⟩ := bind_or h
    refine bnd (erasureref06_Valid.mono _ _ _ _ hk e_5) ?_
    rcases ite_or h with ⟨g_6, h⟩ | ⟨g_6, h⟩
    · refine itp g_6 ?_
      exact h
    · refine itn g_6 ?_
      exact erasureref30_Fresh.p1.mono _ _ _ _ _ _ r hk h
theorem erasureref30_Fresh.spec {k : Nat} {c0 : TCache} {s1 : (List TCached)} {rows2 : (List TEntry)} {r : Bool} (h : erasureref30_Fresh k c0 s1 rows2 = some r) : Spec Try.prog 29 [.agg ((cCache c0).map .p), .p (eL 5 cCached dCached s1), .p (eL 2 cEntry dEntry rows2)] (.p (.bool r)) [] :=
  spec_of mix Try.func29 (body := bodyOf Try.f29) (by kernel_rfl) (by kernel_rfl) (erasureref30_Fresh.run h)
end Go.Proofs.YtjhnpaenhdbhpabV
set_option linter.unusedVariables false
set_option linter.unusedSimpArgs false
set_option maxRecDepth 100000
namespace Go.Proofs.YtjhnpaenhdbhpabV
open Go Go.RowKit
noncomputable def cache_Refill.p1  : Nat → (List TCached) → (List TEntry) → Int → Int → TCache → (List TCached) → Option (List TCached)
  | 0, _, _, _, _, _, _ => none
  | k + 1, s1, rows2, day3, i10, c4b, out9 => if (decide (i10 < ((s1).length : Int))) = true then (if 0 ≤ i10 ∧ i10 < ((s1).length : Int) then ((cache_Select k rows2 c4b.f2 ((s1.getD i10.toNat dCached).f0)).bind fun y_6 => (if (decide (((y_6).length : Int) > 0)) = true then (if (out9).length + ([(TCached.mk ((s1.getD i10.toNat dCached).f0) y_6 day3)]).length ≤ maxLen ∧ ((out9).length + ([(TCached.mk ((s1.getD i10.toNat dCached).f0) y_6 day3)]).length) * 64 ≤ 140737488355328 then (cache_Refill.p1 k s1 rows2 day3 (IntKind.i64.wrap (i10 + 1)) c4b (out9 ++ ([(TCached.mk ((s1.getD i10.toNat dCached).f0) y_6 day3)]))) else none) else (cache_Refill.p1 k s1 rows2 day3 (IntKind.i64.wrap (i10 + 1)) c4b out9))) else none) else (some out9)
noncomputable def cache_Refill  (k : Nat) (c0 : TCache) (s1 : (List TCached)) (rows2 : (List TEntry)) (day3 : Int) : Option (List TCached) := (cache_usable k c0 s1 rows2 day3).bind fun y_1 => (if (!y_1) = true then (some ([] : List TCached)) else (cache_Refill.p1 k s1 rows2 day3 0 c0 ([] : List TCached)))
noncomputable def cache_Refill.t : List Item := [.code (bodyOf Try.f21)]
noncomputable def cache_Refill.s (c0 : TCache) (s1 : (List TCached)) (rows2 : (List TEntry)) (day3 : Int) : St := ⟨frOf Try.f21.ntmps 0 [(0, .agg ((cCache c0).map .p)), (1, .p (eL 5 cCached dCached s1)), (2, .p (eL 2 cEntry dEntry rows2)), (3, .p (.int .i64 day3))], []⟩
noncomputable def cache_Refill.p1.t : List Item := nav 14 [false] cache_Refill.t
noncomputable def cache_Refill.p1.s (s1 : (List TCached)) (rows2 : (List TEntry)) (day3 : Int) (i10 : Int) (c4b : TCache) (out9 : (List TCached)) : St := ⟨frOf Try.f21.ntmps 0 [(1, .p (eL 5 cCached dCached s1)), (2, .p (eL 2 cEntry dEntry rows2)), (3, .p (.int .i64 day3)), (4, .ptr 0 0 0), (9, .sref 1 46 5 (out9).length), (10, .p (.int .i64 i10))], [.box ((cCache c4b).map .p), (oL true 46 5 cCached dCached out9)]⟩
theorem cache_Refill.p1.run   : ∀ (k : Nat) (s1 : (List TCached)) (rows2 : (List TEntry)) (day3 : Int) (i10 : Int) (c4b : TCache) (out9 : (List TCached)) (r : (List TCached)), cache_Refill.p1 k s1 rows2 day3 i10 c4b out9 = some r → RunC Try.prog Try.f21 cache_Refill.p1.t (cache_Refill.p1.s s1 rows2 day3 i10 c4b out9) (.sref 0 46 5 (r).length) [(oL true 46 5 cCached dCached (r))] := by
  intro k
  induction k with
  | zero => intro s1 rows2 day3 i10 c4b out9 r h; simp [cache_Refill.p1] at h
  | succ k ih =>
    intro s1 rows2 day3 i10 c4b out9 r h
    rw [cache_Refill.p1] at h
    rcases ite_or h with ⟨g_4, h⟩ | ⟨g_4, h⟩
    · obtain ⟨g_5, h⟩ := ite_some h
      obtain ⟨y_6, e_7, h⟩ := bind_or h
      rcases ite_or h with ⟨g_8, h⟩ | ⟨g_8, h⟩
      · obtain ⟨g_9, h⟩ := ite_some h
        exact RunC.go [.n 2, .r [(3, .dec true)], .n 5, .r [(8, .call (.sref 0 36 2 (y_6).length) [(oL true 36 2 cEntry dEntry y_6)])], .n 1, .r [(2, .dec true)], .n 1, .r [(9, .obj (oL true 46 5 cCached dCached [(TCached.mk ((s1.getD i10.toNat dCached).f0) y_6 day3)])), (10, .obj (oL true 46 5 cCached dCached (out9 ++ ([(TCached.mk ((s1.getD i10.toNat dCached).f0) y_6 day3)]))))], .n 3, .k [1, 2, 3, 4, 9, 10]] (by kernel_rfl) (Obs.of (by kernel_rfl) (And.intro g_4 (And.intro g_5 (And.intro (cache_Select.spec e_7) (And.intro g_8 (And.intro g_5 (And.intro (le_one 46 5 cCached dCached (TCached.mk ((s1.getD i10.toNat dCached).f0) y_6 day3)) (And.intro g_9 (le_app 46 5 cCached dCached out9 ([(TCached.mk ((s1.getD i10.toNat dCached).f0) y_6 day3)])))))))))) (ih _ _ _ _ _ _ r h)
      · exact RunC.go [.n 2, .r [(3, .dec true)], .n 5, .r [(8, .call (.sref 0 36 2 (y_6).length) [(oL true 36 2 cEntry dEntry y_6)])], .n 1, .r [(2, .dec false)], .n 5, .k [1, 2, 3, 4, 9, 10]] (by kernel_rfl) (Obs.of (by kernel_rfl) (And.intro g_4 (And.intro g_5 (And.intro (cache_Select.spec e_7) (nt g_8))))) (ih _ _ _ _ _ _ r h)
    · obtain rfl := Option.some.inj h
      exact RunC.out [.n 2, .r [(3, .dec false)], .n 4] (by kernel_rfl) (Obs.of (by kernel_rfl) (nt g_4))
theorem cache_Refill.run   {k : Nat} {c0 : TCache} {s1 : (List TCached)} {rows2 : (List TEntry)} {day3 : Int} {r : (List TCached)} (h : cache_Refill k c0 s1 rows2 day3 = some r) : RunC Try.prog Try.f21 cache_Refill.t (cache_Refill.s c0 s1 rows2 day3) (.sref 0 46 5 (r).length) [(oL true 46 5 cCached dCached (r))] := by
  unfold cache_Refill at h
  obtain ⟨y_1, e_2, h⟩ := bind_or h
  rcases ite_or h with ⟨g_3, h⟩ | ⟨g_3, h⟩
  · obtain rfl := Option.some.inj h
    exact RunC.out [.n 1, .r [(1, .obj (oL true 46 5 cCached dCached ([] : List TCached)))], .n 2, .r [(4, .call (.p (.bool y_1)) []), (5, .dec true)], .n 2, .r [(0, .obj (oL true 46 5 cCached dCached ([] : List TCached)))]] (by kernel_rfl) (Obs.of (by kernel_rfl) (And.intro (le_nil 46 5 cCached dCached) (And.intro (cache_usable.spec e_2) (And.intro g_3 (le_nil 46 5 cCached dCached)))))
  · exact RunC.go [.n 1, .r [(1, .obj (oL true 46 5 cCached dCached ([] : List TCached)))], .n 2, .r [(4, .call (.p (.bool y_1)) []), (5, .dec false)], .n 3, .r [(0, .obj (oL true 46 5 cCached dCached ([] : List TCached)))], .n 5, .k [1, 2, 3, 4, 9, 10]] (by kernel_rfl) (Obs.of (by kernel_rfl) (And.intro (le_nil 46 5 cCached dCached) (And.intro (cache_usable.spec e_2) (And.intro (nt g_3) (le_nil 46 5 cCached dCached))))) (cache_Refill.p1.run k _ _ _ _ _ _ r h)
theorem cache_Refill.p1.mono   : ∀ (k k' : Nat) (s1 : (List TCached)) (rows2 : (List TEntry)) (day3 : Int) (i10 : Int) (c4b : TCache) (out9 : (List TCached)) (r : (List TCached)), k ≤ k' → cache_Refill.p1 k s1 rows2 day3 i10 c4b out9 = some r → cache_Refill.p1 k' s1 rows2 day3 i10 c4b out9 = some r := by
  intro k
  induction k with
  | zero => intro k' s1 rows2 day3 i10 c4b out9 r hk h; simp [cache_Refill.p1] at h
  | succ k ih =>
    intro k' s1 rows2 day3 i10 c4b out9 r hk h
    obtain ⟨k', rfl⟩ : ∃ m, k' = m + 1 := ⟨k' - 1, by omega⟩
    replace hk := Nat.le_of_succ_le_succ hk
    rw [cache_Refill.p1] at h ⊢
    rcases ite_or h with ⟨g_4, h⟩ | ⟨g_4, h⟩
    · refine itp g_4 ?_
      obtain ⟨g_5, h⟩ := ite_some h
      refine itp g_5 ?_
      obtain ⟨y_6, e_7, h⟩ := bind_or h
      refine bnd (cache_Select.mono _ _ _ _ _ _ hk e_7) ?_
      rcases ite_or h with ⟨g_8, h⟩ | ⟨g_8, h⟩
      · refine itp g_8 ?_
        obtain ⟨g_9, h⟩ := ite_some h
        refine itp g_9 ?_
        exact ih _ _ _ _ _ _ _ r hk h
      · refine itn g_8 ?_
        exact ih _ _ _ _ _ _ _ r hk h
    · refine itn g_4 ?_
      exact h
theorem cache_Refill.mono   : ∀ (k k' : Nat) (c0 : TCache) (s1 : (List TCached)) (rows2 : (List TEntry)) (day3 : Int) (r : (List TCached)), k ≤ k' → cache_Refill k c0 s1 rows2 day3 = some r → cache_Refill k' c0 s1 rows2 day3 = some r := by
  intro k k' c0 s1 rows2 day3 r hk h
  unfold cache_Refill at h ⊢
  obtain ⟨y_1, e_2, h⟩ := bind_or h
  refine bnd (cache_usable.mono _ _ _ _ _ _ _ hk e_2) ?_
  rcases ite_or h with ⟨g_3, h⟩ | ⟨g_3, h⟩
  · refine itp g_3 ?_
    exact h
  · refine itn g_3 ?_
    exact cache_Refill.p1.mono _ _ _ _ _ _ _ _ r hk h
theorem cache_Refill.spec {k : Nat} {c0 : TCache} {s1 : (List TCached)} {rows2 : (List TEntry)} {day3 : Int} {r : (List TCached)} (h : cache_Refill k c0 s1 rows2 day3 = some r) : Spec Try.prog 21 [.agg ((cCache c0).map .p), .p (eL 5 cCached dCached s1), .p (eL 2 cEntry dEntry rows2), .p (.int .i64 day3)] (.sref 0 46 5 (r).length) [(oL true 46 5 cCached dCached (r))] :=
  spec_of mix Try.func21 (body := bodyOf Try.f21) (by kernel_rfl) (by kernel_rfl) (cache_Refill.run h)
end Go.Proofs.YtjhnpaenhdbhpabV
set_option linter.unusedVariables false
set_option linter.unusedSimpArgs false
set_option maxRecDepth 100000
namespace Go.Proofs.YtjhnpaenhdbhpabV
open Go Go.RowKit
noncomputable def erasureref30_Refill.p1  : Nat → (List TCached) → (List TEntry) → Int → Int → TCache → (List TCached) → Option (List TCached)
  | 0, _, _, _, _, _, _ => none
  | k + 1, s1, rows2, day3, i10, c4b, out9 => if (decide (i10 < ((s1).length : Int))) = true then (if 0 ≤ i10 ∧ i10 < ((s1).length : Int) then ((erasureref30_Select k rows2 c4b.f2 ((s1.getD i10.toNat dCached).f0)).bind fun y_12 => (if (decide (((y_12).length : Int) > 0)) = true then (if (out9).length + ([(TCached.mk ((s1.getD i10.toNat dCached).f0) y_12 day3)]).length ≤ maxLen ∧ ((out9).length + ([(TCached.mk ((s1.getD i10.toNat dCached).f0) y_12 day3)]).length) * 64 ≤ 140737488355328 then (erasureref30_Refill.p1 k s1 rows2 day3 (IntKind.i64.wrap (i10 + 1)) c4b (out9 ++ ([(TCached.mk ((s1.getD i10.toNat dCached).f0) y_12 day3)]))) else none) else (erasureref30_Refill.p1 k s1 rows2 day3 (IntKind.i64.wrap (i10 + 1)) c4b out9))) else none) else (some out9)
noncomputable def erasureref30_Refill  (k : Nat) (c0 : TCache) (s1 : (List TCached)) (rows2 : (List TEntry)) (day3 : Int) : Option (List TCached) := (erasureref30_Valid k s1).bind fun y_1 => (if (!y_1) = true then (some ([] : List TCached)) else ((erasureref06_Valid k rows2).bind fun y_4 => (if (!y_4) = true then (some ([] : List TCached)) else ((erasureref30_ranged k c0 day3).bind fun y_7 => (if (!y_7) = true then (some ([] : List TCached)) else (erasureref30_Refill.p1 k s1 rows2 day3 0 c0 ([] : List TCached)))))))
noncomputable def erasureref30_Refill.t : List Item := [.code (bodyOf Try.f22)]
noncomputable def erasureref30_Refill.s (c0 : TCache) (s1 : (List TCached)) (rows2 : (List TEntry)) (day3 : Int) : St := ⟨frOf Try.f22.ntmps 0 [(0, .agg ((cCache c0).map .p)), (1, .p (eL 5 cCached dCached s1)), (2, .p (eL 2 cEntry dEntry rows2)), (3, .p (.int .i64 day3))], []⟩
noncomputable def erasureref30_Refill.p1.t : List Item := nav 14 [false] erasureref30_Refill.t
noncomputable def erasureref30_Refill.p1.s (s1 : (List TCached)) (rows2 : (List TEntry)) (day3 : Int) (i10 : Int) (c4b : TCache) (out9 : (List TCached)) : St := ⟨frOf Try.f22.ntmps 0 [(1, .p (eL 5 cCached dCached s1)), (2, .p (eL 2 cEntry dEntry rows2)), (3, .p (.int .i64 day3)), (4, .ptr 0 0 0), (9, .sref 1 46 5 (out9).length), (10, .p (.int .i64 i10))], [.box ((cCache c4b).map .p), (oL true 46 5 cCached dCached out9)]⟩
theorem erasureref30_Refill.p1.run   : ∀ (k : Nat) (s1 : (List TCached)) (rows2 : (List TEntry)) (day3 : Int) (i10 : Int) (c4b : TCache) (out9 : (List TCached)) (r : (List TCached)), erasureref30_Refill.p1 k s1 rows2 day3 i10 c4b out9 = some r → RunC Try.prog Try.f22 erasureref30_Refill.p1.t (erasureref30_Refill.p1.s s1 rows2 day3 i10 c4b out9) (.sref 0 46 5 (r).length) [(oL true 46 5 cCached dCached (r))] := by
  intro k
  induction k with
  | zero => intro s1 rows2 day3 i10 c4b out9 r h; simp [erasureref30_Refill.p1] at h
  | succ k ih =>
    intro s1 rows2 day3 i10 c4b out9 r h
    rw [erasureref30_Refill.p1] at h
    rcases ite_or h with ⟨g_10, h⟩ | ⟨g_10, h⟩
    · obtain ⟨g_11, h⟩ := ite_some h
      obtain ⟨y_12, e_13, h⟩ := bind_or h
      rcases ite_or h with ⟨g_14, h⟩ | ⟨g_14, h⟩
      · obtain ⟨g_15, h⟩ := ite_some h
        exact RunC.go [.n 2, .r [(3, .dec true)], .n 5, .r [(8, .call (.sref 0 36 2 (y_12).length) [(oL true 36 2 cEntry dEntry y_12)])], .n 1, .r [(2, .dec true)], .n 1, .r [(9, .obj (oL true 46 5 cCached dCached [(TCached.mk ((s1.getD i10.toNat dCached).f0) y_12 day3)])), (10, .obj (oL true 46 5 cCached dCached (out9 ++ ([(TCached.mk ((s1.getD i10.toNat dCached).f0) y_12 day3)]))))], .n 3, .k [1, 2, 3, 4, 9, 10]] (by kernel_rfl) (Obs.of (by kernel_rfl) (And.intro g_10 (And.intro g_11 (And.intro (erasureref30_Select.spec e_13) (And.intro g_14 (And.intro g_11 (And.intro (le_one 46 5 cCached dCached (TCached.mk ((s1.getD i10.toNat dCached).f0) y_12 day3)) (And.intro g_15 (le_app 46 5 cCached dCached out9 ([(TCached.mk ((s1.getD i10.toNat dCached).f0) y_12 day3)])))))))))) (ih _ _ _ _ _ _ r h)
      · exact RunC.go [.n 2, .r [(3, .dec true)], .n 5, .r [(8, .call (.sref 0 36 2 (y_12).length) [(oL true 36 2 cEntry dEntry y_12)])], .n 1, .r [(2, .dec false)], .n 5, .k [1, 2, 3, 4, 9, 10]] (by kernel_rfl) (Obs.of (by kernel_rfl) (And.intro g_10 (And.intro g_11 (And.intro (erasureref30_Select.spec e_13) (nt g_14))))) (ih _ _ _ _ _ _ r h)
    · obtain rfl := Option.some.inj h
      exact RunC.out [.n 2, .r [(3, .dec false)], .n 4] (by kernel_rfl) (Obs.of (by kernel_rfl) (nt g_10))
theorem erasureref30_Refill.run   {k : Nat} {c0 : TCache} {s1 : (List TCached)} {rows2 : (List TEntry)} {day3 : Int} {r : (List TCached)} (h : erasureref30_Refill k c0 s1 rows2 day3 = some r) : RunC Try.prog Try.f22 erasureref30_Refill.t (erasureref30_Refill.s c0 s1 rows2 day3) (.sref 0 46 5 (r).length) [(oL true 46 5 cCached dCached (r))] := by
  unfold erasureref30_Refill at h
  obtain ⟨y_1, e_2, h⟩ := bind_or h
  rcases ite_or h with ⟨g_3, h⟩ | ⟨g_3, h⟩
  · obtain rfl := Option.some.inj h
    exact RunC.out [.n 1, .r [(1, .obj (oL true 46 5 cCached dCached ([] : List TCached)))], .n 2, .r [(1, .call (.p (.bool y_1)) []), (3, .dec true)], .n 2, .r [(0, .obj (oL true 46 5 cCached dCached ([] : List TCached)))]] (by kernel_rfl) (Obs.of (by kernel_rfl) (And.intro (le_nil 46 5 cCached dCached) (And.intro (erasureref30_Valid.spec e_2) (And.intro g_3 (le_nil 46 5 cCached dCached)))))
  · obtain ⟨y_4, e_5, h⟩ := bind_or h
    rcases ite_or h with ⟨g_6, h⟩ | ⟨g_6, h⟩
    · obtain rfl := Option.some.inj h
      exact RunC.out [.n 1, .r [(1, .obj (oL true 46 5 cCached dCached ([] : List TCached)))], .n 2, .r [(1, .call (.p (.bool y_1)) []), (3, .dec false), (5, .call (.p (.bool y_4)) []), (8, .dec true)], .n 2, .r [(0, .obj (oL true 46 5 cCached dCached ([] : List TCached)))]] (by kernel_rfl) (Obs.of (by kernel_rfl) (And.intro (le_nil 46 5 cCached dCached) (And.intro (erasureref30_Valid.spec e_2) (And.intro (nt g_3) (And.intro (erasureref06_Valid.spec e_5) (And.intro g_6 (le_nil 46 5 cCached dCached)))))))
    · obtain ⟨y_7, e_8, h⟩ := bind_or h
      rcases ite_or h with ⟨g_9, h⟩ | ⟨g_9, h⟩
      · obtain rfl := Option.some.inj h
        exact RunC.out [.n 1, .r [(1, .obj (oL true 46 5 cCached dCached ([] : List TCached)))], .n 2, .r [(1, .call (.p (.bool y_1)) []), (3, .dec false), (5, .call (.p (.bool y_4)) []), (8, .dec false), (11, .call (.p (.bool y_7)) []), (13, .dec true)], .n 2, .r [(0, .obj (oL true 46 5 cCached dCached ([] : List TCached)))]] (by kernel_rfl) (Obs.of (by kernel_rfl) (And.intro (le_nil 46 5 cCached dCached) (And.intro (erasureref30_Valid.spec e_2) (And.intro (nt g_3) (And.intro (erasureref06_Valid.spec e_5) (And.intro (nt g_6) (And.intro (erasureref30_ranged.spec e_8) (And.intro g_9 (le_nil 46 5 cCached dCached)))))))))
      · exact RunC.go [.n 1, .r [(1, .obj (oL true 46 5 cCached dCached ([] : List TCached)))], .n 2, .r [(1, .call (.p (.bool y_1)) []), (3, .dec false), (5, .call (.p (.bool y_4)) []), (8, .dec false), (11, .call (.p (.bool y_7)) []), (13, .dec false)], .n 3, .r [(0, .obj (oL true 46 5 cCached dCached ([] : List TCached)))], .n 5, .k [1, 2, 3, 4, 9, 10]] (by kernel_rfl) (Obs.of (by kernel_rfl) (And.intro (le_nil 46 5 cCached dCached) (And.intro (erasureref30_Valid.spec e_2) (And.intro (nt g_3) (And.intro (erasureref06_Valid.spec e_5) (And.intro (nt g_6) (And.intro (erasureref30_ranged.spec e_8) (And.intro (nt g_9) (le_nil 46 5 cCached dCached))))))))) (erasureref30_Refill.p1.run k _ _ _ _ _ _ r h)
theorem erasureref30_Refill.p1.mono   : ∀ (k k' : Nat) (s1 : (List TCached)) (rows2 : (List TEntry)) (day3 : Int) (i10 : Int) (c4b : TCache) (out9 : (List TCached)) (r : (List TCached)), k ≤ k' → erasureref30_Refill.p1 k s1 rows2 day3 i10 c4b out9 = some r → erasureref30_Refill.p1 k' s1 rows2 day3 i10 c4b out9 = some r := by
  intro k
  induction k with
  | zero => intro k' s1 rows2 day3 i10 c4b out9 r hk h; simp [erasureref30_Refill.p1] at h
  | succ k ih =>
    intro k' s1 rows2 day3 i10 c4b out9 r hk h
    obtain ⟨k', rfl⟩ : ∃ m, k' = m + 1 := ⟨k' - 1, by omega⟩
    replace hk := Nat.le_of_succ_le_succ hk
    rw [erasureref30_Refill.p1] at h ⊢
    rcases ite_or h with ⟨g_10, h⟩ | ⟨g_10, h⟩
    · refine itp g_10 ?_
      obtain ⟨g_11, h⟩ := ite_some h
      refine itp g_11 ?_
      obtain ⟨y_12, e_13, h⟩ := bind_or h
      refine bnd (erasureref30_Select.mono _ _ _ _ _ _ hk e_13) ?_
      rcases ite_or h with ⟨g_14, h⟩ | ⟨g_14, h⟩
      · refine itp g_14 ?_
        obtain ⟨g_15, h⟩ := ite_some h
        refine itp g_15 ?_
        exact ih _ _ _ _ _ _ _ r hk h
      · refine itn g_14 ?_
        exact ih _ _ _ _ _ _ _ r hk h
    · refine itn g_10 ?_
      exact h
theorem erasureref30_Refill.mono   : ∀ (k k' : Nat) (c0 : TCache) (s1 : (List TCached)) (rows2 : (List TEntry)) (day3 : Int) (r : (List TCached)), k ≤ k' → erasureref30_Refill k c0 s1 rows2 day3 = some r → erasureref30_Refill k' c0 s1 rows2 day3 = some r := by
  intro k k' c0 s1 rows2 day3 r hk h
  unfold erasureref30_Refill at h ⊢
  obtain ⟨y_1, e_2, h⟩ := bind_or h
  refine bnd (erasureref30_Valid.mono _ _ _ _ hk e_2) ?_
  rcases ite_or h with ⟨g_3, h⟩ | ⟨g_3, h⟩
  · refine itp g_3 ?_
    exact h
  · refine itn g_3 ?_
    obtain ⟨y_4, e_5, h⟩ := bind_or h
    refine bnd (erasureref06_Valid.mono _ _ _ _ hk e_5) ?_
    rcases ite_or h with ⟨g_6, h⟩ | ⟨g_6, h⟩
    · refine itp g_6 ?_
      exact h
    · refine itn g_6 ?_
      obtain ⟨y_7, e_8, h⟩ := bind_or h
      refine bnd (erasureref30_ranged.mono _ _ _ _ _ hk e_8) ?_
      rcases ite_or h with ⟨g_9, h⟩ | ⟨g_9, h⟩
      · refine itp g_9 ?_
        exact h
      · refine itn g_9 ?_
        exact erasureref30_Refill.p1.mono _ _ _ _ _ _ _ _ r hk h
theorem erasureref30_Refill.spec {k : Nat} {c0 : TCache} {s1 : (List TCached)} {rows2 : (List TEntry)} {day3 : Int} {r : (List TCached)} (h : erasureref30_Refill k c0 s1 rows2 day3 = some r) : Spec Try.prog 22 [.agg ((cCache c0).map .p), .p (eL 5 cCached dCached s1), .p (eL 2 cEntry dEntry rows2), .p (.int .i64 day3)] (.sref 0 46 5 (r).length) [(oL true 46 5 cCached dCached (r))] :=
  spec_of mix Try.func22 (body := bodyOf Try.f22) (by kernel_rfl) (by kernel_rfl) (erasureref30_Refill.run h)
end Go.Proofs.YtjhnpaenhdbhpabV
set_option linter.unusedVariables false
set_option linter.unusedSimpArgs false
set_option maxRecDepth 100000
namespace Go.Proofs.YtjhnpaenhdbhpabV
open Go Go.RowKit
noncomputable def cache_Purge.p2  : Nat → (List TCached) → Int → (List (TValue × Bool)) → (List TCached) → Option (List TCached)
  | 0, _, _, _, _ => none
  | k + 1, s0, i8, gone5b, out7 => if (decide (i8 < ((s0).length : Int))) = true then (if 0 ≤ i8 ∧ i8 < ((s0).length : Int) then (if (!(getM gone5b ((s0.getD i8.toNat dCached).f0) false)) = true then ((cache_duplicate k (s0.getD i8.toNat dCached)).bind fun y_11 => (if (out7).length + ([y_11]).length ≤ maxLen ∧ ((out7).length + ([y_11]).length) * 64 ≤ 140737488355328 then (cache_Purge.p2 k s0 (IntKind.i64.wrap (i8 + 1)) gone5b (out7 ++ ([y_11]))) else none)) else (cache_Purge.p2 k s0 (IntKind.i64.wrap (i8 + 1)) gone5b out7)) else none) else (some out7)
noncomputable def cache_Purge.p1  : Nat → (List TCached) → (List TValue) → Int → (List (TValue × Bool)) → Option (List TCached)
  | 0, _, _, _, _ => none
  | k + 1, s0, values1, i6, gone5b => if (decide (i6 < ((values1).length : Int))) = true then (if 0 ≤ i6 ∧ i6 < ((values1).length : Int) then ((value_Clean k (values1.getD i6.toNat dValue)).bind fun y_6 => (cache_Purge.p1 k s0 values1 (IntKind.i64.wrap (i6 + 1)) (putM gone5b y_6 true))) else none) else (cache_Purge.p2 k s0 0 gone5b ([] : List TCached))
noncomputable def cache_Purge  (k : Nat) (s0 : (List TCached)) (values1 : (List TValue)) : Option (List TCached) := (cache_Valid k s0).bind fun y_1 => (if (!y_1) = true then (some ([] : List TCached)) else (cache_Purge.p1 k s0 values1 0 ([] : (List (TValue × Bool)))))
noncomputable def cache_Purge.t : List Item := [.code (bodyOf Try.f23)]
noncomputable def cache_Purge.s (s0 : (List TCached)) (values1 : (List TValue)) : St := ⟨frOf Try.f23.ntmps 0 [(0, .p (eL 5 cCached dCached s0)), (1, .p (eL 3 cValue dValue values1))], []⟩
noncomputable def cache_Purge.p1.t : List Item := nav 14 [false] cache_Purge.t
noncomputable def cache_Purge.p1.s (s0 : (List TCached)) (values1 : (List TValue)) (i6 : Int) (gone5b : (List (TValue × Bool))) : St := ⟨frOf Try.f23.ntmps 0 [(0, .p (eL 5 cCached dCached s0)), (1, .p (eL 3 cValue dValue values1)), (5, .mref 0 0), (6, .p (.int .i64 i6))], [.reg (.map (mE (pvT cValue) pvB gone5b))]⟩
noncomputable def cache_Purge.p2.t : List Item := nav 12 [false] cache_Purge.p1.t
noncomputable def cache_Purge.p2.s (s0 : (List TCached)) (i8 : Int) (gone5b : (List (TValue × Bool))) (out7 : (List TCached)) : St := ⟨frOf Try.f23.ntmps 0 [(0, .p (eL 5 cCached dCached s0)), (5, .mref 0 0), (7, .sref 1 46 5 (out7).length), (8, .p (.int .i64 i8))], [.reg (.map (mE (pvT cValue) pvB gone5b)), (oL true 46 5 cCached dCached out7)]⟩
theorem cache_Purge.p2.run   : ∀ (k : Nat) (s0 : (List TCached)) (i8 : Int) (gone5b : (List (TValue × Bool))) (out7 : (List TCached)) (r : (List TCached)), cache_Purge.p2 k s0 i8 gone5b out7 = some r → RunC Try.prog Try.f23 cache_Purge.p2.t (cache_Purge.p2.s s0 i8 gone5b out7) (.sref 0 46 5 (r).length) [(oL true 46 5 cCached dCached (r))] := by
  intro k
  induction k with
  | zero => intro s0 i8 gone5b out7 r h; simp [cache_Purge.p2] at h
  | succ k ih =>
    intro s0 i8 gone5b out7 r h
    rw [cache_Purge.p2] at h
    rcases ite_or h with ⟨g_8, h⟩ | ⟨g_8, h⟩
    · obtain ⟨g_9, h⟩ := ite_some h
      rcases ite_or h with ⟨g_10, h⟩ | ⟨g_10, h⟩
      · obtain ⟨y_11, e_12, h⟩ := bind_or h
        obtain ⟨g_13, h⟩ := ite_some h
        exact RunC.go [.n 2, .r [(3, .dec true)], .n 5, .r [(6, .fv (.p (.bool (getM gone5b ((s0.getD i8.toNat dCached).f0) false)))), (7, .dec true)], .n 1, .r [(5, .call (.agg ((cCached y_11).map .p)) []), (6, .obj (oL true 46 5 cCached dCached [y_11])), (7, .obj (oL true 46 5 cCached dCached (out7 ++ ([y_11]))))], .n 3, .k [0, 5, 7, 8]] (by kernel_rfl) (Obs.of (by kernel_rfl) (And.intro g_8 (And.intro g_9 (And.intro (le_get (P := Try.prog) (kt := 24) (q := pvB) inj_Value (fun _ => by kernel_rfl) ((s0.getD i8.toNat dCached).f0) false gone5b) (And.intro g_10 (And.intro g_9 (And.intro (cache_duplicate.spec e_12) (And.intro (le_one 46 5 cCached dCached y_11) (And.intro g_13 (le_app 46 5 cCached dCached out7 ([y_11]))))))))))) (ih _ _ _ _ r h)
      · exact RunC.go [.n 2, .r [(3, .dec true)], .n 5, .r [(6, .fv (.p (.bool (getM gone5b ((s0.getD i8.toNat dCached).f0) false)))), (7, .dec false)], .n 5, .k [0, 5, 7, 8]] (by kernel_rfl) (Obs.of (by kernel_rfl) (And.intro g_8 (And.intro g_9 (And.intro (le_get (P := Try.prog) (kt := 24) (q := pvB) inj_Value (fun _ => by kernel_rfl) ((s0.getD i8.toNat dCached).f0) false gone5b) (nt g_10))))) (ih _ _ _ _ r h)
    · obtain rfl := Option.some.inj h
      exact RunC.out [.n 2, .r [(3, .dec false)], .n 4] (by kernel_rfl) (Obs.of (by kernel_rfl) (nt g_8))
theorem cache_Purge.p1.run   : ∀ (k : Nat) (s0 : (List TCached)) (values1 : (List TValue)) (i6 : Int) (gone5b : (List (TValue × Bool))) (r : (List TCached)), cache_Purge.p1 k s0 values1 i6 gone5b = some r → RunC Try.prog Try.f23 cache_Purge.p1.t (cache_Purge.p1.s s0 values1 i6 gone5b) (.sref 0 46 5 (r).length) [(oL true 46 5 cCached dCached (r))] := by
  intro k
  induction k with
  | zero => intro s0 values1 i6 gone5b r h; simp [cache_Purge.p1] at h
  | succ k ih =>
    intro s0 values1 i6 gone5b r h
    rw [cache_Purge.p1] at h
    rcases ite_or h with ⟨g_4, h⟩ | ⟨g_4, h⟩
    · obtain ⟨g_5, h⟩ := ite_some h
      obtain ⟨y_6, e_7, h⟩ := bind_or h
      exact RunC.go [.n 2, .r [(3, .dec true)], .n 4, .r [(5, .call (.agg ((cValue y_6).map .p)) []), (6, .mp (mE (pvT cValue) pvB (putM gone5b y_6 true)))], .n 3, .k [0, 1, 5, 6]] (by kernel_rfl) (Obs.of (by kernel_rfl) (And.intro g_4 (And.intro g_5 (And.intro (value_Clean.spec e_7) (le_put (P := Try.prog) (kt := 24) (q := pvB) inj_Value (fun _ => by kernel_rfl) y_6 true gone5b))))) (ih _ _ _ _ r h)
    · exact RunC.go [.n 2, .r [(3, .dec false)], .n 3, .r [(0, .obj (oL true 46 5 cCached dCached ([] : List TCached)))], .n 5, .k [0, 5, 7, 8]] (by kernel_rfl) (Obs.of (by kernel_rfl) (And.intro (nt g_4) (le_nil 46 5 cCached dCached))) (cache_Purge.p2.run k _ _ _ _ r h)
theorem cache_Purge.run   {k : Nat} {s0 : (List TCached)} {values1 : (List TValue)} {r : (List TCached)} (h : cache_Purge k s0 values1 = some r) : RunC Try.prog Try.f23 cache_Purge.t (cache_Purge.s s0 values1) (.sref 0 46 5 (r).length) [(oL true 46 5 cCached dCached (r))] := by
  unfold cache_Purge at h
  obtain ⟨y_1, e_2, h⟩ := bind_or h
  rcases ite_or h with ⟨g_3, h⟩ | ⟨g_3, h⟩
  · obtain rfl := Option.some.inj h
    exact RunC.out [.n 1, .r [(0, .obj (oL true 46 5 cCached dCached ([] : List TCached)))], .n 2, .r [(1, .call (.p (.bool y_1)) []), (2, .dec true)], .n 2, .r [(0, .obj (oL true 46 5 cCached dCached ([] : List TCached)))]] (by kernel_rfl) (Obs.of (by kernel_rfl) (And.intro (le_nil 46 5 cCached dCached) (And.intro (cache_Valid.spec e_2) (And.intro g_3 (le_nil 46 5 cCached dCached)))))
  · exact RunC.go [.n 1, .r [(0, .obj (oL true 46 5 cCached dCached ([] : List TCached)))], .n 2, .r [(1, .call (.p (.bool y_1)) []), (2, .dec false)], .n 3, .r [(0, .mp (mE (pvT cValue) pvB ([] : (List (TValue × Bool)))))], .n 5, .k [0, 1, 5, 6]] (by kernel_rfl) (Obs.of (by kernel_rfl) (And.intro (le_nil 46 5 cCached dCached) (And.intro (cache_Valid.spec e_2) (And.intro (nt g_3) (le_mnil (pvT cValue) pvB))))) (cache_Purge.p1.run k _ _ _ _ r h)
theorem cache_Purge.p2.mono   : ∀ (k k' : Nat) (s0 : (List TCached)) (i8 : Int) (gone5b : (List (TValue × Bool))) (out7 : (List TCached)) (r : (List TCached)), k ≤ k' → cache_Purge.p2 k s0 i8 gone5b out7 = some r → cache_Purge.p2 k' s0 i8 gone5b out7 = some r := by
  intro k
  induction k with
  | zero => intro k' s0 i8 gone5b out7 r hk h; simp [cache_Purge.p2] at h
  | succ k ih =>
    intro k' s0 i8 gone5b out7 r hk h
    obtain ⟨k', rfl⟩ : ∃ m, k' = m + 1 := ⟨k' - 1, by omega⟩
    replace hk := Nat.le_of_succ_le_succ hk
    rw [cache_Purge.p2] at h ⊢
    rcases ite_or h with ⟨g_8, h⟩ | ⟨g_8, h⟩
    · refine itp g_8 ?_
      obtain ⟨g_9, h⟩ := ite_some h
      refine itp g_9 ?_
      rcases ite_or h with ⟨g_10, h⟩ | ⟨g_10, h⟩
      · refine itp g_10 ?_
        obtain ⟨y_11, e_12, h⟩ := bind_or h
        refine bnd (cache_duplicate.mono _ _ _ _ hk e_12) ?_
        obtain ⟨g_13, h⟩ := ite_some h
        refine itp g_13 ?_
        exact ih _ _ _ _ _ r hk h
      · refine itn g_10 ?_
        exact ih _ _ _ _ _ r hk h
    · refine itn g_8 ?_
      exact h
theorem cache_Purge.p1.mono   : ∀ (k k' : Nat) (s0 : (List TCached)) (values1 : (List TValue)) (i6 : Int) (gone5b : (List (TValue × Bool))) (r : (List TCached)), k ≤ k' → cache_Purge.p1 k s0 values1 i6 gone5b = some r → cache_Purge.p1 k' s0 values1 i6 gone5b = some r := by
  intro k
  induction k with
  | zero => intro k' s0 values1 i6 gone5b r hk h; simp [cache_Purge.p1] at h
  | succ k ih =>
    intro k' s0 values1 i6 gone5b r hk h
    obtain ⟨k', rfl⟩ : ∃ m, k' = m + 1 := ⟨k' - 1, by omega⟩
    replace hk := Nat.le_of_succ_le_succ hk
    rw [cache_Purge.p1] at h ⊢
    rcases ite_or h with ⟨g_4, h⟩ | ⟨g_4, h⟩
    · refine itp g_4 ?_
      obtain ⟨g_5, h⟩ := ite_some h
      refine itp g_5 ?_
      obtain ⟨y_6, e_7, h⟩ := bind_or h
      refine bnd (value_Clean.mono _ _ _ _ hk e_7) ?_
      exact ih _ _ _ _ _ r hk h
    · refine itn g_4 ?_
      exact cache_Purge.p2.mono _ _ _ _ _ _ r hk h
theorem cache_Purge.mono   : ∀ (k k' : Nat) (s0 : (List TCached)) (values1 : (List TValue)) (r : (List TCached)), k ≤ k' → cache_Purge k s0 values1 = some r → cache_Purge k' s0 values1 = some r := by
  intro k k' s0 values1 r hk h
  unfold cache_Purge at h ⊢
  obtain ⟨y_1, e_2, h⟩ := bind_or h
  refine bnd (cache_Valid.mono _ _ _ _ hk e_2) ?_
  rcases ite_or h with ⟨g_3, h⟩ | ⟨g_3, h⟩
  · refine itp g_3 ?_
    exact h
  · refine itn g_3 ?_
    exact cache_Purge.p1.mono _ _ _ _ _ _ r hk h
theorem cache_Purge.spec {k : Nat} {s0 : (List TCached)} {values1 : (List TValue)} {r : (List TCached)} (h : cache_Purge k s0 values1 = some r) : Spec Try.prog 23 [.p (eL 5 cCached dCached s0), .p (eL 3 cValue dValue values1)] (.sref 0 46 5 (r).length) [(oL true 46 5 cCached dCached (r))] :=
  spec_of mix Try.func23 (body := bodyOf Try.f23) (by kernel_rfl) (by kernel_rfl) (cache_Purge.run h)
end Go.Proofs.YtjhnpaenhdbhpabV
set_option linter.unusedVariables false
set_option linter.unusedSimpArgs false
set_option maxRecDepth 100000
namespace Go.Proofs.YtjhnpaenhdbhpabV
open Go Go.RowKit
noncomputable def erasureref30_Purge.p1  : Nat → (List TCached) → (List TValue) → Int → Option (List TCached)
  | 0, _, _, _ => none
  | k + 1, s0, values1, i5 => if (decide (i5 < ((values1).length : Int))) = true then (if 0 ≤ i5 ∧ i5 < ((values1).length : Int) then ((erasureref01_Clean k (values1.getD i5.toNat dValue)).bind fun y_6 => ((erasureref30_without k s0 y_6).bind fun y_8 => (erasureref30_Purge.p1 k y_8 values1 (IntKind.i64.wrap (i5 + 1))))) else none) else (some s0)
noncomputable def erasureref30_Purge  (k : Nat) (s0 : (List TCached)) (values1 : (List TValue)) : Option (List TCached) := (erasureref30_Valid k s0).bind fun y_1 => (if (!y_1) = true then (some ([] : List TCached)) else (erasureref30_Purge.p1 k s0 values1 0))
noncomputable def erasureref30_Purge.t : List Item := [.code (bodyOf Try.f24)]
noncomputable def erasureref30_Purge.s (s0 : (List TCached)) (values1 : (List TValue)) : St := ⟨frOf Try.f24.ntmps 0 [(0, .p (eL 5 cCached dCached s0)), (1, .p (eL 3 cValue dValue values1))], []⟩
noncomputable def erasureref30_Purge.p1.t : List Item := nav 12 [false] erasureref30_Purge.t
noncomputable def erasureref30_Purge.p1.s (s0 : (List TCached)) (values1 : (List TValue)) (i5 : Int) : St := ⟨frOf Try.f24.ntmps 0 [(0, .p (eL 5 cCached dCached s0)), (1, .p (eL 3 cValue dValue values1)), (5, .p (.int .i64 i5))], []⟩
theorem erasureref30_Purge.p1.run   : ∀ (k : Nat) (s0 : (List TCached)) (values1 : (List TValue)) (i5 : Int) (r : (List TCached)), erasureref30_Purge.p1 k s0 values1 i5 = some r → RunC Try.prog Try.f24 erasureref30_Purge.p1.t (erasureref30_Purge.p1.s s0 values1 i5) (.p ((eL 5 cCached dCached r))) [] := by
  intro k
  induction k with
  | zero => intro s0 values1 i5 r h; simp [erasureref30_Purge.p1] at h
  | succ k ih =>
    intro s0 values1 i5 r h
    rw [erasureref30_Purge.p1] at h
    rcases ite_or h with ⟨g_4, h⟩ | ⟨g_4, h⟩
    · obtain ⟨g_5, h⟩ := ite_some h
      obtain ⟨y_6, e_7, h⟩ := bind_or h
      obtain ⟨y_8, e_9, h⟩ := bind_or h
      exact RunC.go [.n 2, .r [(3, .dec true)], .n 4, .r [(5, .call (.agg ((cValue y_6).map .p)) []), (6, .call (.sref 0 46 5 (y_8).length) [(oL true 46 5 cCached dCached y_8)])], .n 3, .f 0, .k [0, 1, 5]] (by kernel_rfl) (Obs.of (by kernel_rfl) (And.intro g_4 (And.intro g_5 (And.intro (erasureref01_Clean.spec e_7) (erasureref30_without.spec e_9))))) (ih _ _ _ r h)
    · obtain rfl := Option.some.inj h
      exact RunC.out [.n 2, .r [(3, .dec false)], .n 4] (by kernel_rfl) (Obs.of (by kernel_rfl) (nt g_4))
theorem erasureref30_Purge.run   {k : Nat} {s0 : (List TCached)} {values1 : (List TValue)} {r : (List TCached)} (h : erasureref30_Purge k s0 values1 = some r) : RunC Try.prog Try.f24 erasureref30_Purge.t (erasureref30_Purge.s s0 values1) (.p ((eL 5 cCached dCached r))) [] := by
  unfold erasureref30_Purge at h
  obtain ⟨y_1, e_2, h⟩ := bind_or h
  rcases ite_or h with ⟨g_3, h⟩ | ⟨g_3, h⟩
  · obtain rfl := Option.some.inj h
    exact RunC.out [.n 1, .r [(0, .obj (oL true 46 5 cCached dCached ([] : List TCached)))], .n 2, .r [(1, .call (.p (.bool y_1)) []), (2, .dec true)], .n 2, .r [(0, .obj (oL true 46 5 cCached dCached ([] : List TCached)))], .f 4] (by kernel_rfl) (Obs.of (by kernel_rfl) (And.intro (le_nil 46 5 cCached dCached) (And.intro (erasureref30_Valid.spec e_2) (And.intro g_3 (le_nil 46 5 cCached dCached)))))
  · exact RunC.go [.n 1, .r [(0, .obj (oL true 46 5 cCached dCached ([] : List TCached)))], .n 2, .r [(1, .call (.p (.bool y_1)) []), (2, .dec false)], .n 7, .k [0, 1, 5]] (by kernel_rfl) (Obs.of (by kernel_rfl) (And.intro (le_nil 46 5 cCached dCached) (And.intro (erasureref30_Valid.spec e_2) (nt g_3)))) (erasureref30_Purge.p1.run k _ _ _ r h)
theorem erasureref30_Purge.p1.mono   : ∀ (k k' : Nat) (s0 : (List TCached)) (values1 : (List TValue)) (i5 : Int) (r : (List TCached)), k ≤ k' → erasureref30_Purge.p1 k s0 values1 i5 = some r → erasureref30_Purge.p1 k' s0 values1 i5 = some r := by
  intro k
  induction k with
  | zero => intro k' s0 values1 i5 r hk h; simp [erasureref30_Purge.p1] at h
  | succ k ih =>
    intro k' s0 values1 i5 r hk h
    obtain ⟨k', rfl⟩ : ∃ m, k' = m + 1 := ⟨k' - 1, by omega⟩
    replace hk := Nat.le_of_succ_le_succ hk
    rw [erasureref30_Purge.p1] at h ⊢
    rcases ite_or h with ⟨g_4, h⟩ | ⟨g_4, h⟩
    · refine itp g_4 ?_
      obtain ⟨g_5, h⟩ := ite_some h
      refine itp g_5 ?_
      obtain ⟨y_6, e_7, h⟩ := bind_or h
      refine bnd (erasureref01_Clean.mono _ _ _ _ hk e_7) ?_
      obtain ⟨y_8, e_9, h⟩ := bind_or h
      refine bnd (erasureref30_without.mono _ _ _ _ _ hk e_9) ?_
      exact ih _ _ _ _ r hk h
    · refine itn g_4 ?_
      exact h
theorem erasureref30_Purge.mono   : ∀ (k k' : Nat) (s0 : (List TCached)) (values1 : (List TValue)) (r : (List TCached)), k ≤ k' → erasureref30_Purge k s0 values1 = some r → erasureref30_Purge k' s0 values1 = some r := by
  intro k k' s0 values1 r hk h
  unfold erasureref30_Purge at h ⊢
  obtain ⟨y_1, e_2, h⟩ := bind_or h
  refine bnd (erasureref30_Valid.mono _ _ _ _ hk e_2) ?_
  rcases ite_or h with ⟨g_3, h⟩ | ⟨g_3, h⟩
  · refine itp g_3 ?_
    exact h
  · refine itn g_3 ?_
    exact erasureref30_Purge.p1.mono _ _ _ _ _ r hk h
theorem erasureref30_Purge.spec {k : Nat} {s0 : (List TCached)} {values1 : (List TValue)} {r : (List TCached)} (h : erasureref30_Purge k s0 values1 = some r) : Spec Try.prog 24 [.p (eL 5 cCached dCached s0), .p (eL 3 cValue dValue values1)] (.p ((eL 5 cCached dCached r))) [] :=
  spec_of mix Try.func24 (body := bodyOf Try.f24) (by kernel_rfl) (by kernel_rfl) (erasureref30_Purge.run h)
end Go.Proofs.YtjhnpaenhdbhpabV
set_option linter.unusedVariables false
set_option linter.unusedSimpArgs false
set_option maxRecDepth 100000
namespace Go.Proofs.YtjhnpaenhdbhpabV
open Go Go.RowKit
noncomputable def erasurelaw30_CachePlays.p2  : Nat → (List (List TEntry)) → (List TAct) → (List TCached) → (List TCached) → Int → TCache → Option Bool
  | 0, _, _, _, _, _, _ => none
  | k + 1, o1, A2, v8, v9, v10, r3b => if (decide (v10 < ((A2).length : Int))) = true then (if 0 ≤ v10 ∧ v10 < ((A2).length : Int) then (if (decide (((o1).length : Int) > 0)) = true then (if (IntKind.u64.wrap ((o1).length : Int)) ≠ 0 then (if 0 ≤ (IntKind.i64.wrap ((IntKind.u64.wrap (A2.getD v10.toNat dAct).f3).tmod (IntKind.u64.wrap ((o1).length : Int)))) ∧ (IntKind.i64.wrap ((IntKind.u64.wrap (A2.getD v10.toNat dAct).f3).tmod (IntKind.u64.wrap ((o1).length : Int)))) < ((o1).length : Int) then (if ((Go.bits .and .i64 ((A2.getD v10.toNat dAct).f0) 3) == 0) = true then ((cache_Lookup k r3b v8 (o1.getD (IntKind.i64.wrap ((IntKind.u64.wrap (A2.getD v10.toNat dAct).f3).tmod (IntKind.u64.wrap ((o1).length : Int)))).toNat ([] : List TEntry)) ((A2.getD v10.toNat dAct).f1) ((A2.getD v10.toNat dAct).f2)).bind fun y_20 => ((erasureref30_Lookup k r3b v9 (o1.getD (IntKind.i64.wrap ((IntKind.u64.wrap (A2.getD v10.toNat dAct).f3).tmod (IntKind.u64.wrap ((o1).length : Int)))).toNat ([] : List TEntry)) ((A2.getD v10.toNat dAct).f1) ((A2.getD v10.toNat dAct).f2)).bind fun y_22 => (if (y_20.2.2 != y_22.2.2) = true then (some false) else ((erasureref30_Same k y_20.1 y_22.1).bind fun y_25 => (if (!y_25) = true then (some false) else ((erasureref26_SameBag k y_20.2.1 y_22.2.1).bind fun y_28 => (if (!y_28) = true then (some false) else (if (y_20.2.2 == 0) = true then ((erasureref30_Same k y_20.1 y_22.1).bind fun y_32 => (if (!y_32) = true then (some false) else ((cache_Valid k y_20.1).bind fun y_35 => (if (!y_35) = true then (some false) else ((cache_Fresh k r3b y_20.1 (o1.getD (IntKind.i64.wrap ((IntKind.u64.wrap (A2.getD v10.toNat dAct).f3).tmod (IntKind.u64.wrap ((o1).length : Int)))).toNat ([] : List TEntry))).bind fun y_38 => ((erasureref30_Fresh k r3b y_22.1 (o1.getD (IntKind.i64.wrap ((IntKind.u64.wrap (A2.getD v10.toNat dAct).f3).tmod (IntKind.u64.wrap ((o1).length : Int)))).toNat ([] : List TEntry))).bind fun y_40 => (if (!(y_38 == y_40)) = true then (some false) else (erasurelaw30_CachePlays.p2 k o1 A2 y_20.1 y_22.1 (IntKind.i64.wrap (v10 + 1)) r3b)))))))) else ((erasureref30_Same k v8 v9).bind fun y_43 => (if (!y_43) = true then (some false) else ((cache_Valid k v8).bind fun y_46 => (if (!y_46) = true then (some false) else ((cache_Fresh k r3b v8 (o1.getD (IntKind.i64.wrap ((IntKind.u64.wrap (A2.getD v10.toNat dAct).f3).tmod (IntKind.u64.wrap ((o1).length : Int)))).toNat ([] : List TEntry))).bind fun y_49 => ((erasureref30_Fresh k r3b v9 (o1.getD (IntKind.i64.wrap ((IntKind.u64.wrap (A2.getD v10.toNat dAct).f3).tmod (IntKind.u64.wrap ((o1).length : Int)))).toNat ([] : List TEntry))).bind fun y_51 => (if (!(y_49 == y_51)) = true then (some false) else (erasurelaw30_CachePlays.p2 k o1 A2 v8 v9 (IntKind.i64.wrap (v10 + 1)) r3b)))))))))))))))) else (if ((Go.bits .and .i64 ((A2.getD v10.toNat dAct).f0) 3) == 1) = true then ((cache_Refill k r3b v8 (o1.getD (IntKind.i64.wrap ((IntKind.u64.wrap (A2.getD v10.toNat dAct).f3).tmod (IntKind.u64.wrap ((o1).length : Int)))).toNat ([] : List TEntry)) ((A2.getD v10.toNat dAct).f2)).bind fun y_55 => ((erasureref30_Refill k r3b v9 (o1.getD (IntKind.i64.wrap ((IntKind.u64.wrap (A2.getD v10.toNat dAct).f3).tmod (IntKind.u64.wrap ((o1).length : Int)))).toNat ([] : List TEntry)) ((A2.getD v10.toNat dAct).f2)).bind fun y_57 => ((erasureref30_Same k y_55 y_57).bind fun y_59 => (if (!y_59) = true then (some false) else ((cache_Valid k y_55).bind fun y_62 => (if (!y_62) = true then (some false) else ((cache_Fresh k r3b y_55 (o1.getD (IntKind.i64.wrap ((IntKind.u64.wrap (A2.getD v10.toNat dAct).f3).tmod (IntKind.u64.wrap ((o1).length : Int)))).toNat ([] : List TEntry))).bind fun y_65 => ((erasureref30_Fresh k r3b y_57 (o1.getD (IntKind.i64.wrap ((IntKind.u64.wrap (A2.getD v10.toNat dAct).f3).tmod (IntKind.u64.wrap ((o1).length : Int)))).toNat ([] : List TEntry))).bind fun y_67 => (if (!(y_65 == y_67)) = true then (some false) else (erasurelaw30_CachePlays.p2 k o1 A2 y_55 y_57 (IntKind.i64.wrap (v10 + 1)) r3b)))))))))) else (if ((Go.bits .and .i64 ((A2.getD v10.toNat dAct).f0) 3) == 2) = true then ((cache_Purge k v8 ([(A2.getD v10.toNat dAct).f1])).bind fun y_71 => ((erasureref30_Purge k v9 ([(A2.getD v10.toNat dAct).f1])).bind fun y_73 => ((erasureref30_Same k y_71 y_73).bind fun y_75 => (if (!y_75) = true then (some false) else ((cache_Valid k y_71).bind fun y_78 => (if (!y_78) = true then (some false) else ((cache_Fresh k r3b y_71 (o1.getD (IntKind.i64.wrap ((IntKind.u64.wrap (A2.getD v10.toNat dAct).f3).tmod (IntKind.u64.wrap ((o1).length : Int)))).toNat ([] : List TEntry))).bind fun y_81 => ((erasureref30_Fresh k r3b y_73 (o1.getD (IntKind.i64.wrap ((IntKind.u64.wrap (A2.getD v10.toNat dAct).f3).tmod (IntKind.u64.wrap ((o1).length : Int)))).toNat ([] : List TEntry))).bind fun y_83 => (if (!(y_81 == y_83)) = true then (some false) else (erasurelaw30_CachePlays.p2 k o1 A2 y_71 y_73 (IntKind.i64.wrap (v10 + 1)) r3b)))))))))) else (if ((Go.bits .and .i64 ((A2.getD v10.toNat dAct).f0) 3) == 3) = true then ((cache_Expire k r3b v8 ((A2.getD v10.toNat dAct).f2)).bind fun y_87 => ((erasureref30_Expire k r3b v9 ((A2.getD v10.toNat dAct).f2)).bind fun y_89 => ((erasureref30_Same k y_87 y_89).bind fun y_91 => (if (!y_91) = true then (some false) else ((cache_Valid k y_87).bind fun y_94 => (if (!y_94) = true then (some false) else ((cache_Fresh k r3b y_87 (o1.getD (IntKind.i64.wrap ((IntKind.u64.wrap (A2.getD v10.toNat dAct).f3).tmod (IntKind.u64.wrap ((o1).length : Int)))).toNat ([] : List TEntry))).bind fun y_97 => ((erasureref30_Fresh k r3b y_89 (o1.getD (IntKind.i64.wrap ((IntKind.u64.wrap (A2.getD v10.toNat dAct).f3).tmod (IntKind.u64.wrap ((o1).length : Int)))).toNat ([] : List TEntry))).bind fun y_99 => (if (!(y_97 == y_99)) = true then (some false) else (erasurelaw30_CachePlays.p2 k o1 A2 y_87 y_89 (IntKind.i64.wrap (v10 + 1)) r3b)))))))))) else ((erasureref30_Same k v8 v9).bind fun y_102 => (if (!y_102) = true then (some false) else ((cache_Valid k v8).bind fun y_105 => (if (!y_105) = true then (some false) else ((cache_Fresh k r3b v8 (o1.getD (IntKind.i64.wrap ((IntKind.u64.wrap (A2.getD v10.toNat dAct).f3).tmod (IntKind.u64.wrap ((o1).length : Int)))).toNat ([] : List TEntry))).bind fun y_108 => ((erasureref30_Fresh k r3b v9 (o1.getD (IntKind.i64.wrap ((IntKind.u64.wrap (A2.getD v10.toNat dAct).f3).tmod (IntKind.u64.wrap ((o1).length : Int)))).toNat ([] : List TEntry))).bind fun y_110 => (if (!(y_108 == y_110)) = true then (some false) else (erasurelaw30_CachePlays.p2 k o1 A2 v8 v9 (IntKind.i64.wrap (v10 + 1)) r3b)))))))))))) else none) else none) else (if ((Go.bits .and .i64 ((A2.getD v10.toNat dAct).f0) 3) == 0) = true then ((cache_Lookup k r3b v8 ([] : List TEntry) ((A2.getD v10.toNat dAct).f1) ((A2.getD v10.toNat dAct).f2)).bind fun y_114 => ((erasureref30_Lookup k r3b v9 ([] : List TEntry) ((A2.getD v10.toNat dAct).f1) ((A2.getD v10.toNat dAct).f2)).bind fun y_116 => (if (y_114.2.2 != y_116.2.2) = true then (some false) else ((erasureref30_Same k y_114.1 y_116.1).bind fun y_119 => (if (!y_119) = true then (some false) else ((erasureref26_SameBag k y_114.2.1 y_116.2.1).bind fun y_122 => (if (!y_122) = true then (some false) else (if (y_114.2.2 == 0) = true then ((erasureref30_Same k y_114.1 y_116.1).bind fun y_126 => (if (!y_126) = true then (some false) else ((cache_Valid k y_114.1).bind fun y_129 => (if (!y_129) = true then (some false) else ((cache_Fresh k r3b y_114.1 ([] : List TEntry)).bind fun y_132 => ((erasureref30_Fresh k r3b y_116.1 ([] : List TEntry)).bind fun y_134 => (if (!(y_132 == y_134)) = true then (some false) else (erasurelaw30_CachePlays.p2 k o1 A2 y_114.1 y_116.1 (IntKind.i64.wrap (v10 + 1)) r3b)))))))) else ((erasureref30_Same k v8 v9).bind fun y_137 => (if (!y_137) = true then (some false) else ((cache_Valid k v8).bind fun y_140 => (if (!y_140) = true then (some false) else ((cache_Fresh k r3b v8 ([] : List TEntry)).bind fun y_143 => ((erasureref30_Fresh k r3b v9 ([] : List TEntry)).bind fun y_145 => (if (!(y_143 == y_145)) = true then (some false) else (erasurelaw30_CachePlays.p2 k o1 A2 v8 v9 (IntKind.i64.wrap (v10 + 1)) r3b)))))))))))))))) else (if ((Go.bits .and .i64 ((A2.getD v10.toNat dAct).f0) 3) == 1) = true then ((cache_Refill k r3b v8 ([] : List TEntry) ((A2.getD v10.toNat dAct).f2)).bind fun y_149 => ((erasureref30_Refill k r3b v9 ([] : List TEntry) ((A2.getD v10.toNat dAct).f2)).bind fun y_151 => ((erasureref30_Same k y_149 y_151).bind fun y_153 => (if (!y_153) = true then (some false) else ((cache_Valid k y_149).bind fun y_156 => (if (!y_156) = true then (some false) else ((cache_Fresh k r3b y_149 ([] : List TEntry)).bind fun y_159 => ((erasureref30_Fresh k r3b y_151 ([] : List TEntry)).bind fun y_161 => (if (!(y_159 == y_161)) = true then (some false) else (erasurelaw30_CachePlays.p2 k o1 A2 y_149 y_151 (IntKind.i64.wrap (v10 + 1)) r3b)))))))))) else (if ((Go.bits .and .i64 ((A2.getD v10.toNat dAct).f0) 3) == 2) = true then ((cache_Purge k v8 ([(A2.getD v10.toNat dAct).f1])).bind fun y_165 => ((erasureref30_Purge k v9 ([(A2.getD v10.toNat dAct).f1])).bind fun y_167 => ((erasureref30_Same k y_165 y_167).bind fun y_169 => (if (!y_169) = true then (some false) else ((cache_Valid k y_165).bind fun y_172 => (if (!y_172) = true then (some false) else ((cache_Fresh k r3b y_165 ([] : List TEntry)).bind fun y_175 => ((erasureref30_Fresh k r3b y_167 ([] : List TEntry)).bind fun y_177 => (if (!(y_175 == y_177)) = true then (some false) else (erasurelaw30_CachePlays.p2 k o1 A2 y_165 y_167 (IntKind.i64.wrap (v10 + 1)) r3b)))))))))) else (if ((Go.bits .and .i64 ((A2.getD v10.toNat dAct).f0) 3) == 3) = true then ((cache_Expire k r3b v8 ((A2.getD v10.toNat dAct).f2)).bind fun y_181 => ((erasureref30_Expire k r3b v9 ((A2.getD v10.toNat dAct).f2)).bind fun y_183 => ((erasureref30_Same k y_181 y_183).bind fun y_185 => (if (!y_185) = true then (some false) else ((cache_Valid k y_181).bind fun y_188 => (if (!y_188) = true then (some false) else ((cache_Fresh k r3b y_181 ([] : List TEntry)).bind fun y_191 => ((erasureref30_Fresh k r3b y_183 ([] : List TEntry)).bind fun y_193 => (if (!(y_191 == y_193)) = true then (some false) else (erasurelaw30_CachePlays.p2 k o1 A2 y_181 y_183 (IntKind.i64.wrap (v10 + 1)) r3b)))))))))) else ((erasureref30_Same k v8 v9).bind fun y_196 => (if (!y_196) = true then (some false) else ((cache_Valid k v8).bind fun y_199 => (if (!y_199) = true then (some false) else ((cache_Fresh k r3b v8 ([] : List TEntry)).bind fun y_202 => ((erasureref30_Fresh k r3b v9 ([] : List TEntry)).bind fun y_204 => (if (!(y_202 == y_204)) = true then (some false) else (erasurelaw30_CachePlays.p2 k o1 A2 v8 v9 (IntKind.i64.wrap (v10 + 1)) r3b))))))))))))) else none) else ((erasurelaw30_awake k ).bind fun y_207 => (some y_207))
noncomputable def erasurelaw30_CachePlays.p1  : Nat → (List (List TEntry)) → (List TAct) → Int → TCache → Option Bool
  | 0, _, _, _, _ => none
  | k + 1, o1, A2, v7, r3b => if (decide (v7 < ((o1).length : Int))) = true then (if 0 ≤ v7 ∧ v7 < ((o1).length : Int) then ((erasurelaw30_short k (o1.getD v7.toNat ([] : List TEntry))).bind fun y_9 => (if (!y_9) = true then ((erasurelaw30_awake k ).bind fun y_12 => (some y_12)) else (erasurelaw30_CachePlays.p1 k o1 A2 (IntKind.i64.wrap (v7 + 1)) r3b))) else none) else (erasurelaw30_CachePlays.p2 k o1 A2 ([] : List TCached) ([] : List TCached) 0 r3b)
noncomputable def erasurelaw30_CachePlays  (k : Nat) (t0 : TCache) (o1 : (List (List TEntry))) (A2 : (List TAct)) : Option Bool := if (decide (((A2).length : Int) > 24)) = true then ((erasurelaw30_awake k ).bind fun y_2 => (some y_2)) else (if (decide (((o1).length : Int) > 4)) = true then ((erasurelaw30_awake k ).bind fun y_5 => (some y_5)) else (erasurelaw30_CachePlays.p1 k o1 A2 0 t0))
noncomputable def erasurelaw30_CachePlays.t : List Item := [.code (bodyOf Try.f6)]
noncomputable def erasurelaw30_CachePlays.s (t0 : TCache) (o1 : (List (List TEntry))) (A2 : (List TAct)) : St := ⟨frOf Try.f6.ntmps 0 [(0, .agg ((cCache t0).map .p)), (1, .p (eL 1 (cL 2 cEntry dEntry) ([] : List TEntry) o1)), (2, .p (eL 6 cAct dAct A2))], []⟩
noncomputable def erasurelaw30_CachePlays.p1.t : List Item := nav 12 [false] erasurelaw30_CachePlays.t
noncomputable def erasurelaw30_CachePlays.p1.s (o1 : (List (List TEntry))) (A2 : (List TAct)) (v7 : Int) (r3b : TCache) : St := ⟨frOf Try.f6.ntmps 0 [(1, .p (eL 1 (cL 2 cEntry dEntry) ([] : List TEntry) o1)), (2, .p (eL 6 cAct dAct A2)), (3, .ptr 0 0 0), (7, .p (.int .i64 v7))], [.box ((cCache r3b).map .p)]⟩
noncomputable def erasurelaw30_CachePlays.p2.t : List Item := nav 12 [false] erasurelaw30_CachePlays.p1.t
noncomputable def erasurelaw30_CachePlays.p2.s (o1 : (List (List TEntry))) (A2 : (List TAct)) (v8 : (List TCached)) (v9 : (List TCached)) (v10 : Int) (r3b : TCache) : St := ⟨frOf Try.f6.ntmps 0 [(1, .p (eL 1 (cL 2 cEntry dEntry) ([] : List TEntry) o1)), (2, .p (eL 6 cAct dAct A2)), (3, .ptr 0 0 0), (8, .p (eL 5 cCached dCached v8)), (9, .p (eL 5 cCached dCached v9)), (10, .p (.int .i64 v10))], [.box ((cCache r3b).map .p)]⟩
theorem erasurelaw30_CachePlays.p2.run   : ∀ (k : Nat) (o1 : (List (List TEntry))) (A2 : (List TAct)) (v8 : (List TCached)) (v9 : (List TCached)) (v10 : Int) (r3b : TCache) (r : Bool), erasurelaw30_CachePlays.p2 k o1 A2 v8 v9 v10 r3b = some r → RunC Try.prog Try.f6 erasurelaw30_CachePlays.p2.t (erasurelaw30_CachePlays.p2.s o1 A2 v8 v9 v10 r3b) (.p (.bool r)) [] := by
  intro k
  induction k with
  | zero => intro o1 A2 v8 v9 v10 r3b r h; simp [erasurelaw30_CachePlays.p2] at h
  | succ k ih =>
    intro o1 A2 v8 v9 v10 r3b r h
    rw [erasurelaw30_CachePlays.p2] at h
    rcases ite_or h with ⟨g_14, h⟩ | ⟨g_14, h⟩
    · obtain ⟨g_15, h⟩ := ite_some h
      rcases ite_or h with ⟨g_16, h⟩ | ⟨g_16, h⟩
      · obtain ⟨g_17, h⟩ := ite_some h
        obtain ⟨g_18, h⟩ := ite_some h
        rcases ite_or h with ⟨g_19, h⟩ | ⟨g_19, h⟩
        · obtain ⟨y_20, e_21, h⟩ := bind_or h
          obtain ⟨y_22, e_23, h⟩ := bind_or h
          rcases ite_or h with ⟨g_24, h⟩ | ⟨g_24, h⟩
          · obtain rfl := Option.some.inj h
            exact RunC.out [.n 2, .r [(3, .dec true)], .n 7, .r [(0, .obj (oL true 36 2 cEntry dEntry ([] : List TEntry)))], .n 2, .r [(2, .dec true)], .n 7, .r [(1, .dec true)], .n 2, .r [(7, .call (.tup [.sref 0 46 5 (y_20.1).length, .sref 1 36 2 (y_20.2.1).length, .p (.int .i64 y_20.2.2)]) [(oL true 46 5 cCached dCached y_20.1), (oL true 36 2 cEntry dEntry y_20.2.1)])], .n 1, .r [(7, .call (.tup [.sref 0 46 5 (y_22.1).length, .p (eL 2 cEntry dEntry y_22.2.1), .p (.int .i64 y_22.2.2)]) [(oL true 46 5 cCached dCached y_22.1)])], .n 2, .r [(3, .dec true)], .n 3] (by kernel_rfl) (Obs.of (by kernel_rfl) (And.intro g_14 (And.intro g_15 (And.intro (le_nil 36 2 cEntry dEntry) (And.intro g_16 (And.intro g_17 (And.intro g_18 (And.intro g_19 (And.intro (cache_Lookup.spec e_21) (And.intro (erasureref30_Lookup.spec e_23) g_24))))))))))
          · obtain ⟨y_25, e_26, h⟩ := bind_or h
            rcases ite_or h with ⟨g_27, h⟩ | ⟨g_27, h⟩
            · obtain rfl := Option.some.inj h
              exact RunC.out [.n 2, .r [(3, .dec true)], .n 7, .r [(0, .obj (oL true 36 2 cEntry dEntry ([] : List TEntry)))], .n 2, .r [(2, .dec true)], .n 7, .r [(1, .dec true)], .n 2, .r [(7, .call (.tup [.sref 0 46 5 (y_20.1).length, .sref 1 36 2 (y_20.2.1).length, .p (.int .i64 y_20.2.2)]) [(oL true 46 5 cCached dCached y_20.1), (oL true 36 2 cEntry dEntry y_20.2.1)])], .n 1, .r [(7, .call (.tup [.sref 0 46 5 (y_22.1).length, .p (eL 2 cEntry dEntry y_22.2.1), .p (.int .i64 y_22.2.2)]) [(oL true 46 5 cCached dCached y_22.1)])], .n 2, .r [(3, .dec false), (6, .call (.p (.bool y_25)) []), (9, .dec true)], .n 3] (by kernel_rfl) (Obs.of (by kernel_rfl) (And.intro g_14 (And.intro g_15 (And.intro (le_nil 36 2 cEntry dEntry) (And.intro g_16 (And.intro g_17 (And.intro g_18 (And.intro g_19 (And.intro (cache_Lookup.spec e_21) (And.intro (erasureref30_Lookup.spec e_23) (And.intro (nt g_24) (And.intro (erasureref30_Same.spec e_26) g_27))))))))))))
            · obtain ⟨y_28, e_29, h⟩ := bind_or h
              rcases ite_or h with ⟨g_30, h⟩ | ⟨g_30, h⟩
              · obtain rfl := Option.some.inj h
                exact RunC.out [.n 2, .r [(3, .dec true)], .n 7, .r [(0, .obj (oL true 36 2 cEntry dEntry ([] : List TEntry)))], .n 2, .r [(2, .dec true)], .n 7, .r [(1, .dec true)], .n 2, .r [(7, .call (.tup [.sref 0 46 5 (y_20.1).length, .sref 1 36 2 (y_20.2.1).length, .p (.int .i64 y_20.2.2)]) [(oL true 46 5 cCached dCached y_20.1), (oL true 36 2 cEntry dEntry y_20.2.1)])], .n 1, .r [(7, .call (.tup [.sref 0 46 5 (y_22.1).length, .p (eL 2 cEntry dEntry y_22.2.1), .p (.int .i64 y_22.2.2)]) [(oL true 46 5 cCached dCached y_22.1)])], .n 2, .r [(3, .dec false), (6, .call (.p (.bool y_25)) []), (9, .dec false), (12, .call (.p (.bool y_28)) []), (14, .dec true)], .n 3] (by kernel_rfl) (Obs.of (by kernel_rfl) (And.intro g_14 (And.intro g_15 (And.intro (le_nil 36 2 cEntry dEntry) (And.intro g_16 (And.intro g_17 (And.intro g_18 (And.intro g_19 (And.intro (cache_Lookup.spec e_21) (And.intro (erasureref30_Lookup.spec e_23) (And.intro (nt g_24) (And.intro (erasureref30_Same.spec e_26) (And.intro (nt g_27) (And.intro (erasureref26_SameBag.spec e_29) g_30))))))))))))))
              · rcases ite_or h with ⟨g_31, h⟩ | ⟨g_31, h⟩
                · obtain ⟨y_32, e_33, h⟩ := bind_or h
                  rcases ite_or h with ⟨g_34, h⟩ | ⟨g_34, h⟩
                  · obtain rfl := Option.some.inj h
                    exact RunC.out [.n 2, .r [(3, .dec true)], .n 7, .r [(0, .obj (oL true 36 2 cEntry dEntry ([] : List TEntry)))], .n 2, .r [(2, .dec true)], .n 7, .r [(1, .dec true)], .n 2, .r [(7, .call (.tup [.sref 0 46 5 (y_20.1).length, .sref 1 36 2 (y_20.2.1).length, .p (.int .i64 y_20.2.2)]) [(oL true 46 5 cCached dCached y_20.1), (oL true 36 2 cEntry dEntry y_20.2.1)])], .n 1, .r [(7, .call (.tup [.sref 0 46 5 (y_22.1).length, .p (eL 2 cEntry dEntry y_22.2.1), .p (.int .i64 y_22.2.2)]) [(oL true 46 5 cCached dCached y_22.1)])], .n 2, .r [(3, .dec false), (6, .call (.p (.bool y_25)) []), (9, .dec false), (12, .call (.p (.bool y_28)) []), (14, .dec false)], .n 3, .r [(1, .dec true)], .n 4, .r [(2, .call (.p (.bool y_32)) []), (4, .dec true)], .n 3] (by kernel_rfl) (Obs.of (by kernel_rfl) (And.intro g_14 (And.intro g_15 (And.intro (le_nil 36 2 cEntry dEntry) (And.intro g_16 (And.intro g_17 (And.intro g_18 (And.intro g_19 (And.intro (cache_Lookup.spec e_21) (And.intro (erasureref30_Lookup.spec e_23) (And.intro (nt g_24) (And.intro (erasureref30_Same.spec e_26) (And.intro (nt g_27) (And.intro (erasureref26_SameBag.spec e_29) (And.intro (nt g_30) (And.intro g_31 (And.intro (erasureref30_Same.spec e_33) g_34)))))))))))))))))
                  · obtain ⟨y_35, e_36, h⟩ := bind_or h
                    rcases ite_or h with ⟨g_37, h⟩ | ⟨g_37, h⟩
                    · obtain rfl := Option.some.inj h
                      exact RunC.out [.n 2, .r [(3, .dec true)], .n 7, .r [(0, .obj (oL true 36 2 cEntry dEntry ([] : List TEntry)))], .n 2, .r [(2, .dec true)], .n 7, .r [(1, .dec true)], .n 2, .r [(7, .call (.tup [.sref 0 46 5 (y_20.1).length, .sref 1 36 2 (y_20.2.1).length, .p (.int .i64 y_20.2.2)]) [(oL true 46 5 cCached dCached y_20.1), (oL true 36 2 cEntry dEntry y_20.2.1)])], .n 1, .r [(7, .call (.tup [.sref 0 46 5 (y_22.1).length, .p (eL 2 cEntry dEntry y_22.2.1), .p (.int .i64 y_22.2.2)]) [(oL true 46 5 cCached dCached y_22.1)])], .n 2, .r [(3, .dec false), (6, .call (.p (.bool y_25)) []), (9, .dec false), (12, .call (.p (.bool y_28)) []), (14, .dec false)], .n 3, .r [(1, .dec true)], .n 4, .r [(2, .call (.p (.bool y_32)) []), (4, .dec false), (6, .call (.p (.bool y_35)) []), (9, .dec true)], .n 3] (by kernel_rfl) (Obs.of (by kernel_rfl) (And.intro g_14 (And.intro g_15 (And.intro (le_nil 36 2 cEntry dEntry) (And.intro g_16 (And.intro g_17 (And.intro g_18 (And.intro g_19 (And.intro (cache_Lookup.spec e_21) (And.intro (erasureref30_Lookup.spec e_23) (And.intro (nt g_24) (And.intro (erasureref30_Same.spec e_26) (And.intro (nt g_27) (And.intro (erasureref26_SameBag.spec e_29) (And.intro (nt g_30) (And.intro g_31 (And.intro (erasureref30_Same.spec e_33) (And.intro (nt g_34) (And.intro (cache_Valid.spec e_36) g_37)))))))))))))))))))
                    · obtain ⟨y_38, e_39, h⟩ := bind_or h
                      obtain ⟨y_40, e_41, h⟩ := bind_or h
                      rcases ite_or h with ⟨g_42, h⟩ | ⟨g_42, h⟩
                      · obtain rfl := Option.some.inj h
                        exact RunC.out [.n 2, .r [(3, .dec true)], .n 7, .r [(0, .obj (oL true 36 2 cEntry dEntry ([] : List TEntry)))], .n 2, .r [(2, .dec true)], .n 7, .r [(1, .dec true)], .n 2, .r [(7, .call (.tup [.sref 0 46 5 (y_20.1).length, .sref 1 36 2 (y_20.2.1).length, .p (.int .i64 y_20.2.2)]) [(oL true 46 5 cCached dCached y_20.1), (oL true 36 2 cEntry dEntry y_20.2.1)])], .n 1, .r [(7, .call (.tup [.sref 0 46 5 (y_22.1).length, .p (eL 2 cEntry dEntry y_22.2.1), .p (.int .i64 y_22.2.2)]) [(oL true 46 5 cCached dCached y_22.1)])], .n 2, .r [(3, .dec false), (6, .call (.p (.bool y_25)) []), (9, .dec false), (12, .call (.p (.bool y_28)) []), (14, .dec false)], .n 3, .r [(1, .dec true)], .n 4, .r [(2, .call (.p (.bool y_32)) []), (4, .dec false), (6, .call (.p (.bool y_35)) []), (9, .dec false), (13, .call (.p (.bool y_38)) []), (17, .call (.p (.bool y_40)) []), (19, .dec true)], .n 3] (by kernel_rfl) (Obs.of (by kernel_rfl) (And.intro g_14 (And.intro g_15 (And.intro (le_nil 36 2 cEntry dEntry) (And.intro g_16 (And.intro g_17 (And.intro g_18 (And.intro g_19 (And.intro (cache_Lookup.spec e_21) (And.intro (erasureref30_Lookup.spec e_23) (And.intro (nt g_24) (And.intro (erasureref30_Same.spec e_26) (And.intro (nt g_27) (And.intro (erasureref26_SameBag.spec e_29) (And.intro (nt g_30) (And.intro g_31 (And.intro (erasureref30_Same.spec e_33) (And.intro (nt g_34) (And.intro (cache_Valid.spec e_36) (And.intro (nt g_37) (And.intro (cache_Fresh.spec e_39) (And.intro (erasureref30_Fresh.spec e_41) g_42))))))))))))))))))))))
                      · exact RunC.go [.n 2, .r [(3, .dec true)], .n 7, .r [(0, .obj (oL true 36 2 cEntry dEntry ([] : List TEntry)))], .n 2, .r [(2, .dec true)], .n 7, .r [(1, .dec true)], .n 2, .r [(7, .call (.tup [.sref 0 46 5 (y_20.1).length, .sref 1 36 2 (y_20.2.1).length, .p (.int .i64 y_20.2.2)]) [(oL true 46 5 cCached dCached y_20.1), (oL true 36 2 cEntry dEntry y_20.2.1)])], .n 1, .r [(7, .call (.tup [.sref 0 46 5 (y_22.1).length, .p (eL 2 cEntry dEntry y_22.2.1), .p (.int .i64 y_22.2.2)]) [(oL true 46 5 cCached dCached y_22.1)])], .n 2, .r [(3, .dec false), (6, .call (.p (.bool y_25)) []), (9, .dec false), (12, .call (.p (.bool y_28)) []), (14, .dec false)], .n 3, .r [(1, .dec true)], .n 4, .r [(2, .call (.p (.bool y_32)) []), (4, .dec false), (6, .call (.p (.bool y_35)) []), (9, .dec false), (13, .call (.p (.bool y_38)) []), (17, .call (.p (.bool y_40)) []), (19, .dec false)], .n 5, .f 8, .f 9, .k [1, 2, 3, 8, 9, 10]] (by kernel_rfl) (Obs.of (by kernel_rfl) (And.intro g_14 (And.intro g_15 (And.intro (le_nil 36 2 cEntry dEntry) (And.intro g_16 (And.intro g_17 (And.intro g_18 (And.intro g_19 (And.intro (cache_Lookup.spec e_21) (And.intro (erasureref30_Lookup.spec e_23) (And.intro (nt g_24) (And.intro (erasureref30_Same.spec e_26) (And.intro (nt g_27) (And.intro (erasureref26_SameBag.spec e_29) (And.intro (nt g_30) (And.intro g_31 (And.intro (erasureref30_Same.spec e_33) (And.intro (nt g_34) (And.intro (cache_Valid.spec e_36) (And.intro (nt g_37) (And.intro (cache_Fresh.spec e_39) (And.intro (erasureref30_Fresh.spec e_41) (nt g_42))))))))))))))))))))))) (ih _ _ _ _ _ _ r h)
                · obtain ⟨y_43, e_44, h⟩ := bind_or h
                  rcases ite_or h with ⟨g_45, h⟩ | ⟨g_45, h⟩
                  · obtain rfl := Option.some.inj h
                    exact RunC.out [.n 2, .r [(3, .dec true)], .n 7, .r [(0, .obj (oL true 36 2 cEntry dEntry ([] : List TEntry)))], .n 2, .r [(2, .dec true)], .n 7, .r [(1, .dec true)], .n 2, .r [(7, .call (.tup [.sref 0 46 5 (y_20.1).length, .sref 1 36 2 (y_20.2.1).length, .p (.int .i64 y_20.2.2)]) [(oL true 46 5 cCached dCached y_20.1), (oL true 36 2 cEntry dEntry y_20.2.1)])], .n 1, .r [(7, .call (.tup [.sref 0 46 5 (y_22.1).length, .p (eL 2 cEntry dEntry y_22.2.1), .p (.int .i64 y_22.2.2)]) [(oL true 46 5 cCached dCached y_22.1)])], .n 2, .r [(3, .dec false), (6, .call (.p (.bool y_25)) []), (9, .dec false), (12, .call (.p (.bool y_28)) []), (14, .dec false)], .n 3, .r [(1, .dec false)], .n 4, .r [(2, .call (.p (.bool y_43)) []), (4, .dec true)], .n 3] (by kernel_rfl) (Obs.of (by kernel_rfl) (And.intro g_14 (And.intro g_15 (And.intro (le_nil 36 2 cEntry dEntry) (And.intro g_16 (And.intro g_17 (And.intro g_18 (And.intro g_19 (And.intro (cache_Lookup.spec e_21) (And.intro (erasureref30_Lookup.spec e_23) (And.intro (nt g_24) (And.intro (erasureref30_Same.spec e_26) (And.intro (nt g_27) (And.intro (erasureref26_SameBag.spec e_29) (And.intro (nt g_30) (And.intro (nt g_31) (And.intro (erasureref30_Same.spec e_44) g_45)))))))))))))))))
                  · obtain ⟨y_46, e_47, h⟩ := bind_or h
                    rcases ite_or h with ⟨g_48, h⟩ | ⟨g_48, h⟩
                    · obtain rfl := Option.some.inj h
                      exact RunC.out [.n 2, .r [(3, .dec true)], .n 7, .r [(0, .obj (oL true 36 2 cEntry dEntry ([] : List TEntry)))], .n 2, .r [(2, .dec true)], .n 7, .r [(1, .dec true)], .n 2, .r [(7, .call (.tup [.sref 0 46 5 (y_20.1).length, .sref 1 36 2 (y_20.2.1).length, .p (.int .i64 y_20.2.2)]) [(oL true 46 5 cCached dCached y_20.1), (oL true 36 2 cEntry dEntry y_20.2.1)])], .n 1, .r [(7, .call (.tup [.sref 0 46 5 (y_22.1).length, .p (eL 2 cEntry dEntry y_22.2.1), .p (.int .i64 y_22.2.2)]) [(oL true 46 5 cCached dCached y_22.1)])], .n 2, .r [(3, .dec false), (6, .call (.p (.bool y_25)) []), (9, .dec false), (12, .call (.p (.bool y_28)) []), (14, .dec false)], .n 3, .r [(1, .dec false)], .n 4, .r [(2, .call (.p (.bool y_43)) []), (4, .dec false), (6, .call (.p (.bool y_46)) []), (9, .dec true)], .n 3] (by kernel_rfl) (Obs.of (by kernel_rfl) (And.intro g_14 (And.intro g_15 (And.intro (le_nil 36 2 cEntry dEntry) (And.intro g_16 (And.intro g_17 (And.intro g_18 (And.intro g_19 (And.intro (cache_Lookup.spec e_21) (And.intro (erasureref30_Lookup.spec e_23) (And.intro (nt g_24) (And.intro (erasureref30_Same.spec e_26) (And.intro (nt g_27) (And.intro (erasureref26_SameBag.spec e_29) (And.intro (nt g_30) (And.intro (nt g_31) (And.intro (erasureref30_Same.spec e_44) (And.intro (nt g_45) (And.intro (cache_Valid.spec e_47) g_48)))))))))))))))))))
                    · obtain ⟨y_49, e_50, h⟩ := bind_or h
                      obtain ⟨y_51, e_52, h⟩ := bind_or h
                      rcases ite_or h with ⟨g_53, h⟩ | ⟨g_53, h⟩
                      · obtain rfl := Option.some.inj h
                        exact RunC.out [.n 2, .r [(3, .dec true)], .n 7, .r [(0, .obj (oL true 36 2 cEntry dEntry ([] : List TEntry)))], .n 2, .r [(2, .dec true)], .n 7, .r [(1, .dec true)], .n 2, .r [(7, .call (.tup [.sref 0 46 5 (y_20.1).length, .sref 1 36 2 (y_20.2.1).length, .p (.int .i64 y_20.2.2)]) [(oL true 46 5 cCached dCached y_20.1), (oL true 36 2 cEntry dEntry y_20.2.1)])], .n 1, .r [(7, .call (.tup [.sref 0 46 5 (y_22.1).length, .p (eL 2 cEntry dEntry y_22.2.1), .p (.int .i64 y_22.2.2)]) [(oL true 46 5 cCached dCached y_22.1)])], .n 2, .r [(3, .dec false), (6, .call (.p (.bool y_25)) []), (9, .dec false), (12, .call (.p (.bool y_28)) []), (14, .dec false)], .n 3, .r [(1, .dec false)], .n 4, .r [(2, .call (.p (.bool y_43)) []), (4, .dec false), (6, .call (.p (.bool y_46)) []), (9, .dec false), (13, .call (.p (.bool y_49)) []), (17, .call (.p (.bool y_51)) []), (19, .dec true)], .n 3] (by kernel_rfl) (Obs.of (by kernel_rfl) (And.intro g_14 (And.intro g_15 (And.intro (le_nil 36 2 cEntry dEntry) (And.intro g_16 (And.intro g_17 (And.intro g_18 (And.intro g_19 (And.intro (cache_Lookup.spec e_21) (And.intro (erasureref30_Lookup.spec e_23) (And.intro (nt g_24) (And.intro (erasureref30_Same.spec e_26) (And.intro (nt g_27) (And.intro (erasureref26_SameBag.spec e_29) (And.intro (nt g_30) (And.intro (nt g_31) (And.intro (erasureref30_Same.spec e_44) (And.intro (nt g_45) (And.intro (cache_Valid.spec e_47) (And.intro (nt g_48) (And.intro (cache_Fresh.spec e_50) (And.intro (erasureref30_Fresh.spec e_52) g_53))))))))))))))))))))))
                      · exact RunC.go [.n 2, .r [(3, .dec true)], .n 7, .r [(0, .obj (oL true 36 2 cEntry dEntry ([] : List TEntry)))], .n 2, .r [(2, .dec true)], .n 7, .r [(1, .dec true)], .n 2, .r [(7, .call (.tup [.sref 0 46 5 (y_20.1).length, .sref 1 36 2 (y_20.2.1).length, .p (.int .i64 y_20.2.2)]) [(oL true 46 5 cCached dCached y_20.1), (oL true 36 2 cEntry dEntry y_20.2.1)])], .n 1, .r [(7, .call (.tup [.sref 0 46 5 (y_22.1).length, .p (eL 2 cEntry dEntry y_22.2.1), .p (.int .i64 y_22.2.2)]) [(oL true 46 5 cCached dCached y_22.1)])], .n 2, .r [(3, .dec false), (6, .call (.p (.bool y_25)) []), (9, .dec false), (12, .call (.p (.bool y_28)) []), (14, .dec false)], .n 3, .r [(1, .dec false)], .n 4, .r [(2, .call (.p (.bool y_43)) []), (4, .dec false), (6, .call (.p (.bool y_46)) []), (9, .dec false), (13, .call (.p (.bool y_49)) []), (17, .call (.p (.bool y_51)) []), (19, .dec false)], .n 5, .k [1, 2, 3, 8, 9, 10]] (by kernel_rfl) (Obs.of (by kernel_rfl) (And.intro g_14 (And.intro g_15 (And.intro (le_nil 36 2 cEntry dEntry) (And.intro g_16 (And.intro g_17 (And.intro g_18 (And.intro g_19 (And.intro (cache_Lookup.spec e_21) (And.intro (erasureref30_Lookup.spec e_23) (And.intro (nt g_24) (And.intro (erasureref30_Same.spec e_26) (And.intro (nt g_27) (And.intro (erasureref26_SameBag.spec e_29) (And.intro (nt g_30) (And.intro (nt g_31) (And.intro (erasureref30_Same.spec e_44) (And.intro (nt g_45) (And.intro (cache_Valid.spec e_47) (And.intro (nt g_48) (And.intro (cache_Fresh.spec e_50) (And.intro (erasureref30_Fresh.spec e_52) (nt g_53))))))))))))))))))))))) (ih _ _ _ _ _ _ r h)
        · rcases ite_or h with ⟨g_54, h⟩ | ⟨g_54, h⟩
          · obtain ⟨y_55, e_56, h⟩ := bind_or h
            obtain ⟨y_57, e_58, h⟩ := bind_or h
            obtain ⟨y_59, e_60, h⟩ := bind_or h
            rcases ite_or h with ⟨g_61, h⟩ | ⟨g_61, h⟩
            · obtain rfl := Option.some.inj h
              exact RunC.out [.n 2, .r [(3, .dec true)], .n 7, .r [(0, .obj (oL true 36 2 cEntry dEntry ([] : List TEntry)))], .n 2, .r [(2, .dec true)], .n 7, .r [(1, .dec false)], .n 2, .r [(1, .dec true)], .n 2, .r [(5, .call (.sref 0 46 5 (y_55).length) [(oL true 46 5 cCached dCached y_55)])], .r [(5, .call (.sref 0 46 5 (y_57).length) [(oL true 46 5 cCached dCached y_57)])], .n 2, .r [(2, .call (.p (.bool y_59)) []), (4, .dec true)], .n 3] (by kernel_rfl) (Obs.of (by kernel_rfl) (And.intro g_14 (And.intro g_15 (And.intro (le_nil 36 2 cEntry dEntry) (And.intro g_16 (And.intro g_17 (And.intro g_18 (And.intro (nt g_19) (And.intro g_54 (And.intro (cache_Refill.spec e_56) (And.intro (erasureref30_Refill.spec e_58) (And.intro (erasureref30_Same.spec e_60) g_61))))))))))))
            · obtain ⟨y_62, e_63, h⟩ := bind_or h
              rcases ite_or h with ⟨g_64, h⟩ | ⟨g_64, h⟩
              · obtain rfl := Option.some.inj h
                exact RunC.out [.n 2, .r [(3, .dec true)], .n 7, .r [(0, .obj (oL true 36 2 cEntry dEntry ([] : List TEntry)))], .n 2, .r [(2, .dec true)], .n 7, .r [(1, .dec false)], .n 2, .r [(1, .dec true)], .n 2, .r [(5, .call (.sref 0 46 5 (y_55).length) [(oL true 46 5 cCached dCached y_55)])], .r [(5, .call (.sref 0 46 5 (y_57).length) [(oL true 46 5 cCached dCached y_57)])], .n 2, .r [(2, .call (.p (.bool y_59)) []), (4, .dec false), (6, .call (.p (.bool y_62)) []), (9, .dec true)], .n 3] (by kernel_rfl) (Obs.of (by kernel_rfl) (And.intro g_14 (And.intro g_15 (And.intro (le_nil 36 2 cEntry dEntry) (And.intro g_16 (And.intro g_17 (And.intro g_18 (And.intro (nt g_19) (And.intro g_54 (And.intro (cache_Refill.spec e_56) (And.intro (erasureref30_Refill.spec e_58) (And.intro (erasureref30_Same.spec e_60) (And.intro (nt g_61) (And.intro (cache_Valid.spec e_63) g_64))))))))))))))
              · obtain ⟨y_65, e_66, h⟩ := bind_or h
                obtain ⟨y_67, e_68, h⟩ := bind_or h
                rcases ite_or h with ⟨g_69, h⟩ | ⟨g_69, h⟩
                · obtain rfl := Option.some.inj h
                  exact RunC.out [.n 2, .r [(3, .dec true)], .n 7, .r [(0, .obj (oL true 36 2 cEntry dEntry ([] : List TEntry)))], .n 2, .r [(2, .dec true)], .n 7, .r [(1, .dec false)], .n 2, .r [(1, .dec true)], .n 2, .r [(5, .call (.sref 0 46 5 (y_55).length) [(oL true 46 5 cCached dCached y_55)])], .r [(5, .call (.sref 0 46 5 (y_57).length) [(oL true 46 5 cCached dCached y_57)])], .n 2, .r [(2, .call (.p (.bool y_59)) []), (4, .dec false), (6, .call (.p (.bool y_62)) []), (9, .dec false), (13, .call (.p (.bool y_65)) []), (17, .call (.p (.bool y_67)) []), (19, .dec true)], .n 3] (by kernel_rfl) (Obs.of (by kernel_rfl) (And.intro g_14 (And.intro g_15 (And.intro (le_nil 36 2 cEntry dEntry) (And.intro g_16 (And.intro g_17 (And.intro g_18 (And.intro (nt g_19) (And.intro g_54 (And.intro (cache_Refill.spec e_56) (And.intro (erasureref30_Refill.spec e_58) (And.intro (erasureref30_Same.spec e_60) (And.intro (nt g_61) (And.intro (cache_Valid.spec e_63) (And.intro (nt g_64) (And.intro (cache_Fresh.spec e_66) (And.intro (erasureref30_Fresh.spec e_68) g_69)))))))))))))))))
                · exact RunC.go [.n 2, .r [(3, .dec true)], .n 7, .r [(0, .obj (oL true 36 2 cEntry dEntry ([] : List TEntry)))], .n 2, .r [(2, .dec true)], .n 7, .r [(1, .dec false)], .n 2, .r [(1, .dec true)], .n 2, .r [(5, .call (.sref 0 46 5 (y_55).length) [(oL true 46 5 cCached dCached y_55)])], .r [(5, .call (.sref 0 46 5 (y_57).length) [(oL true 46 5 cCached dCached y_57)])], .n 2, .r [(2, .call (.p (.bool y_59)) []), (4, .dec false), (6, .call (.p (.bool y_62)) []), (9, .dec false), (13, .call (.p (.bool y_65)) []), (17, .call (.p (.bool y_67)) []), (19, .dec false)], .n 5, .f 8, .f 9, .k [1, 2, 3, 8, 9, 10]] (by kernel_rfl) (Obs.of (by kernel_rfl) (And.intro g_14 (And.intro g_15 (And.intro (le_nil 36 2 cEntry dEntry) (And.intro g_16 (And.intro g_17 (And.intro g_18 (And.intro (nt g_19) (And.intro g_54 (And.intro (cache_Refill.spec e_56) (And.intro (erasureref30_Refill.spec e_58) (And.intro (erasureref30_Same.spec e_60) (And.intro (nt g_61) (And.intro (cache_Valid.spec e_63) (And.intro (nt g_64) (And.intro (cache_Fresh.spec e_66) (And.intro (erasureref30_Fresh.spec e_68) (nt g_69)))))))))))))))))) (ih _ _ _ _ _ _ r h)
          · rcases ite_or h with ⟨g_70, h⟩ | ⟨g_70, h⟩
            · obtain ⟨y_71, e_72, h⟩ := bind_or h
              obtain ⟨y_73, e_74, h⟩ := bind_or h
              obtain ⟨y_75, e_76, h⟩ := bind_or h
              rcases ite_or h with ⟨g_77, h⟩ | ⟨g_77, h⟩
              · obtain rfl := Option.some.inj h
                exact RunC.out [.n 2, .r [(3, .dec true)], .n 7, .r [(0, .obj (oL true 36 2 cEntry dEntry ([] : List TEntry)))], .n 2, .r [(2, .dec true)], .n 7, .r [(1, .dec false)], .n 2, .r [(1, .dec false)], .n 2, .r [(1, .dec true)], .n 2, .r [(3, .obj (oL true 24 3 cValue dValue [(A2.getD v10.toNat dAct).f1])), (4, .call (.sref 0 46 5 (y_71).length) [(oL true 46 5 cCached dCached y_71)])], .r [(3, .obj (oL true 24 3 cValue dValue [(A2.getD v10.toNat dAct).f1])), (4, .call (.p (eL 5 cCached dCached y_73)) [])], .n 2, .r [(2, .call (.p (.bool y_75)) []), (4, .dec true)], .n 3] (by kernel_rfl) (Obs.of (by kernel_rfl) (And.intro g_14 (And.intro g_15 (And.intro (le_nil 36 2 cEntry dEntry) (And.intro g_16 (And.intro g_17 (And.intro g_18 (And.intro (nt g_19) (And.intro (nt g_54) (And.intro g_70 (And.intro (le_one 24 3 cValue dValue ((A2.getD v10.toNat dAct).f1)) (And.intro (cache_Purge.spec e_72) (And.intro (le_one 24 3 cValue dValue ((A2.getD v10.toNat dAct).f1)) (And.intro (erasureref30_Purge.spec e_74) (And.intro (erasureref30_Same.spec e_76) g_77)))))))))))))))
              · obtain ⟨y_78, e_79, h⟩ := bind_or h
                rcases ite_or h with ⟨g_80, h⟩ | ⟨g_80, h⟩
                · obtain rfl := Option.some.inj h
                  exact RunC.out [.n 2, .r [(3, .dec true)], .n 7, .r [(0, .obj (oL true 36 2 cEntry dEntry ([] : List TEntry)))], .n 2, .r [(2, .dec true)], .n 7, .r [(1, .dec false)], .n 2, .r [(1, .dec false)], .n 2, .r [(1, .dec true)], .n 2, .r [(3, .obj (oL true 24 3 cValue dValue [(A2.getD v10.toNat dAct).f1])), (4, .call (.sref 0 46 5 (y_71).length) [(oL true 46 5 cCached dCached y_71)])], .r [(3, .obj (oL true 24 3 cValue dValue [(A2.getD v10.toNat dAct).f1])), (4, .call (.p (eL 5 cCached dCached y_73)) [])], .n 2, .r [(2, .call (.p (.bool y_75)) []), (4, .dec false), (6, .call (.p (.bool y_78)) []), (9, .dec true)], .n 3] (by kernel_rfl) (Obs.of (by kernel_rfl) (And.intro g_14 (And.intro g_15 (And.intro (le_nil 36 2 cEntry dEntry) (And.intro g_16 (And.intro g_17 (And.intro g_18 (And.intro (nt g_19) (And.intro (nt g_54) (And.intro g_70 (And.intro (le_one 24 3 cValue dValue ((A2.getD v10.toNat dAct).f1)) (And.intro (cache_Purge.spec e_72) (And.intro (le_one 24 3 cValue dValue ((A2.getD v10.toNat dAct).f1)) (And.intro (erasureref30_Purge.spec e_74) (And.intro (erasureref30_Same.spec e_76) (And.intro (nt g_77) (And.intro (cache_Valid.spec e_79) g_80)))))))))))))))))
                · obtain ⟨y_81, e_82, h⟩ := bind_or h
                  obtain ⟨y_83, e_84, h⟩ := bind_or h
                  rcases ite_or h with ⟨g_85, h⟩ | ⟨g_85, h⟩
                  · obtain rfl := Option.some.inj h
                    exact RunC.out [.n 2, .r [(3, .dec true)], .n 7, .r [(0, .obj (oL true 36 2 cEntry dEntry ([] : List TEntry)))], .n 2, .r [(2, .dec true)], .n 7, .r [(1, .dec false)], .n 2, .r [(1, .dec false)], .n 2, .r [(1, .dec true)], .n 2, .r [(3, .obj (oL true 24 3 cValue dValue [(A2.getD v10.toNat dAct).f1])), (4, .call (.sref 0 46 5 (y_71).length) [(oL true 46 5 cCached dCached y_71)])], .r [(3, .obj (oL true 24 3 cValue dValue [(A2.getD v10.toNat dAct).f1])), (4, .call (.p (eL 5 cCached dCached y_73)) [])], .n 2, .r [(2, .call (.p (.bool y_75)) []), (4, .dec false), (6, .call (.p (.bool y_78)) []), (9, .dec false), (13, .call (.p (.bool y_81)) []), (17, .call (.p (.bool y_83)) []), (19, .dec true)], .n 3] (by kernel_rfl) (Obs.of (by kernel_rfl) (And.intro g_14 (And.intro g_15 (And.intro (le_nil 36 2 cEntry dEntry) (And.intro g_16 (And.intro g_17 (And.intro g_18 (And.intro (nt g_19) (And.intro (nt g_54) (And.intro g_70 (And.intro (le_one 24 3 cValue dValue ((A2.getD v10.toNat dAct).f1)) (And.intro (cache_Purge.spec e_72) (And.intro (le_one 24 3 cValue dValue ((A2.getD v10.toNat dAct).f1)) (And.intro (erasureref30_Purge.spec e_74) (And.intro (erasureref30_Same.spec e_76) (And.intro (nt g_77) (And.intro (cache_Valid.spec e_79) (And.intro (nt g_80) (And.intro (cache_Fresh.spec e_82) (And.intro (erasureref30_Fresh.spec e_84) g_85))))))))))))))))))))
                  · exact RunC.go [.n 2, .r [(3, .dec true)], .n 7, .r [(0, .obj (oL true 36 2 cEntry dEntry ([] : List TEntry)))], .n 2, .r [(2, .dec true)], .n 7, .r [(1, .dec false)], .n 2, .r [(1, .dec false)], .n 2, .r [(1, .dec true)], .n 2, .r [(3, .obj (oL true 24 3 cValue dValue [(A2.getD v10.toNat dAct).f1])), (4, .call (.sref 0 46 5 (y_71).length) [(oL true 46 5 cCached dCached y_71)])], .r [(3, .obj (oL true 24 3 cValue dValue [(A2.getD v10.toNat dAct).f1])), (4, .call (.p (eL 5 cCached dCached y_73)) [])], .n 2, .r [(2, .call (.p (.bool y_75)) []), (4, .dec false), (6, .call (.p (.bool y_78)) []), (9, .dec false), (13, .call (.p (.bool y_81)) []), (17, .call (.p (.bool y_83)) []), (19, .dec false)], .n 5, .f 8, .k [1, 2, 3, 8, 9, 10]] (by kernel_rfl) (Obs.of (by kernel_rfl) (And.intro g_14 (And.intro g_15 (And.intro (le_nil 36 2 cEntry dEntry) (And.intro g_16 (And.intro g_17 (And.intro g_18 (And.intro (nt g_19) (And.intro (nt g_54) (And.intro g_70 (And.intro (le_one 24 3 cValue dValue ((A2.getD v10.toNat dAct).f1)) (And.intro (cache_Purge.spec e_72) (And.intro (le_one 24 3 cValue dValue ((A2.getD v10.toNat dAct).f1)) (And.intro (erasureref30_Purge.spec e_74) (And.intro (erasureref30_Same.spec e_76) (And.intro (nt g_77) (And.intro (cache_Valid.spec e_79) (And.intro (nt g_80) (And.intro (cache_Fresh.spec e_82) (And.intro (erasureref30_Fresh.spec e_84) (nt g_85))))))))))))))))))))) (ih _ _ _ _ _ _ r h)
            · rcases ite_or h with ⟨g_86, h⟩ | ⟨g_86, h⟩
              · obtain ⟨y_87, e_88, h⟩ := bind_or h
                obtain ⟨y_89, e_90, h⟩ := bind_or h
                obtain ⟨y_91, e_92, h⟩ := bind_or h
                rcases ite_or h with ⟨g_93, h⟩ | ⟨g_93, h⟩
                · obtain rfl := Option.some.inj h
                  exact RunC.out [.n 2, .r [(3, .dec true)], .n 7, .r [(0, .obj (oL true 36 2 cEntry dEntry ([] : List TEntry)))], .n 2, .r [(2, .dec true)], .n 7, .r [(1, .dec false)], .n 2, .r [(1, .dec false)], .n 2, .r [(1, .dec false)], .n 2, .r [(1, .dec true)], .n 2, .r [(4, .call (.sref 0 46 5 (y_87).length) [(oL true 46 5 cCached dCached y_87)])], .r [(4, .call (.sref 0 46 5 (y_89).length) [(oL true 46 5 cCached dCached y_89)])], .n 2, .r [(2, .call (.p (.bool y_91)) []), (4, .dec true)], .n 3] (by kernel_rfl) (Obs.of (by kernel_rfl) (And.intro g_14 (And.intro g_15 (And.intro (le_nil 36 2 cEntry dEntry) (And.intro g_16 (And.intro g_17 (And.intro g_18 (And.intro (nt g_19) (And.intro (nt g_54) (And.intro (nt g_70) (And.intro g_86 (And.intro (cache_Expire.spec e_88) (And.intro (erasureref30_Expire.spec e_90) (And.intro (erasureref30_Same.spec e_92) g_93))))))))))))))
                · obtain ⟨y_94, e_95, h⟩ := bind_or h
                  rcases ite_or h with ⟨g_96, h⟩ | ⟨g_96, h⟩
                  · obtain rfl := Option.some.inj h
                    exact RunC.out [.n 2, .r [(3, .dec true)], .n 7, .r [(0, .obj (oL true 36 2 cEntry dEntry ([] : List TEntry)))], .n 2, .r [(2, .dec true)], .n 7, .r [(1, .dec false)], .n 2, .r [(1, .dec false)], .n 2, .r [(1, .dec false)], .n 2, .r [(1, .dec true)], .n 2, .r [(4, .call (.sref 0 46 5 (y_87).length) [(oL true 46 5 cCached dCached y_87)])], .r [(4, .call (.sref 0 46 5 (y_89).length) [(oL true 46 5 cCached dCached y_89)])], .n 2, .r [(2, .call (.p (.bool y_91)) []), (4, .dec false), (6, .call (.p (.bool y_94)) []), (9, .dec true)], .n 3] (by kernel_rfl) (Obs.of (by kernel_rfl) (And.intro g_14 (And.intro g_15 (And.intro (le_nil 36 2 cEntry dEntry) (And.intro g_16 (And.intro g_17 (And.intro g_18 (And.intro (nt g_19) (And.intro (nt g_54) (And.intro (nt g_70) (And.intro g_86 (And.intro (cache_Expire.spec e_88) (And.intro (erasureref30_Expire.spec e_90) (And.intro (erasureref30_Same.spec e_92) (And.intro (nt g_93) (And.intro (cache_Valid.spec e_95) g_96))))))))))))))))
                  · obtain ⟨y_97, e_98, h⟩ := bind_or h
                    obtain ⟨y_99, e_100, h⟩ := bind_or h
                    rcases ite_or h with ⟨g_101, h⟩ | ⟨g_101, h⟩
                    · obtain rfl := Option.some.inj h
                      exact RunC.out [.n 2, .r [(3, .dec true)], .n 7, .r [(0, .obj (oL true 36 2 cEntry dEntry ([] : List TEntry)))], .n 2, .r [(2, .dec true)], .n 7, .r [(1, .dec false)], .n 2, .r [(1, .dec false)], .n 2, .r [(1, .dec false)], .n 2, .r [(1, .dec true)], .n 2, .r [(4, .call (.sref 0 46 5 (y_87).length) [(oL true 46 5 cCached dCached y_87)])], .r [(4, .call (.sref 0 46 5 (y_89).length) [(oL true 46 5 cCached dCached y_89)])], .n 2, .r [(2, .call (.p (.bool y_91)) []), (4, .dec false), (6, .call (.p (.bool y_94)) []), (9, .dec false), (13, .call (.p (.bool y_97)) []), (17, .call (.p (.bool y_99)) []), (19, .dec true)], .n 3] (by kernel_rfl) (Obs.of (by kernel_rfl) (And.intro g_14 (And.intro g_15 (And.intro (le_nil 36 2 cEntry dEntry) (And.intro g_16 (And.intro g_17 (And.intro g_18 (And.intro (nt g_19) (And.intro (nt g_54) (And.intro (nt g_70) (And.intro g_86 (And.intro (cache_Expire.spec e_88) (And.intro (erasureref30_Expire.spec e_90) (And.intro (erasureref30_Same.spec e_92) (And.intro (nt g_93) (And.intro (cache_Valid.spec e_95) (And.intro (nt g_96) (And.intro (cache_Fresh.spec e_98) (And.intro (erasureref30_Fresh.spec e_100) g_101)))))))))))))))))))
                    · exact RunC.go [.n 2, .r [(3, .dec true)], .n 7, .r [(0, .obj (oL true 36 2 cEntry dEntry ([] : List TEntry)))], .n 2, .r [(2, .dec true)], .n 7, .r [(1, .dec false)], .n 2, .r [(1, .dec false)], .n 2, .r [(1, .dec false)], .n 2, .r [(1, .dec true)], .n 2, .r [(4, .call (.sref 0 46 5 (y_87).length) [(oL true 46 5 cCached dCached y_87)])], .r [(4, .call (.sref 0 46 5 (y_89).length) [(oL true 46 5 cCached dCached y_89)])], .n 2, .r [(2, .call (.p (.bool y_91)) []), (4, .dec false), (6, .call (.p (.bool y_94)) []), (9, .dec false), (13, .call (.p (.bool y_97)) []), (17, .call (.p (.bool y_99)) []), (19, .dec false)], .n 5, .f 8, .f 9, .k [1, 2, 3, 8, 9, 10]] (by kernel_rfl) (Obs.of (by kernel_rfl) (And.intro g_14 (And.intro g_15 (And.intro (le_nil 36 2 cEntry dEntry) (And.intro g_16 (And.intro g_17 (And.intro g_18 (And.intro (nt g_19) (And.intro (nt g_54) (And.intro (nt g_70) (And.intro g_86 (And.intro (cache_Expire.spec e_88) (And.intro (erasureref30_Expire.spec e_90) (And.intro (erasureref30_Same.spec e_92) (And.intro (nt g_93) (And.intro (cache_Valid.spec e_95) (And.intro (nt g_96) (And.intro (cache_Fresh.spec e_98) (And.intro (erasureref30_Fresh.spec e_100) (nt g_101)))))))))))))))))))) (ih _ _ _ _ _ _ r h)
              · obtain ⟨y_102, e_103, h⟩ := bind_or h
                rcases ite_or h with ⟨g_104, h⟩ | ⟨g_104, h⟩
                · obtain rfl := Option.some.inj h
                  exact RunC.out [.n 2, .r [(3, .dec true)], .n 7, .r [(0, .obj (oL true 36 2 cEntry dEntry ([] : List TEntry)))], .n 2, .r [(2, .dec true)], .n 7, .r [(1, .dec false)], .n 2, .r [(1, .dec false)], .n 2, .r [(1, .dec false)], .n 2, .r [(1, .dec false)], .n 4, .r [(2, .call (.p (.bool y_102)) []), (4, .dec true)], .n 3] (by kernel_rfl) (Obs.of (by kernel_rfl) (And.intro g_14 (And.intro g_15 (And.intro (le_nil 36 2 cEntry dEntry) (And.intro g_16 (And.intro g_17 (And.intro g_18 (And.intro (nt g_19) (And.intro (nt g_54) (And.intro (nt g_70) (And.intro (nt g_86) (And.intro (erasureref30_Same.spec e_103) g_104))))))))))))
                · obtain ⟨y_105, e_106, h⟩ := bind_or h
                  rcases ite_or h with ⟨g_107, h⟩ | ⟨g_107, h⟩
                  · obtain rfl := Option.some.inj h
                    exact RunC.out [.n 2, .r [(3, .dec true)], .n 7, .r [(0, .obj (oL true 36 2 cEntry dEntry ([] : List TEntry)))], .n 2, .r [(2, .dec true)], .n 7, .r [(1, .dec false)], .n 2, .r [(1, .dec false)], .n 2, .r [(1, .dec false)], .n 2, .r [(1, .dec false)], .n 4, .r [(2, .call (.p (.bool y_102)) []), (4, .dec false), (6, .call (.p (.bool y_105)) []), (9, .dec true)], .n 3] (by kernel_rfl) (Obs.of (by kernel_rfl) (And.intro g_14 (And.intro g_15 (And.intro (le_nil 36 2 cEntry dEntry) (And.intro g_16 (And.intro g_17 (And.intro g_18 (And.intro (nt g_19) (And.intro (nt g_54) (And.intro (nt g_70) (And.intro (nt g_86) (And.intro (erasureref30_Same.spec e_103) (And.intro (nt g_104) (And.intro (cache_Valid.spec e_106) g_107))))))))))))))
                  · obtain ⟨y_108, e_109, h⟩ := bind_or h
                    obtain ⟨y_110, e_111, h⟩ := bind_or h
                    rcases ite_or h with ⟨g_112, h⟩ | ⟨g_112, h⟩
                    · obtain rfl := Option.some.inj h
                      exact RunC.out [.n 2, .r [(3, .dec true)], .n 7, .r [(0, .obj (oL true 36 2 cEntry dEntry ([] : List TEntry)))], .n 2, .r [(2, .dec true)], .n 7, .r [(1, .dec false)], .n 2, .r [(1, .dec false)], .n 2, .r [(1, .dec false)], .n 2, .r [(1, .dec false)], .n 4, .r [(2, .call (.p (.bool y_102)) []), (4, .dec false), (6, .call (.p (.bool y_105)) []), (9, .dec false), (13, .call (.p (.bool y_108)) []), (17, .call (.p (.bool y_110)) []), (19, .dec true)], .n 3] (by kernel_rfl) (Obs.of (by kernel_rfl) (And.intro g_14 (And.intro g_15 (And.intro (le_nil 36 2 cEntry dEntry) (And.intro g_16 (And.intro g_17 (And.intro g_18 (And.intro (nt g_19) (And.intro (nt g_54) (And.intro (nt g_70) (And.intro (nt g_86) (And.intro (erasureref30_Same.spec e_103) (And.intro (nt g_104) (And.intro (cache_Valid.spec e_106) (And.intro (nt g_107) (And.intro (cache_Fresh.spec e_109) (And.intro (erasureref30_Fresh.spec e_111) g_112)))))))))))))))))
                    · exact RunC.go [.n 2, .r [(3, .dec true)], .n 7, .r [(0, .obj (oL true 36 2 cEntry dEntry ([] : List TEntry)))], .n 2, .r [(2, .dec true)], .n 7, .r [(1, .dec false)], .n 2, .r [(1, .dec false)], .n 2, .r [(1, .dec false)], .n 2, .r [(1, .dec false)], .n 4, .r [(2, .call (.p (.bool y_102)) []), (4, .dec false), (6, .call (.p (.bool y_105)) []), (9, .dec false), (13, .call (.p (.bool y_108)) []), (17, .call (.p (.bool y_110)) []), (19, .dec false)], .n 5, .k [1, 2, 3, 8, 9, 10]] (by kernel_rfl) (Obs.of (by kernel_rfl) (And.intro g_14 (And.intro g_15 (And.intro (le_nil 36 2 cEntry dEntry) (And.intro g_16 (And.intro g_17 (And.intro g_18 (And.intro (nt g_19) (And.intro (nt g_54) (And.intro (nt g_70) (And.intro (nt g_86) (And.intro (erasureref30_Same.spec e_103) (And.intro (nt g_104) (And.intro (cache_Valid.spec e_106) (And.intro (nt g_107) (And.intro (cache_Fresh.spec e_109) (And.intro (erasureref30_Fresh.spec e_111) (nt g_112)))))))))))))))))) (ih _ _ _ _ _ _ r h)
      · rcases ite_or h with ⟨g_113, h⟩ | ⟨g_113, h⟩
        · obtain ⟨y_114, e_115, h⟩ := bind_or h
          obtain ⟨y_116, e_117, h⟩ := bind_or h
          rcases ite_or h with ⟨g_118, h⟩ | ⟨g_118, h⟩
          · obtain rfl := Option.some.inj h
            exact RunC.out [.n 2, .r [(3, .dec true)], .n 7, .r [(0, .obj (oL true 36 2 cEntry dEntry ([] : List TEntry)))], .n 2, .r [(2, .dec false)], .n 7, .r [(1, .dec true)], .n 2, .r [(7, .call (.tup [.sref 0 46 5 (y_114.1).length, .sref 1 36 2 (y_114.2.1).length, .p (.int .i64 y_114.2.2)]) [(oL true 46 5 cCached dCached y_114.1), (oL true 36 2 cEntry dEntry y_114.2.1)])], .n 1, .r [(7, .call (.tup [.sref 0 46 5 (y_116.1).length, .p (eL 2 cEntry dEntry y_116.2.1), .p (.int .i64 y_116.2.2)]) [(oL true 46 5 cCached dCached y_116.1)])], .n 2, .r [(3, .dec true)], .n 3] (by kernel_rfl) (Obs.of (by kernel_rfl) (And.intro g_14 (And.intro g_15 (And.intro (le_nil 36 2 cEntry dEntry) (And.intro (nt g_16) (And.intro g_113 (And.intro (cache_Lookup.spec e_115) (And.intro (erasureref30_Lookup.spec e_117) g_118))))))))
          · obtain ⟨y_119, e_120, h⟩ := bind_or h
            rcases ite_or h with ⟨g_121, h⟩ | ⟨g_121, h⟩
            · obtain rfl := Option.some.inj h
              exact RunC.out [.n 2, .r [(3, .dec true)], .n 7, .r [(0, .obj (oL true 36 2 cEntry dEntry ([] : List TEntry)))], .n 2, .r [(2, .dec false)], .n 7, .r [(1, .dec true)], .n 2, .r [(7, .call (.tup [.sref 0 46 5 (y_114.1).length, .sref 1 36 2 (y_114.2.1).length, .p (.int .i64 y_114.2.2)]) [(oL true 46 5 cCached dCached y_114.1), (oL true 36 2 cEntry dEntry y_114.2.1)])], .n 1, .r [(7, .call (.tup [.sref 0 46 5 (y_116.1).length, .p (eL 2 cEntry dEntry y_116.2.1), .p (.int .i64 y_116.2.2)]) [(oL true 46 5 cCached dCached y_116.1)])], .n 2, .r [(3, .dec false), (6, .call (.p (.bool y_119)) []), (9, .dec true)], .n 3] (by kernel_rfl) (Obs.of (by kernel_rfl) (And.intro g_14 (And.intro g_15 (And.intro (le_nil 36 2 cEntry dEntry) (And.intro (nt g_16) (And.intro g_113 (And.intro (cache_Lookup.spec e_115) (And.intro (erasureref30_Lookup.spec e_117) (And.intro (nt g_118) (And.intro (erasureref30_Same.spec e_120) g_121))))))))))
            · obtain ⟨y_122, e_123, h⟩ := bind_or h
              rcases ite_or h with ⟨g_124, h⟩ | ⟨g_124, h⟩
              · obtain rfl := Option.some.inj h
                exact RunC.out [.n 2, .r [(3, .dec true)], .n 7, .r [(0, .obj (oL true 36 2 cEntry dEntry ([] : List TEntry)))], .n 2, .r [(2, .dec false)], .n 7, .r [(1, .dec true)], .n 2, .r [(7, .call (.tup [.sref 0 46 5 (y_114.1).length, .sref 1 36 2 (y_114.2.1).length, .p (.int .i64 y_114.2.2)]) [(oL true 46 5 cCached dCached y_114.1), (oL true 36 2 cEntry dEntry y_114.2.1)])], .n 1, .r [(7, .call (.tup [.sref 0 46 5 (y_116.1).length, .p (eL 2 cEntry dEntry y_116.2.1), .p (.int .i64 y_116.2.2)]) [(oL true 46 5 cCached dCached y_116.1)])], .n 2, .r [(3, .dec false), (6, .call (.p (.bool y_119)) []), (9, .dec false), (12, .call (.p (.bool y_122)) []), (14, .dec true)], .n 3] (by kernel_rfl) (Obs.of (by kernel_rfl) (And.intro g_14 (And.intro g_15 (And.intro (le_nil 36 2 cEntry dEntry) (And.intro (nt g_16) (And.intro g_113 (And.intro (cache_Lookup.spec e_115) (And.intro (erasureref30_Lookup.spec e_117) (And.intro (nt g_118) (And.intro (erasureref30_Same.spec e_120) (And.intro (nt g_121) (And.intro (erasureref26_SameBag.spec e_123) g_124))))))))))))
              · rcases ite_or h with ⟨g_125, h⟩ | ⟨g_125, h⟩
                · obtain ⟨y_126, e_127, h⟩ := bind_or h
                  rcases ite_or h with ⟨g_128, h⟩ | ⟨g_128, h⟩
                  · obtain rfl := Option.some.inj h
                    exact RunC.out [.n 2, .r [(3, .dec true)], .n 7, .r [(0, .obj (oL true 36 2 cEntry dEntry ([] : List TEntry)))], .n 2, .r [(2, .dec false)], .n 7, .r [(1, .dec true)], .n 2, .r [(7, .call (.tup [.sref 0 46 5 (y_114.1).length, .sref 1 36 2 (y_114.2.1).length, .p (.int .i64 y_114.2.2)]) [(oL true 46 5 cCached dCached y_114.1), (oL true 36 2 cEntry dEntry y_114.2.1)])], .n 1, .r [(7, .call (.tup [.sref 0 46 5 (y_116.1).length, .p (eL 2 cEntry dEntry y_116.2.1), .p (.int .i64 y_116.2.2)]) [(oL true 46 5 cCached dCached y_116.1)])], .n 2, .r [(3, .dec false), (6, .call (.p (.bool y_119)) []), (9, .dec false), (12, .call (.p (.bool y_122)) []), (14, .dec false)], .n 3, .r [(1, .dec true)], .n 4, .r [(2, .call (.p (.bool y_126)) []), (4, .dec true)], .n 3] (by kernel_rfl) (Obs.of (by kernel_rfl) (And.intro g_14 (And.intro g_15 (And.intro (le_nil 36 2 cEntry dEntry) (And.intro (nt g_16) (And.intro g_113 (And.intro (cache_Lookup.spec e_115) (And.intro (erasureref30_Lookup.spec e_117) (And.intro (nt g_118) (And.intro (erasureref30_Same.spec e_120) (And.intro (nt g_121) (And.intro (erasureref26_SameBag.spec e_123) (And.intro (nt g_124) (And.intro g_125 (And.intro (erasureref30_Same.spec e_127) g_128)))))))))))))))
                  · obtain ⟨y_129, e_130, h⟩ := bind_or h
                    rcases ite_or h with ⟨g_131, h⟩ | ⟨g_131, h⟩
                    · obtain rfl := Option.some.inj h
                      exact RunC.out [.n 2, .r [(3, .dec true)], .n 7, .r [(0, .obj (oL true 36 2 cEntry dEntry ([] : List TEntry)))], .n 2, .r [(2, .dec false)], .n 7, .r [(1, .dec true)], .n 2, .r [(7, .call (.tup [.sref 0 46 5 (y_114.1).length, .sref 1 36 2 (y_114.2.1).length, .p (.int .i64 y_114.2.2)]) [(oL true 46 5 cCached dCached y_114.1), (oL true 36 2 cEntry dEntry y_114.2.1)])], .n 1, .r [(7, .call (.tup [.sref 0 46 5 (y_116.1).length, .p (eL 2 cEntry dEntry y_116.2.1), .p (.int .i64 y_116.2.2)]) [(oL true 46 5 cCached dCached y_116.1)])], .n 2, .r [(3, .dec false), (6, .call (.p (.bool y_119)) []), (9, .dec false), (12, .call (.p (.bool y_122)) []), (14, .dec false)], .n 3, .r [(1, .dec true)], .n 4, .r [(2, .call (.p (.bool y_126)) []), (4, .dec false), (6, .call (.p (.bool y_129)) []), (9, .dec true)], .n 3] (by kernel_rfl) (Obs.of (by kernel_rfl) (And.intro g_14 (And.intro g_15 (And.intro (le_nil 36 2 cEntry dEntry) (And.intro (nt g_16) (And.intro g_113 (And.intro (cache_Lookup.spec e_115) (And.intro (erasureref30_Lookup.spec e_117) (And.intro (nt g_118) (And.intro (erasureref30_Same.spec e_120) (And.intro (nt g_121) (And.intro (erasureref26_SameBag.spec e_123) (And.intro (nt g_124) (And.intro g_125 (And.intro (erasureref30_Same.spec e_127) (And.intro (nt g_128) (And.intro (cache_Valid.spec e_130) g_131)))))))))))))))))
                    · obtain ⟨y_132, e_133, h⟩ := bind_or h
                      obtain ⟨y_134, e_135, h⟩ := bind_or h
                      rcases ite_or h with ⟨g_136, h⟩ | ⟨g_136, h⟩
                      · obtain rfl := Option.some.inj h
                        exact RunC.out [.n 2, .r [(3, .dec true)], .n 7, .r [(0, .obj (oL true 36 2 cEntry dEntry ([] : List TEntry)))], .n 2, .r [(2, .dec false)], .n 7, .r [(1, .dec true)], .n 2, .r [(7, .call (.tup [.sref 0 46 5 (y_114.1).length, .sref 1 36 2 (y_114.2.1).length, .p (.int .i64 y_114.2.2)]) [(oL true 46 5 cCached dCached y_114.1), (oL true 36 2 cEntry dEntry y_114.2.1)])], .n 1, .r [(7, .call (.tup [.sref 0 46 5 (y_116.1).length, .p (eL 2 cEntry dEntry y_116.2.1), .p (.int .i64 y_116.2.2)]) [(oL true 46 5 cCached dCached y_116.1)])], .n 2, .r [(3, .dec false), (6, .call (.p (.bool y_119)) []), (9, .dec false), (12, .call (.p (.bool y_122)) []), (14, .dec false)], .n 3, .r [(1, .dec true)], .n 4, .r [(2, .call (.p (.bool y_126)) []), (4, .dec false), (6, .call (.p (.bool y_129)) []), (9, .dec false), (13, .call (.p (.bool y_132)) []), (17, .call (.p (.bool y_134)) []), (19, .dec true)], .n 3] (by kernel_rfl) (Obs.of (by kernel_rfl) (And.intro g_14 (And.intro g_15 (And.intro (le_nil 36 2 cEntry dEntry) (And.intro (nt g_16) (And.intro g_113 (And.intro (cache_Lookup.spec e_115) (And.intro (erasureref30_Lookup.spec e_117) (And.intro (nt g_118) (And.intro (erasureref30_Same.spec e_120) (And.intro (nt g_121) (And.intro (erasureref26_SameBag.spec e_123) (And.intro (nt g_124) (And.intro g_125 (And.intro (erasureref30_Same.spec e_127) (And.intro (nt g_128) (And.intro (cache_Valid.spec e_130) (And.intro (nt g_131) (And.intro (cache_Fresh.spec e_133) (And.intro (erasureref30_Fresh.spec e_135) g_136))))))))))))))))))))
                      · exact RunC.go [.n 2, .r [(3, .dec true)], .n 7, .r [(0, .obj (oL true 36 2 cEntry dEntry ([] : List TEntry)))], .n 2, .r [(2, .dec false)], .n 7, .r [(1, .dec true)], .n 2, .r [(7, .call (.tup [.sref 0 46 5 (y_114.1).length, .sref 1 36 2 (y_114.2.1).length, .p (.int .i64 y_114.2.2)]) [(oL true 46 5 cCached dCached y_114.1), (oL true 36 2 cEntry dEntry y_114.2.1)])], .n 1, .r [(7, .call (.tup [.sref 0 46 5 (y_116.1).length, .p (eL 2 cEntry dEntry y_116.2.1), .p (.int .i64 y_116.2.2)]) [(oL true 46 5 cCached dCached y_116.1)])], .n 2, .r [(3, .dec false), (6, .call (.p (.bool y_119)) []), (9, .dec false), (12, .call (.p (.bool y_122)) []), (14, .dec false)], .n 3, .r [(1, .dec true)], .n 4, .r [(2, .call (.p (.bool y_126)) []), (4, .dec false), (6, .call (.p (.bool y_129)) []), (9, .dec false), (13, .call (.p (.bool y_132)) []), (17, .call (.p (.bool y_134)) []), (19, .dec false)], .n 5, .f 8, .f 9, .k [1, 2, 3, 8, 9, 10]] (by kernel_rfl) (Obs.of (by kernel_rfl) (And.intro g_14 (And.intro g_15 (And.intro (le_nil 36 2 cEntry dEntry) (And.intro (nt g_16) (And.intro g_113 (And.intro (cache_Lookup.spec e_115) (And.intro (erasureref30_Lookup.spec e_117) (And.intro (nt g_118) (And.intro (erasureref30_Same.spec e_120) (And.intro (nt g_121) (And.intro (erasureref26_SameBag.spec e_123) (And.intro (nt g_124) (And.intro g_125 (And.intro (erasureref30_Same.spec e_127) (And.intro (nt g_128) (And.intro (cache_Valid.spec e_130) (And.intro (nt g_131) (And.intro (cache_Fresh.spec e_133) (And.intro (erasureref30_Fresh.spec e_135) (nt g_136))))))))))))))))))))) (ih _ _ _ _ _ _ r h)
                · obtain ⟨y_137, e_138, h⟩ := bind_or h
                  rcases ite_or h with ⟨g_139, h⟩ | ⟨g_139, h⟩
                  · obtain rfl := Option.some.inj h
                    exact RunC.out [.n 2, .r [(3, .dec true)], .n 7, .r [(0, .obj (oL true 36 2 cEntry dEntry ([] : List TEntry)))], .n 2, .r [(2, .dec false)], .n 7, .r [(1, .dec true)], .n 2, .r [(7, .call (.tup [.sref 0 46 5 (y_114.1).length, .sref 1 36 2 (y_114.2.1).length, .p (.int .i64 y_114.2.2)]) [(oL true 46 5 cCached dCached y_114.1), (oL true 36 2 cEntry dEntry y_114.2.1)])], .n 1, .r [(7, .call (.tup [.sref 0 46 5 (y_116.1).length, .p (eL 2 cEntry dEntry y_116.2.1), .p (.int .i64 y_116.2.2)]) [(oL true 46 5 cCached dCached y_116.1)])], .n 2, .r [(3, .dec false), (6, .call (.p (.bool y_119)) []), (9, .dec false), (12, .call (.p (.bool y_122)) []), (14, .dec false)], .n 3, .r [(1, .dec false)], .n 4, .r [(2, .call (.p (.bool y_137)) []), (4, .dec true)], .n 3] (by kernel_rfl) (Obs.of (by kernel_rfl) (And.intro g_14 (And.intro g_15 (And.intro (le_nil 36 2 cEntry dEntry) (And.intro (nt g_16) (And.intro g_113 (And.intro (cache_Lookup.spec e_115) (And.intro (erasureref30_Lookup.spec e_117) (And.intro (nt g_118) (And.intro (erasureref30_Same.spec e_120) (And.intro (nt g_121) (And.intro (erasureref26_SameBag.spec e_123) (And.intro (nt g_124) (And.intro (nt g_125) (And.intro (erasureref30_Same.spec e_138) g_139)))))))))))))))
                  · obtain ⟨y_140, e_141, h⟩ := bind_or h
                    rcases ite_or h with ⟨g_142, h⟩ | ⟨g_142, h⟩
                    · obtain rfl := Option.some.inj h
                      exact RunC.out [.n 2, .r [(3, .dec true)], .n 7, .r [(0, .obj (oL true 36 2 cEntry dEntry ([] : List TEntry)))], .n 2, .r [(2, .dec false)], .n 7, .r [(1, .dec true)], .n 2, .r [(7, .call (.tup [.sref 0 46 5 (y_114.1).length, .sref 1 36 2 (y_114.2.1).length, .p (.int .i64 y_114.2.2)]) [(oL true 46 5 cCached dCached y_114.1), (oL true 36 2 cEntry dEntry y_114.2.1)])], .n 1, .r [(7, .call (.tup [.sref 0 46 5 (y_116.1).length, .p (eL 2 cEntry dEntry y_116.2.1), .p (.int .i64 y_116.2.2)]) [(oL true 46 5 cCached dCached y_116.1)])], .n 2, .r [(3, .dec false), (6, .call (.p (.bool y_119)) []), (9, .dec false), (12, .call (.p (.bool y_122)) []), (14, .dec false)], .n 3, .r [(1, .dec false)], .n 4, .r [(2, .call (.p (.bool y_137)) []), (4, .dec false), (6, .call (.p (.bool y_140)) []), (9, .dec true)], .n 3] (by kernel_rfl) (Obs.of (by kernel_rfl) (And.intro g_14 (And.intro g_15 (And.intro (le_nil 36 2 cEntry dEntry) (And.intro (nt g_16) (And.intro g_113 (And.intro (cache_Lookup.spec e_115) (And.intro (erasureref30_Lookup.spec e_117) (And.intro (nt g_118) (And.intro (erasureref30_Same.spec e_120) (And.intro (nt g_121) (And.intro (erasureref26_SameBag.spec e_123) (And.intro (nt g_124) (And.intro (nt g_125) (And.intro (erasureref30_Same.spec e_138) (And.intro (nt g_139) (And.intro (cache_Valid.spec e_141) g_142)))))))))))))))))
                    · obtain ⟨y_143, e_144, h⟩ := bind_or h
                      obtain ⟨y_145, e_146, h⟩ := bind_or h
                      rcases ite_or h with ⟨g_147, h⟩ | ⟨g_147, h⟩
                      · obtain rfl := Option.some.inj h
                        exact RunC.out [.n 2, .r [(3, .dec true)], .n 7, .r [(0, .obj (oL true 36 2 cEntry dEntry ([] : List TEntry)))], .n 2, .r [(2, .dec false)], .n 7, .r [(1, .dec true)], .n 2, .r [(7, .call (.tup [.sref 0 46 5 (y_114.1).length, .sref 1 36 2 (y_114.2.1).length, .p (.int .i64 y_114.2.2)]) [(oL true 46 5 cCached dCached y_114.1), (oL true 36 2 cEntry dEntry y_114.2.1)])], .n 1, .r [(7, .call (.tup [.sref 0 46 5 (y_116.1).length, .p (eL 2 cEntry dEntry y_116.2.1), .p (.int .i64 y_116.2.2)]) [(oL true 46 5 cCached dCached y_116.1)])], .n 2, .r [(3, .dec false), (6, .call (.p (.bool y_119)) []), (9, .dec false), (12, .call (.p (.bool y_122)) []), (14, .dec false)], .n 3, .r [(1, .dec false)], .n 4, .r [(2, .call (.p (.bool y_137)) []), (4, .dec false), (6, .call (.p (.bool y_140)) []), (9, .dec false), (13, .call (.p (.bool y_143)) []), (17, .call (.p (.bool y_145)) []), (19, .dec true)], .n 3] (by kernel_rfl) (Obs.of (by kernel_rfl) (And.intro g_14 (And.intro g_15 (And.intro (le_nil 36 2 cEntry dEntry) (And.intro (nt g_16) (And.intro g_113 (And.intro (cache_Lookup.spec e_115) (And.intro (erasureref30_Lookup.spec e_117) (And.intro (nt g_118) (And.intro (erasureref30_Same.spec e_120) (And.intro (nt g_121) (And.intro (erasureref26_SameBag.spec e_123) (And.intro (nt g_124) (And.intro (nt g_125) (And.intro (erasureref30_Same.spec e_138) (And.intro (nt g_139) (And.intro (cache_Valid.spec e_141) (And.intro (nt g_142) (And.intro (cache_Fresh.spec e_144) (And.intro (erasureref30_Fresh.spec e_146) g_147))))))))))))))))))))
                      · exact RunC.go [.n 2, .r [(3, .dec true)], .n 7, .r [(0, .obj (oL true 36 2 cEntry dEntry ([] : List TEntry)))], .n 2, .r [(2, .dec false)], .n 7, .r [(1, .dec true)], .n 2, .r [(7, .call (.tup [.sref 0 46 5 (y_114.1).length, .sref 1 36 2 (y_114.2.1).length, .p (.int .i64 y_114.2.2)]) [(oL true 46 5 cCached dCached y_114.1), (oL true 36 2 cEntry dEntry y_114.2.1)])], .n 1, .r [(7, .call (.tup [.sref 0 46 5 (y_116.1).length, .p (eL 2 cEntry dEntry y_116.2.1), .p (.int .i64 y_116.2.2)]) [(oL true 46 5 cCached dCached y_116.1)])], .n 2, .r [(3, .dec false), (6, .call (.p (.bool y_119)) []), (9, .dec false), (12, .call (.p (.bool y_122)) []), (14, .dec false)], .n 3, .r [(1, .dec false)], .n 4, .r [(2, .call (.p (.bool y_137)) []), (4, .dec false), (6, .call (.p (.bool y_140)) []), (9, .dec false), (13, .call (.p (.bool y_143)) []), (17, .call (.p (.bool y_145)) []), (19, .dec false)], .n 5, .k [1, 2, 3, 8, 9, 10]] (by kernel_rfl) (Obs.of (by kernel_rfl) (And.intro g_14 (And.intro g_15 (And.intro (le_nil 36 2 cEntry dEntry) (And.intro (nt g_16) (And.intro g_113 (And.intro (cache_Lookup.spec e_115) (And.intro (erasureref30_Lookup.spec e_117) (And.intro (nt g_118) (And.intro (erasureref30_Same.spec e_120) (And.intro (nt g_121) (And.intro (erasureref26_SameBag.spec e_123) (And.intro (nt g_124) (And.intro (nt g_125) (And.intro (erasureref30_Same.spec e_138) (And.intro (nt g_139) (And.intro (cache_Valid.spec e_141) (And.intro (nt g_142) (And.intro (cache_Fresh.spec e_144) (And.intro (erasureref30_Fresh.spec e_146) (nt g_147))))))))))))))))))))) (ih _ _ _ _ _ _ r h)
        · rcases ite_or h with ⟨g_148, h⟩ | ⟨g_148, h⟩
          · obtain ⟨y_149, e_150, h⟩ := bind_or h
            obtain ⟨y_151, e_152, h⟩ := bind_or h
            obtain ⟨y_153, e_154, h⟩ := bind_or h
            rcases ite_or h with ⟨g_155, h⟩ | ⟨g_155, h⟩
            · obtain rfl := Option.some.inj h
              exact RunC.out [.n 2, .r [(3, .dec true)], .n 7, .r [(0, .obj (oL true 36 2 cEntry dEntry ([] : List TEntry)))], .n 2, .r [(2, .dec false)], .n 7, .r [(1, .dec false)], .n 2, .r [(1, .dec true)], .n 2, .r [(5, .call (.sref 0 46 5 (y_149).length) [(oL true 46 5 cCached dCached y_149)])], .r [(5, .call (.sref 0 46 5 (y_151).length) [(oL true 46 5 cCached dCached y_151)])], .n 2, .r [(2, .call (.p (.bool y_153)) []), (4, .dec true)], .n 3] (by kernel_rfl) (Obs.of (by kernel_rfl) (And.intro g_14 (And.intro g_15 (And.intro (le_nil 36 2 cEntry dEntry) (And.intro (nt g_16) (And.intro (nt g_113) (And.intro g_148 (And.intro (cache_Refill.spec e_150) (And.intro (erasureref30_Refill.spec e_152) (And.intro (erasureref30_Same.spec e_154) g_155))))))))))
            · obtain ⟨y_156, e_157, h⟩ := bind_or h
              rcases ite_or h with ⟨g_158, h⟩ | ⟨g_158, h⟩
              · obtain rfl := Option.some.inj h
                exact RunC.out [.n 2, .r [(3, .dec true)], .n 7, .r [(0, .obj (oL true 36 2 cEntry dEntry ([] : List TEntry)))], .n 2, .r [(2, .dec false)], .n 7, .r [(1, .dec false)], .n 2, .r [(1, .dec true)], .n 2, .r [(5, .call (.sref 0 46 5 (y_149).length) [(oL true 46 5 cCached dCached y_149)])], .r [(5, .call (.sref 0 46 5 (y_151).length) [(oL true 46 5 cCached dCached y_151)])], .n 2, .r [(2, .call (.p (.bool y_153)) []), (4, .dec false), (6, .call (.p (.bool y_156)) []), (9, .dec true)], .n 3] (by kernel_rfl) (Obs.of (by kernel_rfl) (And.intro g_14 (And.intro g_15 (And.intro (le_nil 36 2 cEntry dEntry) (And.intro (nt g_16) (And.intro (nt g_113) (And.intro g_148 (And.intro (cache_Refill.spec e_150) (And.intro (erasureref30_Refill.spec e_152) (And.intro (erasureref30_Same.spec e_154) (And.intro (nt g_155) (And.intro (cache_Valid.spec e_157) g_158))))))))))))
              · obtain ⟨y_159, e_160, h⟩ := bind_or h
                obtain ⟨y_161, e_162, h⟩ := bind_or h
                rcases ite_or h with ⟨g_163, h⟩ | ⟨g_163, h⟩
                · obtain rfl := Option.some.inj h
                  exact RunC.out [.n 2, .r [(3, .dec true)], .n 7, .r [(0, .obj (oL true 36 2 cEntry dEntry ([] : List TEntry)))], .n 2, .r [(2, .dec false)], .n 7, .r [(1, .dec false)], .n 2, .r [(1, .dec true)], .n 2, .r [(5, .call (.sref 0 46 5 (y_149).length) [(oL true 46 5 cCached dCached y_149)])], .r [(5, .call (.sref 0 46 5 (y_151).length) [(oL true 46 5 cCached dCached y_151)])], .n 2, .r [(2, .call (.p (.bool y_153)) []), (4, .dec false), (6, .call (.p (.bool y_156)) []), (9, .dec false), (13, .call (.p (.bool y_159)) []), (17, .call (.p (.bool y_161)) []), (19, .dec true)], .n 3] (by kernel_rfl) (Obs.of (by kernel_rfl) (And.intro g_14 (And.intro g_15 (And.intro (le_nil 36 2 cEntry dEntry) (And.intro (nt g_16) (And.intro (nt g_113) (And.intro g_148 (And.intro (cache_Refill.spec e_150) (And.intro (erasureref30_Refill.spec e_152) (And.intro (erasureref30_Same.spec e_154) (And.intro (nt g_155) (And.intro (cache_Valid.spec e_157) (And.intro (nt g_158) (And.intro (cache_Fresh.spec e_160) (And.intro (erasureref30_Fresh.spec e_162) g_163)))))))))))))))
                · exact RunC.go [.n 2, .r [(3, .dec true)], .n 7, .r [(0, .obj (oL true 36 2 cEntry dEntry ([] : List TEntry)))], .n 2, .r [(2, .dec false)], .n 7, .r [(1, .dec false)], .n 2, .r [(1, .dec true)], .n 2, .r [(5, .call (.sref 0 46 5 (y_149).length) [(oL true 46 5 cCached dCached y_149)])], .r [(5, .call (.sref 0 46 5 (y_151).length) [(oL true 46 5 cCached dCached y_151)])], .n 2, .r [(2, .call (.p (.bool y_153)) []), (4, .dec false), (6, .call (.p (.bool y_156)) []), (9, .dec false), (13, .call (.p (.bool y_159)) []), (17, .call (.p (.bool y_161)) []), (19, .dec false)], .n 5, .f 8, .f 9, .k [1, 2, 3, 8, 9, 10]] (by kernel_rfl) (Obs.of (by kernel_rfl) (And.intro g_14 (And.intro g_15 (And.intro (le_nil 36 2 cEntry dEntry) (And.intro (nt g_16) (And.intro (nt g_113) (And.intro g_148 (And.intro (cache_Refill.spec e_150) (And.intro (erasureref30_Refill.spec e_152) (And.intro (erasureref30_Same.spec e_154) (And.intro (nt g_155) (And.intro (cache_Valid.spec e_157) (And.intro (nt g_158) (And.intro (cache_Fresh.spec e_160) (And.intro (erasureref30_Fresh.spec e_162) (nt g_163)))))))))))))))) (ih _ _ _ _ _ _ r h)
          · rcases ite_or h with ⟨g_164, h⟩ | ⟨g_164, h⟩
            · obtain ⟨y_165, e_166, h⟩ := bind_or h
              obtain ⟨y_167, e_168, h⟩ := bind_or h
              obtain ⟨y_169, e_170, h⟩ := bind_or h
              rcases ite_or h with ⟨g_171, h⟩ | ⟨g_171, h⟩
              · obtain rfl := Option.some.inj h
                exact RunC.out [.n 2, .r [(3, .dec true)], .n 7, .r [(0, .obj (oL true 36 2 cEntry dEntry ([] : List TEntry)))], .n 2, .r [(2, .dec false)], .n 7, .r [(1, .dec false)], .n 2, .r [(1, .dec false)], .n 2, .r [(1, .dec true)], .n 2, .r [(3, .obj (oL true 24 3 cValue dValue [(A2.getD v10.toNat dAct).f1])), (4, .call (.sref 0 46 5 (y_165).length) [(oL true 46 5 cCached dCached y_165)])], .r [(3, .obj (oL true 24 3 cValue dValue [(A2.getD v10.toNat dAct).f1])), (4, .call (.p (eL 5 cCached dCached y_167)) [])], .n 2, .r [(2, .call (.p (.bool y_169)) []), (4, .dec true)], .n 3] (by kernel_rfl) (Obs.of (by kernel_rfl) (And.intro g_14 (And.intro g_15 (And.intro (le_nil 36 2 cEntry dEntry) (And.intro (nt g_16) (And.intro (nt g_113) (And.intro (nt g_148) (And.intro g_164 (And.intro (le_one 24 3 cValue dValue ((A2.getD v10.toNat dAct).f1)) (And.intro (cache_Purge.spec e_166) (And.intro (le_one 24 3 cValue dValue ((A2.getD v10.toNat dAct).f1)) (And.intro (erasureref30_Purge.spec e_168) (And.intro (erasureref30_Same.spec e_170) g_171)))))))))))))
              · obtain ⟨y_172, e_173, h⟩ := bind_or h
                rcases ite_or h with ⟨g_174, h⟩ | ⟨g_174, h⟩
                · obtain rfl := Option.some.inj h
                  exact RunC.out [.n 2, .r [(3, .dec true)], .n 7, .r [(0, .obj (oL true 36 2 cEntry dEntry ([] : List TEntry)))], .n 2, .r [(2, .dec false)], .n 7, .r [(1, .dec false)], .n 2, .r [(1, .dec false)], .n 2, .r [(1, .dec true)], .n 2, .r [(3, .obj (oL true 24 3 cValue dValue [(A2.getD v10.toNat dAct).f1])), (4, .call (.sref 0 46 5 (y_165).length) [(oL true 46 5 cCached dCached y_165)])], .r [(3, .obj (oL true 24 3 cValue dValue [(A2.getD v10.toNat dAct).f1])), (4, .call (.p (eL 5 cCached dCached y_167)) [])], .n 2, .r [(2, .call (.p (.bool y_169)) []), (4, .dec false), (6, .call (.p (.bool y_172)) []), (9, .dec true)], .n 3] (by kernel_rfl) (Obs.of (by kernel_rfl) (And.intro g_14 (And.intro g_15 (And.intro (le_nil 36 2 cEntry dEntry) (And.intro (nt g_16) (And.intro (nt g_113) (And.intro (nt g_148) (And.intro g_164 (And.intro (le_one 24 3 cValue dValue ((A2.getD v10.toNat dAct).f1)) (And.intro (cache_Purge.spec e_166) (And.intro (le_one 24 3 cValue dValue ((A2.getD v10.toNat dAct).f1)) (And.intro (erasureref30_Purge.spec e_168) (And.intro (erasureref30_Same.spec e_170) (And.intro (nt g_171) (And.intro (cache_Valid.spec e_173) g_174)))))))))))))))
                · obtain ⟨y_175, e_176, h⟩ := bind_or h
                  obtain ⟨y_177, e_178, h⟩ := bind_or h
                  rcases ite_or h with ⟨g_179, h⟩ | ⟨g_179, h⟩
                  · obtain rfl := Option.some.inj h
                    exact RunC.out [.n 2, .r [(3, .dec true)], .n 7, .r [(0, .obj (oL true 36 2 cEntry dEntry ([] : List TEntry)))], .n 2, .r [(2, .dec false)], .n 7, .r [(1, .dec false)], .n 2, .r [(1, .dec false)], .n 2, .r [(1, .dec true)], .n 2, .r [(3, .obj (oL true 24 3 cValue dValue [(A2.getD v10.toNat dAct).f1])), (4, .call (.sref 0 46 5 (y_165).length) [(oL true 46 5 cCached dCached y_165)])], .r [(3, .obj (oL true 24 3 cValue dValue [(A2.getD v10.toNat dAct).f1])), (4, .call (.p (eL 5 cCached dCached y_167)) [])], .n 2, .r [(2, .call (.p (.bool y_169)) []), (4, .dec false), (6, .call (.p (.bool y_172)) []), (9, .dec false), (13, .call (.p (.bool y_175)) []), (17, .call (.p (.bool y_177)) []), (19, .dec true)], .n 3] (by kernel_rfl) (Obs.of (by kernel_rfl) (And.intro g_14 (And.intro g_15 (And.intro (le_nil 36 2 cEntry dEntry) (And.intro (nt g_16) (And.intro (nt g_113) (And.intro (nt g_148) (And.intro g_164 (And.intro (le_one 24 3 cValue dValue ((A2.getD v10.toNat dAct).f1)) (And.intro (cache_Purge.spec e_166) (And.intro (le_one 24 3 cValue dValue ((A2.getD v10.toNat dAct).f1)) (And.intro (erasureref30_Purge.spec e_168) (And.intro (erasureref30_Same.spec e_170) (And.intro (nt g_171) (And.intro (cache_Valid.spec e_173) (And.intro (nt g_174) (And.intro (cache_Fresh.spec e_176) (And.intro (erasureref30_Fresh.spec e_178) g_179))))))))))))))))))
                  · exact RunC.go [.n 2, .r [(3, .dec true)], .n 7, .r [(0, .obj (oL true 36 2 cEntry dEntry ([] : List TEntry)))], .n 2, .r [(2, .dec false)], .n 7, .r [(1, .dec false)], .n 2, .r [(1, .dec false)], .n 2, .r [(1, .dec true)], .n 2, .r [(3, .obj (oL true 24 3 cValue dValue [(A2.getD v10.toNat dAct).f1])), (4, .call (.sref 0 46 5 (y_165).length) [(oL true 46 5 cCached dCached y_165)])], .r [(3, .obj (oL true 24 3 cValue dValue [(A2.getD v10.toNat dAct).f1])), (4, .call (.p (eL 5 cCached dCached y_167)) [])], .n 2, .r [(2, .call (.p (.bool y_169)) []), (4, .dec false), (6, .call (.p (.bool y_172)) []), (9, .dec false), (13, .call (.p (.bool y_175)) []), (17, .call (.p (.bool y_177)) []), (19, .dec false)], .n 5, .f 8, .k [1, 2, 3, 8, 9, 10]] (by kernel_rfl) (Obs.of (by kernel_rfl) (And.intro g_14 (And.intro g_15 (And.intro (le_nil 36 2 cEntry dEntry) (And.intro (nt g_16) (And.intro (nt g_113) (And.intro (nt g_148) (And.intro g_164 (And.intro (le_one 24 3 cValue dValue ((A2.getD v10.toNat dAct).f1)) (And.intro (cache_Purge.spec e_166) (And.intro (le_one 24 3 cValue dValue ((A2.getD v10.toNat dAct).f1)) (And.intro (erasureref30_Purge.spec e_168) (And.intro (erasureref30_Same.spec e_170) (And.intro (nt g_171) (And.intro (cache_Valid.spec e_173) (And.intro (nt g_174) (And.intro (cache_Fresh.spec e_176) (And.intro (erasureref30_Fresh.spec e_178) (nt g_179))))))))))))))))))) (ih _ _ _ _ _ _ r h)
            · rcases ite_or h with ⟨g_180, h⟩ | ⟨g_180, h⟩
              · obtain ⟨y_181, e_182, h⟩ := bind_or h
                obtain ⟨y_183, e_184, h⟩ := bind_or h
                obtain ⟨y_185, e_186, h⟩ := bind_or h
                rcases ite_or h with ⟨g_187, h⟩ | ⟨g_187, h⟩
                · obtain rfl := Option.some.inj h
                  exact RunC.out [.n 2, .r [(3, .dec true)], .n 7, .r [(0, .obj (oL true 36 2 cEntry dEntry ([] : List TEntry)))], .n 2, .r [(2, .dec false)], .n 7, .r [(1, .dec false)], .n 2, .r [(1, .dec false)], .n 2, .r [(1, .dec false)], .n 2, .r [(1, .dec true)], .n 2, .r [(4, .call (.sref 0 46 5 (y_181).length) [(oL true 46 5 cCached dCached y_181)])], .r [(4, .call (.sref 0 46 5 (y_183).length) [(oL true 46 5 cCached dCached y_183)])], .n 2, .r [(2, .call (.p (.bool y_185)) []), (4, .dec true)], .n 3] (by kernel_rfl) (Obs.of (by kernel_rfl) (And.intro g_14 (And.intro g_15 (And.intro (le_nil 36 2 cEntry dEntry) (And.intro (nt g_16) (And.intro (nt g_113) (And.intro (nt g_148) (And.intro (nt g_164) (And.intro g_180 (And.intro (cache_Expire.spec e_182) (And.intro (erasureref30_Expire.spec e_184) (And.intro (erasureref30_Same.spec e_186) g_187))))))))))))
                · obtain ⟨y_188, e_189, h⟩ := bind_or h
                  rcases ite_or h with ⟨g_190, h⟩ | ⟨g_190, h⟩
                  · obtain rfl := Option.some.inj h
                    exact RunC.out [.n 2, .r [(3, .dec true)], .n 7, .r [(0, .obj (oL true 36 2 cEntry dEntry ([] : List TEntry)))], .n 2, .r [(2, .dec false)], .n 7, .r [(1, .dec false)], .n 2, .r [(1, .dec false)], .n 2, .r [(1, .dec false)], .n 2, .r [(1, .dec true)], .n 2, .r [(4, .call (.sref 0 46 5 (y_181).length) [(oL true 46 5 cCached dCached y_181)])], .r [(4, .call (.sref 0 46 5 (y_183).length) [(oL true 46 5 cCached dCached y_183)])], .n 2, .r [(2, .call (.p (.bool y_185)) []), (4, .dec false), (6, .call (.p (.bool y_188)) []), (9, .dec true)], .n 3] (by kernel_rfl) (Obs.of (by kernel_rfl) (And.intro g_14 (And.intro g_15 (And.intro (le_nil 36 2 cEntry dEntry) (And.intro (nt g_16) (And.intro (nt g_113) (And.intro (nt g_148) (And.intro (nt g_164) (And.intro g_180 (And.intro (cache_Expire.spec e_182) (And.intro (erasureref30_Expire.spec e_184) (And.intro (erasureref30_Same.spec e_186) (And.intro (nt g_187) (And.intro (cache_Valid.spec e_189) g_190))))))))))))))
                  · obtain ⟨y_191, e_192, h⟩ := bind_or h
                    obtain ⟨y_193, e_194, h⟩ := bind_or h
                    rcases ite_or h with ⟨g_195, h⟩ | ⟨g_195, h⟩
                    · obtain rfl := Option.some.inj h
                      exact RunC.out [.n 2, .r [(3, .dec true)], .n 7, .r [(0, .obj (oL true 36 2 cEntry dEntry ([] : List TEntry)))], .n 2, .r [(2, .dec false)], .n 7, .r [(1, .dec false)], .n 2, .r [(1, .dec false)], .n 2, .r [(1, .dec false)], .n 2, .r [(1, .dec true)], .n 2, .r [(4, .call (.sref 0 46 5 (y_181).length) [(oL true 46 5 cCached dCached y_181)])], .r [(4, .call (.sref 0 46 5 (y_183).length) [(oL true 46 5 cCached dCached y_183)])], .n 2, .r [(2, .call (.p (.bool y_185)) []), (4, .dec false), (6, .call (.p (.bool y_188)) []), (9, .dec false), (13, .call (.p (.bool y_191)) []), (17, .call (.p (.bool y_193)) []), (19, .dec true)], .n 3] (by kernel_rfl) (Obs.of (by kernel_rfl) (And.intro g_14 (And.intro g_15 (And.intro (le_nil 36 2 cEntry dEntry) (And.intro (nt g_16) (And.intro (nt g_113) (And.intro (nt g_148) (And.intro (nt g_164) (And.intro g_180 (And.intro (cache_Expire.spec e_182) (And.intro (erasureref30_Expire.spec e_184) (And.intro (erasureref30_Same.spec e_186) (And.intro (nt g_187) (And.intro (cache_Valid.spec e_189) (And.intro (nt g_190) (And.intro (cache_Fresh.spec e_192) (And.intro (erasureref30_Fresh.spec e_194) g_195)))))))))))))))))
                    · exact RunC.go [.n 2, .r [(3, .dec true)], .n 7, .r [(0, .obj (oL true 36 2 cEntry dEntry ([] : List TEntry)))], .n 2, .r [(2, .dec false)], .n 7, .r [(1, .dec false)], .n 2, .r [(1, .dec false)], .n 2, .r [(1, .dec false)], .n 2, .r [(1, .dec true)], .n 2, .r [(4, .call (.sref 0 46 5 (y_181).length) [(oL true 46 5 cCached dCached y_181)])], .r [(4, .call (.sref 0 46 5 (y_183).length) [(oL true 46 5 cCached dCached y_183)])], .n 2, .r [(2, .call (.p (.bool y_185)) []), (4, .dec false), (6, .call (.p (.bool y_188)) []), (9, .dec false), (13, .call (.p (.bool y_191)) []), (17, .call (.p (.bool y_193)) []), (19, .dec false)], .n 5, .f 8, .f 9, .k [1, 2, 3, 8, 9, 10]] (by kernel_rfl) (Obs.of (by kernel_rfl) (And.intro g_14 (And.intro g_15 (And.intro (le_nil 36 2 cEntry dEntry) (And.intro (nt g_16) (And.intro (nt g_113) (And.intro (nt g_148) (And.intro (nt g_164) (And.intro g_180 (And.intro (cache_Expire.spec e_182) (And.intro (erasureref30_Expire.spec e_184) (And.intro (erasureref30_Same.spec e_186) (And.intro (nt g_187) (And.intro (cache_Valid.spec e_189) (And.intro (nt g_190) (And.intro (cache_Fresh.spec e_192) (And.intro (erasureref30_Fresh.spec e_194) (nt g_195)))))))))))))))))) (ih _ _ _ _ _ _ r h)
              · obtain ⟨y_196, e_197, h⟩ := bind_or h
                rcases ite_or h with ⟨g_198, h⟩ | ⟨g_198, h⟩
                · obtain rfl := Option.some.inj h
                  exact RunC.out [.n 2, .r [(3, .dec true)], .n 7, .r [(0, .obj (oL true 36 2 cEntry dEntry ([] : List TEntry)))], .n 2, .r [(2, .dec false)], .n 7, .r [(1, .dec false)], .n 2, .r [(1, .dec false)], .n 2, .r [(1, .dec false)], .n 2, .r [(1, .dec false)], .n 4, .r [(2, .call (.p (.bool y_196)) []), (4, .dec true)], .n 3] (by kernel_rfl) (Obs.of (by kernel_rfl) (And.intro g_14 (And.intro g_15 (And.intro (le_nil 36 2 cEntry dEntry) (And.intro (nt g_16) (And.intro (nt g_113) (And.intro (nt g_148) (And.intro (nt g_164) (And.intro (nt g_180) (And.intro (erasureref30_Same.spec e_197) g_198))))))))))
                · obtain ⟨y_199, e_200, h⟩ := bind_or h
                  rcases ite_or h with ⟨g_201, h⟩ | ⟨g_201, h⟩
                  · obtain rfl := Option.some.inj h
                    exact RunC.out [.n 2, .r [(3, .dec true)], .n 7, .r [(0, .obj (oL true 36 2 cEntry dEntry ([] : List TEntry)))], .n 2, .r [(2, .dec false)], .n 7, .r [(1, .dec false)], .n 2, .r [(1, .dec false)], .n 2, .r [(1, .dec false)], .n 2, .r [(1, .dec false)], .n 4, .r [(2, .call (.p (.bool y_196)) []), (4, .dec false), (6, .call (.p (.bool y_199)) []), (9, .dec true)], .n 3] (by kernel_rfl) (Obs.of (by kernel_rfl) (And.intro g_14 (And.intro g_15 (And.intro (le_nil 36 2 cEntry dEntry) (And.intro (nt g_16) (And.intro (nt g_113) (And.intro (nt g_148) (And.intro (nt g_164) (And.intro (nt g_180) (And.intro (erasureref30_Same.spec e_197) (And.intro (nt g_198) (And.intro (cache_Valid.spec e_200) g_201))))))))))))
                  · obtain ⟨y_202, e_203, h⟩ := bind_or h
                    obtain ⟨y_204, e_205, h⟩ := bind_or h
                    rcases ite_or h with ⟨g_206, h⟩ | ⟨g_206, h⟩
                    · obtain rfl := Option.some.inj h
                      exact RunC.out [.n 2, .r [(3, .dec true)], .n 7, .r [(0, .obj (oL true 36 2 cEntry dEntry ([] : List TEntry)))], .n 2, .r [(2, .dec false)], .n 7, .r [(1, .dec false)], .n 2, .r [(1, .dec false)], .n 2, .r [(1, .dec false)], .n 2, .r [(1, .dec false)], .n 4, .r [(2, .call (.p (.bool y_196)) []), (4, .dec false), (6, .call (.p (.bool y_199)) []), (9, .dec false), (13, .call (.p (.bool y_202)) []), (17, .call (.p (.bool y_204)) []), (19, .dec true)], .n 3] (by kernel_rfl) (Obs.of (by kernel_rfl) (And.intro g_14 (And.intro g_15 (And.intro (le_nil 36 2 cEntry dEntry) (And.intro (nt g_16) (And.intro (nt g_113) (And.intro (nt g_148) (And.intro (nt g_164) (And.intro (nt g_180) (And.intro (erasureref30_Same.spec e_197) (And.intro (nt g_198) (And.intro (cache_Valid.spec e_200) (And.intro (nt g_201) (And.intro (cache_Fresh.spec e_203) (And.intro (erasureref30_Fresh.spec e_205) g_206)))))))))))))))
                    · exact RunC.go [.n 2, .r [(3, .dec true)], .n 7, .r [(0, .obj (oL true 36 2 cEntry dEntry ([] : List TEntry)))], .n 2, .r [(2, .dec false)], .n 7, .r [(1, .dec false)], .n 2, .r [(1, .dec false)], .n 2, .r [(1, .dec false)], .n 2, .r [(1, .dec false)], .n 4, .r [(2, .call (.p (.bool y_196)) []), (4, .dec false), (6, .call (.p (.bool y_199)) []), (9, .dec false), (13, .call (.p (.bool y_202)) []), (17, .call (.p (.bool y_204)) []), (19, .dec false)], .n 5, .k [1, 2, 3, 8, 9, 10]] (by kernel_rfl) (Obs.of (by kernel_rfl) (And.intro g_14 (And.intro g_15 (And.intro (le_nil 36 2 cEntry dEntry) (And.intro (nt g_16) (And.intro (nt g_113) (And.intro (nt g_148) (And.intro (nt g_164) (And.intro (nt g_180) (And.intro (erasureref30_Same.spec e_197) (And.intro (nt g_198) (And.intro (cache_Valid.spec e_200) (And.intro (nt g_201) (And.intro (cache_Fresh.spec e_203) (And.intro (erasureref30_Fresh.spec e_205) (nt g_206)))))))))))))))) (ih _ _ _ _ _ _ r h)
    · obtain ⟨y_207, e_208, h⟩ := bind_or h
      obtain rfl := Option.some.inj h
      exact RunC.out [.n 2, .r [(3, .dec false)], .n 3, .r [(0, .call (.p (.bool y_207)) [])]] (by kernel_rfl) (Obs.of (by kernel_rfl) (And.intro (nt g_14) (erasurelaw30_awake.spec e_208)))
theorem erasurelaw30_CachePlays.p1.run   : ∀ (k : Nat) (o1 : (List (List TEntry))) (A2 : (List TAct)) (v7 : Int) (r3b : TCache) (r : Bool), erasurelaw30_CachePlays.p1 k o1 A2 v7 r3b = some r → RunC Try.prog Try.f6 erasurelaw30_CachePlays.p1.t (erasurelaw30_CachePlays.p1.s o1 A2 v7 r3b) (.p (.bool r)) [] := by
  intro k
  induction k with
  | zero => intro o1 A2 v7 r3b r h; simp [erasurelaw30_CachePlays.p1] at h
  | succ k ih =>
    intro o1 A2 v7 r3b r h
    rw [erasurelaw30_CachePlays.p1] at h
    rcases ite_or h with ⟨g_7, h⟩ | ⟨g_7, h⟩
    · obtain ⟨g_8, h⟩ := ite_some h
      obtain ⟨y_9, e_10, h⟩ := bind_or h
      rcases ite_or h with ⟨g_11, h⟩ | ⟨g_11, h⟩
      · obtain ⟨y_12, e_13, h⟩ := bind_or h
        obtain rfl := Option.some.inj h
        exact RunC.out [.n 2, .r [(3, .dec true)], .n 5, .r [(4, .call (.p (.bool y_9)) []), (5, .dec true)], .n 2, .r [(0, .call (.p (.bool y_12)) [])]] (by kernel_rfl) (Obs.of (by kernel_rfl) (And.intro g_7 (And.intro g_8 (And.intro (erasurelaw30_short.spec e_10) (And.intro g_11 (erasurelaw30_awake.spec e_13))))))
      · exact RunC.go [.n 2, .r [(3, .dec true)], .n 5, .r [(4, .call (.p (.bool y_9)) []), (5, .dec false)], .n 5, .k [1, 2, 3, 7]] (by kernel_rfl) (Obs.of (by kernel_rfl) (And.intro g_7 (And.intro g_8 (And.intro (erasurelaw30_short.spec e_10) (nt g_11))))) (ih _ _ _ _ r h)
    · exact RunC.go [.n 2, .r [(3, .dec false)], .n 3, .r [(0, .obj (oL true 46 5 cCached dCached ([] : List TCached))), (1, .obj (oL true 46 5 cCached dCached ([] : List TCached)))], .n 5, .f 8, .f 9, .k [1, 2, 3, 8, 9, 10]] (by kernel_rfl) (Obs.of (by kernel_rfl) (And.intro (nt g_7) (And.intro (le_nil 46 5 cCached dCached) (le_nil 46 5 cCached dCached)))) (erasurelaw30_CachePlays.p2.run k _ _ _ _ _ _ r h)
theorem erasurelaw30_CachePlays.run   {k : Nat} {t0 : TCache} {o1 : (List (List TEntry))} {A2 : (List TAct)} {r : Bool} (h : erasurelaw30_CachePlays k t0 o1 A2 = some r) : RunC Try.prog Try.f6 erasurelaw30_CachePlays.t (erasurelaw30_CachePlays.s t0 o1 A2) (.p (.bool r)) [] := by
  unfold erasurelaw30_CachePlays at h
  rcases ite_or h with ⟨g_1, h⟩ | ⟨g_1, h⟩
  · obtain ⟨y_2, e_3, h⟩ := bind_or h
    obtain rfl := Option.some.inj h
    exact RunC.out [.n 4, .r [(3, .dec true)], .n 2, .r [(0, .call (.p (.bool y_2)) [])]] (by kernel_rfl) (Obs.of (by kernel_rfl) (And.intro g_1 (erasurelaw30_awake.spec e_3)))
  · rcases ite_or h with ⟨g_4, h⟩ | ⟨g_4, h⟩
    · obtain ⟨y_5, e_6, h⟩ := bind_or h
      obtain rfl := Option.some.inj h
      exact RunC.out [.n 4, .r [(3, .dec false), (7, .dec true)], .n 2, .r [(0, .call (.p (.bool y_5)) [])]] (by kernel_rfl) (Obs.of (by kernel_rfl) (And.intro (nt g_1) (And.intro g_4 (erasurelaw30_awake.spec e_6))))
    · exact RunC.go [.n 4, .r [(3, .dec false), (7, .dec false)], .n 7, .k [1, 2, 3, 7]] (by kernel_rfl) (Obs.of (by kernel_rfl) (And.intro (nt g_1) (nt g_4))) (erasurelaw30_CachePlays.p1.run k _ _ _ _ r h)
theorem erasurelaw30_CachePlays.p2.mono   : ∀ (k k' : Nat) (o1 : (List (List TEntry))) (A2 : (List TAct)) (v8 : (List TCached)) (v9 : (List TCached)) (v10 : Int) (r3b : TCache) (r : Bool), k ≤ k' → erasurelaw30_CachePlays.p2 k o1 A2 v8 v9 v10 r3b = some r → erasurelaw30_CachePlays.p2 k' o1 A2 v8 v9 v10 r3b = some r := by
  intro k
  induction k with
  | zero => intro k' o1 A2 v8 v9 v10 r3b r hk h; simp [erasurelaw30_CachePlays.p2] at h
  | succ k ih =>
    intro k' o1 A2 v8 v9 v10 r3b r hk h
    obtain ⟨k', rfl⟩ : ∃ m, k' = m + 1 := ⟨k' - 1, by omega⟩
    replace hk := Nat.le_of_succ_le_succ hk
    rw [erasurelaw30_CachePlays.p2] at h ⊢
    rcases ite_or h with ⟨g_14, h⟩ | ⟨g_14, h⟩
    · refine itp g_14 ?_
      obtain ⟨g_15, h⟩ := ite_some h
      refine itp g_15 ?_
      rcases ite_or h with ⟨g_16, h⟩ | ⟨g_16, h⟩
      · refine itp g_16 ?_
        obtain ⟨g_17, h⟩ := ite_some h
        refine itp g_17 ?_
        obtain ⟨g_18, h⟩ := ite_some h
        refine itp g_18 ?_
        rcases ite_or h with ⟨g_19, h⟩ | ⟨g_19, h⟩
        · refine itp g_19 ?_
          obtain ⟨y_20, e_21, h⟩ := bind_or h
          refine bnd (cache_Lookup.mono _ _ _ _ _ _ _ _ hk e_21) ?_
          obtain ⟨y_22, e_23, h⟩ := bind_or h
          refine bnd (erasureref30_Lookup.mono _ _ _ _ _ _ _ _ hk e_23) ?_
          rcases ite_or h with ⟨g_24, h⟩ | ⟨g_24, h⟩
          · refine itp g_24 ?_
            exact h
          · refine itn g_24 ?_
            obtain ⟨y_25, e_26, h⟩ := bind_or h
            refine bnd (erasureref30_Same.mono _ _ _ _ _ hk e_26) ?_
            rcases ite_or h with ⟨g_27, h⟩ | ⟨g_27, h⟩
            · refine itp g_27 ?_
              exact h
            · refine itn g_27 ?_
              obtain ⟨y_28, e_29, h⟩ := bind_or h
              refine bnd (erasureref26_SameBag.mono _ _ _ _ _ hk e_29) ?_
              rcases ite_or h with ⟨g_30, h⟩ | ⟨g_30, h⟩
              · refine itp g_30 ?_
                exact h
              · refine itn g_30 ?_
                rcases ite_or h with ⟨g_31, h⟩ | ⟨g_31, h⟩
                · refine itp g_31 ?_
                  obtain ⟨y_32, e_33, h⟩ := bind_or h
                  refine bnd (erasureref30_Same.mono _ _ _ _ _ hk e_33) ?_
                  rcases ite_or h with ⟨g_34, h⟩ | ⟨g_34, h⟩
                  · refine itp g_34 ?_
                    exact h
                  · refine itn g_34 ?_
                    obtain ⟨y_35, e_36, h⟩ := bind_or h
                    refine bnd (cache_Valid.mono _ _ _ _ hk e_36) ?_
                    rcases ite_or h with ⟨g_37, h⟩ | ⟨g_37, h⟩
                    · refine itp g_37 ?_
                      exact h
                    · refine itn g_37 ?_
                      obtain ⟨y_38, e_39, h⟩ := bind_or h
                      refine bnd (cache_Fresh.mono _ _ _ _ _ _ hk e_39) ?_
                      obtain ⟨y_40, e_41, h⟩ := bind_or h
                      refine bnd (erasureref30_Fresh.mono _ _ _ _ _ _ hk e_41) ?_
                      rcases ite_or h with ⟨g_42, h⟩ | ⟨g_42, h⟩
                      · refine itp g_42 ?_
                        exact h
                      · refine itn g_42 ?_
                        exact ih _ _ _ _ _ _ _ r hk h
                · refine itn g_31 ?_
                  obtain ⟨y_43, e_44, h⟩ := bind_or h
                  refine bnd (erasureref30_Same.mono _ _ _ _ _ hk e_44) ?_
                  rcases ite_or h with ⟨g_45, h⟩ | ⟨g_45, h⟩
                  · refine itp g_45 ?_
                    exact h
                  · refine itn g_45 ?_
                    obtain ⟨y_46, e_47, h⟩ := bind_or h
                    refine bnd (cache_Valid.mono _ _ _ _ hk e_47) ?_
                    rcases ite_or h with ⟨g_48, h⟩ | ⟨g_48, h⟩
                    · refine itp g_48 ?_
                      exact h
                    · refine itn g_48 ?_
                      obtain ⟨y_49, e_50, h⟩ := bind_or h
                      refine bnd (cache_Fresh.mono _ _ _ _ _ _ hk e_50) ?_
                      obtain ⟨y_51, e_52, h⟩ := bind_or h
                      refine bnd (erasureref30_Fresh.mono _ _ _ _ _ _ hk e_52) ?_
                      rcases ite_or h with ⟨g_53, h⟩ | ⟨g_53, h⟩
                      · refine itp g_53 ?_
                        exact h
                      · refine itn g_53 ?_
                        exact ih _ _ _ _ _ _ _ r hk h
        · refine itn g_19 ?_
          rcases ite_or h with ⟨g_54, h⟩ | ⟨g_54, h⟩
          · refine itp g_54 ?_
            obtain ⟨y_55, e_56, h⟩ := bind_or h
            refine bnd (cache_Refill.mono _ _ _ _ _ _ _ hk e_56) ?_
            obtain ⟨y_57, e_58, h⟩ := bind_or h
            refine bnd (erasureref30_Refill.mono _ _ _ _ _ _ _ hk e_58) ?_
            obtain ⟨y_59, e_60, h⟩ := bind_or h
            refine bnd (erasureref30_Same.mono _ _ _ _ _ hk e_60) ?_
            rcases ite_or h with ⟨g_61, h⟩ | ⟨g_61, h⟩
            · refine itp g_61 ?_
              exact h
            · refine itn g_61 ?_
              obtain ⟨y_62, e_63, h⟩ := bind_or h
              refine bnd (cache_Valid.mono _ _ _ _ hk e_63) ?_
              rcases ite_or h with ⟨g_64, h⟩ | ⟨g_64, h⟩
              · refine itp g_64 ?_
                exact h
              · refine itn g_64 ?_
                obtain ⟨y_65, e_66, h⟩ := bind_or h
                refine bnd (cache_Fresh.mono _ _ _ _ _ _ hk e_66) ?_
                obtain ⟨y_67, e_68, h⟩ := bind_or h
                refine bnd (erasureref30_Fresh.mono _ _ _ _ _ _ hk e_68) ?_
                rcases ite_or h with ⟨g_69, h⟩ | ⟨g_69, h⟩
                · refine itp g_69 ?_
                  exact h
                · refine itn g_69 ?_
                  exact ih _ _ _ _ _ _ _ r hk h
          · refine itn g_54 ?_
            rcases ite_or h with ⟨g_70, h⟩ | ⟨g_70, h⟩
            · refine itp g_70 ?_
              obtain ⟨y_71, e_72, h⟩ := bind_or h
              refine bnd (cache_Purge.mono _ _ _ _ _ hk e_72) ?_
              obtain ⟨y_73, e_74, h⟩ := bind_or h
              refine bnd (erasureref30_Purge.mono _ _ _ _ _ hk e_74) ?_
              obtain ⟨y_75, e_76, h⟩ := bind_or h
              refine bnd (erasureref30_Same.mono _ _ _ _ _ hk e_76) ?_
              rcases ite_or h with ⟨g_77, h⟩ | ⟨g_77, h⟩
              · refine itp g_77 ?_
                exact h
              · refine itn g_77 ?_
                obtain ⟨y_78, e_79, h⟩ := bind_or h
                refine bnd (cache_Valid.mono _ _ _ _ hk e_79) ?_
                rcases ite_or h with ⟨g_80, h⟩ | ⟨g_80, h⟩
                · refine itp g_80 ?_
                  exact h
                · refine itn g_80 ?_
                  obtain ⟨y_81, e_82, h⟩ := bind_or h
                  refine bnd (cache_Fresh.mono _ _ _ _ _ _ hk e_82) ?_
                  obtain ⟨y_83, e_84, h⟩ := bind_or h
                  refine bnd (erasureref30_Fresh.mono _ _ _ _ _ _ hk e_84) ?_
                  rcases ite_or h with ⟨g_85, h⟩ | ⟨g_85, h⟩
                  · refine itp g_85 ?_
                    exact h
                  · refine itn g_85 ?_
                    exact ih _ _ _ _ _ _ _ r hk h
            · refine itn g_70 ?_
              rcases ite_or h with ⟨g_86, h⟩ | ⟨g_86, h⟩
              · refine itp g_86 ?_
                obtain ⟨y_87, e_88, h⟩ := bind_or h
                refine bnd (cache_Expire.mono _ _ _ _ _ _ hk e_88) ?_
                obtain ⟨y_89, e_90, h⟩ := bind_or h
                refine bnd (erasureref30_Expire.mono _ _ _ _ _ _ hk e_90) ?_
                obtain ⟨y_91, e_92, h⟩ := bind_or h
                refine bnd (erasureref30_Same.mono _ _ _ _ _ hk e_92) ?_
                rcases ite_or h with ⟨g_93, h⟩ | ⟨g_93, h⟩
                · refine itp g_93 ?_
                  exact h
                · refine itn g_93 ?_
                  obtain ⟨y_94, e_95, h⟩ := bind_or h
                  refine bnd (cache_Valid.mono _ _ _ _ hk e_95) ?_
                  rcases ite_or h with ⟨g_96, h⟩ | ⟨g_96, h⟩
                  · refine itp g_96 ?_
                    exact h
                  · refine itn g_96 ?_
                    obtain ⟨y_97, e_98, h⟩ := bind_or h
                    refine bnd (cache_Fresh.mono _ _ _ _ _ _ hk e_98) ?_
                    obtain ⟨y_99, e_100, h⟩ := bind_or h
                    refine bnd (erasureref30_Fresh.mono _ _ _ _ _ _ hk e_100) ?_
                    rcases ite_or h with ⟨g_101, h⟩ | ⟨g_101, h⟩
                    · refine itp g_101 ?_
                      exact h
                    · refine itn g_101 ?_
                      exact ih _ _ _ _ _ _ _ r hk h
              · refine itn g_86 ?_
                obtain ⟨y_102, e_103, h⟩ := bind_or h
                refine bnd (erasureref30_Same.mono _ _ _ _ _ hk e_103) ?_
                rcases ite_or h with ⟨g_104, h⟩ | ⟨g_104, h⟩
                · refine itp g_104 ?_
                  exact h
                · refine itn g_104 ?_
                  obtain ⟨y_105, e_106, h⟩ := bind_or h
                  refine bnd (cache_Valid.mono _ _ _ _ hk e_106) ?_
                  rcases ite_or h with ⟨g_107, h⟩ | ⟨g_107, h⟩
                  · refine itp g_107 ?_
                    exact h
                  · refine itn g_107 ?_
                    obtain ⟨y_108, e_109, h⟩ := bind_or h
                    refine bnd (cache_Fresh.mono _ _ _ _ _ _ hk e_109) ?_
                    obtain ⟨y_110, e_111, h⟩ := bind_or h
                    refine bnd (erasureref30_Fresh.mono _ _ _ _ _ _ hk e_111) ?_
                    rcases ite_or h with ⟨g_112, h⟩ | ⟨g_112, h⟩
                    · refine itp g_112 ?_
                      exact h
                    · refine itn g_112 ?_
                      exact ih _ _ _ _ _ _ _ r hk h
      · refine itn g_16 ?_
        rcases ite_or h with ⟨g_113, h⟩ | ⟨g_113, h⟩
        · refine itp g_113 ?_
          obtain ⟨y_114, e_115, h⟩ := bind_or h
          refine bnd (cache_Lookup.mono _ _ _ _ _ _ _ _ hk e_115) ?_
          obtain ⟨y_116, e_117, h⟩ := bind_or h
          refine bnd (erasureref30_Lookup.mono _ _ _ _ _ _ _ _ hk e_117) ?_
          rcases ite_or h with ⟨g_118, h⟩ | ⟨g_118, h⟩
          · refine itp g_118 ?_
            exact h
          · refine itn g_118 ?_
            obtain ⟨y_119, e_120, h⟩ := bind_or h
            refine bnd (erasureref30_Same.mono _ _ _ _ _ hk e_120) ?_
            rcases ite_or h with ⟨g_121, h⟩ | ⟨g_121, h⟩
            · refine itp g_121 ?_
              exact h
            · refine itn g_121 ?_
              obtain ⟨y_122, e_123, h⟩ := bind_or h
              refine bnd (erasureref26_SameBag.mono _ _ _ _ _ hk e_123) ?_
              rcases ite_or h with ⟨g_124, h⟩ | ⟨g_124, h⟩
              · refine itp g_124 ?_
                exact h
              · refine itn g_124 ?_
                rcases ite_or h with ⟨g_125, h⟩ | ⟨g_125, h⟩
                · refine itp g_125 ?_
                  obtain ⟨y_126, e_127, h⟩ := bind_or h
                  refine bnd (erasureref30_Same.mono _ _ _ _ _ hk e_127) ?_
                  rcases ite_or h with ⟨g_128, h⟩ | ⟨g_128, h⟩
                  · refine itp g_128 ?_
                    exact h
                  · refine itn g_128 ?_
                    obtain ⟨y_129, e_130, h⟩ := bind_or h
                    refine bnd (cache_Valid.mono _ _ _ _ hk e_130) ?_
                    rcases ite_or h with ⟨g_131, h⟩ | ⟨g_131, h⟩
                    · refine itp g_131 ?_
                      exact h
                    · refine itn g_131 ?_
                      obtain ⟨y_132, e_133, h⟩ := bind_or h
                      refine bnd (cache_Fresh.mono _ _ _ _ _ _ hk e_133) ?_
                      obtain ⟨y_134, e_135, h⟩ := bind_or h
                      refine bnd (erasureref30_Fresh.mono _ _ _ _ _ _ hk e_135) ?_
                      rcases ite_or h with ⟨g_136, h⟩ | ⟨g_136, h⟩
                      · refine itp g_136 ?_
                        exact h
                      · refine itn g_136 ?_
                        exact ih _ _ _ _ _ _ _ r hk h
                · refine itn g_125 ?_
                  obtain ⟨y_137, e_138, h⟩ := bind_or h
                  refine bnd (erasureref30_Same.mono _ _ _ _ _ hk e_138) ?_
                  rcases ite_or h with ⟨g_139, h⟩ | ⟨g_139, h⟩
                  · refine itp g_139 ?_
                    exact h
                  · refine itn g_139 ?_
                    obtain ⟨y_140, e_141, h⟩ := bind_or h
                    refine bnd (cache_Valid.mono _ _ _ _ hk e_141) ?_
                    rcases ite_or h with ⟨g_142, h⟩ | ⟨g_142, h⟩
                    · refine itp g_142 ?_
                      exact h
                    · refine itn g_142 ?_
                      obtain ⟨y_143, e_144, h⟩ := bind_or h
                      refine bnd (cache_Fresh.mono _ _ _ _ _ _ hk e_144) ?_
                      obtain ⟨y_145, e_146, h⟩ := bind_or h
                      refine bnd (erasureref30_Fresh.mono _ _ _ _ _ _ hk e_146) ?_
                      rcases ite_or h with ⟨g_147, h⟩ | ⟨g_147, h⟩
                      · refine itp g_147 ?_
                        exact h
                      · refine itn g_147 ?_
                        exact ih _ _ _ _ _ _ _ r hk h
        · refine itn g_113 ?_
          rcases ite_or h with ⟨g_148, h⟩ | ⟨g_148, h⟩
          · refine itp g_148 ?_
            obtain ⟨y_149, e_150, h⟩ := bind_or h
            refine bnd (cache_Refill.mono _ _ _ _ _ _ _ hk e_150) ?_
            obtain ⟨y_151, e_152, h⟩ := bind_or h
            refine bnd (erasureref30_Refill.mono _ _ _ _ _ _ _ hk e_152) ?_
            obtain ⟨y_153, e_154, h⟩ := bind_or h
            refine bnd (erasureref30_Same.mono _ _ _ _ _ hk e_154) ?_
            rcases ite_or h with ⟨g_155, h⟩ | ⟨g_155, h⟩
            · refine itp g_155 ?_
              exact h
            · refine itn g_155 ?_
              obtain ⟨y_156, e_157, h⟩ := bind_or h
              refine bnd (cache_Valid.mono _ _ _ _ hk e_157) ?_
              rcases ite_or h with ⟨g_158, h⟩ | ⟨g_158, h⟩
              · refine itp g_158 ?_
                exact h
              · refine itn g_158 ?_
                obtain ⟨y_159, e_160, h⟩ := bind_or h
                refine bnd (cache_Fresh.mono _ _ _ _ _ _ hk e_160) ?_
                obtain ⟨y_161, e_162, h⟩ := bind_or h
                refine bnd (erasureref30_Fresh.mono _ _ _ _ _ _ hk e_162) ?_
                rcases ite_or h with ⟨g_163, h⟩ | ⟨g_163, h⟩
                · refine itp g_163 ?_
                  exact h
                · refine itn g_163 ?_
                  exact ih _ _ _ _ _ _ _ r hk h
          · refine itn g_148 ?_
            rcases ite_or h with ⟨g_164, h⟩ | ⟨g_164, h⟩
            · refine itp g_164 ?_
              obtain ⟨y_165, e_166, h⟩ := bind_or h
              refine bnd (cache_Purge.mono _ _ _ _ _ hk e_166) ?_
              obtain ⟨y_167, e_168, h⟩ := bind_or h
              refine bnd (erasureref30_Purge.mono _ _ _ _ _ hk e_168) ?_
              obtain ⟨y_169, e_170, h⟩ := bind_or h
              refine bnd (erasureref30_Same.mono _ _ _ _ _ hk e_170) ?_
              rcases ite_or h with ⟨g_171, h⟩ | ⟨g_171, h⟩
              · refine itp g_171 ?_
                exact h
              · refine itn g_171 ?_
                obtain ⟨y_172, e_173, h⟩ := bind_or h
                refine bnd (cache_Valid.mono _ _ _ _ hk e_173) ?_
                rcases ite_or h with ⟨g_174, h⟩ | ⟨g_174, h⟩
                · refine itp g_174 ?_
                  exact h
                · refine itn g_174 ?_
                  obtain ⟨y_175, e_176, h⟩ := bind_or h
                  refine bnd (cache_Fresh.mono _ _ _ _ _ _ hk e_176) ?_
                  obtain ⟨y_177, e_178, h⟩ := bind_or h
                  refine bnd (erasureref30_Fresh.mono _ _ _ _ _ _ hk e_178) ?_
                  rcases ite_or h with ⟨g_179, h⟩ | ⟨g_179, h⟩
                  · refine itp g_179 ?_
                    exact h
                  · refine itn g_179 ?_
                    exact ih _ _ _ _ _ _ _ r hk h
            · refine itn g_164 ?_
              rcases ite_or h with ⟨g_180, h⟩ | ⟨g_180, h⟩
              · refine itp g_180 ?_
                obtain ⟨y_181, e_182, h⟩ := bind_or h
                refine bnd (cache_Expire.mono _ _ _ _ _ _ hk e_182) ?_
                obtain ⟨y_183, e_184, h⟩ := bind_or h
                refine bnd (erasureref30_Expire.mono _ _ _ _ _ _ hk e_184) ?_
                obtain ⟨y_185, e_186, h⟩ := bind_or h
                refine bnd (erasureref30_Same.mono _ _ _ _ _ hk e_186) ?_
                rcases ite_or h with ⟨g_187, h⟩ | ⟨g_187, h⟩
                · refine itp g_187 ?_
                  exact h
                · refine itn g_187 ?_
                  obtain ⟨y_188, e_189, h⟩ := bind_or h
                  refine bnd (cache_Valid.mono _ _ _ _ hk e_189) ?_
                  rcases ite_or h with ⟨g_190, h⟩ | ⟨g_190, h⟩
                  · refine itp g_190 ?_
                    exact h
                  · refine itn g_190 ?_
                    obtain ⟨y_191, e_192, h⟩ := bind_or h
                    refine bnd (cache_Fresh.mono _ _ _ _ _ _ hk e_192) ?_
                    obtain ⟨y_193, e_194, h⟩ := bind_or h
                    refine bnd (erasureref30_Fresh.mono _ _ _ _ _ _ hk e_194) ?_
                    rcases ite_or h with ⟨g_195, h⟩ | ⟨g_195, h⟩
                    · refine itp g_195 ?_
                      exact h
                    · refine itn g_195 ?_
                      exact ih _ _ _ _ _ _ _ r hk h
              · refine itn g_180 ?_
                obtain ⟨y_196, e_197, h⟩ := bind_or h
                refine bnd (erasureref30_Same.mono _ _ _ _ _ hk e_197) ?_
                rcases ite_or h with ⟨g_198, h⟩ | ⟨g_198, h⟩
                · refine itp g_198 ?_
                  exact h
                · refine itn g_198 ?_
                  obtain ⟨y_199, e_200, h⟩ := bind_or h
                  refine bnd (cache_Valid.mono _ _ _ _ hk e_200) ?_
                  rcases ite_or h with ⟨g_201, h⟩ | ⟨g_201, h⟩
                  · refine itp g_201 ?_
                    exact h
                  · refine itn g_201 ?_
                    obtain ⟨y_202, e_203, h⟩ := bind_or h
                    refine bnd (cache_Fresh.mono _ _ _ _ _ _ hk e_203) ?_
                    obtain ⟨y_204, e_205, h⟩ := bind_or h
                    refine bnd (erasureref30_Fresh.mono _ _ _ _ _ _ hk e_205) ?_
                    rcases ite_or h with ⟨g_206, h⟩ | ⟨g_206, h⟩
                    · refine itp g_206 ?_
                      exact h
                    · refine itn g_206 ?_
                      exact ih _ _ _ _ _ _ _ r hk h
    · refine itn g_14 ?_
      obtain ⟨y_207, e_208, h⟩ := bind_or h
      refine bnd (erasurelaw30_awake.mono _ _  _ hk e_208) ?_
      exact h
theorem erasurelaw30_CachePlays.p1.mono   : ∀ (k k' : Nat) (o1 : (List (List TEntry))) (A2 : (List TAct)) (v7 : Int) (r3b : TCache) (r : Bool), k ≤ k' → erasurelaw30_CachePlays.p1 k o1 A2 v7 r3b = some r → erasurelaw30_CachePlays.p1 k' o1 A2 v7 r3b = some r := by
  intro k
  induction k with
  | zero => intro k' o1 A2 v7 r3b r hk h; simp [erasurelaw30_CachePlays.p1] at h
  | succ k ih =>
    intro k' o1 A2 v7 r3b r hk h
    obtain ⟨k', rfl⟩ : ∃ m, k' = m + 1 := ⟨k' - 1, by omega⟩
    replace hk := Nat.le_of_succ_le_succ hk
    rw [erasurelaw30_CachePlays.p1] at h ⊢
    rcases ite_or h with ⟨g_7, h⟩ | ⟨g_7, h⟩
    · refine itp g_7 ?_
      obtain ⟨g_8, h⟩ := ite_some h
      refine itp g_8 ?_
      obtain ⟨y_9, e_10, h⟩ := bind_or h
      refine bnd (erasurelaw30_short.mono _ _ _ _ hk e_10) ?_
      rcases ite_or h with ⟨g_11, h⟩ | ⟨g_11, h⟩
      · refine itp g_11 ?_
        obtain ⟨y_12, e_13, h⟩ := bind_or h
        refine bnd (erasurelaw30_awake.mono _ _  _ hk e_13) ?_
        exact h
      · refine itn g_11 ?_
        exact ih _ _ _ _ _ r hk h
    · refine itn g_7 ?_
      exact erasurelaw30_CachePlays.p2.mono _ _ _ _ _ _ _ _ r hk h
theorem erasurelaw30_CachePlays.mono   : ∀ (k k' : Nat) (t0 : TCache) (o1 : (List (List TEntry))) (A2 : (List TAct)) (r : Bool), k ≤ k' → erasurelaw30_CachePlays k t0 o1 A2 = some r → erasurelaw30_CachePlays k' t0 o1 A2 = some r := by
  intro k k' t0 o1 A2 r hk h
  unfold erasurelaw30_CachePlays at h ⊢
  rcases ite_or h with ⟨g_1, h⟩ | ⟨g_1, h⟩
  · refine itp g_1 ?_
    obtain ⟨y_2, e_3, h⟩ := bind_or h
    refine bnd (erasurelaw30_awake.mono _ _  _ hk e_3) ?_
    exact h
  · refine itn g_1 ?_
    rcases ite_or h with ⟨g_4, h⟩ | ⟨g_4, h⟩
    · refine itp g_4 ?_
      obtain ⟨y_5, e_6, h⟩ := bind_or h
      refine bnd (erasurelaw30_awake.mono _ _  _ hk e_6) ?_
      exact h
    · refine itn g_4 ?_
      exact erasurelaw30_CachePlays.p1.mono _ _ _ _ _ _ r hk h
theorem erasurelaw30_CachePlays.spec {k : Nat} {t0 : TCache} {o1 : (List (List TEntry))} {A2 : (List TAct)} {r : Bool} (h : erasurelaw30_CachePlays k t0 o1 A2 = some r) : Spec Try.prog 6 [.agg ((cCache t0).map .p), .p (eL 1 (cL 2 cEntry dEntry) ([] : List TEntry) o1), .p (eL 6 cAct dAct A2)] (.p (.bool r)) [] :=
  spec_of mix Try.func6 (body := bodyOf Try.f6) (by kernel_rfl) (by kernel_rfl) (erasurelaw30_CachePlays.run h)
end Go.Proofs.YtjhnpaenhdbhpabV
set_option linter.unusedVariables false
set_option linter.unusedSimpArgs false
set_option linter.constructorNameAsVariable false
namespace Go.Proofs.YtjhnpaenhdbhpabV
open Go Go.RowKit
open Go.Shelf Go.Lib Go.Sort
abbrev SE {β : Type} (F : Nat → Prop) (w : World) (sz : Nat) (c : β → List AV) (xs : List β) :=
  { p : List Value × β // p.1.length = sz ∧ (∀ v ∈ p.1, v.oneCell' = true) ∧ (∀ j, j < sz → ∃ v, p.1[j]? = some v ∧ Rep F w ((c p.2).getD j .u) v) ∧ p.2 ∈ xs }
theorem mk_elems {β : Type} {F : Nat → Prop} {w : World} {sz : Nat} {c : β → List AV} (d : β) {xs : List β} : ∀ (zs : List β) (cells : List Value), (∀ x ∈ zs, x ∈ xs) → cells.length = zs.length * sz → (∀ v ∈ cells, v.oneCell' = true) →
    (∀ i, i < zs.length → ∀ j, j < sz → ∃ v, cells[i * sz + j]? = some v ∧ Rep F w ((c (zs.getD i d)).getD j .u) v) → ∃ D : List (SE F w sz c xs), D.map (·.1.2) = zs ∧ D.flatMap (·.1.1) = cells
  | [], cells, _, hl, _, _ => ⟨[], rfl, by simp at hl; simp [hl]⟩
  | z :: zs, cells, hm, hl, h1, hr => by
    have hl' : cells.length = zs.length * sz + sz := by rw [hl, List.length_cons, Nat.add_mul, Nat.one_mul]
    obtain ⟨D, hD1, hD2⟩ := mk_elems (F := F) (w := w) (sz := sz) (c := c) d (xs := xs) zs (cells.drop sz) (fun x hx => hm x (List.mem_cons_of_mem _ hx)) (by rw [List.length_drop]; omega) (fun v hv => h1 v (List.mem_of_mem_drop hv))
      (fun i hi j hj => by
        obtain ⟨v, g1, g2⟩ := hr (i + 1) (by simpa using hi) j hj
        refine ⟨v, ?_, by simpa using g2⟩
        rw [List.getElem?_drop, show sz + (i * sz + j) = (i + 1) * sz + j from by rw [Nat.add_mul, Nat.one_mul]; omega]
        exact g1)
    refine ⟨⟨(cells.take sz, z), by rw [List.length_take]; omega, fun v hv => h1 v (List.mem_of_mem_take hv), fun j hj => ?_, hm z (List.mem_cons_self ..)⟩ :: D, by simp [hD1], by simp [hD2]⟩
    obtain ⟨v, g1, g2⟩ := hr 0 (by simp) j hj
    refine ⟨v, ?_, by simpa using g2⟩
    rw [List.getElem?_take, if_pos hj]
    simpa using g1
theorem get_flat {α : Type} {sz : Nat} {f : α → List Value} (hs : ∀ x, (f x).length = sz) : ∀ (D : List α) (i j : Nat), j < sz → (h : i < D.length) → (D.flatMap f)[i * sz + j]? = (f D[i])[j]?
  | [], i, j, _, h => by simp at h
  | x :: D, i, j, hj, h => by
    cases i with
    | zero => simp [List.getElem?_append, hs, hj]
    | succ i =>
      rw [List.flatMap_cons, List.getElem?_append_right (by rw [hs, Nat.add_mul]; omega), hs, show (i + 1) * sz + j - sz = i * sz + j from by rw [Nat.add_mul, Nat.one_mul]; omega]
      have := get_flat hs D i j hj (by simpa using h)
      simpa using this
theorem len_flat {α : Type} {sz : Nat} {f : α → List Value} (hs : ∀ x, (f x).length = sz) : ∀ (D : List α), (D.flatMap f).length = D.length * sz
  | [] => by simp
  | x :: D => by rw [List.flatMap_cons, List.length_append, hs, len_flat hs D, List.length_cons, Nat.add_mul, Nat.one_mul, Nat.add_comm]
theorem flatK_list {α : Type} [Inhabited α] {sz : Nat} {f : α → List Value} (hs : ∀ x, (f x).length = sz) (h0 : 0 < sz) (D : Array α) : flatK f sz D = (D.toList.flatMap f).toArray := by
  have hsz : (flatK f sz D).size = D.size * sz := by simp [flatK]
  apply Array.ext_getElem?
  intro t
  by_cases ht : t < D.size * sz
  · have hi : t / sz < D.size := (Nat.div_lt_iff_lt_mul h0).2 ht
    have hj : t % sz < sz := Nat.mod_lt _ h0
    have e : t / sz * sz + t % sz = t := by rw [Nat.mul_comm]; exact Nat.div_add_mod t sz
    have := get_flat hs D.toList (t / sz) (t % sz) hj (by simpa using hi)
    rw [e] at this
    rw [show ((D.toList.flatMap f).toArray)[t]? = (D.toList.flatMap f)[t]? from by simp, this]
    have hlen : t % sz < (f D[t / sz]).length := by rw [hs]; exact hj
    simp [flatK, ht, hi, hlen]
  · rw [Array.getElem?_eq_none (by omega), Array.getElem?_eq_none (by rw [List.size_toArray, len_flat hs]; simpa using Nat.not_lt.1 ht)]
structure Laid (w w' : World) (blk : Nat) (e : TypeId) (cur : Array Value) (cells : List Value) : Prop where
  os : w'.os = w.os
  tape : w'.tape = w.tape
  output : w'.output = w.output
  drawn : w.drawn ≤ w'.drawn
  size : w.heap.size ≤ w'.heap.size
  other : ∀ b, b < w.heap.size → b ≠ blk → w'.heap[b]? = w.heap[b]?
  row : w'.heap[blk]? = some (.cells (cells ++ cur.toList.drop cells.length).toArray e (0, 0))
theorem putCells_list (d : Array Value) (cur : Array Value) (h : d.size ≤ cur.size) : putCells id 0 d cur = (d.toList ++ cur.toList.drop d.size).toArray := by
  apply Array.ext_getElem?
  intro t
  simp only [putCells, Array.getElem?_mapIdx, List.getElem?_toArray, List.getElem?_append, Array.length_toList, List.getElem?_drop, Array.getElem?_toList, Nat.zero_le, true_and, Nat.zero_add, Nat.sub_zero, id]
  by_cases ht : t < d.size
  · rw [if_pos ht, Array.getElem?_eq_getElem (by omega), Array.getElem?_eq_getElem ht]
    simp [ht]
  · rw [if_neg ht, show d.size + (t - d.size) = t from by omega]
    cases cur[t]? with
    | none => rfl
    | some x => simp [ht]
theorem laid_sortK {α : Type} [Inhabited α] {f : α → List Value} {sz : Nat} (hs : ∀ x, (f x).length = sz) (h0 : 0 < sz) {w : World} {blk : Nat} {e : TypeId} {cur : Array Value} (hb : w.heap[blk]? = some (.cells cur e (0, 0))) {D : Array α} (hD : D.size * sz ≤ cur.size) (n : Nat) (os : Array Obj) :
    Laid w (sortWorldK f sz w blk 0 n D os) blk e cur (D.toList.flatMap f) := by
  have hlt := (Array.getElem?_eq_some_iff.1 hb).1
  refine ⟨rfl, rfl, rfl, Nat.le_add_right _ _, by simp [sortWorldK, grow, putRowK, putRow, mapBlock, Sort.ahead], fun b hb' hne => ?_, ?_⟩
  · unfold sortWorldK
    rw [heap_grow_old _ _ (by simpa [putRowK, putRow, mapBlock, Sort.ahead] using hb')]
    simp [putRowK, putRow, mapBlock, Sort.ahead, Array.getElem?_modify, Ne.symm hne]
  · unfold sortWorldK
    rw [heap_grow_old _ _ (by simpa [putRowK, putRow, mapBlock, Sort.ahead] using hlt)]
    simp only [putRowK, putRow, mapBlock, Sort.ahead, Array.getElem?_modify, if_true, hb, Option.map_some]
    rw [flatK_list hs h0]
    show some (Obj.cells (putCells id 0 _ cur) e (0, 0)) = _
    rw [putCells_list _ _ (by simpa [len_flat hs] using hD)]
    simp
theorem sorted_one {α β : Type} [Inhabited α] (p : α → β) (cf : β → β → Int) {xs ys : List β} (hT : ∀ x ∈ xs, ∀ y ∈ xs, ¬ cf y x < 0 → ¬ cf x y < 0 → x = y) (hy : ys.Perm xs) (hs : ys.Pairwise fun a b => ¬ cf b a < 0)
    {D D' : Array α} (hx : D.toList.map p = xs) (hP : PermIn 0 D.size D D') (hS : SortedIn (ltOf fun x y => cf (p x) (p y)) 0 D.size D') : D'.toList.map p = ys := by
  obtain ⟨hsz, _, hperm⟩ := hP
  have e1 : D'.extract 0 D.size = D' := by rw [← hsz]; exact Array.extract_size
  rw [e1, Array.extract_size] at hperm
  have hp2 : (D'.toList.map p).Perm xs := by rw [← hx]; exact hperm.map p
  refine List.Perm.eq_of_pairwise (le := fun a b => ¬ cf b a < 0) ?_ ?_ hs (hp2.trans hy.symm)
  · intro a b ha hb h1 h2
    exact hT a (hp2.mem_iff.1 ha) b (hy.mem_iff.1 hb) h1 h2
  · rw [List.pairwise_iff_getElem]
    intro i j hi hj hij
    have hi' : i < D'.size := by simpa using hi
    have hj' : j < D'.size := by simpa using hj
    have := hS i j (Nat.zero_le _) hij (by omega)
    rw [getElem!_pos D' j hj', getElem!_pos D' i hi'] at this
    simp only [ltOf, decide_eq_false_iff_not] at this
    simpa using this
theorem sort_end {β : Type} {E : En} {F : Nat → Prop} {w w' : World} {κ : Nat → Value} {sz : Nat} (e : TypeId) (c : β → List AV) (d : β) {xs ys : List β} {bk cap : Nat} {cur : Array Value} (h0 : 0 < sz) (hI : Inv E ⟨F, w, κ, [oL true e sz c d xs]⟩) (hκ : κ 0 = .slice (some ⟨bk, 0, none⟩) xs.length cap)
    (hcap : xs.length ≤ cap ∧ cap ≤ maxLen ∧ cur.size = cap * sz) {D' : List (SE F w sz c xs)} (hD : D'.map (·.1.2) = ys) (hlen : ys.length = xs.length) (hL : Laid w w' bk e cur (D'.flatMap (·.1.1))) :
    Inv E ⟨F, w', κ, [oL true e sz c d ys]⟩ ∧ RelV ⟨F, w', κ, [oL true e sz c d ys]⟩ (.sref 0 e sz ys.length) (κ 0) := by
  have hDl : D'.length = xs.length := by rw [← hlen, ← hD]; simp
  have hfl : (D'.flatMap (·.1.1)).length = xs.length * sz := by rw [len_flat (fun x => x.2.1), hDl]
  have hblk : blk (κ 0) = some bk := by rw [hκ]; rfl
  have hc : Chg (fun b => blk (κ 0) = some b) w w' := ⟨hL.os, hL.tape, hL.output, hL.drawn, hL.size, fun b hb hn => hL.other b hb (fun e => hn (by rw [e]; exact hblk))⟩
  have hmut : (look [oL true e sz c d xs] 0).mut = true := rfl
  obtain ⟨i1, l1⟩ := hI.put (w' := w') (id := 0) (o := oL true e sz c d ys) hmut hc (.inr ⟨rfl, by rw [← hlen]; exact ⟨true, _, rfl⟩⟩) (fun hle => by
    refine ⟨h0, D'.flatMap (·.1.1), ⟨by rw [hfl, hlen], .inr ⟨bk, cap, _, by rw [hlen]; exact hκ, Nat.zero_le _, hL.row, by omega, hcap.2.1, ?_, ?_⟩⟩, fun i hi j hj => ?_, fun u hu => ?_, fun b hb => ⟨fun _ => ?_, fun h => by simp at h⟩⟩
    · have := Nat.mul_le_mul_right sz hcap.1
      have e1 : (D'.flatMap (·.1.1) ++ cur.toList.drop (D'.flatMap (·.1.1)).length).length = cap * sz := by
        have hcs : cur.toList.length = cap * sz := by simpa using hcap.2.2
        rw [List.length_append, List.length_drop, hfl, hcs]
        omega
      exact e1
    · rw [hlen]
      show List.take _ (_ ++ _) = _
      rw [← hfl]
      exact List.take_left
    · have hi' : i < D'.length := by omega
      obtain ⟨v, g1, g2⟩ := (D'[i]).2.2.2.1 j hj
      refine ⟨v, by rw [get_flat (fun x => x.2.1) D' i j hj hi']; exact g1, ?_⟩
      have e2 : ys.getD i d = (D'[i]).1.2 := by
        have : ys[i]? = some (D'[i]).1.2 := by rw [← hD]; simp [hi']
        simp [List.getD_eq_getElem?_getD, this]
      show Rep F w' ((c (ys.getD i d)).getD j .u) v
      rw [e2]
      exact Rep.mono hle.F hle.w _ _ g2
    · obtain ⟨x, hx, hu⟩ := List.mem_flatMap.1 hu
      exact x.2.2.1 u hu
    · exact hI.notF (i := 0) hmut b hb)
  refine ⟨i1, ?_⟩
  simp only [RelV]
  exact ⟨⟨_, _, by rw [hlen]; exact hκ, .inr ⟨_, rfl⟩⟩, rfl, rfl, rfl, rfl⟩
structure CmpOK {β : Type} (cf : β → β → Int) (xs : List β) : Prop where
  irrefl : ∀ x ∈ xs, ¬ cf x x < 0
  trans : ∀ x ∈ xs, ∀ y ∈ xs, ∀ z ∈ xs, cf x y < 0 → cf y z < 0 → cf x z < 0
  ntrans : ∀ x ∈ xs, ∀ y ∈ xs, ∀ z ∈ xs, ¬ cf x y < 0 → ¬ cf y z < 0 → ¬ cf x z < 0
  anti : ∀ x ∈ xs, ∀ y ∈ xs, ¬ cf y x < 0 → ¬ cf x y < 0 → x = y
theorem grow_of_chg {W w' : World} (h : Chg (fun _ => False) W w') : ∃ q os', w' = grow (W.drewN q) os' := by
  refine ⟨w'.drawn - W.drawn, w'.heap.extract W.heap.size w'.heap.size, ?_⟩
  have hh : w'.heap = W.heap ++ w'.heap.extract W.heap.size w'.heap.size := by
    apply Array.ext_getElem?
    intro b
    by_cases hb : b < W.heap.size
    · rw [Array.getElem?_append_left hb]
      exact h.block b hb (fun h => h)
    · rw [Array.getElem?_append_right (by omega), Array.getElem?_extract]
      rw [show W.heap.size + (b - W.heap.size) = b from by omega]
      by_cases hb2 : b < w'.heap.size
      · rw [if_pos (by omega)]
      · rw [if_neg (by omega), Array.getElem?_eq_none (by omega)]
  have hd := h.drawn
  cases w'
  cases W
  simp only [grow, World.drewN] at *
  have e1 := h.os; have e2 := h.tape; have e3 := h.output
  simp only at e1 e2 e3 hh hd
  subst e1 e2 e3
  simp only [World.mk.injEq, true_and]
  exact ⟨hh, by omega, trivial⟩
theorem sort_args {β : Type} {c : β → List AV} {d : β} {e sz g : Nat} {xs : List β} {F : Nat → Prop} {w : World} {κ : Nat → Value} {vs : Array Value} (hv : RelVs ⟨F, w, κ, [oL true e sz c d xs]⟩ [.sref 0 e sz xs.length, .fn g []] vs.toList) :
    vs = #[κ 0, .func (.func g) #[] #[]] := by
  simp only [RelVs, RelV] at hv
  obtain ⟨v, l1, hvs, ⟨_, hv2⟩, fv, l2, hvs2, ⟨us, hfv, hus⟩, hnil⟩ := hv
  subst hnil hvs2
  have hv3 : v = κ 0 := hv2.2.2.2
  have hus' : us = #[] := Array.toList_inj.1 (by simpa using hus)
  subst hus'
  rw [hv3, hfv] at hvs
  exact Array.toList_inj.1 (by simpa using hvs)
theorem sort_cmp {β : Type} {P : Program} {g sz : Nat} {c : β → List AV} {cf : β → β → Int} {xs : List β} {F : Nat → Prop} {w W : World} (hFW : ∀ b, F b → W.heap[b]? = w.heap[b]?) (hlt : ∀ b, F b → b < W.heap.size) (x y : SE F w sz c xs) {args : List FV} {vs : Array Value} (κ : Nat → Value)
    (hspec : Spec P g args (.p (.int .i64 (cf x.1.2 y.1.2))) []) (hargs : RelVs ⟨F, W, κ, []⟩ args vs.toList) :
    Calls P g vs W fun e w' => e = .returned (.int .i64 (cf x.1.2 y.1.2)) ∧ ∃ q os', w' = grow (W.drewN q) os' := by
  refine (hspec W F κ vs hlt hargs).mono fun e w' ⟨v, F', κ', he, hI, hr⟩ => ?_
  simp only [RelV, Rep] at hr
  exact ⟨by rw [he, hr], grow_of_chg hI.chg⟩
theorem se_agg {β : Type} {sz : Nat} {c : β → List AV} (hc : ∀ x, (c x).length = sz) {xs : List β} {F : Nat → Prop} {w W : World} (hFW : ∀ b, F b → W.heap[b]? = w.heap[b]?) (x : SE F w sz c xs) (κ : Nat → Value) : RelV ⟨F, W, κ, []⟩ (.agg ((c x.1.2).map .p)) (.agg x.1.1.toArray) := by
  simp only [RelV]
  refine ⟨_, rfl, RelVs.of_get (by simp [hc, x.2.1]) fun i v hv hi => ?_⟩
  have hi' : i < sz := by rw [List.length_map, hc] at hi; exact hi
  obtain ⟨u, h1, h2⟩ := x.2.2.2.1 i hi'
  have : u = v := by
    have hv' : x.1.1[i]? = some v := by simpa using hv
    rw [h1] at hv'
    exact Option.some.inj hv'
  subst this
  have he : ((c x.1.2).map FV.p)[i] = .p ((c x.1.2).getD i .u) := by
    rw [List.getElem_map, List.getD_eq_getElem?_getD, List.getElem?_eq_getElem (by rw [hc]; exact hi')]
    rfl
  rw [he]
  simp only [RelV]
  exact Rep.mono (fun _ h => h) hFW _ _ h2
theorem swo_of {α β : Type} (p : α → β) {cf : β → β → Int} {xs : List β} (h : CmpOK cf xs) (hp : ∀ a, p a ∈ xs) : SWO (ltOf fun x y : α => cf (p x) (p y)) where
  irrefl x := by simpa [ltOf] using h.irrefl _ (hp x)
  trans x y z h1 h2 := by
    simp only [ltOf, decide_eq_true_eq] at *
    exact h.trans _ (hp x) _ (hp y) _ (hp z) h1 h2
  ntrans x y z h1 h2 := by
    simp only [ltOf, decide_eq_false_iff_not] at *
    exact h.ntrans _ (hp x) _ (hp y) _ (hp z) h1 h2
set_option maxHeartbeats 1000000 in
theorem sortK_specX {β : Type} {P : Program} {ρ : Ren} (L : SlLaysF0.n6 P ρ) {sz : Nat} (h0 : 0 < sz) (aE : ∀ w, (isAgg (ρ.t 24)).run P w = .ok true w) (zE : ∀ w, (Go.sizeOf (ρ.t 24)).run P w = .ok sz w) (e : TypeId) (c : β → List AV) (d : β) (hc : ∀ x, (c x).length = sz) {g : Nat}
    (eg : ∀ args w, (callFunc g args).run P w = .ok (.enter g args) w) (cf : β → β → Int) {xs ys : List β} (hspec : ∀ x ∈ xs, ∀ y ∈ xs, Spec P g [.agg ((c x).map .p), .agg ((c y).map .p)] (.p (.int .i64 (cf x y))) []) (hO : CmpOK cf xs) (hy : ys.Perm xs)
    (hs : ys.Pairwise fun a b => ¬ cf b a < 0) (hsz : xs.length < 4611686018427387904) :
    SpecX P (ρ.f 6) [.sref 0 e sz xs.length, .fn g []] [oL true e sz c d xs] [0] 0 (.sref 0 e sz ys.length) [oL true e sz c d ys] := by
  intro E w F κ vs hI hv
  obtain rfl := sort_args hv
  have hlen := hy.length_eq
  have hobj : RelO ⟨F, w, κ, [oL true e sz c d xs]⟩ (κ 0) (oL true e sz c d xs) := hI.objs 0
  obtain ⟨_, cells, hown, hrep, hone, hF⟩ := hobj
  rcases hown.2 with ⟨hk, hn⟩ | ⟨bk, cap, cur, hk, _, hb, hnc, hcm, hcs, ht⟩
  · have hx : xs = [] := List.eq_nil_of_length_eq_zero hn
    subst hx
    have hy' : ys = [] := List.eq_nil_of_length_eq_zero (by simpa using hlen)
    subst hy'
    have hcall := AnyF.slices_SortFunc_none L none 0 (.func (.func g) #[] #[]) w
    rw [hk]
    refine hcall.mono fun ex w' ⟨he, hw⟩ => ?_
    subst hw
    refine ⟨[], F, κ, rfl, he, hI, ?_⟩
    show RelV _ _ (.slice none 0 0)
    simp only [RelV]
    exact ⟨⟨none, 0, rfl, .inl rfl⟩, rfl, rfl, rfl, hk.symm⟩
  · obtain ⟨D, hD1, hD2⟩ := mk_elems (F := F) (w := w) (sz := sz) (c := c) d (xs := xs) xs cells (fun _ h => h) hown.1 hone hrep
    have hDl : D.length = xs.length := by have := congrArg List.length hD1; simpa using this
    have hmut : (look [oL true e sz c d xs] 0).mut = true := rfl
    have hblk : blk (κ 0) = some bk := by rw [hk]; rfl
    have hbF : ¬ F bk := hI.notF (i := 0) hmut bk hblk
    have hlt : bk < w.heap.size := (Array.getElem?_eq_some_iff.1 hb).1
    rcases hxn : xs with _ | ⟨x0, xs'⟩
    ·
      have hx : xs.length = 0 := by rw [hxn]; rfl
      subst hxn
      have hy' : ys = [] := List.eq_nil_of_length_eq_zero (by simpa using hlen)
      subst hy'
      have hcall := AnyF.slices_SortFunc_none L (some ⟨bk, 0, none⟩) cap (.func (.func g) #[] #[]) w
      rw [hk]
      refine hcall.mono fun ex w' ⟨he, hw⟩ => ?_
      subst hw
      refine ⟨[], F, κ, rfl, he, hI, ?_⟩
      show RelV _ _ (.slice (some ⟨bk, 0, none⟩) 0 cap)
      simp only [RelV]
      exact ⟨⟨_, _, rfl, .inr ⟨_, rfl⟩⟩, rfl, rfl, rfl, hk.symm⟩
    · skip
      have hx0 : 0 < xs.length := by rw [hxn]; simp
      haveI : Inhabited (SE F w sz c xs) := ⟨D[0]'(by omega)⟩
      have hk1 : ∀ x : SE F w sz c xs, (x.1.1).length = sz := fun x => x.2.1
      have hfl : flatK (fun x : SE F w sz c xs => x.1.1) sz D.toArray = cells.toArray := by rw [flatK_list hk1 h0]; rw [← hD2]
      have hcl : cells.length = xs.length * sz := hown.1
      have hH : HoldsK (fun x : SE F w sz c xs => x.1.1) sz w bk 0 D.toArray := by
        unfold HoldsK
        rw [hfl]
        intro j hj
        have hj' : j < cells.length := by simpa using hj
        have e1 : cells[j]? = cur[j]? := by
          rw [← ht, List.getElem?_take, if_pos (by omega)]
          simp
        have hb' : w.heap[bk]? = some (.cells cur e (0, 0)) := hb
        refine ⟨?_, by simp [World.frozen?, hb']⟩
        rw [Nat.zero_add, cell_of_row _ bk _ cur e (0, 0) hb', ← e1]
        simp [hj']
      have hcmp : CmpLays P g #[] (fun x : SE F w sz c xs => x.1.1) sz (fun x y => cf x.1.2 y.1.2) bk 0 D.toArray.size w := by
        intro m os dk hdk x y
        have hLd := laid_sortK (f := fun x : SE F w sz c xs => x.1.1) hk1 h0 hb (D := dk) (by rw [hdk, List.size_toArray, hDl, hcs]; exact Nat.mul_le_mul_right _ hnc) m os
        generalize sortWorldK (fun x : SE F w sz c xs => x.1.1) sz w bk 0 m dk os = W at hLd
        have hFW : ∀ b, F b → W.heap[b]? = w.heap[b]? := fun b hb' => hLd.other b (hI.lt b hb') (fun e => hbF (e ▸ hb'))
        refine sort_cmp hFW (fun b hb' => Nat.lt_of_lt_of_le (hI.lt b hb') hLd.size) x y κ (hspec _ x.2.2.2.2 _ y.2.2.2.2) ?_
        show RelVs _ _ [_, _]
        simp only [RelVs]
        exact ⟨_, _, rfl, se_agg hc hFW x κ, _, _, rfl, se_agg hc hFW y κ, rfl⟩
      have hcall := AnyQ.slices_SortFunc L sz aE zE (fun x : SE F w sz c xs => x.1.1) hk1 (fun x => x.2.2.1) (fun x y => cf x.1.2 y.1.2) (swo_of (fun x : SE F w sz c xs => x.1.2) hO (fun x => x.2.2.2.2)) g #[] bk 0 cap D.toArray w eg hcmp hH hlt (by rw [List.size_toArray, hDl]; exact hsz)
      rw [List.size_toArray, hDl] at hcall
      rw [hk]
      refine hcall.mono fun ex w' ⟨he, d', n, os, hp, hso, hw⟩ => ?_
      have hsize : d'.size = xs.length := by rw [hp.1, List.size_toArray, hDl]
      have hLd := laid_sortK (f := fun x : SE F w sz c xs => x.1.1) hk1 h0 hb (D := d') (by rw [hsize, hcs]; exact Nat.mul_le_mul_right _ hnc) n os
      rw [← hw] at hLd
      have hP : PermIn 0 D.toArray.size D.toArray d' := by rw [List.size_toArray, hDl]; exact hp
      have hS : SortedIn (ltOf fun x y : SE F w sz c xs => cf x.1.2 y.1.2) 0 D.toArray.size d' := by rw [List.size_toArray, hDl]; exact hso
      have hone' := sorted_one (fun x : SE F w sz c xs => x.1.2) cf (xs := xs) (ys := ys) hO.anti hy hs (D := D.toArray) (D' := d') (by simpa using hD1) hP hS
      obtain ⟨q1, q2⟩ := sort_end (w' := w') (D' := d'.toList) e c d h0 hI hk ⟨hnc, hcm, hcs⟩ hone' hlen hLd
      refine ⟨[], F, κ, rfl, he, q1, ?_⟩
      rw [← hk]
      exact q2
end Go.Proofs.YtjhnpaenhdbhpabV
set_option linter.unusedVariables false
set_option linter.unusedSimpArgs false
set_option linter.constructorNameAsVariable false
namespace Go.Proofs.YtjhnpaenhdbhpabV
open Go Go.RowKit
structure SortedBy {β : Type} (f : Nat → β → β → Option Int) (xs ys : List β) : Prop where mk ::
  h : ∃ cf : β → β → Int, (∀ x ∈ xs, ∀ y ∈ xs, ∃ k, f k x y = some (cf x y)) ∧ CmpOK cf xs ∧ ys.Perm xs ∧ (ys.Pairwise fun a b => ¬ cf b a < 0) ∧ xs.length < 4611686018427387904
noncomputable def sortC {β : Type} (f : Nat → β → β → Option Int) (xs : List β) : Option (List β) := @dite _ (∃ ys, SortedBy f xs ys) (Classical.propDecidable _) (fun h => some (Classical.choose h)) (fun _ => none)
theorem sortC_ok {β : Type} {f : Nat → β → β → Option Int} {xs ys : List β} (h : sortC f xs = some ys) : SortedBy f xs ys := by
  unfold sortC at h
  split at h
  · rename_i hh
    injection h with h
    rw [← h]
    exact Classical.choose_spec hh
  · cases h
theorem SortedBy.one {β : Type} {f : Nat → β → β → Option Int} (hm : ∀ x y k k' r, k ≤ k' → f k x y = some r → f k' x y = some r) {xs ys zs : List β} (h1 : SortedBy f xs ys) (h2 : SortedBy f xs zs) : ys = zs := by
  obtain ⟨⟨cf, a1, a2, a3, a4, _⟩⟩ := h1
  obtain ⟨⟨cg, b1, b2, b3, b4, _⟩⟩ := h2
  have e : ∀ x ∈ xs, ∀ y ∈ xs, cf x y = cg x y := fun x hx y hy => by
    obtain ⟨k, hk⟩ := a1 x hx y hy
    obtain ⟨k', hk'⟩ := b1 x hx y hy
    have g1 := hm x y k (max k k') _ (Nat.le_max_left _ _) hk
    have g2 := hm x y k' (max k k') _ (Nat.le_max_right _ _) hk'
    rw [g1] at g2
    exact Option.some.inj g2
  refine List.Perm.eq_of_pairwise (le := fun a b => ¬ cf b a < 0) (fun a b ha hb q1 q2 => a2.anti a (a3.mem_iff.1 ha) b (b3.mem_iff.1 hb) q1 q2) a4 ?_ (a3.trans b3.symm)
  rw [List.pairwise_iff_getElem] at b4 ⊢
  intro i j hi hj hij
  have := b4 i j hi hj hij
  rw [e _ (b3.mem_iff.1 (List.getElem_mem hj)) _ (b3.mem_iff.1 (List.getElem_mem hi))]
  exact this
theorem sortK_call {β : Type} {P : Program} {ρ : Go.Shelf.Ren} (L : SlLaysF0.n6 P ρ) {n : FuncId} (hn : ρ.f 6 = n) {sz : Nat} (h0 : 0 < sz) (aE : ∀ w, (isAgg (ρ.t 24)).run P w = .ok true w) (zE : ∀ w, (Go.sizeOf (ρ.t 24)).run P w = .ok sz w) (e : TypeId) (c : β → List AV) (d : β) (hc : ∀ x, (c x).length = sz) {g : Nat}
    (eg : ∀ args w, (callFunc g args).run P w = .ok (.enter g args) w) {f : Nat → β → β → Option Int} (hsp : ∀ k x y r, f k x y = some r → Spec P g [.agg ((c x).map .p), .agg ((c y).map .p)] (.p (.int .i64 r)) []) {xs ys : List β} (h : sortC f xs = some ys) :
    SpecX P n [.sref 0 e sz xs.length, .fn g []] [oL true e sz c d xs] [0] 0 (.sref 0 e sz ys.length) [oL true e sz c d ys] := by
  obtain ⟨⟨cf, h1, h2, h3, h4, h5⟩⟩ := sortC_ok h
  subst hn
  exact sortK_specX L h0 aE zE e c d hc eg cf (fun x hx y hy => by obtain ⟨k, hk⟩ := h1 x hx y hy; exact hsp k x y _ hk) h2 h3 h4 h5
end Go.Proofs.YtjhnpaenhdbhpabV
set_option maxRecDepth 100000
namespace Go.Proofs.YtjhnpaenhdbhpabV
open Go Go.RowKit Go.Shelf
def sl53_ren : Go.Shelf.Ren := ⟨fun | 6 => 53 | 15 => 68 | 14 => 67 | 28 => 84 | 29 => 85 | 20 => 76 | 21 => 77 | 22 => 78 | 23 => 79 | 24 => 80 | 25 => 81 | 26 => 82 | 27 => 83 | 46 => 86 | 47 => 87 | 48 => 88 | 49 => 89 | 50 => 90 | 57 => 91 | n => n, fun | 22 => 33 | 24 => 24 | 25 => 70 | 3 => 3 | 39 => 43 | 0 => 0 | 53 => 98 | 55 => 100 | 4 => 4 | 46 => 91 | 45 => 90 | 50 => 95 | 5 => 5 | 9 => 9 | 66 => 101 | 70 => 105 | 76 => 107 | 77 => 108 | n => n, fun n => n⟩
theorem sl53 : SlLaysF0.n6 Try.prog sl53_ren where
  mixed := by kernel_rfl
  f6 := ⟨"slices.SortFunc[[]erasure/api.Value,erasure/api.Value]", by decide, Try.func53.trans (congrArg some (by kernel_rfl))⟩
  f14 := ⟨"slices.pdqsortCmpFunc[erasure/api.Value]", by decide, Try.func67.trans (congrArg some (by kernel_rfl))⟩
  f15 := Try.func68.trans (congrArg some (by kernel_rfl))
  f20 := ⟨"slices.insertionSortCmpFunc[erasure/api.Value]", by decide, Try.func76.trans (congrArg some (by kernel_rfl))⟩
  f21 := ⟨"slices.heapSortCmpFunc[erasure/api.Value]", by decide, Try.func77.trans (congrArg some (by kernel_rfl))⟩
  f22 := ⟨"slices.breakPatternsCmpFunc[erasure/api.Value]", by decide, Try.func78.trans (congrArg some (by kernel_rfl))⟩
  f23 := ⟨"slices.choosePivotCmpFunc[erasure/api.Value]", by decide, Try.func79.trans (congrArg some (by kernel_rfl))⟩
  f24 := ⟨"slices.reverseRangeCmpFunc[erasure/api.Value]", by decide, Try.func80.trans (congrArg some (by kernel_rfl))⟩
  f25 := ⟨"slices.partialInsertionSortCmpFunc[erasure/api.Value]", by decide, Try.func81.trans (congrArg some (by kernel_rfl))⟩
  f26 := ⟨"slices.partitionEqualCmpFunc[erasure/api.Value]", by decide, Try.func82.trans (congrArg some (by kernel_rfl))⟩
  f27 := ⟨"slices.partitionCmpFunc[erasure/api.Value]", by decide, Try.func83.trans (congrArg some (by kernel_rfl))⟩
  f28 := Try.func84.trans (congrArg some (by kernel_rfl))
  f29 := Try.func85.trans (congrArg some (by kernel_rfl))
  f46 := ⟨"slices.siftDownCmpFunc[erasure/api.Value]", by decide, Try.func86.trans (congrArg some (by kernel_rfl))⟩
  f47 := Try.func87.trans (congrArg some (by kernel_rfl))
  f48 := Try.func88.trans (congrArg some (by kernel_rfl))
  f49 := ⟨"slices.medianAdjacentCmpFunc[erasure/api.Value]", by decide, Try.func89.trans (congrArg some (by kernel_rfl))⟩
  f50 := ⟨"slices.medianCmpFunc[erasure/api.Value]", by decide, Try.func90.trans (congrArg some (by kernel_rfl))⟩
  f57 := ⟨"slices.order2CmpFunc[erasure/api.Value]", by decide, Try.func91.trans (congrArg some (by kernel_rfl))⟩
  t0 := Try.underlying0
  a0 := Try.isAgg0
  z0 := Try.sizeOf0
  v0 := Try.zeroValue0
  t3 := Try.underlying3
  a3 := Try.isAgg3
  z3 := Try.sizeOf3
  v3 := Try.zeroValue3
  t4 := Try.underlying4
  a4 := Try.isAgg4
  z4 := Try.sizeOf4
  v4 := Try.zeroValue4
  t5 := Try.underlying5
  a5 := Try.isAgg5
  z5 := Try.sizeOf5
  v5 := Try.zeroValue5
  t9 := Try.underlying9
  a9 := Try.isAgg9
  z9 := Try.sizeOf9
  v9 := Try.zeroValue9
  t22 := Try.underlying33
  a22 := Try.isAgg33
  z22 := Try.sizeOf33
  v22 := Try.zeroValue33
  t25 := Try.underlying70
  a25 := Try.isAgg70
  z25 := Try.sizeOf70
  v25 := Try.zeroValue70
  t39 := Try.underlying43
  a39 := Try.isAgg43
  z39 := Try.sizeOf43
  v39 := Try.zeroValue43
  t45 := Try.underlying90
  a45 := Try.isAgg90
  z45 := Try.sizeOf90
  v45 := Try.zeroValue90
  t46 := Try.underlying91
  a46 := Try.isAgg91
  z46 := Try.sizeOf91
  v46 := Try.zeroValue91
  t50 := Try.underlying95
  a50 := Try.isAgg95
  z50 := Try.sizeOf95
  v50 := Try.zeroValue95
  t53 := Try.underlying98
  a53 := Try.isAgg98
  z53 := Try.sizeOf98
  v53 := Try.zeroValue98
  t55 := Try.underlying100
  a55 := Try.isAgg100
  z55 := Try.sizeOf100
  v55 := Try.zeroValue100
  t66 := Try.underlying101
  a66 := Try.isAgg101
  z66 := Try.sizeOf101
  v66 := Try.zeroValue101
  t70 := Try.underlying105
  a70 := Try.isAgg105
  z70 := Try.sizeOf105
  v70 := Try.zeroValue105
  t76 := Try.underlying107
  a76 := Try.isAgg107
  z76 := Try.sizeOf107
  v76 := Try.zeroValue107
  t77 := Try.underlying108
  a77 := Try.isAgg108
  z77 := Try.sizeOf108
  v77 := Try.zeroValue108
end Go.Proofs.YtjhnpaenhdbhpabV
set_option linter.unusedVariables false
set_option linter.unusedSimpArgs false
set_option maxRecDepth 100000
namespace Go.Proofs.YtjhnpaenhdbhpabV
open Go Go.RowKit
noncomputable def cache_Touched.p2 (rec1 : Int → Int → Int → (List (TValue × Bool)) → (List TValue) → (List (List TEntry)) → Option (List TValue)) : Nat → Int → (List TEntry) → Int → Int → Int → (List (TValue × Bool)) → (List TValue) → (List (List TEntry)) → Option (List TValue)
  | 0, _, _, _, _, _, _, _, _ => none
  | k + 1, column2, l10, i11, v17, v18, seen7b, out8, v16 => if (decide (i11 < ((l10).length : Int))) = true then (if 0 ≤ i11 ∧ i11 < ((l10).length : Int) then ((cache_at k ((l10.getD i11.toNat dEntry).f0) column2).bind fun y_5 => (if (!(getM seen7b y_5 false)) = true then (if (out8).length + ([y_5]).length ≤ maxLen ∧ ((out8).length + ([y_5]).length) * 32 ≤ 140737488355328 then (cache_Touched.p2 rec1 k column2 l10 (IntKind.i64.wrap (i11 + 1)) v17 v18 (putM seen7b y_5 true) (out8 ++ ([y_5])) v16) else none) else (cache_Touched.p2 rec1 k column2 l10 (IntKind.i64.wrap (i11 + 1)) v17 v18 seen7b out8 v16))) else none) else (rec1 column2 v17 (IntKind.i64.wrap (v18 + 1)) seen7b out8 v16)
noncomputable def cache_Touched.p1  : Nat → Int → Int → Int → (List (TValue × Bool)) → (List TValue) → (List (List TEntry)) → Option (List TValue)
  | 0, _, _, _, _, _, _ => none
  | k + 1, column2, v17, v18, seen7b, out8, v16 => if (decide (v18 < v17)) = true then (if 0 ≤ v18 ∧ v18 < ((v16).length : Int) then (cache_Touched.p2 (cache_Touched.p1 k) k column2 (v16.getD v18.toNat ([] : List TEntry)) 0 v17 v18 seen7b out8 v16) else none) else ((sortC (fun k x y => value_Compare k x y) out8).bind fun y_9 => (some y_9))
noncomputable def cache_Touched  (k : Nat) (minus0 : (List TEntry)) (plus1 : (List TEntry)) (column2 : Int) : Option (List TValue) := cache_Touched.p1 k column2 (([minus0, plus1]).length : Int) 0 ([] : (List (TValue × Bool))) ([] : List TValue) ([minus0, plus1])
noncomputable def cache_Touched.t : List Item := [.code (bodyOf Try.f32)]
noncomputable def cache_Touched.s (minus0 : (List TEntry)) (plus1 : (List TEntry)) (column2 : Int) : St := ⟨frOf Try.f32.ntmps 0 [(0, .p (eL 2 cEntry dEntry minus0)), (1, .p (eL 2 cEntry dEntry plus1)), (2, .p (.int .i64 column2))], []⟩
noncomputable def cache_Touched.p1.t : List Item := nav 11 [] cache_Touched.t
noncomputable def cache_Touched.p1.s (column2 : Int) (v17 : Int) (v18 : Int) (seen7b : (List (TValue × Bool))) (out8 : (List TValue)) (v16 : (List (List TEntry))) : St := ⟨frOf Try.f32.ntmps 0 [(2, .p (.int .i64 column2)), (7, .mref 0 0), (8, .sref 1 24 3 (out8).length), (16, .sref 2 22 1 (v16).length), (17, .p (.int .i64 v17)), (18, .p (.int .i64 v18))], [.reg (.map (mE (pvT cValue) pvB seen7b)), (oL true 24 3 cValue dValue out8), (oL true 22 1 (cL 2 cEntry dEntry) ([] : List TEntry) v16)]⟩
noncomputable def cache_Touched.p2.t : List Item := nav 13 [true] cache_Touched.p1.t
noncomputable def cache_Touched.p2.s (column2 : Int) (l10 : (List TEntry)) (i11 : Int) (v17 : Int) (v18 : Int) (seen7b : (List (TValue × Bool))) (out8 : (List TValue)) (v16 : (List (List TEntry))) : St := ⟨frOf Try.f32.ntmps 0 [(2, .p (.int .i64 column2)), (7, .mref 0 0), (8, .sref 1 24 3 (out8).length), (10, .p (eL 2 cEntry dEntry l10)), (11, .p (.int .i64 i11)), (16, .sref 2 22 1 (v16).length), (17, .p (.int .i64 v17)), (18, .p (.int .i64 v18))], [.reg (.map (mE (pvT cValue) pvB seen7b)), (oL true 24 3 cValue dValue out8), (oL true 22 1 (cL 2 cEntry dEntry) ([] : List TEntry) v16)]⟩
theorem cache_Touched.p2.run {rec1 : Int → Int → Int → (List (TValue × Bool)) → (List TValue) → (List (List TEntry)) → Option (List TValue)} (hrec1 : ∀ (column2 : Int) (v17 : Int) (v18 : Int) (seen7b : (List (TValue × Bool))) (out8 : (List TValue)) (v16 : (List (List TEntry))) r, rec1 column2 v17 v18 seen7b out8 v16 = some r → RunC Try.prog Try.f32 cache_Touched.p1.t (cache_Touched.p1.s column2 v17 v18 seen7b out8 v16) (.sref 0 24 3 (r).length) [(oL true 24 3 cValue dValue (r))]) : ∀ (k : Nat) (column2 : Int) (l10 : (List TEntry)) (i11 : Int) (v17 : Int) (v18 : Int) (seen7b : (List (TValue × Bool))) (out8 : (List TValue)) (v16 : (List (List TEntry))) (r : (List TValue)), cache_Touched.p2 rec1 k column2 l10 i11 v17 v18 seen7b out8 v16 = some r → RunC Try.prog Try.f32 cache_Touched.p2.t (cache_Touched.p2.s column2 l10 i11 v17 v18 seen7b out8 v16) (.sref 0 24 3 (r).length) [(oL true 24 3 cValue dValue (r))] := by
  intro k
  induction k with
  | zero => intro column2 l10 i11 v17 v18 seen7b out8 v16 r h; simp [cache_Touched.p2] at h
  | succ k ih =>
    intro column2 l10 i11 v17 v18 seen7b out8 v16 r h
    rw [cache_Touched.p2] at h
    rcases ite_or h with ⟨g_3, h⟩ | ⟨g_3, h⟩
    · obtain ⟨g_4, h⟩ := ite_some h
      obtain ⟨y_5, e_6, h⟩ := bind_or h
      rcases ite_or h with ⟨g_7, h⟩ | ⟨g_7, h⟩
      · obtain ⟨g_8, h⟩ := ite_some h
        exact RunC.go [.n 2, .r [(3, .dec true)], .n 5, .r [(6, .call (.agg ((cValue y_5).map .p)) [])], .n 1, .r [(2, .fv (.p (.bool (getM seen7b y_5 false)))), (3, .dec true)], .n 2, .r [(2, .mp (mE (pvT cValue) pvB (putM seen7b y_5 true)))], .r [(2, .obj (oL true 24 3 cValue dValue [y_5])), (3, .obj (oL true 24 3 cValue dValue (out8 ++ ([y_5]))))], .n 3, .k [2, 7, 8, 10, 11, 16, 17, 18]] (by kernel_rfl) (Obs.of (by kernel_rfl) (And.intro g_3 (And.intro g_4 (And.intro (cache_at.spec e_6) (And.intro (le_get (P := Try.prog) (kt := 24) (q := pvB) inj_Value (fun _ => by kernel_rfl) y_5 false seen7b) (And.intro g_7 (And.intro (le_put (P := Try.prog) (kt := 24) (q := pvB) inj_Value (fun _ => by kernel_rfl) y_5 true seen7b) (And.intro (le_one 24 3 cValue dValue y_5) (And.intro g_8 (le_app 24 3 cValue dValue out8 ([y_5]))))))))))) (ih _ _ _ _ _ _ _ _ r h)
      · exact RunC.go [.n 2, .r [(3, .dec true)], .n 5, .r [(6, .call (.agg ((cValue y_5).map .p)) [])], .n 1, .r [(2, .fv (.p (.bool (getM seen7b y_5 false)))), (3, .dec false)], .n 5, .k [2, 7, 8, 10, 11, 16, 17, 18]] (by kernel_rfl) (Obs.of (by kernel_rfl) (And.intro g_3 (And.intro g_4 (And.intro (cache_at.spec e_6) (And.intro (le_get (P := Try.prog) (kt := 24) (q := pvB) inj_Value (fun _ => by kernel_rfl) y_5 false seen7b) (nt g_7)))))) (ih _ _ _ _ _ _ _ _ r h)
    · exact RunC.go [.n 2, .r [(3, .dec false)], .n 5, .k [2, 7, 8, 16, 17, 18]] (by kernel_rfl) (Obs.of (by kernel_rfl) (nt g_3)) (hrec1 _ _ _ _ _ _ r h)
theorem cache_Touched.p1.run   : ∀ (k : Nat) (column2 : Int) (v17 : Int) (v18 : Int) (seen7b : (List (TValue × Bool))) (out8 : (List TValue)) (v16 : (List (List TEntry))) (r : (List TValue)), cache_Touched.p1 k column2 v17 v18 seen7b out8 v16 = some r → RunC Try.prog Try.f32 cache_Touched.p1.t (cache_Touched.p1.s column2 v17 v18 seen7b out8 v16) (.sref 0 24 3 (r).length) [(oL true 24 3 cValue dValue (r))] := by
  intro k
  induction k with
  | zero => intro column2 v17 v18 seen7b out8 v16 r h; simp [cache_Touched.p1] at h
  | succ k ih =>
    intro column2 v17 v18 seen7b out8 v16 r h
    rw [cache_Touched.p1] at h
    rcases ite_or h with ⟨g_1, h⟩ | ⟨g_1, h⟩
    · obtain ⟨g_2, h⟩ := ite_some h
      exact RunC.go [.n 1, .r [(0, .dec true)], .n 11, .k [2, 7, 8, 10, 11, 16, 17, 18]] (by kernel_rfl) (Obs.of (by kernel_rfl) (And.intro g_1 g_2)) (cache_Touched.p2.run ih k _ _ _ _ _ _ _ _ r h)
    · obtain ⟨y_9, e_10, h⟩ := bind_or h
      obtain rfl := Option.some.inj h
      exact RunC.out [.n 1, .r [(0, .dec false)], .n 4, .r [(1, .callX [1] [0] (.sref 0 24 3 (y_9).length) [(oL true 24 3 cValue dValue y_9)])], .n 2] (by kernel_rfl) (Obs.of (by kernel_rfl) (And.intro (nt g_1) (sortK_call sl53 rfl (by decide) Try.isAgg24 Try.sizeOf24 24 cValue dValue (fun _ => rfl) (enters_of Try.func43 (by kernel_rfl) rfl) (fun k x y r h => value_Compare.spec h) e_10)))
theorem cache_Touched.run   {k : Nat} {minus0 : (List TEntry)} {plus1 : (List TEntry)} {column2 : Int} {r : (List TValue)} (h : cache_Touched k minus0 plus1 column2 = some r) : RunC Try.prog Try.f32 cache_Touched.t (cache_Touched.s minus0 plus1 column2) (.sref 0 24 3 (r).length) [(oL true 24 3 cValue dValue (r))] := by
  unfold cache_Touched at h
  exact RunC.go [.n 1, .r [(0, .obj (oL true 24 3 cValue dValue ([] : List TValue)))], .n 1, .r [(0, .mp (mE (pvT cValue) pvB ([] : (List (TValue × Bool)))))], .n 1, .r [(0, .obj (oL true 24 3 cValue dValue ([] : List TValue)))], .n 2, .r [(2, .obj (oL true 22 1 (cL 2 cEntry dEntry) ([] : List TEntry) [minus0, plus1]))], .n 2, .k [2, 7, 8, 16, 17, 18]] (by kernel_rfl) (Obs.of (by kernel_rfl) (And.intro (le_nil 24 3 cValue dValue) (And.intro (le_mnil (pvT cValue) pvB) (And.intro (le_nil 24 3 cValue dValue) (le_lit 22 1 (cL 2 cEntry dEntry) ([] : List TEntry) [minus0, plus1] (fun _ => rfl)))))) (cache_Touched.p1.run k _ _ _ _ _ _ r h)
theorem cache_Touched.p2.mono {rec1 rec1' : Int → Int → Int → (List (TValue × Bool)) → (List TValue) → (List (List TEntry)) → Option (List TValue)} (hm1 : ∀ (column2 : Int) (v17 : Int) (v18 : Int) (seen7b : (List (TValue × Bool))) (out8 : (List TValue)) (v16 : (List (List TEntry))) r, rec1 column2 v17 v18 seen7b out8 v16 = some r → rec1' column2 v17 v18 seen7b out8 v16 = some r) : ∀ (k k' : Nat) (column2 : Int) (l10 : (List TEntry)) (i11 : Int) (v17 : Int) (v18 : Int) (seen7b : (List (TValue × Bool))) (out8 : (List TValue)) (v16 : (List (List TEntry))) (r : (List TValue)), k ≤ k' → cache_Touched.p2 rec1 k column2 l10 i11 v17 v18 seen7b out8 v16 = some r → cache_Touched.p2 rec1' k' column2 l10 i11 v17 v18 seen7b out8 v16 = some r := by
  intro k
  induction k with
  | zero => intro k' column2 l10 i11 v17 v18 seen7b out8 v16 r hk h; simp [cache_Touched.p2] at h
  | succ k ih =>
    intro k' column2 l10 i11 v17 v18 seen7b out8 v16 r hk h
    obtain ⟨k', rfl⟩ : ∃ m, k' = m + 1 := ⟨k' - 1, by omega⟩
    replace hk := Nat.le_of_succ_le_succ hk
    rw [cache_Touched.p2] at h ⊢
    rcases ite_or h with ⟨g_3, h⟩ | ⟨g_3, h⟩
    · refine itp g_3 ?_
      obtain ⟨g_4, h⟩ := ite_some h
      refine itp g_4 ?_
      obtain ⟨y_5, e_6, h⟩ := bind_or h
      refine bnd (cache_at.mono _ _ _ _ _ hk e_6) ?_
      rcases ite_or h with ⟨g_7, h⟩ | ⟨g_7, h⟩
      · refine itp g_7 ?_
        obtain ⟨g_8, h⟩ := ite_some h
        refine itp g_8 ?_
        exact ih _ _ _ _ _ _ _ _ _ r hk h
      · refine itn g_7 ?_
        exact ih _ _ _ _ _ _ _ _ _ r hk h
    · refine itn g_3 ?_
      exact hm1 _ _ _ _ _ _ r h
theorem cache_Touched.p1.mono   : ∀ (k k' : Nat) (column2 : Int) (v17 : Int) (v18 : Int) (seen7b : (List (TValue × Bool))) (out8 : (List TValue)) (v16 : (List (List TEntry))) (r : (List TValue)), k ≤ k' → cache_Touched.p1 k column2 v17 v18 seen7b out8 v16 = some r → cache_Touched.p1 k' column2 v17 v18 seen7b out8 v16 = some r := by
  intro k
  induction k with
  | zero => intro k' column2 v17 v18 seen7b out8 v16 r hk h; simp [cache_Touched.p1] at h
  | succ k ih =>
    intro k' column2 v17 v18 seen7b out8 v16 r hk h
    obtain ⟨k', rfl⟩ : ∃ m, k' = m + 1 := ⟨k' - 1, by omega⟩
    replace hk := Nat.le_of_succ_le_succ hk
    rw [cache_Touched.p1] at h ⊢
    rcases ite_or h with ⟨g_1, h⟩ | ⟨g_1, h⟩
    · refine itp g_1 ?_
      obtain ⟨g_2, h⟩ := ite_some h
      refine itp g_2 ?_
      exact cache_Touched.p2.mono (fun x0 x1 x2 x3 x4 x5 r h => ih _ x0 x1 x2 x3 x4 x5 r hk h) _ _ _ _ _ _ _ _ _ _ r hk h
    · refine itn g_1 ?_
      obtain ⟨y_9, e_10, h⟩ := bind_or h
      refine bnd e_10 ?_
      exact h
theorem cache_Touched.mono   : ∀ (k k' : Nat) (minus0 : (List TEntry)) (plus1 : (List TEntry)) (column2 : Int) (r : (List TValue)), k ≤ k' → cache_Touched k minus0 plus1 column2 = some r → cache_Touched k' minus0 plus1 column2 = some r := by
  intro k k' minus0 plus1 column2 r hk h
  unfold cache_Touched at h ⊢
  exact cache_Touched.p1.mono _ _ _ _ _ _ _ _ r hk h
theorem cache_Touched.spec {k : Nat} {minus0 : (List TEntry)} {plus1 : (List TEntry)} {column2 : Int} {r : (List TValue)} (h : cache_Touched k minus0 plus1 column2 = some r) : Spec Try.prog 32 [.p (eL 2 cEntry dEntry minus0), .p (eL 2 cEntry dEntry plus1), .p (.int .i64 column2)] (.sref 0 24 3 (r).length) [(oL true 24 3 cValue dValue (r))] :=
  spec_of mix Try.func32 (body := bodyOf Try.f32) (by kernel_rfl) (by kernel_rfl) (cache_Touched.run h)
end Go.Proofs.YtjhnpaenhdbhpabV
set_option linter.unusedVariables false
set_option linter.unusedSimpArgs false
set_option maxRecDepth 100000
namespace Go.Proofs.YtjhnpaenhdbhpabV
open Go Go.RowKit
noncomputable def erasureref26_SameRow  (k : Nat) (a0 : (List TValue)) (b1 : (List TValue)) : Option Bool := (erasureref22_SameRow k a0 b1).bind fun y_1 => (some y_1)
noncomputable def erasureref26_SameRow.t : List Item := [.code (bodyOf Try.f33)]
noncomputable def erasureref26_SameRow.s (a0 : (List TValue)) (b1 : (List TValue)) : St := ⟨frOf Try.f33.ntmps 0 [(0, .p (eL 3 cValue dValue a0)), (1, .p (eL 3 cValue dValue b1))], []⟩
theorem erasureref26_SameRow.run   {k : Nat} {a0 : (List TValue)} {b1 : (List TValue)} {r : Bool} (h : erasureref26_SameRow k a0 b1 = some r) : RunC Try.prog Try.f33 erasureref26_SameRow.t (erasureref26_SameRow.s a0 b1) (.p (.bool r)) [] := by
  unfold erasureref26_SameRow at h
  obtain ⟨y_1, e_2, h⟩ := bind_or h
  obtain rfl := Option.some.inj h
  exact RunC.out [.n 3, .r [(2, .call (.p (.bool y_1)) [])]] (by kernel_rfl) (Obs.of (by kernel_rfl) (erasureref22_SameRow.spec e_2))
theorem erasureref26_SameRow.mono   : ∀ (k k' : Nat) (a0 : (List TValue)) (b1 : (List TValue)) (r : Bool), k ≤ k' → erasureref26_SameRow k a0 b1 = some r → erasureref26_SameRow k' a0 b1 = some r := by
  intro k k' a0 b1 r hk h
  unfold erasureref26_SameRow at h ⊢
  obtain ⟨y_1, e_2, h⟩ := bind_or h
  refine bnd (erasureref22_SameRow.mono _ _ _ _ _ hk e_2) ?_
  exact h
theorem erasureref26_SameRow.spec {k : Nat} {a0 : (List TValue)} {b1 : (List TValue)} {r : Bool} (h : erasureref26_SameRow k a0 b1 = some r) : Spec Try.prog 33 [.p (eL 3 cValue dValue a0), .p (eL 3 cValue dValue b1)] (.p (.bool r)) [] :=
  spec_of mix Try.func33 (body := bodyOf Try.f33) (by kernel_rfl) (by kernel_rfl) (erasureref26_SameRow.run h)
end Go.Proofs.YtjhnpaenhdbhpabV
set_option linter.unusedVariables false
set_option linter.unusedSimpArgs false
set_option maxRecDepth 100000
namespace Go.Proofs.YtjhnpaenhdbhpabV
open Go Go.RowKit
noncomputable def erasureref30_Touched.p3 (rec1 : (List TEntry) → (List TEntry) → Int → Int → (List TValue) → Option (List TValue)) : Nat → (List TEntry) → (List TEntry) → Int → Int → Int → (List TValue) → Option (List TValue)
  | 0, _, _, _, _, _, _ => none
  | k + 1, minus0, plus1, column2, i8, k12, out7 => if (decide (k12 > 0)) = true then (if 0 ≤ k12 ∧ k12 < ((out7).length : Int) then (if 0 ≤ (IntKind.i64.wrap (k12 - 1)) ∧ (IntKind.i64.wrap (k12 - 1)) < ((out7).length : Int) then ((erasureref01_Compare k (out7.getD k12.toNat dValue) (out7.getD (IntKind.i64.wrap (k12 - 1)).toNat dValue)).bind fun y_14 => (if (decide (y_14 < 0)) = true then (erasureref30_Touched.p3 rec1 k minus0 plus1 column2 i8 (IntKind.i64.wrap (k12 - 1)) ((out7.set (IntKind.i64.wrap (k12 - 1)).toNat (out7.getD k12.toNat dValue)).set k12.toNat (out7.getD (IntKind.i64.wrap (k12 - 1)).toNat dValue))) else (rec1 minus0 plus1 column2 (IntKind.i64.wrap (i8 + 1)) out7))) else none) else none) else (rec1 minus0 plus1 column2 (IntKind.i64.wrap (i8 + 1)) out7)
noncomputable def erasureref30_Touched.p2 (rec1 : (List TEntry) → (List TEntry) → Int → Int → (List TValue) → Option (List TValue)) : Nat → (List TEntry) → (List TEntry) → Int → Int → Bool → Int → (List TValue) → TValue → Option (List TValue)
  | 0, _, _, _, _, _, _, _, _ => none
  | k + 1, minus0, plus1, column2, i8, found10, k11, out7, v9b => if (decide (k11 < ((out7).length : Int))) = true then (if found10 = true then (erasureref30_Touched.p2 rec1 k minus0 plus1 column2 i8 true (IntKind.i64.wrap (k11 + 1)) out7 v9b) else (if 0 ≤ k11 ∧ k11 < ((out7).length : Int) then (erasureref30_Touched.p2 rec1 k minus0 plus1 column2 i8 (((out7.getD k11.toNat dValue).f0 == v9b.f0) && (((out7.getD k11.toNat dValue).f1 == v9b.f1) && ((((out7.getD k11.toNat dValue).f2).data.toList == v9b.f2.data.toList) && true))) (IntKind.i64.wrap (k11 + 1)) out7 v9b) else none)) else (if found10 = true then (rec1 minus0 plus1 column2 (IntKind.i64.wrap (i8 + 1)) out7) else (if (out7).length + ([v9b]).length ≤ maxLen ∧ ((out7).length + ([v9b]).length) * 32 ≤ 140737488355328 then (erasureref30_Touched.p3 rec1 k minus0 plus1 column2 i8 (IntKind.i64.wrap ((((out7 ++ ([v9b]))).length : Int) - 1)) (out7 ++ ([v9b]))) else none))
noncomputable def erasureref30_Touched.p1  : Nat → (List TEntry) → (List TEntry) → Int → Int → (List TValue) → Option (List TValue)
  | 0, _, _, _, _, _ => none
  | k + 1, minus0, plus1, column2, i8, out7 => if (decide (i8 < (IntKind.i64.wrap (((minus0).length : Int) + ((plus1).length : Int))))) = true then (if (decide (i8 < ((minus0).length : Int))) = true then (if 0 ≤ i8 ∧ i8 < ((minus0).length : Int) then ((erasureref30_at k ((minus0.getD i8.toNat dEntry).f0) column2).bind fun y_4 => (erasureref30_Touched.p2 (erasureref30_Touched.p1 k) k minus0 plus1 column2 i8 false 0 out7 y_4)) else none) else (if 0 ≤ (IntKind.i64.wrap (i8 - ((minus0).length : Int))) ∧ (IntKind.i64.wrap (i8 - ((minus0).length : Int))) < ((plus1).length : Int) then ((erasureref30_at k ((plus1.getD (IntKind.i64.wrap (i8 - ((minus0).length : Int))).toNat dEntry).f0) column2).bind fun y_18 => (erasureref30_Touched.p2 (erasureref30_Touched.p1 k) k minus0 plus1 column2 i8 false 0 out7 y_18)) else none)) else (some out7)
noncomputable def erasureref30_Touched  (k : Nat) (minus0 : (List TEntry)) (plus1 : (List TEntry)) (column2 : Int) : Option (List TValue) := erasureref30_Touched.p1 k minus0 plus1 column2 0 ([] : List TValue)
noncomputable def erasureref30_Touched.t : List Item := [.code (bodyOf Try.f34)]
noncomputable def erasureref30_Touched.s (minus0 : (List TEntry)) (plus1 : (List TEntry)) (column2 : Int) : St := ⟨frOf Try.f34.ntmps 0 [(0, .p (eL 2 cEntry dEntry minus0)), (1, .p (eL 2 cEntry dEntry plus1)), (2, .p (.int .i64 column2))], []⟩
noncomputable def erasureref30_Touched.p1.t : List Item := nav 9 [] erasureref30_Touched.t
noncomputable def erasureref30_Touched.p1.s (minus0 : (List TEntry)) (plus1 : (List TEntry)) (column2 : Int) (i8 : Int) (out7 : (List TValue)) : St := ⟨frOf Try.f34.ntmps 0 [(0, .p (eL 2 cEntry dEntry minus0)), (1, .p (eL 2 cEntry dEntry plus1)), (2, .p (.int .i64 column2)), (7, .sref 0 24 3 (out7).length), (8, .p (.int .i64 i8))], [(oL true 24 3 cValue dValue out7)]⟩
noncomputable def erasureref30_Touched.p2.t : List Item := nav 21 [true, true] erasureref30_Touched.p1.t
noncomputable def erasureref30_Touched.p2.s (minus0 : (List TEntry)) (plus1 : (List TEntry)) (column2 : Int) (i8 : Int) (found10 : Bool) (k11 : Int) (out7 : (List TValue)) (v9b : TValue) : St := ⟨frOf Try.f34.ntmps 0 [(0, .p (eL 2 cEntry dEntry minus0)), (1, .p (eL 2 cEntry dEntry plus1)), (2, .p (.int .i64 column2)), (7, .sref 0 24 3 (out7).length), (8, .p (.int .i64 i8)), (9, .ptr 1 0 0), (10, .p (.bool found10)), (11, .p (.int .i64 k11))], [(oL true 24 3 cValue dValue out7), .box ((cValue v9b).map .p)]⟩
noncomputable def erasureref30_Touched.p3.t : List Item := nav 16 [false, false] erasureref30_Touched.p2.t
noncomputable def erasureref30_Touched.p3.s (minus0 : (List TEntry)) (plus1 : (List TEntry)) (column2 : Int) (i8 : Int) (k12 : Int) (out7 : (List TValue)) : St := ⟨frOf Try.f34.ntmps 0 [(0, .p (eL 2 cEntry dEntry minus0)), (1, .p (eL 2 cEntry dEntry plus1)), (2, .p (.int .i64 column2)), (7, .sref 0 24 3 (out7).length), (8, .p (.int .i64 i8)), (12, .p (.int .i64 k12))], [(oL true 24 3 cValue dValue out7)]⟩
theorem erasureref30_Touched.p3.run {rec1 : (List TEntry) → (List TEntry) → Int → Int → (List TValue) → Option (List TValue)} (hrec1 : ∀ (minus0 : (List TEntry)) (plus1 : (List TEntry)) (column2 : Int) (i8 : Int) (out7 : (List TValue)) r, rec1 minus0 plus1 column2 i8 out7 = some r → RunC Try.prog Try.f34 erasureref30_Touched.p1.t (erasureref30_Touched.p1.s minus0 plus1 column2 i8 out7) (.sref 0 24 3 (r).length) [(oL true 24 3 cValue dValue (r))]) : ∀ (k : Nat) (minus0 : (List TEntry)) (plus1 : (List TEntry)) (column2 : Int) (i8 : Int) (k12 : Int) (out7 : (List TValue)) (r : (List TValue)), erasureref30_Touched.p3 rec1 k minus0 plus1 column2 i8 k12 out7 = some r → RunC Try.prog Try.f34 erasureref30_Touched.p3.t (erasureref30_Touched.p3.s minus0 plus1 column2 i8 k12 out7) (.sref 0 24 3 (r).length) [(oL true 24 3 cValue dValue (r))] := by
  intro k
  induction k with
  | zero => intro minus0 plus1 column2 i8 k12 out7 r h; simp [erasureref30_Touched.p3] at h
  | succ k ih =>
    intro minus0 plus1 column2 i8 k12 out7 r h
    rw [erasureref30_Touched.p3] at h
    rcases ite_or h with ⟨g_11, h⟩ | ⟨g_11, h⟩
    · obtain ⟨g_12, h⟩ := ite_some h
      obtain ⟨g_13, h⟩ := ite_some h
      obtain ⟨y_14, e_15, h⟩ := bind_or h
      rcases ite_or h with ⟨g_16, h⟩ | ⟨g_16, h⟩
      · exact RunC.go [.n 2, .r [(2, .dec true), (12, .call (.p (.int .i64 y_14)) []), (14, .dec true)], .n 4, .r [(15, .obj (oL true 24 3 cValue dValue (out7.set (IntKind.i64.wrap (k12 - 1)).toNat (out7.getD k12.toNat dValue)))), (17, .obj (oL true 24 3 cValue dValue ((out7.set (IntKind.i64.wrap (k12 - 1)).toNat (out7.getD k12.toNat dValue)).set k12.toNat (out7.getD (IntKind.i64.wrap (k12 - 1)).toNat dValue))))], .n 3, .k [0, 1, 2, 7, 8, 12]] (by kernel_rfl) (Obs.of (by kernel_rfl) (And.intro g_11 (And.intro g_12 (And.intro g_13 (And.intro (erasureref01_Compare.spec e_15) (And.intro g_16 (And.intro g_12 (And.intro g_13 (And.intro g_13 (And.intro (le_set 24 3 cValue dValue out7 (out7.getD k12.toNat dValue) (IntKind.i64.wrap (k12 - 1)).toNat rfl) (And.intro g_12 (le_set 24 3 cValue dValue (out7.set (IntKind.i64.wrap (k12 - 1)).toNat (out7.getD k12.toNat dValue)) (out7.getD (IntKind.i64.wrap (k12 - 1)).toNat dValue) k12.toNat rfl)))))))))))) (ih _ _ _ _ _ _ r h)
      · exact RunC.go [.n 2, .r [(2, .dec true), (12, .call (.p (.int .i64 y_14)) []), (14, .dec false)], .n 5, .k [0, 1, 2, 7, 8]] (by kernel_rfl) (Obs.of (by kernel_rfl) (And.intro g_11 (And.intro g_12 (And.intro g_13 (And.intro (erasureref01_Compare.spec e_15) (nt g_16)))))) (hrec1 _ _ _ _ _ r h)
    · exact RunC.go [.n 2, .r [(2, .dec false)], .n 5, .k [0, 1, 2, 7, 8]] (by kernel_rfl) (Obs.of (by kernel_rfl) (nt g_11)) (hrec1 _ _ _ _ _ r h)
theorem erasureref30_Touched.p2.run {rec1 : (List TEntry) → (List TEntry) → Int → Int → (List TValue) → Option (List TValue)} (hrec1 : ∀ (minus0 : (List TEntry)) (plus1 : (List TEntry)) (column2 : Int) (i8 : Int) (out7 : (List TValue)) r, rec1 minus0 plus1 column2 i8 out7 = some r → RunC Try.prog Try.f34 erasureref30_Touched.p1.t (erasureref30_Touched.p1.s minus0 plus1 column2 i8 out7) (.sref 0 24 3 (r).length) [(oL true 24 3 cValue dValue (r))]) : ∀ (k : Nat) (minus0 : (List TEntry)) (plus1 : (List TEntry)) (column2 : Int) (i8 : Int) (found10 : Bool) (k11 : Int) (out7 : (List TValue)) (v9b : TValue) (r : (List TValue)), erasureref30_Touched.p2 rec1 k minus0 plus1 column2 i8 found10 k11 out7 v9b = some r → RunC Try.prog Try.f34 erasureref30_Touched.p2.t (erasureref30_Touched.p2.s minus0 plus1 column2 i8 found10 k11 out7 v9b) (.sref 0 24 3 (r).length) [(oL true 24 3 cValue dValue (r))] := by
  intro k
  induction k with
  | zero => intro minus0 plus1 column2 i8 found10 k11 out7 v9b r h; simp [erasureref30_Touched.p2] at h
  | succ k ih =>
    intro minus0 plus1 column2 i8 found10 k11 out7 v9b r h
    rw [erasureref30_Touched.p2] at h
    rcases ite_or h with ⟨g_6, h⟩ | ⟨g_6, h⟩
    · rcases ite_or h with ⟨g_7, h⟩ | ⟨g_7, h⟩
      · exact RunC.go [.n 2, .r [(3, .dec true)], .n 4, .r [(1, .dec true)], .n 3, .k [0, 1, 2, 7, 8, 9, 10, 11]] (by kernel_rfl) (Obs.of (by kernel_rfl) (And.intro g_6 g_7)) (ih _ _ _ _ _ _ _ _ r h)
      · obtain ⟨g_8, h⟩ := ite_some h
        exact RunC.go [.n 2, .r [(3, .dec true)], .n 4, .r [(1, .dec false)], .n 3, .k [0, 1, 2, 7, 8, 9, 10, 11]] (by kernel_rfl) (Obs.of (by kernel_rfl) (And.intro g_6 (And.intro (nt g_7) g_8))) (ih _ _ _ _ _ _ _ _ r h)
    · rcases ite_or h with ⟨g_9, h⟩ | ⟨g_9, h⟩
      · exact RunC.go [.n 2, .r [(3, .dec false)], .n 4, .r [(0, .dec true)], .n 4, .k [0, 1, 2, 7, 8]] (by kernel_rfl) (Obs.of (by kernel_rfl) (And.intro (nt g_6) g_9)) (hrec1 _ _ _ _ _ r h)
      · obtain ⟨g_10, h⟩ := ite_some h
        exact RunC.go [.n 2, .r [(3, .dec false)], .n 4, .r [(0, .dec false)], .n 3, .r [(2, .obj (oL true 24 3 cValue dValue [v9b])), (3, .obj (oL true 24 3 cValue dValue (out7 ++ ([v9b]))))], .n 4, .k [0, 1, 2, 7, 8, 12]] (by kernel_rfl) (Obs.of (by kernel_rfl) (And.intro (nt g_6) (And.intro (nt g_9) (And.intro (le_one 24 3 cValue dValue v9b) (And.intro g_10 (le_app 24 3 cValue dValue out7 ([v9b]))))))) (erasureref30_Touched.p3.run hrec1 k _ _ _ _ _ _ r h)
theorem erasureref30_Touched.p1.run   : ∀ (k : Nat) (minus0 : (List TEntry)) (plus1 : (List TEntry)) (column2 : Int) (i8 : Int) (out7 : (List TValue)) (r : (List TValue)), erasureref30_Touched.p1 k minus0 plus1 column2 i8 out7 = some r → RunC Try.prog Try.f34 erasureref30_Touched.p1.t (erasureref30_Touched.p1.s minus0 plus1 column2 i8 out7) (.sref 0 24 3 (r).length) [(oL true 24 3 cValue dValue (r))] := by
  intro k
  induction k with
  | zero => intro minus0 plus1 column2 i8 out7 r h; simp [erasureref30_Touched.p1] at h
  | succ k ih =>
    intro minus0 plus1 column2 i8 out7 r h
    rw [erasureref30_Touched.p1] at h
    rcases ite_or h with ⟨g_1, h⟩ | ⟨g_1, h⟩
    · rcases ite_or h with ⟨g_2, h⟩ | ⟨g_2, h⟩
      · obtain ⟨g_3, h⟩ := ite_some h
        obtain ⟨y_4, e_5, h⟩ := bind_or h
        exact RunC.go [.n 2, .r [(6, .dec true)], .n 8, .r [(3, .dec true)], .n 1, .r [(6, .call (.agg ((cValue y_4).map .p)) [])], .n 7, .k [0, 1, 2, 7, 8, 9, 10, 11]] (by kernel_rfl) (Obs.of (by kernel_rfl) (And.intro g_1 (And.intro g_2 (And.intro g_3 (erasureref30_at.spec e_5))))) (erasureref30_Touched.p2.run ih k _ _ _ _ _ _ _ _ r h)
      · obtain ⟨g_17, h⟩ := ite_some h
        obtain ⟨y_18, e_19, h⟩ := bind_or h
        exact RunC.go [.n 2, .r [(6, .dec true)], .n 8, .r [(3, .dec false)], .n 1, .r [(9, .call (.agg ((cValue y_18).map .p)) [])], .n 7, .k [0, 1, 2, 7, 8, 9, 10, 11]] (by kernel_rfl) (Obs.of (by kernel_rfl) (And.intro g_1 (And.intro (nt g_2) (And.intro g_17 (erasureref30_at.spec e_19))))) (erasureref30_Touched.p2.run ih k _ _ _ _ _ _ _ _ r h)
    · obtain rfl := Option.some.inj h
      exact RunC.out [.n 2, .r [(6, .dec false)], .n 4] (by kernel_rfl) (Obs.of (by kernel_rfl) (nt g_1))
theorem erasureref30_Touched.run   {k : Nat} {minus0 : (List TEntry)} {plus1 : (List TEntry)} {column2 : Int} {r : (List TValue)} (h : erasureref30_Touched k minus0 plus1 column2 = some r) : RunC Try.prog Try.f34 erasureref30_Touched.t (erasureref30_Touched.s minus0 plus1 column2) (.sref 0 24 3 (r).length) [(oL true 24 3 cValue dValue (r))] := by
  unfold erasureref30_Touched at h
  exact RunC.go [.n 1, .r [(0, .obj (oL true 24 3 cValue dValue ([] : List TValue)))], .n 1, .r [(0, .obj (oL true 24 3 cValue dValue ([] : List TValue)))], .n 5, .k [0, 1, 2, 7, 8]] (by kernel_rfl) (Obs.of (by kernel_rfl) (And.intro (le_nil 24 3 cValue dValue) (le_nil 24 3 cValue dValue))) (erasureref30_Touched.p1.run k _ _ _ _ _ r h)
theorem erasureref30_Touched.p3.mono {rec1 rec1' : (List TEntry) → (List TEntry) → Int → Int → (List TValue) → Option (List TValue)} (hm1 : ∀ (minus0 : (List TEntry)) (plus1 : (List TEntry)) (column2 : Int) (i8 : Int) (out7 : (List TValue)) r, rec1 minus0 plus1 column2 i8 out7 = some r → rec1' minus0 plus1 column2 i8 out7 = some r) : ∀ (k k' : Nat) (minus0 : (List TEntry)) (plus1 : (List TEntry)) (column2 : Int) (i8 : Int) (k12 : Int) (out7 : (List TValue)) (r : (List TValue)), k ≤ k' → erasureref30_Touched.p3 rec1 k minus0 plus1 column2 i8 k12 out7 = some r → erasureref30_Touched.p3 rec1' k' minus0 plus1 column2 i8 k12 out7 = some r := by
  intro k
  induction k with
  | zero => intro k' minus0 plus1 column2 i8 k12 out7 r hk h; simp [erasureref30_Touched.p3] at h
  | succ k ih =>
    intro k' minus0 plus1 column2 i8 k12 out7 r hk h
    obtain ⟨k', rfl⟩ : ∃ m, k' = m + 1 := ⟨k' - 1, by omega⟩
    replace hk := Nat.le_of_succ_le_succ hk
    rw [erasureref30_Touched.p3] at h ⊢
    rcases ite_or h with ⟨g_11, h⟩ | ⟨g_11, h⟩
    · refine itp g_11 ?_
      obtain ⟨g_12, h⟩ := ite_some h
      refine itp g_12 ?_
      obtain ⟨g_13, h⟩ := ite_some h
      refine itp g_13 ?_
      obtain ⟨y_14, e_15, h⟩ := bind_or h
      refine bnd (erasureref01_Compare.mono _ _ _ _ _ hk e_15) ?_
      rcases ite_or h with ⟨g_16, h⟩ | ⟨g_16, h⟩
      · refine itp g_16 ?_
        exact ih _ _ _ _ _ _ _ r hk h
      · refine itn g_16 ?_
        exact hm1 _ _ _ _ _ r h
    · refine itn g_11 ?_
      exact hm1 _ _ _ _ _ r h
theorem erasureref30_Touched.p2.mono {rec1 rec1' : (List TEntry) → (List TEntry) → Int → Int → (List TValue) → Option (List TValue)} (hm1 : ∀ (minus0 : (List TEntry)) (plus1 : (List TEntry)) (column2 : Int) (i8 : Int) (out7 : (List TValue)) r, rec1 minus0 plus1 column2 i8 out7 = some r → rec1' minus0 plus1 column2 i8 out7 = some r) : ∀ (k k' : Nat) (minus0 : (List TEntry)) (plus1 : (List TEntry)) (column2 : Int) (i8 : Int) (found10 : Bool) (k11 : Int) (out7 : (List TValue)) (v9b : TValue) (r : (List TValue)), k ≤ k' → erasureref30_Touched.p2 rec1 k minus0 plus1 column2 i8 found10 k11 out7 v9b = some r → erasureref30_Touched.p2 rec1' k' minus0 plus1 column2 i8 found10 k11 out7 v9b = some r := by
  intro k
  induction k with
  | zero => intro k' minus0 plus1 column2 i8 found10 k11 out7 v9b r hk h; simp [erasureref30_Touched.p2] at h
  | succ k ih =>
    intro k' minus0 plus1 column2 i8 found10 k11 out7 v9b r hk h
    obtain ⟨k', rfl⟩ : ∃ m, k' = m + 1 := ⟨k' - 1, by omega⟩
    replace hk := Nat.le_of_succ_le_succ hk
    rw [erasureref30_Touched.p2] at h ⊢
    rcases ite_or h with ⟨g_6, h⟩ | ⟨g_6, h⟩
    · refine itp g_6 ?_
      rcases ite_or h with ⟨g_7, h⟩ | ⟨g_7, h⟩
      · refine itp g_7 ?_
        exact ih _ _ _ _ _ _ _ _ _ r hk h
      · refine itn g_7 ?_
        obtain ⟨g_8, h⟩ := ite_some h
        refine itp g_8 ?_
        exact ih _ _ _ _ _ _ _ _ _ r hk h
    · refine itn g_6 ?_
      rcases ite_or h with ⟨g_9, h⟩ | ⟨g_9, h⟩
      · refine itp g_9 ?_
        exact hm1 _ _ _ _ _ r h
      · refine itn g_9 ?_
        obtain ⟨g_10, h⟩ := ite_some h
        refine itp g_10 ?_
        exact erasureref30_Touched.p3.mono hm1 _ _ _ _ _ _ _ _ r hk h
theorem erasureref30_Touched.p1.mono   : ∀ (k k' : Nat) (minus0 : (List TEntry)) (plus1 : (List TEntry)) (column2 : Int) (i8 : Int) (out7 : (List TValue)) (r : (List TValue)), k ≤ k' → erasureref30_Touched.p1 k minus0 plus1 column2 i8 out7 = some r → erasureref30_Touched.p1 k' minus0 plus1 column2 i8 out7 = some r := by
  intro k
  induction k with
  | zero => intro k' minus0 plus1 column2 i8 out7 r hk h; simp [erasureref30_Touched.p1] at h
  | succ k ih =>
    intro k' minus0 plus1 column2 i8 out7 r hk h
    obtain ⟨k', rfl⟩ : ∃ m, k' = m + 1 := ⟨k' - 1, by omega⟩
    replace hk := Nat.le_of_succ_le_succ hk
    rw [erasureref30_Touched.p1] at h ⊢
    rcases ite_or h with ⟨g_1, h⟩ | ⟨g_1, h⟩
    · refine itp g_1 ?_
      rcases ite_or h with ⟨g_2, h⟩ | ⟨g_2, h⟩
      · refine itp g_2 ?_
        obtain ⟨g_3, h⟩ := ite_some h
        refine itp g_3 ?_
        obtain ⟨y_4, e_5, h⟩ := bind_or h
        refine bnd (erasureref30_at.mono _ _ _ _ _ hk e_5) ?_
        exact erasureref30_Touched.p2.mono (fun x0 x1 x2 x3 x4 r h => ih _ x0 x1 x2 x3 x4 r hk h) _ _ _ _ _ _ _ _ _ _ r hk h
      · refine itn g_2 ?_
        obtain ⟨g_17, h⟩ := ite_some h
        refine itp g_17 ?_
        obtain ⟨y_18, e_19, h⟩ := bind_or h
        refine bnd (erasureref30_at.mono _ _ _ _ _ hk e_19) ?_
        exact erasureref30_Touched.p2.mono (fun x0 x1 x2 x3 x4 r h => ih _ x0 x1 x2 x3 x4 r hk h) _ _ _ _ _ _ _ _ _ _ r hk h
    · refine itn g_1 ?_
      exact h
theorem erasureref30_Touched.mono   : ∀ (k k' : Nat) (minus0 : (List TEntry)) (plus1 : (List TEntry)) (column2 : Int) (r : (List TValue)), k ≤ k' → erasureref30_Touched k minus0 plus1 column2 = some r → erasureref30_Touched k' minus0 plus1 column2 = some r := by
  intro k k' minus0 plus1 column2 r hk h
  unfold erasureref30_Touched at h ⊢
  exact erasureref30_Touched.p1.mono _ _ _ _ _ _ _ r hk h
theorem erasureref30_Touched.spec {k : Nat} {minus0 : (List TEntry)} {plus1 : (List TEntry)} {column2 : Int} {r : (List TValue)} (h : erasureref30_Touched k minus0 plus1 column2 = some r) : Spec Try.prog 34 [.p (eL 2 cEntry dEntry minus0), .p (eL 2 cEntry dEntry plus1), .p (.int .i64 column2)] (.sref 0 24 3 (r).length) [(oL true 24 3 cValue dValue (r))] :=
  spec_of mix Try.func34 (body := bodyOf Try.f34) (by kernel_rfl) (by kernel_rfl) (erasureref30_Touched.run h)
end Go.Proofs.YtjhnpaenhdbhpabV
set_option linter.unusedVariables false
set_option linter.unusedSimpArgs false
set_option maxRecDepth 100000
namespace Go.Proofs.YtjhnpaenhdbhpabV
open Go Go.RowKit
noncomputable def erasurelaw30_CacheTouches  (k : Nat) (minus0 : (List TEntry)) (plus1 : (List TEntry)) (column2 : Int) : Option Bool := (erasurelaw30_short k minus0).bind fun y_1 => (if (!y_1) = true then ((erasurelaw30_awake k ).bind fun y_4 => (some y_4)) else ((erasurelaw30_short k plus1).bind fun y_6 => (if (!y_6) = true then ((erasurelaw30_awake k ).bind fun y_9 => (some y_9)) else ((cache_Touched k minus0 plus1 column2).bind fun y_11 => ((erasureref30_Touched k minus0 plus1 column2).bind fun y_13 => ((erasureref26_SameRow k y_11 y_13).bind fun y_15 => (if y_15 = true then ((erasurelaw30_awake k ).bind fun y_18 => (some y_18)) else (some false))))))))
noncomputable def erasurelaw30_CacheTouches.t : List Item := [.code (bodyOf Try.f9)]
noncomputable def erasurelaw30_CacheTouches.s (minus0 : (List TEntry)) (plus1 : (List TEntry)) (column2 : Int) : St := ⟨frOf Try.f9.ntmps 0 [(0, .p (eL 2 cEntry dEntry minus0)), (1, .p (eL 2 cEntry dEntry plus1)), (2, .p (.int .i64 column2))], []⟩
theorem erasurelaw30_CacheTouches.run   {k : Nat} {minus0 : (List TEntry)} {plus1 : (List TEntry)} {column2 : Int} {r : Bool} (h : erasurelaw30_CacheTouches k minus0 plus1 column2 = some r) : RunC Try.prog Try.f9 erasurelaw30_CacheTouches.t (erasurelaw30_CacheTouches.s minus0 plus1 column2) (.p (.bool r)) [] := by
  unfold erasurelaw30_CacheTouches at h
  obtain ⟨y_1, e_2, h⟩ := bind_or h
  rcases ite_or h with ⟨g_3, h⟩ | ⟨g_3, h⟩
  · obtain ⟨y_4, e_5, h⟩ := bind_or h
    obtain rfl := Option.some.inj h
    exact RunC.out [.n 4, .r [(1, .call (.p (.bool y_1)) []), (3, .dec true)], .n 2, .r [(0, .call (.p (.bool y_4)) [])]] (by kernel_rfl) (Obs.of (by kernel_rfl) (And.intro (erasurelaw30_short.spec e_2) (And.intro g_3 (erasurelaw30_awake.spec e_5))))
  · obtain ⟨y_6, e_7, h⟩ := bind_or h
    rcases ite_or h with ⟨g_8, h⟩ | ⟨g_8, h⟩
    · obtain ⟨y_9, e_10, h⟩ := bind_or h
      obtain rfl := Option.some.inj h
      exact RunC.out [.n 4, .r [(1, .call (.p (.bool y_1)) []), (3, .dec false), (5, .call (.p (.bool y_6)) []), (7, .dec true)], .n 2, .r [(0, .call (.p (.bool y_9)) [])]] (by kernel_rfl) (Obs.of (by kernel_rfl) (And.intro (erasurelaw30_short.spec e_2) (And.intro (nt g_3) (And.intro (erasurelaw30_short.spec e_7) (And.intro g_8 (erasurelaw30_awake.spec e_10))))))
    · obtain ⟨y_11, e_12, h⟩ := bind_or h
      obtain ⟨y_13, e_14, h⟩ := bind_or h
      obtain ⟨y_15, e_16, h⟩ := bind_or h
      rcases ite_or h with ⟨g_17, h⟩ | ⟨g_17, h⟩
      · obtain ⟨y_18, e_19, h⟩ := bind_or h
        obtain rfl := Option.some.inj h
        exact RunC.out [.n 4, .r [(1, .call (.p (.bool y_1)) []), (3, .dec false), (5, .call (.p (.bool y_6)) []), (7, .dec false)], .n 3, .r [(3, .call (.sref 0 24 3 (y_11).length) [(oL true 24 3 cValue dValue y_11)]), (7, .call (.sref 0 24 3 (y_13).length) [(oL true 24 3 cValue dValue y_13)]), (8, .call (.p (.bool y_15)) []), (9, .dec true), (10, .call (.p (.bool y_18)) [])]] (by kernel_rfl) (Obs.of (by kernel_rfl) (And.intro (erasurelaw30_short.spec e_2) (And.intro (nt g_3) (And.intro (erasurelaw30_short.spec e_7) (And.intro (nt g_8) (And.intro (cache_Touched.spec e_12) (And.intro (erasureref30_Touched.spec e_14) (And.intro (erasureref26_SameRow.spec e_16) (And.intro g_17 (erasurelaw30_awake.spec e_19))))))))))
      · obtain rfl := Option.some.inj h
        exact RunC.out [.n 4, .r [(1, .call (.p (.bool y_1)) []), (3, .dec false), (5, .call (.p (.bool y_6)) []), (7, .dec false)], .n 3, .r [(3, .call (.sref 0 24 3 (y_11).length) [(oL true 24 3 cValue dValue y_11)]), (7, .call (.sref 0 24 3 (y_13).length) [(oL true 24 3 cValue dValue y_13)]), (8, .call (.p (.bool y_15)) []), (9, .dec false)]] (by kernel_rfl) (Obs.of (by kernel_rfl) (And.intro (erasurelaw30_short.spec e_2) (And.intro (nt g_3) (And.intro (erasurelaw30_short.spec e_7) (And.intro (nt g_8) (And.intro (cache_Touched.spec e_12) (And.intro (erasureref30_Touched.spec e_14) (And.intro (erasureref26_SameRow.spec e_16) (nt g_17)))))))))
theorem erasurelaw30_CacheTouches.mono   : ∀ (k k' : Nat) (minus0 : (List TEntry)) (plus1 : (List TEntry)) (column2 : Int) (r : Bool), k ≤ k' → erasurelaw30_CacheTouches k minus0 plus1 column2 = some r → erasurelaw30_CacheTouches k' minus0 plus1 column2 = some r := by
  intro k k' minus0 plus1 column2 r hk h
  unfold erasurelaw30_CacheTouches at h ⊢
  obtain ⟨y_1, e_2, h⟩ := bind_or h
  refine bnd (erasurelaw30_short.mono _ _ _ _ hk e_2) ?_
  rcases ite_or h with ⟨g_3, h⟩ | ⟨g_3, h⟩
  · refine itp g_3 ?_
    obtain ⟨y_4, e_5, h⟩ := bind_or h
    refine bnd (erasurelaw30_awake.mono _ _  _ hk e_5) ?_
    exact h
  · refine itn g_3 ?_
    obtain ⟨y_6, e_7, h⟩ := bind_or h
    refine bnd (erasurelaw30_short.mono _ _ _ _ hk e_7) ?_
    rcases ite_or h with ⟨g_8, h⟩ | ⟨g_8, h⟩
    · refine itp g_8 ?_
      obtain ⟨y_9, e_10, h⟩ := bind_or h
      refine bnd (erasurelaw30_awake.mono _ _  _ hk e_10) ?_
      exact h
    · refine itn g_8 ?_
      obtain ⟨y_11, e_12, h⟩ := bind_or h
      refine bnd (cache_Touched.mono _ _ _ _ _ _ hk e_12) ?_
      obtain ⟨y_13, e_14, h⟩ := bind_or h
      refine bnd (erasureref30_Touched.mono _ _ _ _ _ _ hk e_14) ?_
      obtain ⟨y_15, e_16, h⟩ := bind_or h
      refine bnd (erasureref26_SameRow.mono _ _ _ _ _ hk e_16) ?_
      rcases ite_or h with ⟨g_17, h⟩ | ⟨g_17, h⟩
      · refine itp g_17 ?_
        obtain ⟨y_18, e_19, h⟩ := bind_or h
        refine bnd (erasurelaw30_awake.mono _ _  _ hk e_19) ?_
        exact h
      · refine itn g_17 ?_
        exact h
theorem erasurelaw30_CacheTouches.spec {k : Nat} {minus0 : (List TEntry)} {plus1 : (List TEntry)} {column2 : Int} {r : Bool} (h : erasurelaw30_CacheTouches k minus0 plus1 column2 = some r) : Spec Try.prog 9 [.p (eL 2 cEntry dEntry minus0), .p (eL 2 cEntry dEntry plus1), .p (.int .i64 column2)] (.p (.bool r)) [] :=
  spec_of mix Try.func9 (body := bodyOf Try.f9) (by kernel_rfl) (by kernel_rfl) (erasurelaw30_CacheTouches.run h)
end Go.Proofs.YtjhnpaenhdbhpabV
set_option linter.unusedVariables false
set_option linter.unusedSimpArgs false
set_option maxRecDepth 100000
namespace Go.Proofs.YtjhnpaenhdbhpabV
open Go Go.RowKit
noncomputable def erasurelaw30_small.p1  : Nat → (List TCached) → Int → Option Bool
  | 0, _, _ => none
  | k + 1, s0, i3 => if (decide (i3 < ((s0).length : Int))) = true then (if 0 ≤ i3 ∧ i3 < ((s0).length : Int) then ((erasurelaw30_short k ((s0.getD i3.toNat dCached).f1)).bind fun y_3 => (if (!y_3) = true then (some false) else (erasurelaw30_small.p1 k s0 (IntKind.i64.wrap (i3 + 1))))) else none) else (some (decide (((s0).length : Int) ≤ 30)))
noncomputable def erasurelaw30_small  (k : Nat) (s0 : (List TCached)) : Option Bool := erasurelaw30_small.p1 k s0 0
noncomputable def erasurelaw30_small.t : List Item := [.code (bodyOf Try.f30)]
noncomputable def erasurelaw30_small.s (s0 : (List TCached)) : St := ⟨frOf Try.f30.ntmps 0 [(0, .p (eL 5 cCached dCached s0))], []⟩
noncomputable def erasurelaw30_small.p1.t : List Item := nav 7 [] erasurelaw30_small.t
noncomputable def erasurelaw30_small.p1.s (s0 : (List TCached)) (i3 : Int) : St := ⟨frOf Try.f30.ntmps 0 [(0, .p (eL 5 cCached dCached s0)), (3, .p (.int .i64 i3))], []⟩
theorem erasurelaw30_small.p1.run   : ∀ (k : Nat) (s0 : (List TCached)) (i3 : Int) (r : Bool), erasurelaw30_small.p1 k s0 i3 = some r → RunC Try.prog Try.f30 erasurelaw30_small.p1.t (erasurelaw30_small.p1.s s0 i3) (.p (.bool r)) [] := by
  intro k
  induction k with
  | zero => intro s0 i3 r h; simp [erasurelaw30_small.p1] at h
  | succ k ih =>
    intro s0 i3 r h
    rw [erasurelaw30_small.p1] at h
    rcases ite_or h with ⟨g_1, h⟩ | ⟨g_1, h⟩
    · obtain ⟨g_2, h⟩ := ite_some h
      obtain ⟨y_3, e_4, h⟩ := bind_or h
      rcases ite_or h with ⟨g_5, h⟩ | ⟨g_5, h⟩
      · obtain rfl := Option.some.inj h
        exact RunC.out [.n 2, .r [(3, .dec true)], .n 5, .r [(5, .call (.p (.bool y_3)) []), (6, .dec true)], .n 3] (by kernel_rfl) (Obs.of (by kernel_rfl) (And.intro g_1 (And.intro g_2 (And.intro (erasurelaw30_short.spec e_4) g_5))))
      · exact RunC.go [.n 2, .r [(3, .dec true)], .n 5, .r [(5, .call (.p (.bool y_3)) []), (6, .dec false)], .n 5, .k [0, 3]] (by kernel_rfl) (Obs.of (by kernel_rfl) (And.intro g_1 (And.intro g_2 (And.intro (erasurelaw30_short.spec e_4) (nt g_5))))) (ih _ _ r h)
    · obtain rfl := Option.some.inj h
      exact RunC.out [.n 2, .r [(3, .dec false)], .n 4] (by kernel_rfl) (Obs.of (by kernel_rfl) (nt g_1))
theorem erasurelaw30_small.run   {k : Nat} {s0 : (List TCached)} {r : Bool} (h : erasurelaw30_small k s0 = some r) : RunC Try.prog Try.f30 erasurelaw30_small.t (erasurelaw30_small.s s0) (.p (.bool r)) [] := by
  unfold erasurelaw30_small at h
  exact RunC.go [.n 7, .k [0, 3]] (by kernel_rfl) (Obs.tt (by kernel_rfl)) (erasurelaw30_small.p1.run k _ _ r h)
theorem erasurelaw30_small.p1.mono   : ∀ (k k' : Nat) (s0 : (List TCached)) (i3 : Int) (r : Bool), k ≤ k' → erasurelaw30_small.p1 k s0 i3 = some r → erasurelaw30_small.p1 k' s0 i3 = some r := by
  intro k
  induction k with
  | zero => intro k' s0 i3 r hk h; simp [erasurelaw30_small.p1] at h
  | succ k ih =>
    intro k' s0 i3 r hk h
    obtain ⟨k', rfl⟩ : ∃ m, k' = m + 1 := ⟨k' - 1, by omega⟩
    replace hk := Nat.le_of_succ_le_succ hk
    rw [erasurelaw30_small.p1] at h ⊢
    rcases ite_or h with ⟨g_1, h⟩ | ⟨g_1, h⟩
    · refine itp g_1 ?_
      obtain ⟨g_2, h⟩ := ite_some h
      refine itp g_2 ?_
      obtain ⟨y_3, e_4, h⟩ := bind_or h
      refine bnd (erasurelaw30_short.mono _ _ _ _ hk e_4) ?_
      rcases ite_or h with ⟨g_5, h⟩ | ⟨g_5, h⟩
      · refine itp g_5 ?_
        exact h
      · refine itn g_5 ?_
        exact ih _ _ _ r hk h
    · refine itn g_1 ?_
      exact h
theorem erasurelaw30_small.mono   : ∀ (k k' : Nat) (s0 : (List TCached)) (r : Bool), k ≤ k' → erasurelaw30_small k s0 = some r → erasurelaw30_small k' s0 = some r := by
  intro k k' s0 r hk h
  unfold erasurelaw30_small at h ⊢
  exact erasurelaw30_small.p1.mono _ _ _ _ r hk h
theorem erasurelaw30_small.spec {k : Nat} {s0 : (List TCached)} {r : Bool} (h : erasurelaw30_small k s0 = some r) : Spec Try.prog 30 [.p (eL 5 cCached dCached s0)] (.p (.bool r)) [] :=
  spec_of mix Try.func30 (body := bodyOf Try.f30) (by kernel_rfl) (by kernel_rfl) (erasurelaw30_small.run h)
end Go.Proofs.YtjhnpaenhdbhpabV
