/- Part of the proof of CacheRaw: printed by programs of this repo out of the translation, and by hand. Each theorem's conditions stand in its statement. -/
import Derived.Shelf.SlSortCmp.NoneTotal
import Derived.Orders
import Derived.Below
import Derived.Laws.AppendOwn
import Derived.Laws.OwnMore
import Derived.KernelRfl
import Derived.Test.YtjhnpaenhdbhpabProg
import Derived.Test.YtjhnpaenhdbhpabMCacheRawa
import Derived.Test.YtjhnpaenhdbhpabMCacheRawb
import Derived.Test.YtjhnpaenhdbhpabMCacheRawc
set_option linter.unusedVariables false
set_option linter.unusedSimpArgs false
set_option maxRecDepth 100000
namespace Go.Proofs.YtjhnpaenhdbhpabV
open Go Go.RowKit
noncomputable def cache_Fresh.p1  : Nat → (List TCached) → (List TEntry) → Int → TCache → Option Bool
  | 0, _, _, _, _ => none
  | k + 1, s1, rows2, i7, c3b => if (decide (i7 < ((s1).length : Int))) = true then (if 0 ≤ i7 ∧ i7 < ((s1).length : Int) then ((cache_Select k rows2 c3b.f2 ((s1.getD i7.toNat dCached).f0)).bind fun y_9 => ((cache_same k ((s1.getD i7.toNat dCached).f1) y_9).bind fun y_11 => (if (!y_11) = true then (some false) else (cache_Fresh.p1 k s1 rows2 (IntKind.i64.wrap (i7 + 1)) c3b)))) else none) else (some true)
noncomputable def cache_Fresh  (k : Nat) (c0 : TCache) (s1 : (List TCached)) (rows2 : (List TEntry)) : Option Bool := (cache_Valid k s1).bind fun y_1 => (if (!y_1) = true then (some false) else ((bag_Valid k rows2).bind fun y_4 => (if (!y_4) = true then (some false) else (cache_Fresh.p1 k s1 rows2 0 c0))))
noncomputable def cache_Fresh.t : List Item := [.code (bodyOf Try.f28)]
noncomputable def cache_Fresh.s (c0 : TCache) (s1 : (List TCached)) (rows2 : (List TEntry)) : St := ⟨frOf Try.f28.ntmps 0 [(0, .agg ((cCache c0).map .p)), (1, .p (eL 5 cCached dCached s1)), (2, .p (eL 2 cEntry dEntry rows2))], []⟩
noncomputable def cache_Fresh.p1.t : List Item := nav 12 [false] cache_Fresh.t
noncomputable def cache_Fresh.p1.s (s1 : (List TCached)) (rows2 : (List TEntry)) (i7 : Int) (c3b : TCache) : St := ⟨frOf Try.f28.ntmps 0 [(1, .p (eL 5 cCached dCached s1)), (2, .p (eL 2 cEntry dEntry rows2)), (3, .ptr 0 0 0), (7, .p (.int .i64 i7))], [.box ((cCache c3b).map .p)]⟩
theorem cache_Fresh.p1.run   : ∀ (k : Nat) (s1 : (List TCached)) (rows2 : (List TEntry)) (i7 : Int) (c3b : TCache) (r : Bool), cache_Fresh.p1 k s1 rows2 i7 c3b = some r → RunC Try.prog Try.f28 cache_Fresh.p1.t (cache_Fresh.p1.s s1 rows2 i7 c3b) (.p (.bool r)) [] := by
  intro k
  induction k with
  | zero => intro s1 rows2 i7 c3b r h; simp [cache_Fresh.p1] at h
  | succ k ih =>
    intro s1 rows2 i7 c3b r h
    rw [cache_Fresh.p1] at h
    rcases ite_or h with ⟨g_7, h⟩ | ⟨g_7, h⟩
    · obtain ⟨g_8, h⟩ := ite_some h
      obtain ⟨y_9, e_10, h⟩ := bind_or h
      obtain ⟨y_11, e_12, h⟩ := bind_or h
      rcases ite_or h with ⟨g_13, h⟩ | ⟨g_13, h⟩
      · obtain rfl := Option.some.inj h
        exact RunC.out [.n 2, .r [(3, .dec true)], .n 5, .r [(13, .call (.sref 0 36 2 (y_9).length) [(oL true 36 2 cEntry dEntry y_9)]), (14, .call (.p (.bool y_11)) []), (15, .dec true)], .n 3] (by kernel_rfl) (Obs.of (by kernel_rfl) (And.intro g_7 (And.intro g_8 (And.intro g_8 (And.intro (cache_Select.spec e_10) (And.intro (cache_same.spec e_12) g_13))))))
      · exact RunC.go [.n 2, .r [(3, .dec true)], .n 5, .r [(13, .call (.sref 0 36 2 (y_9).length) [(oL true 36 2 cEntry dEntry y_9)]), (14, .call (.p (.bool y_11)) []), (15, .dec false)], .n 5, .k [1, 2, 3, 7]] (by kernel_rfl) (Obs.of (by kernel_rfl) (And.intro g_7 (And.intro g_8 (And.intro g_8 (And.intro (cache_Select.spec e_10) (And.intro (cache_same.spec e_12) (nt g_13))))))) (ih _ _ _ _ r h)
    · obtain rfl := Option.some.inj h
      exact RunC.out [.n 2, .r [(3, .dec false)], .n 4] (by kernel_rfl) (Obs.of (by kernel_rfl) (nt g_7))
theorem cache_Fresh.run   {k : Nat} {c0 : TCache} {s1 : (List TCached)} {rows2 : (List TEntry)} {r : Bool} (h : cache_Fresh k c0 s1 rows2 = some r) : RunC Try.prog Try.f28 cache_Fresh.t (cache_Fresh.s c0 s1 rows2) (.p (.bool r)) [] := by
  unfold cache_Fresh at h
  obtain ⟨y_1, e_2, h⟩ := bind_or h
  rcases ite_or h with ⟨g_3, h⟩ | ⟨g_3, h⟩
  · obtain rfl := Option.some.inj h
    exact RunC.out [.n 4, .r [(1, .call (.p (.bool y_1)) []), (3, .dec true)], .n 3] (by kernel_rfl) (Obs.of (by kernel_rfl) (And.intro (cache_Valid.spec e_2) g_3))
  · obtain ⟨y_4, e_5, h⟩ := bind_or h
    rcases ite_or h with ⟨g_6, h⟩ | ⟨g_6, h⟩
    · obtain rfl := Option.some.inj h
      exact RunC.out [.n 4, .r [(1, .call (.p (.bool y_1)) []), (3, .dec false), (5, .call (.p (.bool y_4)) []), (7, .dec true)], .n 3] (by kernel_rfl) (Obs.of (by kernel_rfl) (And.intro (cache_Valid.spec e_2) (And.intro (nt g_3) (And.intro (bag_Valid.spec e_5) g_6))))
    · exact RunC.go [.n 4, .r [(1, .call (.p (.bool y_1)) []), (3, .dec false), (5, .call (.p (.bool y_4)) []), (7, .dec false)], .n 7, .k [1, 2, 3, 7]] (by kernel_rfl) (Obs.of (by kernel_rfl) (And.intro (cache_Valid.spec e_2) (And.intro (nt g_3) (And.intro (bag_Valid.spec e_5) (nt g_6))))) (cache_Fresh.p1.run k _ _ _ _ r h)
theorem cache_Fresh.p1.mono   : ∀ (k k' : Nat) (s1 : (List TCached)) (rows2 : (List TEntry)) (i7 : Int) (c3b : TCache) (r : Bool), k ≤ k' → cache_Fresh.p1 k s1 rows2 i7 c3b = some r → cache_Fresh.p1 k' s1 rows2 i7 c3b = some r := by
  intro k
  induction k with
  | zero => intro k' s1 rows2 i7 c3b r hk h; simp [cache_Fresh.p1] at h
  | succ k ih =>
    intro k' s1 rows2 i7 c3b r hk h
    obtain ⟨k', rfl⟩ : ∃ m, k' = m + 1 := ⟨k' - 1, by omega⟩
    replace hk := Nat.le_of_succ_le_succ hk
    rw [cache_Fresh.p1] at h ⊢
    rcases ite_or h with ⟨g_7, h⟩ | ⟨g_7, h⟩
    · refine itp g_7 ?_
      obtain ⟨g_8, h⟩ := ite_some h
      refine itp g_8 ?_
      obtain ⟨y_9, e_10, h⟩ := bind_or h
      refine bnd (cache_Select.mono _ _ _ _ _ _ hk e_10) ?_
      obtain ⟨y_11, e_12, h⟩ := bind_or h
      refine bnd (cache_same.mono _ _ _ _ _ hk e_12) ?_
      rcases ite_or h with ⟨g_13, h⟩ | ⟨g_13, h⟩
      · refine itp g_13 ?_
        exact h
      · refine itn g_13 ?_
        exact ih _ _ _ _ _ r hk h
    · refine itn g_7 ?_
      exact h
theorem cache_Fresh.mono   : ∀ (k k' : Nat) (c0 : TCache) (s1 : (List TCached)) (rows2 : (List TEntry)) (r : Bool), k ≤ k' → cache_Fresh k c0 s1 rows2 = some r → cache_Fresh k' c0 s1 rows2 = some r := by
  intro k k' c0 s1 rows2 r hk h
  unfold cache_Fresh at h ⊢
  obtain ⟨y_1, e_2, h⟩ := bind_or h
  refine bnd (cache_Valid.mono _ _ _ _ hk e_2) ?_
  rcases ite_or h with ⟨g_3, h⟩ | ⟨g_3, h⟩
  · refine itp g_3 ?_
    exact h
  · refine itn g_3 ?_
    obtain ⟨y_4, e_5, h⟩ := bind_or h
    refine bnd (bag_Valid.mono _ _ _ _ hk e_5) ?_
    rcases ite_or h with ⟨g_6, h⟩ | ⟨g_6, h⟩
    · refine itp g_6 ?_
      exact h
    · refine itn g_6 ?_
      exact cache_Fresh.p1.mono _ _ _ _ _ _ r hk h
theorem cache_Fresh.spec {k : Nat} {c0 : TCache} {s1 : (List TCached)} {rows2 : (List TEntry)} {r : Bool} (h : cache_Fresh k c0 s1 rows2 = some r) : Spec Try.prog 28 [.agg ((cCache c0).map .p), .p (eL 5 cCached dCached s1), .p (eL 2 cEntry dEntry rows2)] (.p (.bool r)) [] :=
  spec_of mix Try.func28 (body := bodyOf Try.f28) (by kernel_rfl) (by kernel_rfl) (cache_Fresh.run h)
end Go.Proofs.YtjhnpaenhdbhpabV
set_option linter.unusedVariables false
set_option linter.unusedSimpArgs false
set_option maxRecDepth 100000
namespace Go.Proofs.YtjhnpaenhdbhpabV
open Go Go.RowKit
noncomputable def erasureref30_Fresh.p1  : Nat → (List TCached) → (List TEntry) → Int → TCache → Option Bool
  | 0, _, _, _, _ => none
  | k + 1, s1, rows2, i7, c3b => if (decide (i7 < ((s1).length : Int))) = true then (if 0 ≤ i7 ∧ i7 < ((s1).length : Int) then ((erasureref30_Select k rows2 c3b.f2 ((s1.getD i7.toNat dCached).f0)).bind fun y_9 => ((erasureref26_SameBag k ((s1.getD i7.toNat dCached).f1) y_9).bind fun y_11 => (if (!y_11) = true then (some false) else (erasureref30_Fresh.p1 k s1 rows2 (IntKind.i64.wrap (i7 + 1)) c3b)))) else none) else (some true)
noncomputable def erasureref30_Fresh  (k : Nat) (c0 : TCache) (s1 : (List TCached)) (rows2 : (List TEntry)) : Option Bool := (erasureref30_Valid k s1).bind fun y_1 => (if (!y_1) = true then (some false) else ((erasureref06_Valid k rows2).bind fun y_4 => (if (!y_4) = true then (some false) else (erasureref30_Fresh.p1 k s1 rows2 0 c0))))
noncomputable def erasureref30_Fresh.t : List Item := [.code (bodyOf Try.f29)]
noncomputable def erasureref30_Fresh.s (c0 : TCache) (s1 : (List TCached)) (rows2 : (List TEntry)) : St := ⟨frOf Try.f29.ntmps 0 [(0, .agg ((cCache c0).map .p)), (1, .p (eL 5 cCached dCached s1)), (2, .p (eL 2 cEntry dEntry rows2))], []⟩
noncomputable def erasureref30_Fresh.p1.t : List Item := nav 12 [false] erasureref30_Fresh.t
noncomputable def erasureref30_Fresh.p1.s (s1 : (List TCached)) (rows2 : (List TEntry)) (i7 : Int) (c3b : TCache) : St := ⟨frOf Try.f29.ntmps 0 [(1, .p (eL 5 cCached dCached s1)), (2, .p (eL 2 cEntry dEntry rows2)), (3, .ptr 0 0 0), (7, .p (.int .i64 i7))], [.box ((cCache c3b).map .p)]⟩
theorem erasureref30_Fresh.p1.run   : ∀ (k : Nat) (s1 : (List TCached)) (rows2 : (List TEntry)) (i7 : Int) (c3b : TCache) (r : Bool), erasureref30_Fresh.p1 k s1 rows2 i7 c3b = some r → RunC Try.prog Try.f29 erasureref30_Fresh.p1.t (erasureref30_Fresh.p1.s s1 rows2 i7 c3b) (.p (.bool r)) [] := by
  intro k
  induction k with
  | zero => intro s1 rows2 i7 c3b r h; simp [erasureref30_Fresh.p1] at h
  | succ k ih =>
    intro s1 rows2 i7 c3b r h
    rw [erasureref30_Fresh.p1] at h
    rcases ite_or h with ⟨g_7, h⟩ | ⟨g_7, h⟩
    · obtain ⟨g_8, h⟩ := ite_some h
      obtain ⟨y_9, e_10, h⟩ := bind_or h
      obtain ⟨y_11, e_12, h⟩ := bind_or h
      rcases ite_or h with ⟨g_13, h⟩ | ⟨g_13, h⟩
      · obtain rfl := Option.some.inj h
        exact RunC.out [.n 2, .r [(3, .dec true)], .n 5, .r [(13, .call (.sref 0 36 2 (y_9).length) [(oL true 36 2 cEntry dEntry y_9)]), (14, .call (.p (.bool y_11)) []), (15, .dec true)], .n 3] (by kernel_rfl) (Obs.of (by kernel_rfl) (And.intro g_7 (And.intro g_8 (And.intro g_8 (And.intro (erasureref30_Select.spec e_10) (And.intro (erasureref26_SameBag.spec e_12) g_13))))))
      · exact RunC.go [.n 2, .r [(3, .dec true)], .n 5, .r [(13, .call (.sref 0 36 2 (y_9).length) [(oL true 36 2 cEntry dEntry y_9)]), (14, .call (.p (.bool y_11)) []), (15, .dec false)], .n 5, .k [1, 2, 3, 7]] (by kernel_rfl) (Obs.of (by kernel_rfl) (And.intro g_7 (And.intro g_8 (And.intro g_8 (And.intro (erasureref30_Select.spec e_10) (And.intro (erasureref26_SameBag.spec e_12) (nt g_13))))))) (ih _ _ _ _ r h)
    · obtain rfl := Option.some.inj h
      exact RunC.out [.n 2, .r [(3, .dec false)], .n 4] (by kernel_rfl) (Obs.of (by kernel_rfl) (nt g_7))
theorem erasureref30_Fresh.run   {k : Nat} {c0 : TCache} {s1 : (List TCached)} {rows2 : (List TEntry)} {r : Bool} (h : erasureref30_Fresh k c0 s1 rows2 = some r) : RunC Try.prog Try.f29 erasureref30_Fresh.t (erasureref30_Fresh.s c0 s1 rows2) (.p (.bool r)) [] := by
  unfold erasureref30_Fresh at h
  obtain ⟨y_1, e_2, h⟩ := bind_or h
  rcases ite_or h with ⟨g_3, h⟩ | ⟨g_3, h⟩
  · obtain rfl := Option.some.inj h
    exact RunC.out [.n 4, .r [(1, .call (.p (.bool y_1)) []), (3, .dec true)], .n 3] (by kernel_rfl) (Obs.of (by kernel_rfl) (And.intro (erasureref30_Valid.spec e_2) g_3))
  · obtain ⟨y_4, e_5, h⟩ := bind_or h
    rcases ite_or h with ⟨g_6, h⟩ | ⟨g_6, h⟩
    · obtain rfl := Option.some.inj h
      exact RunC.out [.n 4, .r [(1, .call (.p (.bool y_1)) []), (3, .dec false), (5, .call (.p (.bool y_4)) []), (7, .dec true)], .n 3] (by kernel_rfl) (Obs.of (by kernel_rfl) (And.intro (erasureref30_Valid.spec e_2) (And.intro (nt g_3) (And.intro (erasureref06_Valid.spec e_5) g_6))))
    · exact RunC.go [.n 4, .r [(1, .call (.p (.bool y_1)) []), (3, .dec false), (5, .call (.p (.bool y_4)) []), (7, .dec false)], .n 7, .k [1, 2, 3, 7]] (by kernel_rfl) (Obs.of (by kernel_rfl) (And.intro (erasureref30_Valid.spec e_2) (And.intro (nt g_3) (And.intro (erasureref06_Valid.spec e_5) (nt g_6))))) (erasureref30_Fresh.p1.run k _ _ _ _ r h)
theorem erasureref30_Fresh.p1.mono   : ∀ (k k' : Nat) (s1 : (List TCached)) (rows2 : (List TEntry)) (i7 : Int) (c3b : TCache) (r : Bool), k ≤ k' → erasureref30_Fresh.p1 k s1 rows2 i7 c3b = some r → erasureref30_Fresh.p1 k' s1 rows2 i7 c3b = some r := by
  intro k
  induction k with
  | zero => intro k' s1 rows2 i7 c3b r hk h; simp [erasureref30_Fresh.p1] at h
  | succ k ih =>
    intro k' s1 rows2 i7 c3b r hk h
    obtain ⟨k', rfl⟩ : ∃ m, k' = m + 1 := ⟨k' - 1, by omega⟩
    replace hk := Nat.le_of_succ_le_succ hk
    rw [erasureref30_Fresh.p1] at h ⊢
    rcases ite_or h with ⟨g_7, h⟩ | ⟨g_7, h⟩
    · refine itp g_7 ?_
      obtain ⟨g_8, h⟩ := ite_some h
      refine itp g_8 ?_
      obtain ⟨y_9, e_10, h⟩ := bind_or h
      refine bnd (erasureref30_Select.mono _ _ _ _ _ _ hk e_10) ?_
      obtain ⟨y_11, e_12, h⟩ := bind_or h
      refine bnd (erasureref26_SameBag.mono _ _ _ _ _ hk e_12) ?_
      rcases ite_or h with ⟨g_13, h⟩ | ⟨g_13, h⟩
      · refine itp g_13 ?_
        exact h
      · refine itn g_13 ?_
        exact ih _ _ _ _ _ r hk h
    · refine itn g_7 ?_
      exact h
theorem erasureref30_Fresh.mono   : ∀ (k k' : Nat) (c0 : TCache) (s1 : (List TCached)) (rows2 : (List TEntry)) (r : Bool), k ≤ k' → erasureref30_Fresh k c0 s1 rows2 = some r → erasureref30_Fresh k' c0 s1 rows2 = some r := by
  intro k k' c0 s1 rows2 r hk h
  unfold erasureref30_Fresh at h ⊢
  obtain ⟨y_1, e_2, h⟩ := bind_or h
  refine bnd (erasureref30_Valid.mono _ _ _ _ hk e_2) ?_
  rcases ite_or h with ⟨g_3, h⟩ | ⟨g_3, h⟩
  · refine itp g_3 ?_
    exact h
  · refine itn g_3 ?_
    obtain ⟨y_4, e_5, h⟩ := bind_or h
    refine bnd (erasureref06_Valid.mono _ _ _ _ hk e_5) ?_
    rcases ite_or h with ⟨g_6, h⟩ | ⟨g_6, h⟩
    · refine itp g_6 ?_
      exact h
    · refine itn g_6 ?_
      exact erasureref30_Fresh.p1.mono _ _ _ _ _ _ r hk h
theorem erasureref30_Fresh.spec {k : Nat} {c0 : TCache} {s1 : (List TCached)} {rows2 : (List TEntry)} {r : Bool} (h : erasureref30_Fresh k c0 s1 rows2 = some r) : Spec Try.prog 29 [.agg ((cCache c0).map .p), .p (eL 5 cCached dCached s1), .p (eL 2 cEntry dEntry rows2)] (.p (.bool r)) [] :=
  spec_of mix Try.func29 (body := bodyOf Try.f29) (by kernel_rfl) (by kernel_rfl) (erasureref30_Fresh.run h)
end Go.Proofs.YtjhnpaenhdbhpabV
set_option linter.unusedVariables false
set_option linter.unusedSimpArgs false
set_option maxRecDepth 100000
namespace Go.Proofs.YtjhnpaenhdbhpabV
open Go Go.RowKit
noncomputable def cache_Refill.p1  : Nat → (List TCached) → (List TEntry) → Int → Int → TCache → (List TCached) → Option (List TCached)
  | 0, _, _, _, _, _, _ => none
  | k + 1, s1, rows2, day3, i10, c4b, out9 => if (decide (i10 < ((s1).length : Int))) = true then (if 0 ≤ i10 ∧ i10 < ((s1).length : Int) then ((cache_Select k rows2 c4b.f2 ((s1.getD i10.toNat dCached).f0)).bind fun y_6 => (if (decide (((y_6).length : Int) > 0)) = true then (if (out9).length + ([(TCached.mk ((s1.getD i10.toNat dCached).f0) y_6 day3)]).length ≤ maxLen ∧ ((out9).length + ([(TCached.mk ((s1.getD i10.toNat dCached).f0) y_6 day3)]).length) * 64 ≤ 140737488355328 then (cache_Refill.p1 k s1 rows2 day3 (IntKind.i64.wrap (i10 + 1)) c4b (out9 ++ ([(TCached.mk ((s1.getD i10.toNat dCached).f0) y_6 day3)]))) else none) else (cache_Refill.p1 k s1 rows2 day3 (IntKind.i64.wrap (i10 + 1)) c4b out9))) else none) else (some out9)
noncomputable def cache_Refill  (k : Nat) (c0 : TCache) (s1 : (List TCached)) (rows2 : (List TEntry)) (day3 : Int) : Option (List TCached) := (cache_usable k c0 s1 rows2 day3).bind fun y_1 => (if (!y_1) = true then (some ([] : List TCached)) else (cache_Refill.p1 k s1 rows2 day3 0 c0 ([] : List TCached)))
noncomputable def cache_Refill.t : List Item := [.code (bodyOf Try.f21)]
noncomputable def cache_Refill.s (c0 : TCache) (s1 : (List TCached)) (rows2 : (List TEntry)) (day3 : Int) : St := ⟨frOf Try.f21.ntmps 0 [(0, .agg ((cCache c0).map .p)), (1, .p (eL 5 cCached dCached s1)), (2, .p (eL 2 cEntry dEntry rows2)), (3, .p (.int .i64 day3))], []⟩
noncomputable def cache_Refill.p1.t : List Item := nav 14 [false] cache_Refill.t
noncomputable def cache_Refill.p1.s (s1 : (List TCached)) (rows2 : (List TEntry)) (day3 : Int) (i10 : Int) (c4b : TCache) (out9 : (List TCached)) : St := ⟨frOf Try.f21.ntmps 0 [(1, .p (eL 5 cCached dCached s1)), (2, .p (eL 2 cEntry dEntry rows2)), (3, .p (.int .i64 day3)), (4, .ptr 0 0 0), (9, .sref 1 46 5 (out9).length), (10, .p (.int .i64 i10))], [.box ((cCache c4b).map .p), (oL true 46 5 cCached dCached out9)]⟩
theorem cache_Refill.p1.run   : ∀ (k : Nat) (s1 : (List TCached)) (rows2 : (List TEntry)) (day3 : Int) (i10 : Int) (c4b : TCache) (out9 : (List TCached)) (r : (List TCached)), cache_Refill.p1 k s1 rows2 day3 i10 c4b out9 = some r → RunC Try.prog Try.f21 cache_Refill.p1.t (cache_Refill.p1.s s1 rows2 day3 i10 c4b out9) (.sref 0 46 5 (r).length) [(oL true 46 5 cCached dCached (r))] := by
  intro k
  induction k with
  | zero => intro s1 rows2 day3 i10 c4b out9 r h; simp [cache_Refill.p1] at h
  | succ k ih =>
    intro s1 rows2 day3 i10 c4b out9 r h
    rw [cache_Refill.p1] at h
    rcases ite_or h with ⟨g_4, h⟩ | ⟨g_4, h⟩
    · obtain ⟨g_5, h⟩ := ite_some h
      obtain ⟨y_6, e_7, h⟩ := bind_or h
      rcases ite_or h with ⟨g_8, h⟩ | ⟨g_8, h⟩
      · obtain ⟨g_9, h⟩ := ite_some h
        exact RunC.go [.n 2, .r [(3, .dec true)], .n 5, .r [(8, .call (.sref 0 36 2 (y_6).length) [(oL true 36 2 cEntry dEntry y_6)])], .n 1, .r [(2, .dec true)], .n 1, .r [(9, .obj (oL true 46 5 cCached dCached [(TCached.mk ((s1.getD i10.toNat dCached).f0) y_6 day3)])), (10, .obj (oL true 46 5 cCached dCached (out9 ++ ([(TCached.mk ((s1.getD i10.toNat dCached).f0) y_6 day3)]))))], .n 3, .k [1, 2, 3, 4, 9, 10]] (by kernel_rfl) (Obs.of (by kernel_rfl) (And.intro g_4 (And.intro g_5 (And.intro (cache_Select.spec e_7) (And.intro g_8 (And.intro g_5 (And.intro (le_one 46 5 cCached dCached (TCached.mk ((s1.getD i10.toNat dCached).f0) y_6 day3)) (And.intro g_9 (le_app 46 5 cCached dCached out9 ([(TCached.mk ((s1.getD i10.toNat dCached).f0) y_6 day3)])))))))))) (ih _ _ _ _ _ _ r h)
      · exact RunC.go [.n 2, .r [(3, .dec true)], .n 5, .r [(8, .call (.sref 0 36 2 (y_6).length) [(oL true 36 2 cEntry dEntry y_6)])], .n 1, .r [(2, .dec false)], .n 5, .k [1, 2, 3, 4, 9, 10]] (by kernel_rfl) (Obs.of (by kernel_rfl) (And.intro g_4 (And.intro g_5 (And.intro (cache_Select.spec e_7) (nt g_8))))) (ih _ _ _ _ _ _ r h)
    · obtain rfl := Option.some.inj h
      exact RunC.out [.n 2, .r [(3, .dec false)], .n 4] (by kernel_rfl) (Obs.of (by kernel_rfl) (nt g_4))
theorem cache_Refill.run   {k : Nat} {c0 : TCache} {s1 : (List TCached)} {rows2 : (List TEntry)} {day3 : Int} {r : (List TCached)} (h : cache_Refill k c0 s1 rows2 day3 = some r) : RunC Try.prog Try.f21 cache_Refill.t (cache_Refill.s c0 s1 rows2 day3) (.sref 0 46 5 (r).length) [(oL true 46 5 cCached dCached (r))] := by
  unfold cache_Refill at h
  obtain ⟨y_1, e_2, h⟩ := bind_or h
  rcases ite_or h with ⟨g_3, h⟩ | ⟨g_3, h⟩
  · obtain rfl := Option.some.inj h
    exact RunC.out [.n 1, .r [(1, .obj (oL true 46 5 cCached dCached ([] : List TCached)))], .n 2, .r [(4, .call (.p (.bool y_1)) []), (5, .dec true)], .n 2, .r [(0, .obj (oL true 46 5 cCached dCached ([] : List TCached)))]] (by kernel_rfl) (Obs.of (by kernel_rfl) (And.intro (le_nil 46 5 cCached dCached) (And.intro (cache_usable.spec e_2) (And.intro g_3 (le_nil 46 5 cCached dCached)))))
  · exact RunC.go [.n 1, .r [(1, .obj (oL true 46 5 cCached dCached ([] : List TCached)))], .n 2, .r [(4, .call (.p (.bool y_1)) []), (5, .dec false)], .n 3, .r [(0, .obj (oL true 46 5 cCached dCached ([] : List TCached)))], .n 5, .k [1, 2, 3, 4, 9, 10]] (by kernel_rfl) (Obs.of (by kernel_rfl) (And.intro (le_nil 46 5 cCached dCached) (And.intro (cache_usable.spec e_2) (And.intro (nt g_3) (le_nil 46 5 cCached dCached))))) (cache_Refill.p1.run k _ _ _ _ _ _ r h)
theorem cache_Refill.p1.mono   : ∀ (k k' : Nat) (s1 : (List TCached)) (rows2 : (List TEntry)) (day3 : Int) (i10 : Int) (c4b : TCache) (out9 : (List TCached)) (r : (List TCached)), k ≤ k' → cache_Refill.p1 k s1 rows2 day3 i10 c4b out9 = some r → cache_Refill.p1 k' s1 rows2 day3 i10 c4b out9 = some r := by
  intro k
  induction k with
  | zero => intro k' s1 rows2 day3 i10 c4b out9 r hk h; simp [cache_Refill.p1] at h
  | succ k ih =>
    intro k' s1 rows2 day3 i10 c4b out9 r hk h
    obtain ⟨k', rfl⟩ : ∃ m, k' = m + 1 := ⟨k' - 1, by omega⟩
    replace hk := Nat.le_of_succ_le_succ hk
    rw [cache_Refill.p1] at h ⊢
    rcases ite_or h with ⟨g_4, h⟩ | ⟨g_4, h⟩
    · refine itp g_4 ?_
      obtain ⟨g_5, h⟩ := ite_some h
      refine itp g_5 ?_
      obtain ⟨y_6, e_7, h⟩ := bind_or h
      refine bnd (cache_Select.mono _ _ _ _ _ _ hk e_7) ?_
      rcases ite_or h with ⟨g_8, h⟩ | ⟨g_8, h⟩
      · refine itp g_8 ?_
        obtain ⟨g_9, h⟩ := ite_some h
        refine itp g_9 ?_
        exact ih _ _ _ _ _ _ _ r hk h
      · refine itn g_8 ?_
        exact ih _ _ _ _ _ _ _ r hk h
    · refine itn g_4 ?_
      exact h
theorem cache_Refill.mono   : ∀ (k k' : Nat) (c0 : TCache) (s1 : (List TCached)) (rows2 : (List TEntry)) (day3 : Int) (r : (List TCached)), k ≤ k' → cache_Refill k c0 s1 rows2 day3 = some r → cache_Refill k' c0 s1 rows2 day3 = some r := by
  intro k k' c0 s1 rows2 day3 r hk h
  unfold cache_Refill at h ⊢
  obtain ⟨y_1, e_2, h⟩ := bind_or h
  refine bnd (cache_usable.mono _ _ _ _ _ _ _ hk e_2) ?_
  rcases ite_or h with ⟨g_3, h⟩ | ⟨g_3, h⟩
  · refine itp g_3 ?_
    exact h
  · refine itn g_3 ?_
    exact cache_Refill.p1.mono _ _ _ _ _ _ _ _ r hk h
theorem cache_Refill.spec {k : Nat} {c0 : TCache} {s1 : (List TCached)} {rows2 : (List TEntry)} {day3 : Int} {r : (List TCached)} (h : cache_Refill k c0 s1 rows2 day3 = some r) : Spec Try.prog 21 [.agg ((cCache c0).map .p), .p (eL 5 cCached dCached s1), .p (eL 2 cEntry dEntry rows2), .p (.int .i64 day3)] (.sref 0 46 5 (r).length) [(oL true 46 5 cCached dCached (r))] :=
  spec_of mix Try.func21 (body := bodyOf Try.f21) (by kernel_rfl) (by kernel_rfl) (cache_Refill.run h)
end Go.Proofs.YtjhnpaenhdbhpabV
set_option linter.unusedVariables false
set_option linter.unusedSimpArgs false
set_option maxRecDepth 100000
namespace Go.Proofs.YtjhnpaenhdbhpabV
open Go Go.RowKit
noncomputable def erasureref30_Refill.p1  : Nat → (List TCached) → (List TEntry) → Int → Int → TCache → (List TCached) → Option (List TCached)
  | 0, _, _, _, _, _, _ => none
  | k + 1, s1, rows2, day3, i10, c4b, out9 => if (decide (i10 < ((s1).length : Int))) = true then (if 0 ≤ i10 ∧ i10 < ((s1).length : Int) then ((erasureref30_Select k rows2 c4b.f2 ((s1.getD i10.toNat dCached).f0)).bind fun y_12 => (if (decide (((y_12).length : Int) > 0)) = true then (if (out9).length + ([(TCached.mk ((s1.getD i10.toNat dCached).f0) y_12 day3)]).length ≤ maxLen ∧ ((out9).length + ([(TCached.mk ((s1.getD i10.toNat dCached).f0) y_12 day3)]).length) * 64 ≤ 140737488355328 then (erasureref30_Refill.p1 k s1 rows2 day3 (IntKind.i64.wrap (i10 + 1)) c4b (out9 ++ ([(TCached.mk ((s1.getD i10.toNat dCached).f0) y_12 day3)]))) else none) else (erasureref30_Refill.p1 k s1 rows2 day3 (IntKind.i64.wrap (i10 + 1)) c4b out9))) else none) else (some out9)
noncomputable def erasureref30_Refill  (k : Nat) (c0 : TCache) (s1 : (List TCached)) (rows2 : (List TEntry)) (day3 : Int) : Option (List TCached) := (erasureref30_Valid k s1).bind fun y_1 => (if (!y_1) = true then (some ([] : List TCached)) else ((erasureref06_Valid k rows2).bind fun y_4 => (if (!y_4) = true then (some ([] : List TCached)) else ((erasureref30_ranged k c0 day3).bind fun y_7 => (if (!y_7) = true then (some ([] : List TCached)) else (erasureref30_Refill.p1 k s1 rows2 day3 0 c0 ([] : List TCached)))))))
noncomputable def erasureref30_Refill.t : List Item := [.code (bodyOf Try.f22)]
noncomputable def erasureref30_Refill.s (c0 : TCache) (s1 : (List TCached)) (rows2 : (List TEntry)) (day3 : Int) : St := ⟨frOf Try.f22.ntmps 0 [(0, .agg ((cCache c0).map .p)), (1, .p (eL 5 cCached dCached s1)), (2, .p (eL 2 cEntry dEntry rows2)), (3, .p (.int .i64 day3))], []⟩
noncomputable def erasureref30_Refill.p1.t : List Item := nav 14 [false] erasureref30_Refill.t
noncomputable def erasureref30_Refill.p1.s (s1 : (List TCached)) (rows2 : (List TEntry)) (day3 : Int) (i10 : Int) (c4b : TCache) (out9 : (List TCached)) : St := ⟨frOf Try.f22.ntmps 0 [(1, .p (eL 5 cCached dCached s1)), (2, .p (eL 2 cEntry dEntry rows2)), (3, .p (.int .i64 day3)), (4, .ptr 0 0 0), (9, .sref 1 46 5 (out9).length), (10, .p (.int .i64 i10))], [.box ((cCache c4b).map .p), (oL true 46 5 cCached dCached out9)]⟩
theorem erasureref30_Refill.p1.run   : ∀ (k : Nat) (s1 : (List TCached)) (rows2 : (List TEntry)) (day3 : Int) (i10 : Int) (c4b : TCache) (out9 : (List TCached)) (r : (List TCached)), erasureref30_Refill.p1 k s1 rows2 day3 i10 c4b out9 = some r → RunC Try.prog Try.f22 erasureref30_Refill.p1.t (erasureref30_Refill.p1.s s1 rows2 day3 i10 c4b out9) (.sref 0 46 5 (r).length) [(oL true 46 5 cCached dCached (r))] := by
  intro k
  induction k with
  | zero => intro s1 rows2 day3 i10 c4b out9 r h; simp [erasureref30_Refill.p1] at h
  | succ k ih =>
    intro s1 rows2 day3 i10 c4b out9 r h
    rw [erasureref30_Refill.p1] at h
    rcases ite_or h with ⟨g_10, h⟩ | ⟨g_10, h⟩
    · obtain ⟨g_11, h⟩ := ite_some h
      obtain ⟨y_12, e_13, h⟩ := bind_or h
      rcases ite_or h with ⟨g_14, h⟩ | ⟨g_14, h⟩
      · obtain ⟨g_15, h⟩ := ite_some h
        exact RunC.go [.n 2, .r [(3, .dec true)], .n 5, .r [(8, .call (.sref 0 36 2 (y_12).length) [(oL true 36 2 cEntry dEntry y_12)])], .n 1, .r [(2, .dec true)], .n 1, .r [(9, .obj (oL true 46 5 cCached dCached [(TCached.mk ((s1.getD i10.toNat dCached).f0) y_12 day3)])), (10, .obj (oL true 46 5 cCached dCached (out9 ++ ([(TCached.mk ((s1.getD i10.toNat dCached).f0) y_12 day3)]))))], .n 3, .k [1, 2, 3, 4, 9, 10]] (by kernel_rfl) (Obs.of (by kernel_rfl) (And.intro g_10 (And.intro g_11 (And.intro (erasureref30_Select.spec e_13) (And.intro g_14 (And.intro g_11 (And.intro (le_one 46 5 cCached dCached (TCached.mk ((s1.getD i10.toNat dCached).f0) y_12 day3)) (And.intro g_15 (le_app 46 5 cCached dCached out9 ([(TCached.mk ((s1.getD i10.toNat dCached).f0) y_12 day3)])))))))))) (ih _ _ _ _ _ _ r h)
      · exact RunC.go [.n 2, .r [(3, .dec true)], .n 5, .r [(8, .call (.sref 0 36 2 (y_12).length) [(oL true 36 2 cEntry dEntry y_12)])], .n 1, .r [(2, .dec false)], .n 5, .k [1, 2, 3, 4, 9, 10]] (by kernel_rfl) (Obs.of (by kernel_rfl) (And.intro g_10 (And.intro g_11 (And.intro (erasureref30_Select.spec e_13) (nt g_14))))) (ih _ _ _ _ _ _ r h)
    · obtain rfl := Option.some.inj h
      exact RunC.out [.n 2, .r [(3, .dec false)], .n 4] (by kernel_rfl) (Obs.of (by kernel_rfl) (nt g_10))
theorem erasureref30_Refill.run   {k : Nat} {c0 : TCache} {s1 : (List TCached)} {rows2 : (List TEntry)} {day3 : Int} {r : (List TCached)} (h : erasureref30_Refill k c0 s1 rows2 day3 = some r) : RunC Try.prog Try.f22 erasureref30_Refill.t (erasureref30_Refill.s c0 s1 rows2 day3) (.sref 0 46 5 (r).length) [(oL true 46 5 cCached dCached (r))] := by
  unfold erasureref30_Refill at h
  obtain ⟨y_1, e_2, h⟩ := bind_or h
  rcases ite_or h with ⟨g_3, h⟩ | ⟨g_3, h⟩
  · obtain rfl := Option.some.inj h
    exact RunC.out [.n 1, .r [(1, .obj (oL true 46 5 cCached dCached ([] : List TCached)))], .n 2, .r [(1, .call (.p (.bool y_1)) []), (3, .dec true)], .n 2, .r [(0, .obj (oL true 46 5 cCached dCached ([] : List TCached)))]] (by kernel_rfl) (Obs.of (by kernel_rfl) (And.intro (le_nil 46 5 cCached dCached) (And.intro (erasureref30_Valid.spec e_2) (And.intro g_3 (le_nil 46 5 cCached dCached)))))
  · obtain ⟨y_4, e_5, h⟩ := bind_or h
    rcases ite_or h with ⟨g_6, h⟩ | ⟨g_6, h⟩
    · obtain rfl := Option.some.inj h
      exact RunC.out [.n 1, .r [(1, .obj (oL true 46 5 cCached dCached ([] : List TCached)))], .n 2, .r [(1, .call (.p (.bool y_1)) []), (3, .dec false), (5, .call (.p (.bool y_4)) []), (8, .dec true)], .n 2, .r [(0, .obj (oL true 46 5 cCached dCached ([] : List TCached)))]] (by kernel_rfl) (Obs.of (by kernel_rfl) (And.intro (le_nil 46 5 cCached dCached) (And.intro (erasureref30_Valid.spec e_2) (And.intro (nt g_3) (And.intro (erasureref06_Valid.spec e_5) (And.intro g_6 (le_nil 46 5 cCached dCached)))))))
    · obtain ⟨y_7, e_8, h⟩ := bind_or h
      rcases ite_or h with ⟨g_9, h⟩ | ⟨g_9, h⟩
      · obtain rfl := Option.some.inj h
        exact RunC.out [.n 1, .r [(1, .obj (oL true 46 5 cCached dCached ([] : List TCached)))], .n 2, .r [(1, .call (.p (.bool y_1)) []), (3, .dec false), (5, .call (.p (.bool y_4)) []), (8, .dec false), (11, .call (.p (.bool y_7)) []), (13, .dec true)], .n 2, .r [(0, .obj (oL true 46 5 cCached dCached ([] : List TCached)))]] (by kernel_rfl) (Obs.of (by kernel_rfl) (And.intro (le_nil 46 5 cCached dCached) (And.intro (erasureref30_Valid.spec e_2) (And.intro (nt g_3) (And.intro (erasureref06_Valid.spec e_5) (And.intro (nt g_6) (And.intro (erasureref30_ranged.spec e_8) (And.intro g_9 (le_nil 46 5 cCached dCached)))))))))
      · exact RunC.go [.n 1, .r [(1, .obj (oL true 46 5 cCached dCached ([] : List TCached)))], .n 2, .r [(1, .call (.p (.bool y_1)) []), (3, .dec false), (5, .call (.p (.bool y_4)) []), (8, .dec false), (11, .call (.p (.bool y_7)) []), (13, .dec false)], .n 3, .r [(0, .obj (oL true 46 5 cCached dCached ([] : List TCached)))], .n 5, .k [1, 2, 3, 4, 9, 10]] (by kernel_rfl) (Obs.of (by kernel_rfl) (And.intro (le_nil 46 5 cCached dCached) (And.intro (erasureref30_Valid.spec e_2) (And.intro (nt g_3) (And.intro (erasureref06_Valid.spec e_5) (And.intro (nt g_6) (And.intro (erasureref30_ranged.spec e_8) (And.intro (nt g_9) (le_nil 46 5 cCached dCached))))))))) (erasureref30_Refill.p1.run k _ _ _ _ _ _ r h)
theorem erasureref30_Refill.p1.mono   : ∀ (k k' : Nat) (s1 : (List TCached)) (rows2 : (List TEntry)) (day3 : Int) (i10 : Int) (c4b : TCache) (out9 : (List TCached)) (r : (List TCached)), k ≤ k' → erasureref30_Refill.p1 k s1 rows2 day3 i10 c4b out9 = some r → erasureref30_Refill.p1 k' s1 rows2 day3 i10 c4b out9 = some r := by
  intro k
  induction k with
  | zero => intro k' s1 rows2 day3 i10 c4b out9 r hk h; simp [erasureref30_Refill.p1] at h
  | succ k ih =>
    intro k' s1 rows2 day3 i10 c4b out9 r hk h
    obtain ⟨k', rfl⟩ : ∃ m, k' = m + 1 := ⟨k' - 1, by omega⟩
    replace hk := Nat.le_of_succ_le_succ hk
    rw [erasureref30_Refill.p1] at h ⊢
    rcases ite_or h with ⟨g_10, h⟩ | ⟨g_10, h⟩
    · refine itp g_10 ?_
      obtain ⟨g_11, h⟩ := ite_some h
      refine itp g_11 ?_
      obtain ⟨y_12, e_13, h⟩ := bind_or h
      refine bnd (erasureref30_Select.mono _ _ _ _ _ _ hk e_13) ?_
      rcases ite_or h with ⟨g_14, h⟩ | ⟨g_14, h⟩
      · refine itp g_14 ?_
        obtain ⟨g_15, h⟩ := ite_some h
        refine itp g_15 ?_
        exact ih _ _ _ _ _ _ _ r hk h
      · refine itn g_14 ?_
        exact ih _ _ _ _ _ _ _ r hk h
    · refine itn g_10 ?_
      exact h
theorem erasureref30_Refill.mono   : ∀ (k k' : Nat) (c0 : TCache) (s1 : (List TCached)) (rows2 : (List TEntry)) (day3 : Int) (r : (List TCached)), k ≤ k' → erasureref30_Refill k c0 s1 rows2 day3 = some r → erasureref30_Refill k' c0 s1 rows2 day3 = some r := by
  intro k k' c0 s1 rows2 day3 r hk h
  unfold erasureref30_Refill at h ⊢
  obtain ⟨y_1, e_2, h⟩ := bind_or h
  refine bnd (erasureref30_Valid.mono _ _ _ _ hk e_2) ?_
  rcases ite_or h with ⟨g_3, h⟩ | ⟨g_3, h⟩
  · refine itp g_3 ?_
    exact h
  · refine itn g_3 ?_
    obtain ⟨y_4, e_5, h⟩ := bind_or h
    refine bnd (erasureref06_Valid.mono _ _ _ _ hk e_5) ?_
    rcases ite_or h with ⟨g_6, h⟩ | ⟨g_6, h⟩
    · refine itp g_6 ?_
      exact h
    · refine itn g_6 ?_
      obtain ⟨y_7, e_8, h⟩ := bind_or h
      refine bnd (erasureref30_ranged.mono _ _ _ _ _ hk e_8) ?_
      rcases ite_or h with ⟨g_9, h⟩ | ⟨g_9, h⟩
      · refine itp g_9 ?_
        exact h
      · refine itn g_9 ?_
        exact erasureref30_Refill.p1.mono _ _ _ _ _ _ _ _ r hk h
theorem erasureref30_Refill.spec {k : Nat} {c0 : TCache} {s1 : (List TCached)} {rows2 : (List TEntry)} {day3 : Int} {r : (List TCached)} (h : erasureref30_Refill k c0 s1 rows2 day3 = some r) : Spec Try.prog 22 [.agg ((cCache c0).map .p), .p (eL 5 cCached dCached s1), .p (eL 2 cEntry dEntry rows2), .p (.int .i64 day3)] (.sref 0 46 5 (r).length) [(oL true 46 5 cCached dCached (r))] :=
  spec_of mix Try.func22 (body := bodyOf Try.f22) (by kernel_rfl) (by kernel_rfl) (erasureref30_Refill.run h)
end Go.Proofs.YtjhnpaenhdbhpabV
set_option linter.unusedVariables false
set_option linter.unusedSimpArgs false
set_option maxRecDepth 100000
namespace Go.Proofs.YtjhnpaenhdbhpabV
open Go Go.RowKit
noncomputable def cache_Purge.p2  : Nat → (List TCached) → Int → (List (TValue × Bool)) → (List TCached) → Option (List TCached)
  | 0, _, _, _, _ => none
  | k + 1, s0, i8, gone5b, out7 => if (decide (i8 < ((s0).length : Int))) = true then (if 0 ≤ i8 ∧ i8 < ((s0).length : Int) then (if (!(getM gone5b ((s0.getD i8.toNat dCached).f0) false)) = true then ((cache_duplicate k (s0.getD i8.toNat dCached)).bind fun y_11 => (if (out7).length + ([y_11]).length ≤ maxLen ∧ ((out7).length + ([y_11]).length) * 64 ≤ 140737488355328 then (cache_Purge.p2 k s0 (IntKind.i64.wrap (i8 + 1)) gone5b (out7 ++ ([y_11]))) else none)) else (cache_Purge.p2 k s0 (IntKind.i64.wrap (i8 + 1)) gone5b out7)) else none) else (some out7)
noncomputable def cache_Purge.p1  : Nat → (List TCached) → (List TValue) → Int → (List (TValue × Bool)) → Option (List TCached)
  | 0, _, _, _, _ => none
  | k + 1, s0, values1, i6, gone5b => if (decide (i6 < ((values1).length : Int))) = true then (if 0 ≤ i6 ∧ i6 < ((values1).length : Int) then ((value_Clean k (values1.getD i6.toNat dValue)).bind fun y_6 => (cache_Purge.p1 k s0 values1 (IntKind.i64.wrap (i6 + 1)) (putM gone5b y_6 true))) else none) else (cache_Purge.p2 k s0 0 gone5b ([] : List TCached))
noncomputable def cache_Purge  (k : Nat) (s0 : (List TCached)) (values1 : (List TValue)) : Option (List TCached) := (cache_Valid k s0).bind fun y_1 => (if (!y_1) = true then (some ([] : List TCached)) else (cache_Purge.p1 k s0 values1 0 ([] : (List (TValue × Bool)))))
noncomputable def cache_Purge.t : List Item := [.code (bodyOf Try.f23)]
noncomputable def cache_Purge.s (s0 : (List TCached)) (values1 : (List TValue)) : St := ⟨frOf Try.f23.ntmps 0 [(0, .p (eL 5 cCached dCached s0)), (1, .p (eL 3 cValue dValue values1))], []⟩
noncomputable def cache_Purge.p1.t : List Item := nav 14 [false] cache_Purge.t
noncomputable def cache_Purge.p1.s (s0 : (List TCached)) (values1 : (List TValue)) (i6 : Int) (gone5b : (List (TValue × Bool))) : St := ⟨frOf Try.f23.ntmps 0 [(0, .p (eL 5 cCached dCached s0)), (1, .p (eL 3 cValue dValue values1)), (5, .mref 0 0), (6, .p (.int .i64 i6))], [.reg (.map (mE (pvT cValue) pvB gone5b))]⟩
noncomputable def cache_Purge.p2.t : List Item := nav 12 [false] cache_Purge.p1.t
noncomputable def cache_Purge.p2.s (s0 : (List TCached)) (i8 : Int) (gone5b : (List (TValue × Bool))) (out7 : (List TCached)) : St := ⟨frOf Try.f23.ntmps 0 [(0, .p (eL 5 cCached dCached s0)), (5, .mref 0 0), (7, .sref 1 46 5 (out7).length), (8, .p (.int .i64 i8))], [.reg (.map (mE (pvT cValue) pvB gone5b)), (oL true 46 5 cCached dCached out7)]⟩
theorem cache_Purge.p2.run   : ∀ (k : Nat) (s0 : (List TCached)) (i8 : Int) (gone5b : (List (TValue × Bool))) (out7 : (List TCached)) (r : (List TCached)), cache_Purge.p2 k s0 i8 gone5b out7 = some r → RunC Try.prog Try.f23 cache_Purge.p2.t (cache_Purge.p2.s s0 i8 gone5b out7) (.sref 0 46 5 (r).length) [(oL true 46 5 cCached dCached (r))] := by
  intro k
  induction k with
  | zero => intro s0 i8 gone5b out7 r h; simp [cache_Purge.p2] at h
  | succ k ih =>
    intro s0 i8 gone5b out7 r h
    rw [cache_Purge.p2] at h
    rcases ite_or h with ⟨g_8, h⟩ | ⟨g_8, h⟩
    · obtain ⟨g_9, h⟩ := ite_some h
      rcases ite_or h with ⟨g_10, h⟩ | ⟨g_10, h⟩
      · obtain ⟨y_11, e_12, h⟩ := bind_or h
        obtain ⟨g_13, h⟩ := ite_some h
        exact RunC.go [.n 2, .r [(3, .dec true)], .n 5, .r [(6, .fv (.p (.bool (getM gone5b ((s0.getD i8.toNat dCached).f0) false)))), (7, .dec true)], .n 1, .r [(5, .call (.agg ((cCached y_11).map .p)) []), (6, .obj (oL true 46 5 cCached dCached [y_11])), (7, .obj (oL true 46 5 cCached dCached (out7 ++ ([y_11]))))], .n 3, .k [0, 5, 7, 8]] (by kernel_rfl) (Obs.of (by kernel_rfl) (And.intro g_8 (And.intro g_9 (And.intro (le_get (P := Try.prog) (kt := 24) (q := pvB) inj_Value (fun _ => by kernel_rfl) ((s0.getD i8.toNat dCached).f0) false gone5b) (And.intro g_10 (And.intro g_9 (And.intro (cache_duplicate.spec e_12) (And.intro (le_one 46 5 cCached dCached y_11) (And.intro g_13 (le_app 46 5 cCached dCached out7 ([y_11]))))))))))) (ih _ _ _ _ r h)
      · exact RunC.go [.n 2, .r [(3, .dec true)], .n 5, .r [(6, .fv (.p (.bool (getM gone5b ((s0.getD i8.toNat dCached).f0) false)))), (7, .dec false)], .n 5, .k [0, 5, 7, 8]] (by kernel_rfl) (Obs.of (by kernel_rfl) (And.intro g_8 (And.intro g_9 (And.intro (le_get (P := Try.prog) (kt := 24) (q := pvB) inj_Value (fun _ => by kernel_rfl) ((s0.getD i8.toNat dCached).f0) false gone5b) (nt g_10))))) (ih _ _ _ _ r h)
    · obtain rfl := Option.some.inj h
      exact RunC.out [.n 2, .r [(3, .dec false)], .n 4] (by kernel_rfl) (Obs.of (by kernel_rfl) (nt g_8))
theorem cache_Purge.p1.run   : ∀ (k : Nat) (s0 : (List TCached)) (values1 : (List TValue)) (i6 : Int) (gone5b : (List (TValue × Bool))) (r : (List TCached)), cache_Purge.p1 k s0 values1 i6 gone5b = some r → RunC Try.prog Try.f23 cache_Purge.p1.t (cache_Purge.p1.s s0 values1 i6 gone5b) (.sref 0 46 5 (r).length) [(oL true 46 5 cCached dCached (r))] := by
  intro k
  induction k with
  | zero => intro s0 values1 i6 gone5b r h; simp [cache_Purge.p1] at h
  | succ k ih =>
    intro s0 values1 i6 gone5b r h
    rw [cache_Purge.p1] at h
    rcases ite_or h with ⟨g_4, h⟩ | ⟨g_4, h⟩
    · obtain ⟨g_5, h⟩ := ite_some h
      obtain ⟨y_6, e_7, h⟩ := bind_or h
      exact RunC.go [.n 2, .r [(3, .dec true)], .n 4, .r [(5, .call (.agg ((cValue y_6).map .p)) []), (6, .mp (mE (pvT cValue) pvB (putM gone5b y_6 true)))], .n 3, .k [0, 1, 5, 6]] (by kernel_rfl) (Obs.of (by kernel_rfl) (And.intro g_4 (And.intro g_5 (And.intro (value_Clean.spec e_7) (le_put (P := Try.prog) (kt := 24) (q := pvB) inj_Value (fun _ => by kernel_rfl) y_6 true gone5b))))) (ih _ _ _ _ r h)
    · exact RunC.go [.n 2, .r [(3, .dec false)], .n 3, .r [(0, .obj (oL true 46 5 cCached dCached ([] : List TCached)))], .n 5, .k [0, 5, 7, 8]] (by kernel_rfl) (Obs.of (by kernel_rfl) (And.intro (nt g_4) (le_nil 46 5 cCached dCached))) (cache_Purge.p2.run k _ _ _ _ r h)
theorem cache_Purge.run   {k : Nat} {s0 : (List TCached)} {values1 : (List TValue)} {r : (List TCached)} (h : cache_Purge k s0 values1 = some r) : RunC Try.prog Try.f23 cache_Purge.t (cache_Purge.s s0 values1) (.sref 0 46 5 (r).length) [(oL true 46 5 cCached dCached (r))] := by
  unfold cache_Purge at h
  obtain ⟨y_1, e_2, h⟩ := bind_or h
  rcases ite_or h with ⟨g_3, h⟩ | ⟨g_3, h⟩
  · obtain rfl := Option.some.inj h
    exact RunC.out [.n 1, .r [(0, .obj (oL true 46 5 cCached dCached ([] : List TCached)))], .n 2, .r [(1, .call (.p (.bool y_1)) []), (2, .dec true)], .n 2, .r [(0, .obj (oL true 46 5 cCached dCached ([] : List TCached)))]] (by kernel_rfl) (Obs.of (by kernel_rfl) (And.intro (le_nil 46 5 cCached dCached) (And.intro (cache_Valid.spec e_2) (And.intro g_3 (le_nil 46 5 cCached dCached)))))
  · exact RunC.go [.n 1, .r [(0, .obj (oL true 46 5 cCached dCached ([] : List TCached)))], .n 2, .r [(1, .call (.p (.bool y_1)) []), (2, .dec false)], .n 3, .r [(0, .mp (mE (pvT cValue) pvB ([] : (List (TValue × Bool)))))], .n 5, .k [0, 1, 5, 6]] (by kernel_rfl) (Obs.of (by kernel_rfl) (And.intro (le_nil 46 5 cCached dCached) (And.intro (cache_Valid.spec e_2) (And.intro (nt g_3) (le_mnil (pvT cValue) pvB))))) (cache_Purge.p1.run k _ _ _ _ r h)
theorem cache_Purge.p2.mono   : ∀ (k k' : Nat) (s0 : (List TCached)) (i8 : Int) (gone5b : (List (TValue × Bool))) (out7 : (List TCached)) (r : (List TCached)), k ≤ k' → cache_Purge.p2 k s0 i8 gone5b out7 = some r → cache_Purge.p2 k' s0 i8 gone5b out7 = some r := by
  intro k
  induction k with
  | zero => intro k' s0 i8 gone5b out7 r hk h; simp [cache_Purge.p2] at h
  | succ k ih =>
    intro k' s0 i8 gone5b out7 r hk h
    obtain ⟨k', rfl⟩ : ∃ m, k' = m + 1 := ⟨k' - 1, by omega⟩
    replace hk := Nat.le_of_succ_le_succ hk
    rw [cache_Purge.p2] at h ⊢
    rcases ite_or h with ⟨g_8, h⟩ | ⟨g_8, h⟩
    · refine itp g_8 ?_
      obtain ⟨g_9, h⟩ := ite_some h
      refine itp g_9 ?_
      rcases ite_or h with ⟨g_10, h⟩ | ⟨g_10, h⟩
      · refine itp g_10 ?_
        obtain ⟨y_11, e_12, h⟩ := bind_or h
        refine bnd (cache_duplicate.mono _ _ _ _ hk e_12) ?_
        obtain ⟨g_13, h⟩ := ite_some h
        refine itp g_13 ?_
        exact ih _ _ _ _ _ r hk h
      · refine itn g_10 ?_
        exact ih _ _ _ _ _ r hk h
    · refine itn g_8 ?_
      exact h
theorem cache_Purge.p1.mono   : ∀ (k k' : Nat) (s0 : (List TCached)) (values1 : (List TValue)) (i6 : Int) (gone5b : (List (TValue × Bool))) (r : (List TCached)), k ≤ k' → cache_Purge.p1 k s0 values1 i6 gone5b = some r → cache_Purge.p1 k' s0 values1 i6 gone5b = some r := by
  intro k
  induction k with
  | zero => intro k' s0 values1 i6 gone5b r hk h; simp [cache_Purge.p1] at h
  | succ k ih =>
    intro k' s0 values1 i6 gone5b r hk h
    obtain ⟨k', rfl⟩ : ∃ m, k' = m + 1 := ⟨k' - 1, by omega⟩
    replace hk := Nat.le_of_succ_le_succ hk
    rw [cache_Purge.p1] at h ⊢
    rcases ite_or h with ⟨g_4, h⟩ | ⟨g_4, h⟩
    · refine itp g_4 ?_
      obtain ⟨g_5, h⟩ := ite_some h
      refine itp g_5 ?_
      obtain ⟨y_6, e_7, h⟩ := bind_or h
      refine bnd (value_Clean.mono _ _ _ _ hk e_7) ?_
      exact ih _ _ _ _ _ r hk h
    · refine itn g_4 ?_
      exact cache_Purge.p2.mono _ _ _ _ _ _ r hk h
theorem cache_Purge.mono   : ∀ (k k' : Nat) (s0 : (List TCached)) (values1 : (List TValue)) (r : (List TCached)), k ≤ k' → cache_Purge k s0 values1 = some r → cache_Purge k' s0 values1 = some r := by
  intro k k' s0 values1 r hk h
  unfold cache_Purge at h ⊢
  obtain ⟨y_1, e_2, h⟩ := bind_or h
  refine bnd (cache_Valid.mono _ _ _ _ hk e_2) ?_
  rcases ite_or h with ⟨g_3, h⟩ | ⟨g_3, h⟩
  · refine itp g_3 ?_
    exact h
  · refine itn g_3 ?_
    exact cache_Purge.p1.mono _ _ _ _ _ _ r hk h
theorem cache_Purge.spec {k : Nat} {s0 : (List TCached)} {values1 : (List TValue)} {r : (List TCached)} (h : cache_Purge k s0 values1 = some r) : Spec Try.prog 23 [.p (eL 5 cCached dCached s0), .p (eL 3 cValue dValue values1)] (.sref 0 46 5 (r).length) [(oL true 46 5 cCached dCached (r))] :=
  spec_of mix Try.func23 (body := bodyOf Try.f23) (by kernel_rfl) (by kernel_rfl) (cache_Purge.run h)
end Go.Proofs.YtjhnpaenhdbhpabV
set_option linter.unusedVariables false
set_option linter.unusedSimpArgs false
set_option maxRecDepth 100000
namespace Go.Proofs.YtjhnpaenhdbhpabV
open Go Go.RowKit
noncomputable def erasureref30_Purge.p1  : Nat → (List TCached) → (List TValue) → Int → Option (List TCached)
  | 0, _, _, _ => none
  | k + 1, s0, values1, i5 => if (decide (i5 < ((values1).length : Int))) = true then (if 0 ≤ i5 ∧ i5 < ((values1).length : Int) then ((erasureref01_Clean k (values1.getD i5.toNat dValue)).bind fun y_6 => ((erasureref30_without k s0 y_6).bind fun y_8 => (erasureref30_Purge.p1 k y_8 values1 (IntKind.i64.wrap (i5 + 1))))) else none) else (some s0)
noncomputable def erasureref30_Purge  (k : Nat) (s0 : (List TCached)) (values1 : (List TValue)) : Option (List TCached) := (erasureref30_Valid k s0).bind fun y_1 => (if (!y_1) = true then (some ([] : List TCached)) else (erasureref30_Purge.p1 k s0 values1 0))
noncomputable def erasureref30_Purge.t : List Item := [.code (bodyOf Try.f24)]
noncomputable def erasureref30_Purge.s (s0 : (List TCached)) (values1 : (List TValue)) : St := ⟨frOf Try.f24.ntmps 0 [(0, .p (eL 5 cCached dCached s0)), (1, .p (eL 3 cValue dValue values1))], []⟩
noncomputable def erasureref30_Purge.p1.t : List Item := nav 12 [false] erasureref30_Purge.t
noncomputable def erasureref30_Purge.p1.s (s0 : (List TCached)) (values1 : (List TValue)) (i5 : Int) : St := ⟨frOf Try.f24.ntmps 0 [(0, .p (eL 5 cCached dCached s0)), (1, .p (eL 3 cValue dValue values1)), (5, .p (.int .i64 i5))], []⟩
theorem erasureref30_Purge.p1.run   : ∀ (k : Nat) (s0 : (List TCached)) (values1 : (List TValue)) (i5 : Int) (r : (List TCached)), erasureref30_Purge.p1 k s0 values1 i5 = some r → RunC Try.prog Try.f24 erasureref30_Purge.p1.t (erasureref30_Purge.p1.s s0 values1 i5) (.p ((eL 5 cCached dCached r))) [] := by
  intro k
  induction k with
  | zero => intro s0 values1 i5 r h; simp [erasureref30_Purge.p1] at h
  | succ k ih =>
    intro s0 values1 i5 r h
    rw [erasureref30_Purge.p1] at h
    rcases ite_or h with ⟨g_4, h⟩ | ⟨g_4, h⟩
    · obtain ⟨g_5, h⟩ := ite_some h
      obtain ⟨y_6, e_7, h⟩ := bind_or h
      obtain ⟨y_8, e_9, h⟩ := bind_or h
      exact RunC.go [.n 2, .r [(3, .dec true)], .n 4, .r [(5, .call (.agg ((cValue y_6).map .p)) []), (6, .call (.sref 0 46 5 (y_8).length) [(oL true 46 5 cCached dCached y_8)])], .n 3, .f 0, .k [0, 1, 5]] (by kernel_rfl) (Obs.of (by kernel_rfl) (And.intro g_4 (And.intro g_5 (And.intro (erasureref01_Clean.spec e_7) (erasureref30_without.spec e_9))))) (ih _ _ _ r h)
    · obtain rfl := Option.some.inj h
      exact RunC.out [.n 2, .r [(3, .dec false)], .n 4] (by kernel_rfl) (Obs.of (by kernel_rfl) (nt g_4))
theorem erasureref30_Purge.run   {k : Nat} {s0 : (List TCached)} {values1 : (List TValue)} {r : (List TCached)} (h : erasureref30_Purge k s0 values1 = some r) : RunC Try.prog Try.f24 erasureref30_Purge.t (erasureref30_Purge.s s0 values1) (.p ((eL 5 cCached dCached r))) [] := by
  unfold erasureref30_Purge at h
  obtain ⟨y_1, e_2, h⟩ := bind_or h
  rcases ite_or h with ⟨g_3, h⟩ | ⟨g_3, h⟩
  · obtain rfl := Option.some.inj h
    exact RunC.out [.n 1, .r [(0, .obj (oL true 46 5 cCached dCached ([] : List TCached)))], .n 2, .r [(1, .call (.p (.bool y_1)) []), (2, .dec true)], .n 2, .r [(0, .obj (oL true 46 5 cCached dCached ([] : List TCached)))], .f 4] (by kernel_rfl) (Obs.of (by kernel_rfl) (And.intro (le_nil 46 5 cCached dCached) (And.intro (erasureref30_Valid.spec e_2) (And.intro g_3 (le_nil 46 5 cCached dCached)))))
  · exact RunC.go [.n 1, .r [(0, .obj (oL true 46 5 cCached dCached ([] : List TCached)))], .n 2, .r [(1, .call (.p (.bool y_1)) []), (2, .dec false)], .n 7, .k [0, 1, 5]] (by kernel_rfl) (Obs.of (by kernel_rfl) (And.intro (le_nil 46 5 cCached dCached) (And.intro (erasureref30_Valid.spec e_2) (nt g_3)))) (erasureref30_Purge.p1.run k _ _ _ r h)
theorem erasureref30_Purge.p1.mono   : ∀ (k k' : Nat) (s0 : (List TCached)) (values1 : (List TValue)) (i5 : Int) (r : (List TCached)), k ≤ k' → erasureref30_Purge.p1 k s0 values1 i5 = some r → erasureref30_Purge.p1 k' s0 values1 i5 = some r := by
  intro k
  induction k with
  | zero => intro k' s0 values1 i5 r hk h; simp [erasureref30_Purge.p1] at h
  | succ k ih =>
    intro k' s0 values1 i5 r hk h
    obtain ⟨k', rfl⟩ : ∃ m, k' = m + 1 := ⟨k' - 1, by omega⟩
    replace hk := Nat.le_of_succ_le_succ hk
    rw [erasureref30_Purge.p1] at h ⊢
    rcases ite_or h with ⟨g_4, h⟩ | ⟨g_4, h⟩
    · refine itp g_4 ?_
      obtain ⟨g_5, h⟩ := ite_some h
      refine itp g_5 ?_
      obtain ⟨y_6, e_7, h⟩ := bind_or h
      refine bnd (erasureref01_Clean.mono _ _ _ _ hk e_7) ?_
      obtain ⟨y_8, e_9, h⟩ := bind_or h
      refine bnd (erasureref30_without.mono _ _ _ _ _ hk e_9) ?_
      exact ih _ _ _ _ r hk h
    · refine itn g_4 ?_
      exact h
theorem erasureref30_Purge.mono   : ∀ (k k' : Nat) (s0 : (List TCached)) (values1 : (List TValue)) (r : (List TCached)), k ≤ k' → erasureref30_Purge k s0 values1 = some r → erasureref30_Purge k' s0 values1 = some r := by
  intro k k' s0 values1 r hk h
  unfold erasureref30_Purge at h ⊢
  obtain ⟨y_1, e_2, h⟩ := bind_or h
  refine bnd (erasureref30_Valid.mono _ _ _ _ hk e_2) ?_
  rcases ite_or h with ⟨g_3, h⟩ | ⟨g_3, h⟩
  · refine itp g_3 ?_
    exact h
  · refine itn g_3 ?_
    exact erasureref30_Purge.p1.mono _ _ _ _ _ r hk h
theorem erasureref30_Purge.spec {k : Nat} {s0 : (List TCached)} {values1 : (List TValue)} {r : (List TCached)} (h : erasureref30_Purge k s0 values1 = some r) : Spec Try.prog 24 [.p (eL 5 cCached dCached s0), .p (eL 3 cValue dValue values1)] (.p ((eL 5 cCached dCached r))) [] :=
  spec_of mix Try.func24 (body := bodyOf Try.f24) (by kernel_rfl) (by kernel_rfl) (erasureref30_Purge.run h)
end Go.Proofs.YtjhnpaenhdbhpabV
set_option linter.unusedVariables false
set_option linter.unusedSimpArgs false
set_option maxRecDepth 100000
namespace Go.Proofs.YtjhnpaenhdbhpabV
open Go Go.RowKit
noncomputable def erasurelaw30_short.p1  : Nat → (List TEntry) → Int → Option Bool
  | 0, _, _ => none
  | k + 1, l0, i3 => if (decide (i3 < ((l0).length : Int))) = true then (if 0 ≤ i3 ∧ i3 < ((l0).length : Int) then (if (decide ((((l0.getD i3.toNat dEntry).f0).length : Int) > 20)) = true then (some false) else (erasurelaw30_short.p1 k l0 (IntKind.i64.wrap (i3 + 1)))) else none) else (some (decide (((l0).length : Int) ≤ 40)))
noncomputable def erasurelaw30_short  (k : Nat) (l0 : (List TEntry)) : Option Bool := erasurelaw30_short.p1 k l0 0
noncomputable def erasurelaw30_short.t : List Item := [.code (bodyOf Try.f11)]
noncomputable def erasurelaw30_short.s (l0 : (List TEntry)) : St := ⟨frOf Try.f11.ntmps 0 [(0, .p (eL 2 cEntry dEntry l0))], []⟩
noncomputable def erasurelaw30_short.p1.t : List Item := nav 7 [] erasurelaw30_short.t
noncomputable def erasurelaw30_short.p1.s (l0 : (List TEntry)) (i3 : Int) : St := ⟨frOf Try.f11.ntmps 0 [(0, .p (eL 2 cEntry dEntry l0)), (3, .p (.int .i64 i3))], []⟩
theorem erasurelaw30_short.p1.run   : ∀ (k : Nat) (l0 : (List TEntry)) (i3 : Int) (r : Bool), erasurelaw30_short.p1 k l0 i3 = some r → RunC Try.prog Try.f11 erasurelaw30_short.p1.t (erasurelaw30_short.p1.s l0 i3) (.p (.bool r)) [] := by
  intro k
  induction k with
  | zero => intro l0 i3 r h; simp [erasurelaw30_short.p1] at h
  | succ k ih =>
    intro l0 i3 r h
    rw [erasurelaw30_short.p1] at h
    rcases ite_or h with ⟨g_1, h⟩ | ⟨g_1, h⟩
    · obtain ⟨g_2, h⟩ := ite_some h
      rcases ite_or h with ⟨g_3, h⟩ | ⟨g_3, h⟩
      · obtain rfl := Option.some.inj h
        exact RunC.out [.n 2, .r [(3, .dec true)], .n 5, .r [(6, .dec true)], .n 3] (by kernel_rfl) (Obs.of (by kernel_rfl) (And.intro g_1 (And.intro g_2 g_3)))
      · exact RunC.go [.n 2, .r [(3, .dec true)], .n 5, .r [(6, .dec false)], .n 5, .k [0, 3]] (by kernel_rfl) (Obs.of (by kernel_rfl) (And.intro g_1 (And.intro g_2 (nt g_3)))) (ih _ _ r h)
    · obtain rfl := Option.some.inj h
      exact RunC.out [.n 2, .r [(3, .dec false)], .n 4] (by kernel_rfl) (Obs.of (by kernel_rfl) (nt g_1))
theorem erasurelaw30_short.run   {k : Nat} {l0 : (List TEntry)} {r : Bool} (h : erasurelaw30_short k l0 = some r) : RunC Try.prog Try.f11 erasurelaw30_short.t (erasurelaw30_short.s l0) (.p (.bool r)) [] := by
  unfold erasurelaw30_short at h
  exact RunC.go [.n 7, .k [0, 3]] (by kernel_rfl) (Obs.tt (by kernel_rfl)) (erasurelaw30_short.p1.run k _ _ r h)
theorem erasurelaw30_short.p1.mono   : ∀ (k k' : Nat) (l0 : (List TEntry)) (i3 : Int) (r : Bool), k ≤ k' → erasurelaw30_short.p1 k l0 i3 = some r → erasurelaw30_short.p1 k' l0 i3 = some r := by
  intro k
  induction k with
  | zero => intro k' l0 i3 r hk h; simp [erasurelaw30_short.p1] at h
  | succ k ih =>
    intro k' l0 i3 r hk h
    obtain ⟨k', rfl⟩ : ∃ m, k' = m + 1 := ⟨k' - 1, by omega⟩
    replace hk := Nat.le_of_succ_le_succ hk
    rw [erasurelaw30_short.p1] at h ⊢
    rcases ite_or h with ⟨g_1, h⟩ | ⟨g_1, h⟩
    · refine itp g_1 ?_
      obtain ⟨g_2, h⟩ := ite_some h
      refine itp g_2 ?_
      rcases ite_or h with ⟨g_3, h⟩ | ⟨g_3, h⟩
      · refine itp g_3 ?_
        exact h
      · refine itn g_3 ?_
        exact ih _ _ _ r hk h
    · refine itn g_1 ?_
      exact h
theorem erasurelaw30_short.mono   : ∀ (k k' : Nat) (l0 : (List TEntry)) (r : Bool), k ≤ k' → erasurelaw30_short k l0 = some r → erasurelaw30_short k' l0 = some r := by
  intro k k' l0 r hk h
  unfold erasurelaw30_short at h ⊢
  exact erasurelaw30_short.p1.mono _ _ _ _ r hk h
theorem erasurelaw30_short.spec {k : Nat} {l0 : (List TEntry)} {r : Bool} (h : erasurelaw30_short k l0 = some r) : Spec Try.prog 11 [.p (eL 2 cEntry dEntry l0)] (.p (.bool r)) [] :=
  spec_of mix Try.func11 (body := bodyOf Try.f11) (by kernel_rfl) (by kernel_rfl) (erasurelaw30_short.run h)
end Go.Proofs.YtjhnpaenhdbhpabV
set_option linter.unusedVariables false
set_option linter.unusedSimpArgs false
set_option maxRecDepth 100000
namespace Go.Proofs.YtjhnpaenhdbhpabV
open Go Go.RowKit
noncomputable def erasurelaw30_small.p1  : Nat → (List TCached) → Int → Option Bool
  | 0, _, _ => none
  | k + 1, s0, i3 => if (decide (i3 < ((s0).length : Int))) = true then (if 0 ≤ i3 ∧ i3 < ((s0).length : Int) then ((erasurelaw30_short k ((s0.getD i3.toNat dCached).f1)).bind fun y_3 => (if (!y_3) = true then (some false) else (erasurelaw30_small.p1 k s0 (IntKind.i64.wrap (i3 + 1))))) else none) else (some (decide (((s0).length : Int) ≤ 30)))
noncomputable def erasurelaw30_small  (k : Nat) (s0 : (List TCached)) : Option Bool := erasurelaw30_small.p1 k s0 0
noncomputable def erasurelaw30_small.t : List Item := [.code (bodyOf Try.f30)]
noncomputable def erasurelaw30_small.s (s0 : (List TCached)) : St := ⟨frOf Try.f30.ntmps 0 [(0, .p (eL 5 cCached dCached s0))], []⟩
noncomputable def erasurelaw30_small.p1.t : List Item := nav 7 [] erasurelaw30_small.t
noncomputable def erasurelaw30_small.p1.s (s0 : (List TCached)) (i3 : Int) : St := ⟨frOf Try.f30.ntmps 0 [(0, .p (eL 5 cCached dCached s0)), (3, .p (.int .i64 i3))], []⟩
theorem erasurelaw30_small.p1.run   : ∀ (k : Nat) (s0 : (List TCached)) (i3 : Int) (r : Bool), erasurelaw30_small.p1 k s0 i3 = some r → RunC Try.prog Try.f30 erasurelaw30_small.p1.t (erasurelaw30_small.p1.s s0 i3) (.p (.bool r)) [] := by
  intro k
  induction k with
  | zero => intro s0 i3 r h; simp [erasurelaw30_small.p1] at h
  | succ k ih =>
    intro s0 i3 r h
    rw [erasurelaw30_small.p1] at h
    rcases ite_or h with ⟨g_1, h⟩ | ⟨g_1, h⟩
    · obtain ⟨g_2, h⟩ := ite_some h
      obtain ⟨y_3, e_4, h⟩ := bind_or h
      rcases ite_or h with ⟨g_5, h⟩ | ⟨g_5, h⟩
      · obtain rfl := Option.some.inj h
        exact RunC.out [.n 2, .r [(3, .dec true)], .n 5, .r [(5, .call (.p (.bool y_3)) []), (6, .dec true)], .n 3] (by kernel_rfl) (Obs.of (by kernel_rfl) (And.intro g_1 (And.intro g_2 (And.intro (erasurelaw30_short.spec e_4) g_5))))
      · exact RunC.go [.n 2, .r [(3, .dec true)], .n 5, .r [(5, .call (.p (.bool y_3)) []), (6, .dec false)], .n 5, .k [0, 3]] (by kernel_rfl) (Obs.of (by kernel_rfl) (And.intro g_1 (And.intro g_2 (And.intro (erasurelaw30_short.spec e_4) (nt g_5))))) (ih _ _ r h)
    · obtain rfl := Option.some.inj h
      exact RunC.out [.n 2, .r [(3, .dec false)], .n 4] (by kernel_rfl) (Obs.of (by kernel_rfl) (nt g_1))
theorem erasurelaw30_small.run   {k : Nat} {s0 : (List TCached)} {r : Bool} (h : erasurelaw30_small k s0 = some r) : RunC Try.prog Try.f30 erasurelaw30_small.t (erasurelaw30_small.s s0) (.p (.bool r)) [] := by
  unfold erasurelaw30_small at h
  exact RunC.go [.n 7, .k [0, 3]] (by kernel_rfl) (Obs.tt (by kernel_rfl)) (erasurelaw30_small.p1.run k _ _ r h)
theorem erasurelaw30_small.p1.mono   : ∀ (k k' : Nat) (s0 : (List TCached)) (i3 : Int) (r : Bool), k ≤ k' → erasurelaw30_small.p1 k s0 i3 = some r → erasurelaw30_small.p1 k' s0 i3 = some r := by
  intro k
  induction k with
  | zero => intro k' s0 i3 r hk h; simp [erasurelaw30_small.p1] at h
  | succ k ih =>
    intro k' s0 i3 r hk h
    obtain ⟨k', rfl⟩ : ∃ m, k' = m + 1 := ⟨k' - 1, by omega⟩
    replace hk := Nat.le_of_succ_le_succ hk
    rw [erasurelaw30_small.p1] at h ⊢
    rcases ite_or h with ⟨g_1, h⟩ | ⟨g_1, h⟩
    · refine itp g_1 ?_
      obtain ⟨g_2, h⟩ := ite_some h
      refine itp g_2 ?_
      obtain ⟨y_3, e_4, h⟩ := bind_or h
      refine bnd (erasurelaw30_short.mono _ _ _ _ hk e_4) ?_
      rcases ite_or h with ⟨g_5, h⟩ | ⟨g_5, h⟩
      · refine itp g_5 ?_
        exact h
      · refine itn g_5 ?_
        exact ih _ _ _ r hk h
    · refine itn g_1 ?_
      exact h
theorem erasurelaw30_small.mono   : ∀ (k k' : Nat) (s0 : (List TCached)) (r : Bool), k ≤ k' → erasurelaw30_small k s0 = some r → erasurelaw30_small k' s0 = some r := by
  intro k k' s0 r hk h
  unfold erasurelaw30_small at h ⊢
  exact erasurelaw30_small.p1.mono _ _ _ _ r hk h
theorem erasurelaw30_small.spec {k : Nat} {s0 : (List TCached)} {r : Bool} (h : erasurelaw30_small k s0 = some r) : Spec Try.prog 30 [.p (eL 5 cCached dCached s0)] (.p (.bool r)) [] :=
  spec_of mix Try.func30 (body := bodyOf Try.f30) (by kernel_rfl) (by kernel_rfl) (erasurelaw30_small.run h)
end Go.Proofs.YtjhnpaenhdbhpabV
set_option linter.unusedVariables false
set_option linter.unusedSimpArgs false
set_option maxRecDepth 100000
namespace Go.Proofs.YtjhnpaenhdbhpabV
open Go Go.RowKit
noncomputable def erasurelaw30_CacheRaw  (k : Nat) (c0 : TCache) (s1 : (List TCached)) (a2 : TAct) : Option Bool := (erasurelaw30_small k s1).bind fun y_1 => (if (!y_1) = true then ((erasurelaw30_awake k ).bind fun y_4 => (some y_4)) else ((cache_Lookup k c0 s1 ([(TEntry.mk ([a2.f1]) 1)]) a2.f1 a2.f2).bind fun y_6 => ((erasureref30_Lookup k c0 s1 ([(TEntry.mk ([a2.f1]) 1)]) a2.f1 a2.f2).bind fun y_8 => ((cache_Valid k s1).bind fun y_10 => ((erasureref30_Valid k s1).bind fun y_12 => (if (y_10 == y_12) = true then (if (y_6.2.2 == y_8.2.2) = true then ((erasureref30_Same k y_6.1 y_8.1).bind fun y_16 => (if y_16 = true then ((erasureref26_SameBag k y_6.2.1 y_8.2.1).bind fun y_19 => (if y_19 = true then ((cache_Refill k c0 s1 ([(TEntry.mk ([a2.f1]) 1)]) a2.f2).bind fun y_22 => ((erasureref30_Refill k c0 s1 ([(TEntry.mk ([a2.f1]) 1)]) a2.f2).bind fun y_24 => ((erasureref30_Same k y_22 y_24).bind fun y_26 => (if y_26 = true then ((cache_Purge k s1 ([a2.f1])).bind fun y_29 => ((erasureref30_Purge k s1 ([a2.f1])).bind fun y_31 => ((erasureref30_Same k y_29 y_31).bind fun y_33 => (if y_33 = true then ((cache_Expire k c0 s1 a2.f2).bind fun y_36 => ((erasureref30_Expire k c0 s1 a2.f2).bind fun y_38 => ((erasureref30_Same k y_36 y_38).bind fun y_40 => (if y_40 = true then ((cache_Fresh k c0 s1 ([(TEntry.mk ([a2.f1]) 1)])).bind fun y_43 => ((erasureref30_Fresh k c0 s1 ([(TEntry.mk ([a2.f1]) 1)])).bind fun y_45 => (if (y_43 == y_45) = true then ((erasurelaw30_awake k ).bind fun y_48 => (some y_48)) else (some false)))) else (some false))))) else (some false))))) else (some false))))) else (some false))) else (some false))) else (some false)) else (some false)))))))
noncomputable def erasurelaw30_CacheRaw.t : List Item := [.code (bodyOf Try.f7)]
noncomputable def erasurelaw30_CacheRaw.s (c0 : TCache) (s1 : (List TCached)) (a2 : TAct) : St := ⟨frOf Try.f7.ntmps 0 [(0, .agg ((cCache c0).map .p)), (1, .p (eL 5 cCached dCached s1)), (2, .agg ((cAct a2).map .p))], []⟩
theorem erasurelaw30_CacheRaw.run   {k : Nat} {c0 : TCache} {s1 : (List TCached)} {a2 : TAct} {r : Bool} (h : erasurelaw30_CacheRaw k c0 s1 a2 = some r) : RunC Try.prog Try.f7 erasurelaw30_CacheRaw.t (erasurelaw30_CacheRaw.s c0 s1 a2) (.p (.bool r)) [] := by
  unfold erasurelaw30_CacheRaw at h
  obtain ⟨y_1, e_2, h⟩ := bind_or h
  rcases ite_or h with ⟨g_3, h⟩ | ⟨g_3, h⟩
  · obtain ⟨y_4, e_5, h⟩ := bind_or h
    obtain rfl := Option.some.inj h
    exact RunC.out [.n 4, .r [(1, .call (.p (.bool y_1)) []), (2, .dec true)], .n 2, .r [(0, .call (.p (.bool y_4)) [])]] (by kernel_rfl) (Obs.of (by kernel_rfl) (And.intro (erasurelaw30_small.spec e_2) (And.intro g_3 (erasurelaw30_awake.spec e_5))))
  · obtain ⟨y_6, e_7, h⟩ := bind_or h
    obtain ⟨y_8, e_9, h⟩ := bind_or h
    obtain ⟨y_10, e_11, h⟩ := bind_or h
    obtain ⟨y_12, e_13, h⟩ := bind_or h
    rcases ite_or h with ⟨g_14, h⟩ | ⟨g_14, h⟩
    · rcases ite_or h with ⟨g_15, h⟩ | ⟨g_15, h⟩
      · obtain ⟨y_16, e_17, h⟩ := bind_or h
        rcases ite_or h with ⟨g_18, h⟩ | ⟨g_18, h⟩
        · obtain ⟨y_19, e_20, h⟩ := bind_or h
          rcases ite_or h with ⟨g_21, h⟩ | ⟨g_21, h⟩
          · obtain ⟨y_22, e_23, h⟩ := bind_or h
            obtain ⟨y_24, e_25, h⟩ := bind_or h
            obtain ⟨y_26, e_27, h⟩ := bind_or h
            rcases ite_or h with ⟨g_28, h⟩ | ⟨g_28, h⟩
            · obtain ⟨y_29, e_30, h⟩ := bind_or h
              obtain ⟨y_31, e_32, h⟩ := bind_or h
              obtain ⟨y_33, e_34, h⟩ := bind_or h
              rcases ite_or h with ⟨g_35, h⟩ | ⟨g_35, h⟩
              · obtain ⟨y_36, e_37, h⟩ := bind_or h
                obtain ⟨y_38, e_39, h⟩ := bind_or h
                obtain ⟨y_40, e_41, h⟩ := bind_or h
                rcases ite_or h with ⟨g_42, h⟩ | ⟨g_42, h⟩
                · obtain ⟨y_43, e_44, h⟩ := bind_or h
                  obtain ⟨y_45, e_46, h⟩ := bind_or h
                  rcases ite_or h with ⟨g_47, h⟩ | ⟨g_47, h⟩
                  · obtain ⟨y_48, e_49, h⟩ := bind_or h
                    obtain rfl := Option.some.inj h
                    exact RunC.out [.n 4, .r [(1, .call (.p (.bool y_1)) []), (2, .dec false)], .n 3, .r [(2, .obj (oL true 24 3 cValue dValue [a2.f1])), (4, .obj (oL true 36 2 cEntry dEntry [(TEntry.mk ([a2.f1]) 1)]))], .n 1, .r [(7, .call (.tup [.sref 0 46 5 (y_6.1).length, .sref 1 36 2 (y_6.2.1).length, .p (.int .i64 y_6.2.2)]) [(oL true 46 5 cCached dCached y_6.1), (oL true 36 2 cEntry dEntry y_6.2.1)])], .n 1, .r [(7, .call (.tup [.sref 0 46 5 (y_8.1).length, .p (eL 2 cEntry dEntry y_8.2.1), .p (.int .i64 y_8.2.2)]) [(oL true 46 5 cCached dCached y_8.1)])], .n 1, .r [(2, .obj (oL true 24 3 cValue dValue [a2.f1]))], .n 1, .r [(1, .call (.p (.bool y_10)) []), (3, .call (.p (.bool y_12)) []), (5, .dec true), (10, .dec true), (13, .call (.p (.bool y_16)) []), (15, .dec true), (18, .call (.p (.bool y_19)) []), (20, .dec true), (26, .call (.sref 0 46 5 (y_22).length) [(oL true 46 5 cCached dCached y_22)]), (32, .call (.sref 0 46 5 (y_24).length) [(oL true 46 5 cCached dCached y_24)]), (33, .call (.p (.bool y_26)) []), (35, .dec true), (38, .call (.sref 0 46 5 (y_29).length) [(oL true 46 5 cCached dCached y_29)]), (41, .call (.p (eL 5 cCached dCached y_31)) []), (42, .call (.p (.bool y_33)) []), (44, .dec true), (49, .call (.sref 0 46 5 (y_36).length) [(oL true 46 5 cCached dCached y_36)]), (54, .call (.sref 0 46 5 (y_38).length) [(oL true 46 5 cCached dCached y_38)]), (55, .call (.p (.bool y_40)) []), (57, .dec true), (61, .call (.p (.bool y_43)) []), (65, .call (.p (.bool y_45)) []), (68, .dec true), (69, .call (.p (.bool y_48)) [])]] (by kernel_rfl) (Obs.of (by kernel_rfl) (And.intro (erasurelaw30_small.spec e_2) (And.intro (nt g_3) (And.intro (le_one 24 3 cValue dValue a2.f1) (And.intro (le_one 36 2 cEntry dEntry (TEntry.mk ([a2.f1]) 1)) (And.intro (cache_Lookup.spec e_7) (And.intro (erasureref30_Lookup.spec e_9) (And.intro (le_one 24 3 cValue dValue a2.f1) (And.intro (cache_Valid.spec e_11) (And.intro (erasureref30_Valid.spec e_13) (And.intro g_14 (And.intro g_15 (And.intro (erasureref30_Same.spec e_17) (And.intro g_18 (And.intro (erasureref26_SameBag.spec e_20) (And.intro g_21 (And.intro (cache_Refill.spec e_23) (And.intro (erasureref30_Refill.spec e_25) (And.intro (erasureref30_Same.spec e_27) (And.intro g_28 (And.intro (cache_Purge.spec e_30) (And.intro (erasureref30_Purge.spec e_32) (And.intro (erasureref30_Same.spec e_34) (And.intro g_35 (And.intro (cache_Expire.spec e_37) (And.intro (erasureref30_Expire.spec e_39) (And.intro (erasureref30_Same.spec e_41) (And.intro g_42 (And.intro (cache_Fresh.spec e_44) (And.intro (erasureref30_Fresh.spec e_46) (And.intro g_47 (erasurelaw30_awake.spec e_49))))))))))))))))))))))))))))))))
                  · obtain rfl := Option.some.inj h
                    exact RunC.out [.n 4, .r [(1, .call (.p (.bool y_1)) []), (2, .dec false)], .n 3, .r [(2, .obj (oL true 24 3 cValue dValue [a2.f1])), (4, .obj (oL true 36 2 cEntry dEntry [(TEntry.mk ([a2.f1]) 1)]))], .n 1, .r [(7, .call (.tup [.sref 0 46 5 (y_6.1).length, .sref 1 36 2 (y_6.2.1).length, .p (.int .i64 y_6.2.2)]) [(oL true 46 5 cCached dCached y_6.1), (oL true 36 2 cEntry dEntry y_6.2.1)])], .n 1, .r [(7, .call (.tup [.sref 0 46 5 (y_8.1).length, .p (eL 2 cEntry dEntry y_8.2.1), .p (.int .i64 y_8.2.2)]) [(oL true 46 5 cCached dCached y_8.1)])], .n 1, .r [(2, .obj (oL true 24 3 cValue dValue [a2.f1]))], .n 1, .r [(1, .call (.p (.bool y_10)) []), (3, .call (.p (.bool y_12)) []), (5, .dec true), (10, .dec true), (13, .call (.p (.bool y_16)) []), (15, .dec true), (18, .call (.p (.bool y_19)) []), (20, .dec true), (26, .call (.sref 0 46 5 (y_22).length) [(oL true 46 5 cCached dCached y_22)]), (32, .call (.sref 0 46 5 (y_24).length) [(oL true 46 5 cCached dCached y_24)]), (33, .call (.p (.bool y_26)) []), (35, .dec true), (38, .call (.sref 0 46 5 (y_29).length) [(oL true 46 5 cCached dCached y_29)]), (41, .call (.p (eL 5 cCached dCached y_31)) []), (42, .call (.p (.bool y_33)) []), (44, .dec true), (49, .call (.sref 0 46 5 (y_36).length) [(oL true 46 5 cCached dCached y_36)]), (54, .call (.sref 0 46 5 (y_38).length) [(oL true 46 5 cCached dCached y_38)]), (55, .call (.p (.bool y_40)) []), (57, .dec true), (61, .call (.p (.bool y_43)) []), (65, .call (.p (.bool y_45)) []), (68, .dec false)]] (by kernel_rfl) (Obs.of (by kernel_rfl) (And.intro (erasurelaw30_small.spec e_2) (And.intro (nt g_3) (And.intro (le_one 24 3 cValue dValue a2.f1) (And.intro (le_one 36 2 cEntry dEntry (TEntry.mk ([a2.f1]) 1)) (And.intro (cache_Lookup.spec e_7) (And.intro (erasureref30_Lookup.spec e_9) (And.intro (le_one 24 3 cValue dValue a2.f1) (And.intro (cache_Valid.spec e_11) (And.intro (erasureref30_Valid.spec e_13) (And.intro g_14 (And.intro g_15 (And.intro (erasureref30_Same.spec e_17) (And.intro g_18 (And.intro (erasureref26_SameBag.spec e_20) (And.intro g_21 (And.intro (cache_Refill.spec e_23) (And.intro (erasureref30_Refill.spec e_25) (And.intro (erasureref30_Same.spec e_27) (And.intro g_28 (And.intro (cache_Purge.spec e_30) (And.intro (erasureref30_Purge.spec e_32) (And.intro (erasureref30_Same.spec e_34) (And.intro g_35 (And.intro (cache_Expire.spec e_37) (And.intro (erasureref30_Expire.spec e_39) (And.intro (erasureref30_Same.spec e_41) (And.intro g_42 (And.intro (cache_Fresh.spec e_44) (And.intro (erasureref30_Fresh.spec e_46) (nt g_47)))))))))))))))))))))))))))))))
                · obtain rfl := Option.some.inj h
                  exact RunC.out [.n 4, .r [(1, .call (.p (.bool y_1)) []), (2, .dec false)], .n 3, .r [(2, .obj (oL true 24 3 cValue dValue [a2.f1])), (4, .obj (oL true 36 2 cEntry dEntry [(TEntry.mk ([a2.f1]) 1)]))], .n 1, .r [(7, .call (.tup [.sref 0 46 5 (y_6.1).length, .sref 1 36 2 (y_6.2.1).length, .p (.int .i64 y_6.2.2)]) [(oL true 46 5 cCached dCached y_6.1), (oL true 36 2 cEntry dEntry y_6.2.1)])], .n 1, .r [(7, .call (.tup [.sref 0 46 5 (y_8.1).length, .p (eL 2 cEntry dEntry y_8.2.1), .p (.int .i64 y_8.2.2)]) [(oL true 46 5 cCached dCached y_8.1)])], .n 1, .r [(2, .obj (oL true 24 3 cValue dValue [a2.f1]))], .n 1, .r [(1, .call (.p (.bool y_10)) []), (3, .call (.p (.bool y_12)) []), (5, .dec true), (10, .dec true), (13, .call (.p (.bool y_16)) []), (15, .dec true), (18, .call (.p (.bool y_19)) []), (20, .dec true), (26, .call (.sref 0 46 5 (y_22).length) [(oL true 46 5 cCached dCached y_22)]), (32, .call (.sref 0 46 5 (y_24).length) [(oL true 46 5 cCached dCached y_24)]), (33, .call (.p (.bool y_26)) []), (35, .dec true), (38, .call (.sref 0 46 5 (y_29).length) [(oL true 46 5 cCached dCached y_29)]), (41, .call (.p (eL 5 cCached dCached y_31)) []), (42, .call (.p (.bool y_33)) []), (44, .dec true), (49, .call (.sref 0 46 5 (y_36).length) [(oL true 46 5 cCached dCached y_36)]), (54, .call (.sref 0 46 5 (y_38).length) [(oL true 46 5 cCached dCached y_38)]), (55, .call (.p (.bool y_40)) []), (57, .dec false)]] (by kernel_rfl) (Obs.of (by kernel_rfl) (And.intro (erasurelaw30_small.spec e_2) (And.intro (nt g_3) (And.intro (le_one 24 3 cValue dValue a2.f1) (And.intro (le_one 36 2 cEntry dEntry (TEntry.mk ([a2.f1]) 1)) (And.intro (cache_Lookup.spec e_7) (And.intro (erasureref30_Lookup.spec e_9) (And.intro (le_one 24 3 cValue dValue a2.f1) (And.intro (cache_Valid.spec e_11) (And.intro (erasureref30_Valid.spec e_13) (And.intro g_14 (And.intro g_15 (And.intro (erasureref30_Same.spec e_17) (And.intro g_18 (And.intro (erasureref26_SameBag.spec e_20) (And.intro g_21 (And.intro (cache_Refill.spec e_23) (And.intro (erasureref30_Refill.spec e_25) (And.intro (erasureref30_Same.spec e_27) (And.intro g_28 (And.intro (cache_Purge.spec e_30) (And.intro (erasureref30_Purge.spec e_32) (And.intro (erasureref30_Same.spec e_34) (And.intro g_35 (And.intro (cache_Expire.spec e_37) (And.intro (erasureref30_Expire.spec e_39) (And.intro (erasureref30_Same.spec e_41) (nt g_42))))))))))))))))))))))))))))
              · obtain rfl := Option.some.inj h
                exact RunC.out [.n 4, .r [(1, .call (.p (.bool y_1)) []), (2, .dec false)], .n 3, .r [(2, .obj (oL true 24 3 cValue dValue [a2.f1])), (4, .obj (oL true 36 2 cEntry dEntry [(TEntry.mk ([a2.f1]) 1)]))], .n 1, .r [(7, .call (.tup [.sref 0 46 5 (y_6.1).length, .sref 1 36 2 (y_6.2.1).length, .p (.int .i64 y_6.2.2)]) [(oL true 46 5 cCached dCached y_6.1), (oL true 36 2 cEntry dEntry y_6.2.1)])], .n 1, .r [(7, .call (.tup [.sref 0 46 5 (y_8.1).length, .p (eL 2 cEntry dEntry y_8.2.1), .p (.int .i64 y_8.2.2)]) [(oL true 46 5 cCached dCached y_8.1)])], .n 1, .r [(2, .obj (oL true 24 3 cValue dValue [a2.f1]))], .n 1, .r [(1, .call (.p (.bool y_10)) []), (3, .call (.p (.bool y_12)) []), (5, .dec true), (10, .dec true), (13, .call (.p (.bool y_16)) []), (15, .dec true), (18, .call (.p (.bool y_19)) []), (20, .dec true), (26, .call (.sref 0 46 5 (y_22).length) [(oL true 46 5 cCached dCached y_22)]), (32, .call (.sref 0 46 5 (y_24).length) [(oL true 46 5 cCached dCached y_24)]), (33, .call (.p (.bool y_26)) []), (35, .dec true), (38, .call (.sref 0 46 5 (y_29).length) [(oL true 46 5 cCached dCached y_29)]), (41, .call (.p (eL 5 cCached dCached y_31)) []), (42, .call (.p (.bool y_33)) []), (44, .dec false)]] (by kernel_rfl) (Obs.of (by kernel_rfl) (And.intro (erasurelaw30_small.spec e_2) (And.intro (nt g_3) (And.intro (le_one 24 3 cValue dValue a2.f1) (And.intro (le_one 36 2 cEntry dEntry (TEntry.mk ([a2.f1]) 1)) (And.intro (cache_Lookup.spec e_7) (And.intro (erasureref30_Lookup.spec e_9) (And.intro (le_one 24 3 cValue dValue a2.f1) (And.intro (cache_Valid.spec e_11) (And.intro (erasureref30_Valid.spec e_13) (And.intro g_14 (And.intro g_15 (And.intro (erasureref30_Same.spec e_17) (And.intro g_18 (And.intro (erasureref26_SameBag.spec e_20) (And.intro g_21 (And.intro (cache_Refill.spec e_23) (And.intro (erasureref30_Refill.spec e_25) (And.intro (erasureref30_Same.spec e_27) (And.intro g_28 (And.intro (cache_Purge.spec e_30) (And.intro (erasureref30_Purge.spec e_32) (And.intro (erasureref30_Same.spec e_34) (nt g_35))))))))))))))))))))))))
            · obtain rfl := Option.some.inj h
              exact RunC.out [.n 4, .r [(1, .call (.p (.bool y_1)) []), (2, .dec false)], .n 3, .r [(2, .obj (oL true 24 3 cValue dValue [a2.f1])), (4, .obj (oL true 36 2 cEntry dEntry [(TEntry.mk ([a2.f1]) 1)]))], .n 1, .r [(7, .call (.tup [.sref 0 46 5 (y_6.1).length, .sref 1 36 2 (y_6.2.1).length, .p (.int .i64 y_6.2.2)]) [(oL true 46 5 cCached dCached y_6.1), (oL true 36 2 cEntry dEntry y_6.2.1)])], .n 1, .r [(7, .call (.tup [.sref 0 46 5 (y_8.1).length, .p (eL 2 cEntry dEntry y_8.2.1), .p (.int .i64 y_8.2.2)]) [(oL true 46 5 cCached dCached y_8.1)])], .n 1, .r [(2, .obj (oL true 24 3 cValue dValue [a2.f1]))], .n 1, .r [(1, .call (.p (.bool y_10)) []), (3, .call (.p (.bool y_12)) []), (5, .dec true), (10, .dec true), (13, .call (.p (.bool y_16)) []), (15, .dec true), (18, .call (.p (.bool y_19)) []), (20, .dec true), (26, .call (.sref 0 46 5 (y_22).length) [(oL true 46 5 cCached dCached y_22)]), (32, .call (.sref 0 46 5 (y_24).length) [(oL true 46 5 cCached dCached y_24)]), (33, .call (.p (.bool y_26)) []), (35, .dec false)]] (by kernel_rfl) (Obs.of (by kernel_rfl) (And.intro (erasurelaw30_small.spec e_2) (And.intro (nt g_3) (And.intro (le_one 24 3 cValue dValue a2.f1) (And.intro (le_one 36 2 cEntry dEntry (TEntry.mk ([a2.f1]) 1)) (And.intro (cache_Lookup.spec e_7) (And.intro (erasureref30_Lookup.spec e_9) (And.intro (le_one 24 3 cValue dValue a2.f1) (And.intro (cache_Valid.spec e_11) (And.intro (erasureref30_Valid.spec e_13) (And.intro g_14 (And.intro g_15 (And.intro (erasureref30_Same.spec e_17) (And.intro g_18 (And.intro (erasureref26_SameBag.spec e_20) (And.intro g_21 (And.intro (cache_Refill.spec e_23) (And.intro (erasureref30_Refill.spec e_25) (And.intro (erasureref30_Same.spec e_27) (nt g_28))))))))))))))))))))
          · obtain rfl := Option.some.inj h
            exact RunC.out [.n 4, .r [(1, .call (.p (.bool y_1)) []), (2, .dec false)], .n 3, .r [(2, .obj (oL true 24 3 cValue dValue [a2.f1])), (4, .obj (oL true 36 2 cEntry dEntry [(TEntry.mk ([a2.f1]) 1)]))], .n 1, .r [(7, .call (.tup [.sref 0 46 5 (y_6.1).length, .sref 1 36 2 (y_6.2.1).length, .p (.int .i64 y_6.2.2)]) [(oL true 46 5 cCached dCached y_6.1), (oL true 36 2 cEntry dEntry y_6.2.1)])], .n 1, .r [(7, .call (.tup [.sref 0 46 5 (y_8.1).length, .p (eL 2 cEntry dEntry y_8.2.1), .p (.int .i64 y_8.2.2)]) [(oL true 46 5 cCached dCached y_8.1)])], .n 1, .r [(2, .obj (oL true 24 3 cValue dValue [a2.f1]))], .n 1, .r [(1, .call (.p (.bool y_10)) []), (3, .call (.p (.bool y_12)) []), (5, .dec true), (10, .dec true), (13, .call (.p (.bool y_16)) []), (15, .dec true), (18, .call (.p (.bool y_19)) []), (20, .dec false)]] (by kernel_rfl) (Obs.of (by kernel_rfl) (And.intro (erasurelaw30_small.spec e_2) (And.intro (nt g_3) (And.intro (le_one 24 3 cValue dValue a2.f1) (And.intro (le_one 36 2 cEntry dEntry (TEntry.mk ([a2.f1]) 1)) (And.intro (cache_Lookup.spec e_7) (And.intro (erasureref30_Lookup.spec e_9) (And.intro (le_one 24 3 cValue dValue a2.f1) (And.intro (cache_Valid.spec e_11) (And.intro (erasureref30_Valid.spec e_13) (And.intro g_14 (And.intro g_15 (And.intro (erasureref30_Same.spec e_17) (And.intro g_18 (And.intro (erasureref26_SameBag.spec e_20) (nt g_21))))))))))))))))
        · obtain rfl := Option.some.inj h
          exact RunC.out [.n 4, .r [(1, .call (.p (.bool y_1)) []), (2, .dec false)], .n 3, .r [(2, .obj (oL true 24 3 cValue dValue [a2.f1])), (4, .obj (oL true 36 2 cEntry dEntry [(TEntry.mk ([a2.f1]) 1)]))], .n 1, .r [(7, .call (.tup [.sref 0 46 5 (y_6.1).length, .sref 1 36 2 (y_6.2.1).length, .p (.int .i64 y_6.2.2)]) [(oL true 46 5 cCached dCached y_6.1), (oL true 36 2 cEntry dEntry y_6.2.1)])], .n 1, .r [(7, .call (.tup [.sref 0 46 5 (y_8.1).length, .p (eL 2 cEntry dEntry y_8.2.1), .p (.int .i64 y_8.2.2)]) [(oL true 46 5 cCached dCached y_8.1)])], .n 1, .r [(2, .obj (oL true 24 3 cValue dValue [a2.f1]))], .n 1, .r [(1, .call (.p (.bool y_10)) []), (3, .call (.p (.bool y_12)) []), (5, .dec true), (10, .dec true), (13, .call (.p (.bool y_16)) []), (15, .dec false)]] (by kernel_rfl) (Obs.of (by kernel_rfl) (And.intro (erasurelaw30_small.spec e_2) (And.intro (nt g_3) (And.intro (le_one 24 3 cValue dValue a2.f1) (And.intro (le_one 36 2 cEntry dEntry (TEntry.mk ([a2.f1]) 1)) (And.intro (cache_Lookup.spec e_7) (And.intro (erasureref30_Lookup.spec e_9) (And.intro (le_one 24 3 cValue dValue a2.f1) (And.intro (cache_Valid.spec e_11) (And.intro (erasureref30_Valid.spec e_13) (And.intro g_14 (And.intro g_15 (And.intro (erasureref30_Same.spec e_17) (nt g_18))))))))))))))
      · obtain rfl := Option.some.inj h
        exact RunC.out [.n 4, .r [(1, .call (.p (.bool y_1)) []), (2, .dec false)], .n 3, .r [(2, .obj (oL true 24 3 cValue dValue [a2.f1])), (4, .obj (oL true 36 2 cEntry dEntry [(TEntry.mk ([a2.f1]) 1)]))], .n 1, .r [(7, .call (.tup [.sref 0 46 5 (y_6.1).length, .sref 1 36 2 (y_6.2.1).length, .p (.int .i64 y_6.2.2)]) [(oL true 46 5 cCached dCached y_6.1), (oL true 36 2 cEntry dEntry y_6.2.1)])], .n 1, .r [(7, .call (.tup [.sref 0 46 5 (y_8.1).length, .p (eL 2 cEntry dEntry y_8.2.1), .p (.int .i64 y_8.2.2)]) [(oL true 46 5 cCached dCached y_8.1)])], .n 1, .r [(2, .obj (oL true 24 3 cValue dValue [a2.f1]))], .n 1, .r [(1, .call (.p (.bool y_10)) []), (3, .call (.p (.bool y_12)) []), (5, .dec true), (10, .dec false)]] (by kernel_rfl) (Obs.of (by kernel_rfl) (And.intro (erasurelaw30_small.spec e_2) (And.intro (nt g_3) (And.intro (le_one 24 3 cValue dValue a2.f1) (And.intro (le_one 36 2 cEntry dEntry (TEntry.mk ([a2.f1]) 1)) (And.intro (cache_Lookup.spec e_7) (And.intro (erasureref30_Lookup.spec e_9) (And.intro (le_one 24 3 cValue dValue a2.f1) (And.intro (cache_Valid.spec e_11) (And.intro (erasureref30_Valid.spec e_13) (And.intro g_14 (nt g_15))))))))))))
    · obtain rfl := Option.some.inj h
      exact RunC.out [.n 4, .r [(1, .call (.p (.bool y_1)) []), (2, .dec false)], .n 3, .r [(2, .obj (oL true 24 3 cValue dValue [a2.f1])), (4, .obj (oL true 36 2 cEntry dEntry [(TEntry.mk ([a2.f1]) 1)]))], .n 1, .r [(7, .call (.tup [.sref 0 46 5 (y_6.1).length, .sref 1 36 2 (y_6.2.1).length, .p (.int .i64 y_6.2.2)]) [(oL true 46 5 cCached dCached y_6.1), (oL true 36 2 cEntry dEntry y_6.2.1)])], .n 1, .r [(7, .call (.tup [.sref 0 46 5 (y_8.1).length, .p (eL 2 cEntry dEntry y_8.2.1), .p (.int .i64 y_8.2.2)]) [(oL true 46 5 cCached dCached y_8.1)])], .n 1, .r [(2, .obj (oL true 24 3 cValue dValue [a2.f1]))], .n 1, .r [(1, .call (.p (.bool y_10)) []), (3, .call (.p (.bool y_12)) []), (5, .dec false)]] (by kernel_rfl) (Obs.of (by kernel_rfl) (And.intro (erasurelaw30_small.spec e_2) (And.intro (nt g_3) (And.intro (le_one 24 3 cValue dValue a2.f1) (And.intro (le_one 36 2 cEntry dEntry (TEntry.mk ([a2.f1]) 1)) (And.intro (cache_Lookup.spec e_7) (And.intro (erasureref30_Lookup.spec e_9) (And.intro (le_one 24 3 cValue dValue a2.f1) (And.intro (cache_Valid.spec e_11) (And.intro (erasureref30_Valid.spec e_13) (nt g_14)))))))))))
theorem erasurelaw30_CacheRaw.mono   : ∀ (k k' : Nat) (c0 : TCache) (s1 : (List TCached)) (a2 : TAct) (r : Bool), k ≤ k' → erasurelaw30_CacheRaw k c0 s1 a2 = some r → erasurelaw30_CacheRaw k' c0 s1 a2 = some r := by
  intro k k' c0 s1 a2 r hk h
  unfold erasurelaw30_CacheRaw at h ⊢
  obtain ⟨y_1, e_2, h⟩ := bind_or h
  refine bnd (erasurelaw30_small.mono _ _ _ _ hk e_2) ?_
  rcases ite_or h with ⟨g_3, h⟩ | ⟨g_3, h⟩
  · refine itp g_3 ?_
    obtain ⟨y_4, e_5, h⟩ := bind_or h
    refine bnd (erasurelaw30_awake.mono _ _  _ hk e_5) ?_
    exact h
  · refine itn g_3 ?_
    obtain ⟨y_6, e_7, h⟩ := bind_or h
    refine bnd (cache_Lookup.mono _ _ _ _ _ _ _ _ hk e_7) ?_
    obtain ⟨y_8, e_9, h⟩ := bind_or h
    refine bnd (erasureref30_Lookup.mono _ _ _ _ _ _ _ _ hk e_9) ?_
    obtain ⟨y_10, e_11, h⟩ := bind_or h
    refine bnd (cache_Valid.mono _ _ _ _ hk e_11) ?_
    obtain ⟨y_12, e_13, h⟩ := bind_or h
    refine bnd (erasureref30_Valid.mono _ _ _ _ hk e_13) ?_
    rcases ite_or h with ⟨g_14, h⟩ | ⟨g_14, h⟩
    · refine itp g_14 ?_
      rcases ite_or h with ⟨g_15, h⟩ | ⟨g_15, h⟩
      · refine itp g_15 ?_
        obtain ⟨y_16, e_17, h⟩ := bind_or h
        refine bnd (erasureref30_Same.mono _ _ _ _ _ hk e_17) ?_
        rcases ite_or h with ⟨g_18, h⟩ | ⟨g_18, h⟩
        · refine itp g_18 ?_
          obtain ⟨y_19, e_20, h⟩ := bind_or h
          refine bnd (erasureref26_SameBag.mono _ _ _ _ _ hk e_20) ?_
          rcases ite_or h with ⟨g_21, h⟩ | ⟨g_21, h⟩
          · refine itp g_21 ?_
            obtain ⟨y_22, e_23, h⟩ := bind_or h
            refine bnd (cache_Refill.mono _ _ _ _ _ _ _ hk e_23) ?_
            obtain ⟨y_24, e_25, h⟩ := bind_or h
            refine bnd (erasureref30_Refill.mono _ _ _ _ _ _ _ hk e_25) ?_
            obtain ⟨y_26, e_27, h⟩ := bind_or h
            refine bnd (erasureref30_Same.mono _ _ _ _ _ hk e_27) ?_
            rcases ite_or h with ⟨g_28, h⟩ | ⟨g_28, h⟩
            · refine itp g_28 ?_
              obtain ⟨y_29, e_30, h⟩ := bind_or h
              refine bnd (cache_Purge.mono _ _ _ _ _ hk e_30) ?_
              obtain ⟨y_31, e_32, h⟩ := bind_or h
              refine bnd (erasureref30_Purge.mono _ _ _ _ _ hk e_32) ?_
              obtain ⟨y_33, e_34, h⟩ := bind_or h
              refine bnd (erasureref30_Same.mono _ _ _ _ _ hk e_34) ?_
              rcases ite_or h with ⟨g_35, h⟩ | ⟨g_35, h⟩
              · refine itp g_35 ?_
                obtain ⟨y_36, e_37, h⟩ := bind_or h
                refine bnd (cache_Expire.mono _ _ _ _ _ _ hk e_37) ?_
                obtain ⟨y_38, e_39, h⟩ := bind_or h
                refine bnd (erasureref30_Expire.mono _ _ _ _ _ _ hk e_39) ?_
                obtain ⟨y_40, e_41, h⟩ := bind_or h
                refine bnd (erasureref30_Same.mono _ _ _ _ _ hk e_41) ?_
                rcases ite_or h with ⟨g_42, h⟩ | ⟨g_42, h⟩
                · refine itp g_42 ?_
                  obtain ⟨y_43, e_44, h⟩ := bind_or h
                  refine bnd (cache_Fresh.mono _ _ _ _ _ _ hk e_44) ?_
                  obtain ⟨y_45, e_46, h⟩ := bind_or h
                  refine bnd (erasureref30_Fresh.mono _ _ _ _ _ _ hk e_46) ?_
                  rcases ite_or h with ⟨g_47, h⟩ | ⟨g_47, h⟩
                  · refine itp g_47 ?_
                    obtain ⟨y_48, e_49, h⟩ := bind_or h
                    refine bnd (erasurelaw30_awake.mono _ _  _ hk e_49) ?_
                    exact h
                  · refine itn g_47 ?_
                    exact h
                · refine itn g_42 ?_
                  exact h
              · refine itn g_35 ?_
                exact h
            · refine itn g_28 ?_
              exact h
          · refine itn g_21 ?_
            exact h
        · refine itn g_18 ?_
          exact h
      · refine itn g_15 ?_
        exact h
    · refine itn g_14 ?_
      exact h
theorem erasurelaw30_CacheRaw.spec {k : Nat} {c0 : TCache} {s1 : (List TCached)} {a2 : TAct} {r : Bool} (h : erasurelaw30_CacheRaw k c0 s1 a2 = some r) : Spec Try.prog 7 [.agg ((cCache c0).map .p), .p (eL 5 cCached dCached s1), .agg ((cAct a2).map .p)] (.p (.bool r)) [] :=
  spec_of mix Try.func7 (body := bodyOf Try.f7) (by kernel_rfl) (by kernel_rfl) (erasurelaw30_CacheRaw.run h)
end Go.Proofs.YtjhnpaenhdbhpabV
set_option linter.unusedVariables false
set_option linter.unusedSimpArgs false
set_option linter.constructorNameAsVariable false
namespace Go.Proofs.YtjhnpaenhdbhpabV
open Go Go.RowKit
open Go.Shelf Go.Lib Go.Sort
abbrev SE {β : Type} (F : Nat → Prop) (w : World) (sz : Nat) (c : β → List AV) (xs : List β) :=
  { p : List Value × β // p.1.length = sz ∧ (∀ v ∈ p.1, v.oneCell' = true) ∧ (∀ j, j < sz → ∃ v, p.1[j]? = some v ∧ Rep F w ((c p.2).getD j .u) v) ∧ p.2 ∈ xs }
theorem mk_elems {β : Type} {F : Nat → Prop} {w : World} {sz : Nat} {c : β → List AV} (d : β) {xs : List β} : ∀ (zs : List β) (cells : List Value), (∀ x ∈ zs, x ∈ xs) → cells.length = zs.length * sz → (∀ v ∈ cells, v.oneCell' = true) →
    (∀ i, i < zs.length → ∀ j, j < sz → ∃ v, cells[i * sz + j]? = some v ∧ Rep F w ((c (zs.getD i d)).getD j .u) v) → ∃ D : List (SE F w sz c xs), D.map (·.1.2) = zs ∧ D.flatMap (·.1.1) = cells
  | [], cells, _, hl, _, _ => ⟨[], rfl, by simp at hl; simp [hl]⟩
  | z :: zs, cells, hm, hl, h1, hr => by
    have hl' : cells.length = zs.length * sz + sz := by rw [hl, List.length_cons, Nat.add_mul, Nat.one_mul]
    obtain ⟨D, hD1, hD2⟩ := mk_elems (F := F) (w := w) (sz := sz) (c := c) d (xs := xs) zs (cells.drop sz) (fun x hx => hm x (List.mem_cons_of_mem _ hx)) (by rw [List.length_drop]; omega) (fun v hv => h1 v (List.mem_of_mem_drop hv))
      (fun i hi j hj => by
        obtain ⟨v, g1, g2⟩ := hr (i + 1) (by simpa using hi) j hj
        refine ⟨v, ?_, by simpa using g2⟩
        rw [List.getElem?_drop, show sz + (i * sz + j) = (i + 1) * sz + j from by rw [Nat.add_mul, Nat.one_mul]; omega]
        exact g1)
    refine ⟨⟨(cells.take sz, z), by rw [List.length_take]; omega, fun v hv => h1 v (List.mem_of_mem_take hv), fun j hj => ?_, hm z (List.mem_cons_self ..)⟩ :: D, by simp [hD1], by simp [hD2]⟩
    obtain ⟨v, g1, g2⟩ := hr 0 (by simp) j hj
    refine ⟨v, ?_, by simpa using g2⟩
    rw [List.getElem?_take, if_pos hj]
    simpa using g1
theorem get_flat {α : Type} {sz : Nat} {f : α → List Value} (hs : ∀ x, (f x).length = sz) : ∀ (D : List α) (i j : Nat), j < sz → (h : i < D.length) → (D.flatMap f)[i * sz + j]? = (f D[i])[j]?
  | [], i, j, _, h => by simp at h
  | x :: D, i, j, hj, h => by
    cases i with
    | zero => simp [List.getElem?_append, hs, hj]
    | succ i =>
      rw [List.flatMap_cons, List.getElem?_append_right (by rw [hs, Nat.add_mul]; omega), hs, show (i + 1) * sz + j - sz = i * sz + j from by rw [Nat.add_mul, Nat.one_mul]; omega]
      have := get_flat hs D i j hj (by simpa using h)
      simpa using this
theorem len_flat {α : Type} {sz : Nat} {f : α → List Value} (hs : ∀ x, (f x).length = sz) : ∀ (D : List α), (D.flatMap f).length = D.length * sz
  | [] => by simp
  | x :: D => by rw [List.flatMap_cons, List.length_append, hs, len_flat hs D, List.length_cons, Nat.add_mul, Nat.one_mul, Nat.add_comm]
theorem flatK_list {α : Type} [Inhabited α] {sz : Nat} {f : α → List Value} (hs : ∀ x, (f x).length = sz) (h0 : 0 < sz) (D : Array α) : flatK f sz D = (D.toList.flatMap f).toArray := by
  have hsz : (flatK f sz D).size = D.size * sz := by simp [flatK]
  apply Array.ext_getElem?
  intro t
  by_cases ht : t < D.size * sz
  · have hi : t / sz < D.size := (Nat.div_lt_iff_lt_mul h0).2 ht
    have hj : t % sz < sz := Nat.mod_lt _ h0
    have e : t / sz * sz + t % sz = t := by rw [Nat.mul_comm]; exact Nat.div_add_mod t sz
    have := get_flat hs D.toList (t / sz) (t % sz) hj (by simpa using hi)
    rw [e] at this
    rw [show ((D.toList.flatMap f).toArray)[t]? = (D.toList.flatMap f)[t]? from by simp, this]
    have hlen : t % sz < (f D[t / sz]).length := by rw [hs]; exact hj
    simp [flatK, ht, hi, hlen]
  · rw [Array.getElem?_eq_none (by omega), Array.getElem?_eq_none (by rw [List.size_toArray, len_flat hs]; simpa using Nat.not_lt.1 ht)]
structure Laid (w w' : World) (blk : Nat) (e : TypeId) (cur : Array Value) (cells : List Value) : Prop where
  os : w'.os = w.os
  tape : w'.tape = w.tape
  output : w'.output = w.output
  drawn : w.drawn ≤ w'.drawn
  size : w.heap.size ≤ w'.heap.size
  other : ∀ b, b < w.heap.size → b ≠ blk → w'.heap[b]? = w.heap[b]?
  row : w'.heap[blk]? = some (.cells (cells ++ cur.toList.drop cells.length).toArray e (0, 0))
theorem putCells_list (d : Array Value) (cur : Array Value) (h : d.size ≤ cur.size) : putCells id 0 d cur = (d.toList ++ cur.toList.drop d.size).toArray := by
  apply Array.ext_getElem?
  intro t
  simp only [putCells, Array.getElem?_mapIdx, List.getElem?_toArray, List.getElem?_append, Array.length_toList, List.getElem?_drop, Array.getElem?_toList, Nat.zero_le, true_and, Nat.zero_add, Nat.sub_zero, id]
  by_cases ht : t < d.size
  · rw [if_pos ht, Array.getElem?_eq_getElem (by omega), Array.getElem?_eq_getElem ht]
    simp [ht]
  · rw [if_neg ht, show d.size + (t - d.size) = t from by omega]
    cases cur[t]? with
    | none => rfl
    | some x => simp [ht]
theorem laid_sortK {α : Type} [Inhabited α] {f : α → List Value} {sz : Nat} (hs : ∀ x, (f x).length = sz) (h0 : 0 < sz) {w : World} {blk : Nat} {e : TypeId} {cur : Array Value} (hb : w.heap[blk]? = some (.cells cur e (0, 0))) {D : Array α} (hD : D.size * sz ≤ cur.size) (n : Nat) (os : Array Obj) :
    Laid w (sortWorldK f sz w blk 0 n D os) blk e cur (D.toList.flatMap f) := by
  have hlt := (Array.getElem?_eq_some_iff.1 hb).1
  refine ⟨rfl, rfl, rfl, Nat.le_add_right _ _, by simp [sortWorldK, grow, putRowK, putRow, mapBlock, Sort.ahead], fun b hb' hne => ?_, ?_⟩
  · unfold sortWorldK
    rw [heap_grow_old _ _ (by simpa [putRowK, putRow, mapBlock, Sort.ahead] using hb')]
    simp [putRowK, putRow, mapBlock, Sort.ahead, Array.getElem?_modify, Ne.symm hne]
  · unfold sortWorldK
    rw [heap_grow_old _ _ (by simpa [putRowK, putRow, mapBlock, Sort.ahead] using hlt)]
    simp only [putRowK, putRow, mapBlock, Sort.ahead, Array.getElem?_modify, if_true, hb, Option.map_some]
    rw [flatK_list hs h0]
    show some (Obj.cells (putCells id 0 _ cur) e (0, 0)) = _
    rw [putCells_list _ _ (by simpa [len_flat hs] using hD)]
    simp
theorem sorted_one {α β : Type} [Inhabited α] (p : α → β) (cf : β → β → Int) {xs ys : List β} (hT : ∀ x ∈ xs, ∀ y ∈ xs, ¬ cf y x < 0 → ¬ cf x y < 0 → x = y) (hy : ys.Perm xs) (hs : ys.Pairwise fun a b => ¬ cf b a < 0)
    {D D' : Array α} (hx : D.toList.map p = xs) (hP : PermIn 0 D.size D D') (hS : SortedIn (ltOf fun x y => cf (p x) (p y)) 0 D.size D') : D'.toList.map p = ys := by
  obtain ⟨hsz, _, hperm⟩ := hP
  have e1 : D'.extract 0 D.size = D' := by rw [← hsz]; exact Array.extract_size
  rw [e1, Array.extract_size] at hperm
  have hp2 : (D'.toList.map p).Perm xs := by rw [← hx]; exact hperm.map p
  refine List.Perm.eq_of_pairwise (le := fun a b => ¬ cf b a < 0) ?_ ?_ hs (hp2.trans hy.symm)
  · intro a b ha hb h1 h2
    exact hT a (hp2.mem_iff.1 ha) b (hy.mem_iff.1 hb) h1 h2
  · rw [List.pairwise_iff_getElem]
    intro i j hi hj hij
    have hi' : i < D'.size := by simpa using hi
    have hj' : j < D'.size := by simpa using hj
    have := hS i j (Nat.zero_le _) hij (by omega)
    rw [getElem!_pos D' j hj', getElem!_pos D' i hi'] at this
    simp only [ltOf, decide_eq_false_iff_not] at this
    simpa using this
theorem sort_end {β : Type} {E : En} {F : Nat → Prop} {w w' : World} {κ : Nat → Value} {sz : Nat} (e : TypeId) (c : β → List AV) (d : β) {xs ys : List β} {bk cap : Nat} {cur : Array Value} (h0 : 0 < sz) (hI : Inv E ⟨F, w, κ, [oL true e sz c d xs]⟩) (hκ : κ 0 = .slice (some ⟨bk, 0, none⟩) xs.length cap)
    (hcap : xs.length ≤ cap ∧ cap ≤ maxLen ∧ cur.size = cap * sz) {D' : List (SE F w sz c xs)} (hD : D'.map (·.1.2) = ys) (hlen : ys.length = xs.length) (hL : Laid w w' bk e cur (D'.flatMap (·.1.1))) :
    Inv E ⟨F, w', κ, [oL true e sz c d ys]⟩ ∧ RelV ⟨F, w', κ, [oL true e sz c d ys]⟩ (.sref 0 e sz ys.length) (κ 0) := by
  have hDl : D'.length = xs.length := by rw [← hlen, ← hD]; simp
  have hfl : (D'.flatMap (·.1.1)).length = xs.length * sz := by rw [len_flat (fun x => x.2.1), hDl]
  have hblk : blk (κ 0) = some bk := by rw [hκ]; rfl
  have hc : Chg (fun b => blk (κ 0) = some b) w w' := ⟨hL.os, hL.tape, hL.output, hL.drawn, hL.size, fun b hb hn => hL.other b hb (fun e => hn (by rw [e]; exact hblk))⟩
  have hmut : (look [oL true e sz c d xs] 0).mut = true := rfl
  obtain ⟨i1, l1⟩ := hI.put (w' := w') (id := 0) (o := oL true e sz c d ys) hmut hc (.inr ⟨rfl, by rw [← hlen]; exact ⟨true, _, rfl⟩⟩) (fun hle => by
    refine ⟨h0, D'.flatMap (·.1.1), ⟨by rw [hfl, hlen], .inr ⟨bk, cap, _, by rw [hlen]; exact hκ, Nat.zero_le _, hL.row, by omega, hcap.2.1, ?_, ?_⟩⟩, fun i hi j hj => ?_, fun u hu => ?_, fun b hb => ⟨fun _ => ?_, fun h => by simp at h⟩⟩
    · have := Nat.mul_le_mul_right sz hcap.1
      have e1 : (D'.flatMap (·.1.1) ++ cur.toList.drop (D'.flatMap (·.1.1)).length).length = cap * sz := by
        have hcs : cur.toList.length = cap * sz := by simpa using hcap.2.2
        rw [List.length_append, List.length_drop, hfl, hcs]
        omega
      exact e1
    · rw [hlen]
      show List.take _ (_ ++ _) = _
      rw [← hfl]
      exact List.take_left
    · have hi' : i < D'.length := by omega
      obtain ⟨v, g1, g2⟩ := (D'[i]).2.2.2.1 j hj
      refine ⟨v, by rw [get_flat (fun x => x.2.1) D' i j hj hi']; exact g1, ?_⟩
      have e2 : ys.getD i d = (D'[i]).1.2 := by
        have : ys[i]? = some (D'[i]).1.2 := by rw [← hD]; simp [hi']
        simp [List.getD_eq_getElem?_getD, this]
      show Rep F w' ((c (ys.getD i d)).getD j .u) v
      rw [e2]
      exact Rep.mono hle.F hle.w _ _ g2
    · obtain ⟨x, hx, hu⟩ := List.mem_flatMap.1 hu
      exact x.2.2.1 u hu
    · exact hI.notF (i := 0) hmut b hb)
  refine ⟨i1, ?_⟩
  simp only [RelV]
  exact ⟨⟨_, _, by rw [hlen]; exact hκ, .inr ⟨_, rfl⟩⟩, rfl, rfl, rfl, rfl⟩
structure CmpOK {β : Type} (cf : β → β → Int) (xs : List β) : Prop where
  irrefl : ∀ x ∈ xs, ¬ cf x x < 0
  trans : ∀ x ∈ xs, ∀ y ∈ xs, ∀ z ∈ xs, cf x y < 0 → cf y z < 0 → cf x z < 0
  ntrans : ∀ x ∈ xs, ∀ y ∈ xs, ∀ z ∈ xs, ¬ cf x y < 0 → ¬ cf y z < 0 → ¬ cf x z < 0
  anti : ∀ x ∈ xs, ∀ y ∈ xs, ¬ cf y x < 0 → ¬ cf x y < 0 → x = y
theorem grow_of_chg {W w' : World} (h : Chg (fun _ => False) W w') : ∃ q os', w' = grow (W.drewN q) os' := by
  refine ⟨w'.drawn - W.drawn, w'.heap.extract W.heap.size w'.heap.size, ?_⟩
  have hh : w'.heap = W.heap ++ w'.heap.extract W.heap.size w'.heap.size := by
    apply Array.ext_getElem?
    intro b
    by_cases hb : b < W.heap.size
    · rw [Array.getElem?_append_left hb]
      exact h.block b hb (fun h => h)
    · rw [Array.getElem?_append_right (by omega), Array.getElem?_extract]
      rw [show W.heap.size + (b - W.heap.size) = b from by omega]
      by_cases hb2 : b < w'.heap.size
      · rw [if_pos (by omega)]
      · rw [if_neg (by omega), Array.getElem?_eq_none (by omega)]
  have hd := h.drawn
  cases w'
  cases W
  simp only [grow, World.drewN] at *
  have e1 := h.os; have e2 := h.tape; have e3 := h.output
  simp only at e1 e2 e3 hh hd
  subst e1 e2 e3
  simp only [World.mk.injEq, true_and]
  exact ⟨hh, by omega, trivial⟩
theorem sort_args {β : Type} {c : β → List AV} {d : β} {e sz g : Nat} {xs : List β} {F : Nat → Prop} {w : World} {κ : Nat → Value} {vs : Array Value} (hv : RelVs ⟨F, w, κ, [oL true e sz c d xs]⟩ [.sref 0 e sz xs.length, .fn g []] vs.toList) :
    vs = #[κ 0, .func (.func g) #[] #[]] := by
  simp only [RelVs, RelV] at hv
  obtain ⟨v, l1, hvs, ⟨_, hv2⟩, fv, l2, hvs2, ⟨us, hfv, hus⟩, hnil⟩ := hv
  subst hnil hvs2
  have hv3 : v = κ 0 := hv2.2.2.2
  have hus' : us = #[] := Array.toList_inj.1 (by simpa using hus)
  subst hus'
  rw [hv3, hfv] at hvs
  exact Array.toList_inj.1 (by simpa using hvs)
theorem sort_cmp {β : Type} {P : Program} {g sz : Nat} {c : β → List AV} {cf : β → β → Int} {xs : List β} {F : Nat → Prop} {w W : World} (hFW : ∀ b, F b → W.heap[b]? = w.heap[b]?) (hlt : ∀ b, F b → b < W.heap.size) (x y : SE F w sz c xs) {args : List FV} {vs : Array Value} (κ : Nat → Value)
    (hspec : Spec P g args (.p (.int .i64 (cf x.1.2 y.1.2))) []) (hargs : RelVs ⟨F, W, κ, []⟩ args vs.toList) :
    Calls P g vs W fun e w' => e = .returned (.int .i64 (cf x.1.2 y.1.2)) ∧ ∃ q os', w' = grow (W.drewN q) os' := by
  refine (hspec W F κ vs hlt hargs).mono fun e w' ⟨v, F', κ', he, hI, hr⟩ => ?_
  simp only [RelV, Rep] at hr
  exact ⟨by rw [he, hr], grow_of_chg hI.chg⟩
theorem se_agg {β : Type} {sz : Nat} {c : β → List AV} (hc : ∀ x, (c x).length = sz) {xs : List β} {F : Nat → Prop} {w W : World} (hFW : ∀ b, F b → W.heap[b]? = w.heap[b]?) (x : SE F w sz c xs) (κ : Nat → Value) : RelV ⟨F, W, κ, []⟩ (.agg ((c x.1.2).map .p)) (.agg x.1.1.toArray) := by
  simp only [RelV]
  refine ⟨_, rfl, RelVs.of_get (by simp [hc, x.2.1]) fun i v hv hi => ?_⟩
  have hi' : i < sz := by rw [List.length_map, hc] at hi; exact hi
  obtain ⟨u, h1, h2⟩ := x.2.2.2.1 i hi'
  have : u = v := by
    have hv' : x.1.1[i]? = some v := by simpa using hv
    rw [h1] at hv'
    exact Option.some.inj hv'
  subst this
  have he : ((c x.1.2).map FV.p)[i] = .p ((c x.1.2).getD i .u) := by
    rw [List.getElem_map, List.getD_eq_getElem?_getD, List.getElem?_eq_getElem (by rw [hc]; exact hi')]
    rfl
  rw [he]
  simp only [RelV]
  exact Rep.mono (fun _ h => h) hFW _ _ h2
theorem swo_of {α β : Type} (p : α → β) {cf : β → β → Int} {xs : List β} (h : CmpOK cf xs) (hp : ∀ a, p a ∈ xs) : SWO (ltOf fun x y : α => cf (p x) (p y)) where
  irrefl x := by simpa [ltOf] using h.irrefl _ (hp x)
  trans x y z h1 h2 := by
    simp only [ltOf, decide_eq_true_eq] at *
    exact h.trans _ (hp x) _ (hp y) _ (hp z) h1 h2
  ntrans x y z h1 h2 := by
    simp only [ltOf, decide_eq_false_iff_not] at *
    exact h.ntrans _ (hp x) _ (hp y) _ (hp z) h1 h2
set_option maxHeartbeats 1000000 in
theorem sortK_specX {β : Type} {P : Program} {ρ : Ren} (L : SlLaysF0.n6 P ρ) {sz : Nat} (h0 : 0 < sz) (aE : ∀ w, (isAgg (ρ.t 24)).run P w = .ok true w) (zE : ∀ w, (Go.sizeOf (ρ.t 24)).run P w = .ok sz w) (e : TypeId) (c : β → List AV) (d : β) (hc : ∀ x, (c x).length = sz) {g : Nat}
    (eg : ∀ args w, (callFunc g args).run P w = .ok (.enter g args) w) (cf : β → β → Int) {xs ys : List β} (hspec : ∀ x ∈ xs, ∀ y ∈ xs, Spec P g [.agg ((c x).map .p), .agg ((c y).map .p)] (.p (.int .i64 (cf x y))) []) (hO : CmpOK cf xs) (hy : ys.Perm xs)
    (hs : ys.Pairwise fun a b => ¬ cf b a < 0) (hsz : xs.length < 4611686018427387904) :
    SpecX P (ρ.f 6) [.sref 0 e sz xs.length, .fn g []] [oL true e sz c d xs] [0] 0 (.sref 0 e sz ys.length) [oL true e sz c d ys] := by
  intro E w F κ vs hI hv
  obtain rfl := sort_args hv
  have hlen := hy.length_eq
  have hobj : RelO ⟨F, w, κ, [oL true e sz c d xs]⟩ (κ 0) (oL true e sz c d xs) := hI.objs 0
  obtain ⟨_, cells, hown, hrep, hone, hF⟩ := hobj
  rcases hown.2 with ⟨hk, hn⟩ | ⟨bk, cap, cur, hk, _, hb, hnc, hcm, hcs, ht⟩
  · have hx : xs = [] := List.eq_nil_of_length_eq_zero hn
    subst hx
    have hy' : ys = [] := List.eq_nil_of_length_eq_zero (by simpa using hlen)
    subst hy'
    have hcall := AnyF.slices_SortFunc_none L none 0 (.func (.func g) #[] #[]) w
    rw [hk]
    refine hcall.mono fun ex w' ⟨he, hw⟩ => ?_
    subst hw
    refine ⟨[], F, κ, rfl, he, hI, ?_⟩
    show RelV _ _ (.slice none 0 0)
    simp only [RelV]
    exact ⟨⟨none, 0, rfl, .inl rfl⟩, rfl, rfl, rfl, hk.symm⟩
  · obtain ⟨D, hD1, hD2⟩ := mk_elems (F := F) (w := w) (sz := sz) (c := c) d (xs := xs) xs cells (fun _ h => h) hown.1 hone hrep
    have hDl : D.length = xs.length := by have := congrArg List.length hD1; simpa using this
    have hmut : (look [oL true e sz c d xs] 0).mut = true := rfl
    have hblk : blk (κ 0) = some bk := by rw [hk]; rfl
    have hbF : ¬ F bk := hI.notF (i := 0) hmut bk hblk
    have hlt : bk < w.heap.size := (Array.getElem?_eq_some_iff.1 hb).1
    rcases hxn : xs with _ | ⟨x0, xs'⟩
    ·
      have hx : xs.length = 0 := by rw [hxn]; rfl
      subst hxn
      have hy' : ys = [] := List.eq_nil_of_length_eq_zero (by simpa using hlen)
      subst hy'
      have hcall := AnyF.slices_SortFunc_none L (some ⟨bk, 0, none⟩) cap (.func (.func g) #[] #[]) w
      rw [hk]
      refine hcall.mono fun ex w' ⟨he, hw⟩ => ?_
      subst hw
      refine ⟨[], F, κ, rfl, he, hI, ?_⟩
      show RelV _ _ (.slice (some ⟨bk, 0, none⟩) 0 cap)
      simp only [RelV]
      exact ⟨⟨_, _, rfl, .inr ⟨_, rfl⟩⟩, rfl, rfl, rfl, hk.symm⟩
    · skip
      have hx0 : 0 < xs.length := by rw [hxn]; simp
      haveI : Inhabited (SE F w sz c xs) := ⟨D[0]'(by omega)⟩
      have hk1 : ∀ x : SE F w sz c xs, (x.1.1).length = sz := fun x => x.2.1
      have hfl : flatK (fun x : SE F w sz c xs => x.1.1) sz D.toArray = cells.toArray := by rw [flatK_list hk1 h0]; rw [← hD2]
      have hcl : cells.length = xs.length * sz := hown.1
      have hH : HoldsK (fun x : SE F w sz c xs => x.1.1) sz w bk 0 D.toArray := by
        unfold HoldsK
        rw [hfl]
        intro j hj
        have hj' : j < cells.length := by simpa using hj
        have e1 : cells[j]? = cur[j]? := by
          rw [← ht, List.getElem?_take, if_pos (by omega)]
          simp
        have hb' : w.heap[bk]? = some (.cells cur e (0, 0)) := hb
        refine ⟨?_, by simp [World.frozen?, hb']⟩
        rw [Nat.zero_add, cell_of_row _ bk _ cur e (0, 0) hb', ← e1]
        simp [hj']
      have hcmp : CmpLays P g #[] (fun x : SE F w sz c xs => x.1.1) sz (fun x y => cf x.1.2 y.1.2) bk 0 D.toArray.size w := by
        intro m os dk hdk x y
        have hLd := laid_sortK (f := fun x : SE F w sz c xs => x.1.1) hk1 h0 hb (D := dk) (by rw [hdk, List.size_toArray, hDl, hcs]; exact Nat.mul_le_mul_right _ hnc) m os
        generalize sortWorldK (fun x : SE F w sz c xs => x.1.1) sz w bk 0 m dk os = W at hLd
        have hFW : ∀ b, F b → W.heap[b]? = w.heap[b]? := fun b hb' => hLd.other b (hI.lt b hb') (fun e => hbF (e ▸ hb'))
        refine sort_cmp hFW (fun b hb' => Nat.lt_of_lt_of_le (hI.lt b hb') hLd.size) x y κ (hspec _ x.2.2.2.2 _ y.2.2.2.2) ?_
        show RelVs _ _ [_, _]
        simp only [RelVs]
        exact ⟨_, _, rfl, se_agg hc hFW x κ, _, _, rfl, se_agg hc hFW y κ, rfl⟩
      have hcall := AnyQ.slices_SortFunc L sz aE zE (fun x : SE F w sz c xs => x.1.1) hk1 (fun x => x.2.2.1) (fun x y => cf x.1.2 y.1.2) (swo_of (fun x : SE F w sz c xs => x.1.2) hO (fun x => x.2.2.2.2)) g #[] bk 0 cap D.toArray w eg hcmp hH hlt (by rw [List.size_toArray, hDl]; exact hsz)
      rw [List.size_toArray, hDl] at hcall
      rw [hk]
      refine hcall.mono fun ex w' ⟨he, d', n, os, hp, hso, hw⟩ => ?_
      have hsize : d'.size = xs.length := by rw [hp.1, List.size_toArray, hDl]
      have hLd := laid_sortK (f := fun x : SE F w sz c xs => x.1.1) hk1 h0 hb (D := d') (by rw [hsize, hcs]; exact Nat.mul_le_mul_right _ hnc) n os
      rw [← hw] at hLd
      have hP : PermIn 0 D.toArray.size D.toArray d' := by rw [List.size_toArray, hDl]; exact hp
      have hS : SortedIn (ltOf fun x y : SE F w sz c xs => cf x.1.2 y.1.2) 0 D.toArray.size d' := by rw [List.size_toArray, hDl]; exact hso
      have hone' := sorted_one (fun x : SE F w sz c xs => x.1.2) cf (xs := xs) (ys := ys) hO.anti hy hs (D := D.toArray) (D' := d') (by simpa using hD1) hP hS
      obtain ⟨q1, q2⟩ := sort_end (w' := w') (D' := d'.toList) e c d h0 hI hk ⟨hnc, hcm, hcs⟩ hone' hlen hLd
      refine ⟨[], F, κ, rfl, he, q1, ?_⟩
      rw [← hk]
      exact q2
end Go.Proofs.YtjhnpaenhdbhpabV
set_option linter.unusedVariables false
set_option linter.unusedSimpArgs false
set_option linter.constructorNameAsVariable false
namespace Go.Proofs.YtjhnpaenhdbhpabV
open Go Go.RowKit
structure SortedBy {β : Type} (f : Nat → β → β → Option Int) (xs ys : List β) : Prop where mk ::
  h : ∃ cf : β → β → Int, (∀ x ∈ xs, ∀ y ∈ xs, ∃ k, f k x y = some (cf x y)) ∧ CmpOK cf xs ∧ ys.Perm xs ∧ (ys.Pairwise fun a b => ¬ cf b a < 0) ∧ xs.length < 4611686018427387904
noncomputable def sortC {β : Type} (f : Nat → β → β → Option Int) (xs : List β) : Option (List β) := @dite _ (∃ ys, SortedBy f xs ys) (Classical.propDecidable _) (fun h => some (Classical.choose h)) (fun _ => none)
theorem sortC_ok {β : Type} {f : Nat → β → β → Option Int} {xs ys : List β} (h : sortC f xs = some ys) : SortedBy f xs ys := by
  unfold sortC at h
  split at h
  · rename_i hh
    injection h with h
    rw [← h]
    exact Classical.choose_spec hh
  · cases h
theorem SortedBy.one {β : Type} {f : Nat → β → β → Option Int} (hm : ∀ x y k k' r, k ≤ k' → f k x y = some r → f k' x y = some r) {xs ys zs : List β} (h1 : SortedBy f xs ys) (h2 : SortedBy f xs zs) : ys = zs := by
  obtain ⟨⟨cf, a1, a2, a3, a4, _⟩⟩ := h1
  obtain ⟨⟨cg, b1, b2, b3, b4, _⟩⟩ := h2
  have e : ∀ x ∈ xs, ∀ y ∈ xs, cf x y = cg x y := fun x hx y hy => by
    obtain ⟨k, hk⟩ := a1 x hx y hy
    obtain ⟨k', hk'⟩ := b1 x hx y hy
    have g1 := hm x y k (max k k') _ (Nat.le_max_left _ _) hk
    have g2 := hm x y k' (max k k') _ (Nat.le_max_right _ _) hk'
    rw [g1] at g2
    exact Option.some.inj g2
  refine List.Perm.eq_of_pairwise (le := fun a b => ¬ cf b a < 0) (fun a b ha hb q1 q2 => a2.anti a (a3.mem_iff.1 ha) b (b3.mem_iff.1 hb) q1 q2) a4 ?_ (a3.trans b3.symm)
  rw [List.pairwise_iff_getElem] at b4 ⊢
  intro i j hi hj hij
  have := b4 i j hi hj hij
  rw [e _ (b3.mem_iff.1 (List.getElem_mem hj)) _ (b3.mem_iff.1 (List.getElem_mem hi))]
  exact this
theorem sortK_call {β : Type} {P : Program} {ρ : Go.Shelf.Ren} (L : SlLaysF0.n6 P ρ) {n : FuncId} (hn : ρ.f 6 = n) {sz : Nat} (h0 : 0 < sz) (aE : ∀ w, (isAgg (ρ.t 24)).run P w = .ok true w) (zE : ∀ w, (Go.sizeOf (ρ.t 24)).run P w = .ok sz w) (e : TypeId) (c : β → List AV) (d : β) (hc : ∀ x, (c x).length = sz) {g : Nat}
    (eg : ∀ args w, (callFunc g args).run P w = .ok (.enter g args) w) {f : Nat → β → β → Option Int} (hsp : ∀ k x y r, f k x y = some r → Spec P g [.agg ((c x).map .p), .agg ((c y).map .p)] (.p (.int .i64 r)) []) {xs ys : List β} (h : sortC f xs = some ys) :
    SpecX P n [.sref 0 e sz xs.length, .fn g []] [oL true e sz c d xs] [0] 0 (.sref 0 e sz ys.length) [oL true e sz c d ys] := by
  obtain ⟨⟨cf, h1, h2, h3, h4, h5⟩⟩ := sortC_ok h
  subst hn
  exact sortK_specX L h0 aE zE e c d hc eg cf (fun x hx y hy => by obtain ⟨k, hk⟩ := h1 x hx y hy; exact hsp k x y _ hk) h2 h3 h4 h5
end Go.Proofs.YtjhnpaenhdbhpabV
set_option maxRecDepth 100000
namespace Go.Proofs.YtjhnpaenhdbhpabV
open Go Go.RowKit Go.Shelf
def sl53_ren : Go.Shelf.Ren := ⟨fun | 6 => 53 | 15 => 68 | 14 => 67 | 28 => 84 | 29 => 85 | 20 => 76 | 21 => 77 | 22 => 78 | 23 => 79 | 24 => 80 | 25 => 81 | 26 => 82 | 27 => 83 | 46 => 86 | 47 => 87 | 48 => 88 | 49 => 89 | 50 => 90 | 57 => 91 | n => n, fun | 22 => 33 | 24 => 24 | 25 => 70 | 3 => 3 | 39 => 43 | 0 => 0 | 53 => 98 | 55 => 100 | 4 => 4 | 46 => 91 | 45 => 90 | 50 => 95 | 5 => 5 | 9 => 9 | 66 => 101 | 70 => 105 | 76 => 107 | 77 => 108 | n => n, fun n => n⟩
theorem sl53 : SlLaysF0.n6 Try.prog sl53_ren where
  mixed := by kernel_rfl
  f6 := ⟨"slices.SortFunc[[]erasure/api.Value,erasure/api.Value]", by decide, Try.func53.trans (congrArg some (by kernel_rfl))⟩
  f14 := ⟨"slices.pdqsortCmpFunc[erasure/api.Value]", by decide, Try.func67.trans (congrArg some (by kernel_rfl))⟩
  f15 := Try.func68.trans (congrArg some (by kernel_rfl))
  f20 := ⟨"slices.insertionSortCmpFunc[erasure/api.Value]", by decide, Try.func76.trans (congrArg some (by kernel_rfl))⟩
  f21 := ⟨"slices.heapSortCmpFunc[erasure/api.Value]", by decide, Try.func77.trans (congrArg some (by kernel_rfl))⟩
  f22 := ⟨"slices.breakPatternsCmpFunc[erasure/api.Value]", by decide, Try.func78.trans (congrArg some (by kernel_rfl))⟩
  f23 := ⟨"slices.choosePivotCmpFunc[erasure/api.Value]", by decide, Try.func79.trans (congrArg some (by kernel_rfl))⟩
  f24 := ⟨"slices.reverseRangeCmpFunc[erasure/api.Value]", by decide, Try.func80.trans (congrArg some (by kernel_rfl))⟩
  f25 := ⟨"slices.partialInsertionSortCmpFunc[erasure/api.Value]", by decide, Try.func81.trans (congrArg some (by kernel_rfl))⟩
  f26 := ⟨"slices.partitionEqualCmpFunc[erasure/api.Value]", by decide, Try.func82.trans (congrArg some (by kernel_rfl))⟩
  f27 := ⟨"slices.partitionCmpFunc[erasure/api.Value]", by decide, Try.func83.trans (congrArg some (by kernel_rfl))⟩
  f28 := Try.func84.trans (congrArg some (by kernel_rfl))
  f29 := Try.func85.trans (congrArg some (by kernel_rfl))
  f46 := ⟨"slices.siftDownCmpFunc[erasure/api.Value]", by decide, Try.func86.trans (congrArg some (by kernel_rfl))⟩
  f47 := Try.func87.trans (congrArg some (by kernel_rfl))
  f48 := Try.func88.trans (congrArg some (by kernel_rfl))
  f49 := ⟨"slices.medianAdjacentCmpFunc[erasure/api.Value]", by decide, Try.func89.trans (congrArg some (by kernel_rfl))⟩
  f50 := ⟨"slices.medianCmpFunc[erasure/api.Value]", by decide, Try.func90.trans (congrArg some (by kernel_rfl))⟩
  f57 := ⟨"slices.order2CmpFunc[erasure/api.Value]", by decide, Try.func91.trans (congrArg some (by kernel_rfl))⟩
  t0 := Try.underlying0
  a0 := Try.isAgg0
  z0 := Try.sizeOf0
  v0 := Try.zeroValue0
  t3 := Try.underlying3
  a3 := Try.isAgg3
  z3 := Try.sizeOf3
  v3 := Try.zeroValue3
  t4 := Try.underlying4
  a4 := Try.isAgg4
  z4 := Try.sizeOf4
  v4 := Try.zeroValue4
  t5 := Try.underlying5
  a5 := Try.isAgg5
  z5 := Try.sizeOf5
  v5 := Try.zeroValue5
  t9 := Try.underlying9
  a9 := Try.isAgg9
  z9 := Try.sizeOf9
  v9 := Try.zeroValue9
  t22 := Try.underlying33
  a22 := Try.isAgg33
  z22 := Try.sizeOf33
  v22 := Try.zeroValue33
  t25 := Try.underlying70
  a25 := Try.isAgg70
  z25 := Try.sizeOf70
  v25 := Try.zeroValue70
  t39 := Try.underlying43
  a39 := Try.isAgg43
  z39 := Try.sizeOf43
  v39 := Try.zeroValue43
  t45 := Try.underlying90
  a45 := Try.isAgg90
  z45 := Try.sizeOf90
  v45 := Try.zeroValue90
  t46 := Try.underlying91
  a46 := Try.isAgg91
  z46 := Try.sizeOf91
  v46 := Try.zeroValue91
  t50 := Try.underlying95
  a50 := Try.isAgg95
  z50 := Try.sizeOf95
  v50 := Try.zeroValue95
  t53 := Try.underlying98
  a53 := Try.isAgg98
  z53 := Try.sizeOf98
  v53 := Try.zeroValue98
  t55 := Try.underlying100
  a55 := Try.isAgg100
  z55 := Try.sizeOf100
  v55 := Try.zeroValue100
  t66 := Try.underlying101
  a66 := Try.isAgg101
  z66 := Try.sizeOf101
  v66 := Try.zeroValue101
  t70 := Try.underlying105
  a70 := Try.isAgg105
  z70 := Try.sizeOf105
  v70 := Try.zeroValue105
  t76 := Try.underlying107
  a76 := Try.isAgg107
  z76 := Try.sizeOf107
  v76 := Try.zeroValue107
  t77 := Try.underlying108
  a77 := Try.isAgg108
  z77 := Try.sizeOf108
  v77 := Try.zeroValue108
end Go.Proofs.YtjhnpaenhdbhpabV
set_option linter.unusedVariables false
set_option linter.unusedSimpArgs false
set_option maxRecDepth 100000
namespace Go.Proofs.YtjhnpaenhdbhpabV
open Go Go.RowKit
noncomputable def cache_Touched.p2 (rec1 : Int → Int → Int → (List (TValue × Bool)) → (List TValue) → (List (List TEntry)) → Option (List TValue)) : Nat → Int → (List TEntry) → Int → Int → Int → (List (TValue × Bool)) → (List TValue) → (List (List TEntry)) → Option (List TValue)
  | 0, _, _, _, _, _, _, _, _ => none
  | k + 1, column2, l10, i11, v17, v18, seen7b, out8, v16 => if (decide (i11 < ((l10).length : Int))) = true then (if 0 ≤ i11 ∧ i11 < ((l10).length : Int) then ((cache_at k ((l10.getD i11.toNat dEntry).f0) column2).bind fun y_5 => (if (!(getM seen7b y_5 false)) = true then (if (out8).length + ([y_5]).length ≤ maxLen ∧ ((out8).length + ([y_5]).length) * 32 ≤ 140737488355328 then (cache_Touched.p2 rec1 k column2 l10 (IntKind.i64.wrap (i11 + 1)) v17 v18 (putM seen7b y_5 true) (out8 ++ ([y_5])) v16) else none) else (cache_Touched.p2 rec1 k column2 l10 (IntKind.i64.wrap (i11 + 1)) v17 v18 seen7b out8 v16))) else none) else (rec1 column2 v17 (IntKind.i64.wrap (v18 + 1)) seen7b out8 v16)
noncomputable def cache_Touched.p1  : Nat → Int → Int → Int → (List (TValue × Bool)) → (List TValue) → (List (List TEntry)) → Option (List TValue)
  | 0, _, _, _, _, _, _ => none
  | k + 1, column2, v17, v18, seen7b, out8, v16 => if (decide (v18 < v17)) = true then (if 0 ≤ v18 ∧ v18 < ((v16).length : Int) then (cache_Touched.p2 (cache_Touched.p1 k) k column2 (v16.getD v18.toNat ([] : List TEntry)) 0 v17 v18 seen7b out8 v16) else none) else ((sortC (fun k x y => value_Compare k x y) out8).bind fun y_9 => (some y_9))
noncomputable def cache_Touched  (k : Nat) (minus0 : (List TEntry)) (plus1 : (List TEntry)) (column2 : Int) : Option (List TValue) := cache_Touched.p1 k column2 (([minus0, plus1]).length : Int) 0 ([] : (List (TValue × Bool))) ([] : List TValue) ([minus0, plus1])
noncomputable def cache_Touched.t : List Item := [.code (bodyOf Try.f32)]
noncomputable def cache_Touched.s (minus0 : (List TEntry)) (plus1 : (List TEntry)) (column2 : Int) : St := ⟨frOf Try.f32.ntmps 0 [(0, .p (eL 2 cEntry dEntry minus0)), (1, .p (eL 2 cEntry dEntry plus1)), (2, .p (.int .i64 column2))], []⟩
noncomputable def cache_Touched.p1.t : List Item := nav 11 [] cache_Touched.t
noncomputable def cache_Touched.p1.s (column2 : Int) (v17 : Int) (v18 : Int) (seen7b : (List (TValue × Bool))) (out8 : (List TValue)) (v16 : (List (List TEntry))) : St := ⟨frOf Try.f32.ntmps 0 [(2, .p (.int .i64 column2)), (7, .mref 0 0), (8, .sref 1 24 3 (out8).length), (16, .sref 2 22 1 (v16).length), (17, .p (.int .i64 v17)), (18, .p (.int .i64 v18))], [.reg (.map (mE (pvT cValue) pvB seen7b)), (oL true 24 3 cValue dValue out8), (oL true 22 1 (cL 2 cEntry dEntry) ([] : List TEntry) v16)]⟩
noncomputable def cache_Touched.p2.t : List Item := nav 13 [true] cache_Touched.p1.t
noncomputable def cache_Touched.p2.s (column2 : Int) (l10 : (List TEntry)) (i11 : Int) (v17 : Int) (v18 : Int) (seen7b : (List (TValue × Bool))) (out8 : (List TValue)) (v16 : (List (List TEntry))) : St := ⟨frOf Try.f32.ntmps 0 [(2, .p (.int .i64 column2)), (7, .mref 0 0), (8, .sref 1 24 3 (out8).length), (10, .p (eL 2 cEntry dEntry l10)), (11, .p (.int .i64 i11)), (16, .sref 2 22 1 (v16).length), (17, .p (.int .i64 v17)), (18, .p (.int .i64 v18))], [.reg (.map (mE (pvT cValue) pvB seen7b)), (oL true 24 3 cValue dValue out8), (oL true 22 1 (cL 2 cEntry dEntry) ([] : List TEntry) v16)]⟩
theorem cache_Touched.p2.run {rec1 : Int → Int → Int → (List (TValue × Bool)) → (List TValue) → (List (List TEntry)) → Option (List TValue)} (hrec1 : ∀ (column2 : Int) (v17 : Int) (v18 : Int) (seen7b : (List (TValue × Bool))) (out8 : (List TValue)) (v16 : (List (List TEntry))) r, rec1 column2 v17 v18 seen7b out8 v16 = some r → RunC Try.prog Try.f32 cache_Touched.p1.t (cache_Touched.p1.s column2 v17 v18 seen7b out8 v16) (.sref 0 24 3 (r).length) [(oL true 24 3 cValue dValue (r))]) : ∀ (k : Nat) (column2 : Int) (l10 : (List TEntry)) (i11 : Int) (v17 : Int) (v18 : Int) (seen7b : (List (TValue × Bool))) (out8 : (List TValue)) (v16 : (List (List TEntry))) (r : (List TValue)), cache_Touched.p2 rec1 k column2 l10 i11 v17 v18 seen7b out8 v16 = some r → RunC Try.prog Try.f32 cache_Touched.p2.t (cache_Touched.p2.s column2 l10 i11 v17 v18 seen7b out8 v16) (.sref 0 24 3 (r).length) [(oL true 24 3 cValue dValue (r))] := by
  intro k
  induction k with
  | zero => intro column2 l10 i11 v17 v18 seen7b out8 v16 r h; simp [cache_Touched.p2] at h
  | succ k ih =>
    intro column2 l10 i11 v17 v18 seen7b out8 v16 r h
    rw [cache_Touched.p2] at h
    rcases ite_or h with ⟨g_3, h⟩ | ⟨g_3, h⟩
    · obtain ⟨g_4, h⟩ := ite_some h
      obtain ⟨y_5, e_6, h⟩ := bind_or h
      rcases ite_or h with ⟨g_7, h⟩ | ⟨g_7, h⟩
      · obtain ⟨g_8, h⟩ := ite_some h
        exact RunC.go [.n 2, .r [(3, .dec true)], .n 5, .r [(6, .call (.agg ((cValue y_5).map .p)) [])], .n 1, .r [(2, .fv (.p (.bool (getM seen7b y_5 false)))), (3, .dec true)], .n 2, .r [(2, .mp (mE (pvT cValue) pvB (putM seen7b y_5 true)))], .r [(2, .obj (oL true 24 3 cValue dValue [y_5])), (3, .obj (oL true 24 3 cValue dValue (out8 ++ ([y_5]))))], .n 3, .k [2, 7, 8, 10, 11, 16, 17, 18]] (by kernel_rfl) (Obs.of (by kernel_rfl) (And.intro g_3 (And.intro g_4 (And.intro (cache_at.spec e_6) (And.intro (le_get (P := Try.prog) (kt := 24) (q := pvB) inj_Value (fun _ => by kernel_rfl) y_5 false seen7b) (And.intro g_7 (And.intro (le_put (P := Try.prog) (kt := 24) (q := pvB) inj_Value (fun _ => by kernel_rfl) y_5 true seen7b) (And.intro (le_one 24 3 cValue dValue y_5) (And.intro g_8 (le_app 24 3 cValue dValue out8 ([y_5]))))))))))) (ih _ _ _ _ _ _ _ _ r h)
      · exact RunC.go [.n 2, .r [(3, .dec true)], .n 5, .r [(6, .call (.agg ((cValue y_5).map .p)) [])], .n 1, .r [(2, .fv (.p (.bool (getM seen7b y_5 false)))), (3, .dec false)], .n 5, .k [2, 7, 8, 10, 11, 16, 17, 18]] (by kernel_rfl) (Obs.of (by kernel_rfl) (And.intro g_3 (And.intro g_4 (And.intro (cache_at.spec e_6) (And.intro (le_get (P := Try.prog) (kt := 24) (q := pvB) inj_Value (fun _ => by kernel_rfl) y_5 false seen7b) (nt g_7)))))) (ih _ _ _ _ _ _ _ _ r h)
    · exact RunC.go [.n 2, .r [(3, .dec false)], .n 5, .k [2, 7, 8, 16, 17, 18]] (by kernel_rfl) (Obs.of (by kernel_rfl) (nt g_3)) (hrec1 _ _ _ _ _ _ r h)
theorem cache_Touched.p1.run   : ∀ (k : Nat) (column2 : Int) (v17 : Int) (v18 : Int) (seen7b : (List (TValue × Bool))) (out8 : (List TValue)) (v16 : (List (List TEntry))) (r : (List TValue)), cache_Touched.p1 k column2 v17 v18 seen7b out8 v16 = some r → RunC Try.prog Try.f32 cache_Touched.p1.t (cache_Touched.p1.s column2 v17 v18 seen7b out8 v16) (.sref 0 24 3 (r).length) [(oL true 24 3 cValue dValue (r))] := by
  intro k
  induction k with
  | zero => intro column2 v17 v18 seen7b out8 v16 r h; simp [cache_Touched.p1] at h
  | succ k ih =>
    intro column2 v17 v18 seen7b out8 v16 r h
    rw [cache_Touched.p1] at h
    rcases ite_or h with ⟨g_1, h⟩ | ⟨g_1, h⟩
    · obtain ⟨g_2, h⟩ := ite_some h
      exact RunC.go [.n 1, .r [(0, .dec true)], .n 11, .k [2, 7, 8, 10, 11, 16, 17, 18]] (by kernel_rfl) (Obs.of (by kernel_rfl) (And.intro g_1 g_2)) (cache_Touched.p2.run ih k _ _ _ _ _ _ _ _ r h)
    · obtain ⟨y_9, e_10, h⟩ := bind_or h
      obtain rfl := Option.some.inj h
      exact RunC.out [.n 1, .r [(0, .dec false)], .n 4, .r [(1, .callX [1] [0] (.sref 0 24 3 (y_9).length) [(oL true 24 3 cValue dValue y_9)])], .n 2] (by kernel_rfl) (Obs.of (by kernel_rfl) (And.intro (nt g_1) (sortK_call sl53 rfl (by decide) Try.isAgg24 Try.sizeOf24 24 cValue dValue (fun _ => rfl) (enters_of Try.func43 (by kernel_rfl) rfl) (fun k x y r h => value_Compare.spec h) e_10)))
theorem cache_Touched.run   {k : Nat} {minus0 : (List TEntry)} {plus1 : (List TEntry)} {column2 : Int} {r : (List TValue)} (h : cache_Touched k minus0 plus1 column2 = some r) : RunC Try.prog Try.f32 cache_Touched.t (cache_Touched.s minus0 plus1 column2) (.sref 0 24 3 (r).length) [(oL true 24 3 cValue dValue (r))] := by
  unfold cache_Touched at h
  exact RunC.go [.n 1, .r [(0, .obj (oL true 24 3 cValue dValue ([] : List TValue)))], .n 1, .r [(0, .mp (mE (pvT cValue) pvB ([] : (List (TValue × Bool)))))], .n 1, .r [(0, .obj (oL true 24 3 cValue dValue ([] : List TValue)))], .n 2, .r [(2, .obj (oL true 22 1 (cL 2 cEntry dEntry) ([] : List TEntry) [minus0, plus1]))], .n 2, .k [2, 7, 8, 16, 17, 18]] (by kernel_rfl) (Obs.of (by kernel_rfl) (And.intro (le_nil 24 3 cValue dValue) (And.intro (le_mnil (pvT cValue) pvB) (And.intro (le_nil 24 3 cValue dValue) (le_lit 22 1 (cL 2 cEntry dEntry) ([] : List TEntry) [minus0, plus1] (fun _ => rfl)))))) (cache_Touched.p1.run k _ _ _ _ _ _ r h)
theorem cache_Touched.p2.mono {rec1 rec1' : Int → Int → Int → (List (TValue × Bool)) → (List TValue) → (List (List TEntry)) → Option (List TValue)} (hm1 : ∀ (column2 : Int) (v17 : Int) (v18 : Int) (seen7b : (List (TValue × Bool))) (out8 : (List TValue)) (v16 : (List (List TEntry))) r, rec1 column2 v17 v18 seen7b out8 v16 = some r → rec1' column2 v17 v18 seen7b out8 v16 = some r) : ∀ (k k' : Nat) (column2 : Int) (l10 : (List TEntry)) (i11 : Int) (v17 : Int) (v18 : Int) (seen7b : (List (TValue × Bool))) (out8 : (List TValue)) (v16 : (List (List TEntry))) (r : (List TValue)), k ≤ k' → cache_Touched.p2 rec1 k column2 l10 i11 v17 v18 seen7b out8 v16 = some r → cache_Touched.p2 rec1' k' column2 l10 i11 v17 v18 seen7b out8 v16 = some r := by
  intro k
  induction k with
  | zero => intro k' column2 l10 i11 v17 v18 seen7b out8 v16 r hk h; simp [cache_Touched.p2] at h
  | succ k ih =>
    intro k' column2 l10 i11 v17 v18 seen7b out8 v16 r hk h
    obtain ⟨k', rfl⟩ : ∃ m, k' = m + 1 := ⟨k' - 1, by omega⟩
    replace hk := Nat.le_of_succ_le_succ hk
    rw [cache_Touched.p2] at h ⊢
    rcases ite_or h with ⟨g_3, h⟩ | ⟨g_3, h⟩
    · refine itp g_3 ?_
      obtain ⟨g_4, h⟩ := ite_some h
      refine itp g_4 ?_
      obtain ⟨y_5, e_6, h⟩ := bind_or h
      refine bnd (cache_at.mono _ _ _ _ _ hk e_6) ?_
      rcases ite_or h with ⟨g_7, h⟩ | ⟨g_7, h⟩
      · refine itp g_7 ?_
        obtain ⟨g_8, h⟩ := ite_some h
        refine itp g_8 ?_
        exact ih _ _ _ _ _ _ _ _ _ r hk h
      · refine itn g_7 ?_
        exact ih _ _ _ _ _ _ _ _ _ r hk h
    · refine itn g_3 ?_
      exact hm1 _ _ _ _ _ _ r h
theorem cache_Touched.p1.mono   : ∀ (k k' : Nat) (column2 : Int) (v17 : Int) (v18 : Int) (seen7b : (List (TValue × Bool))) (out8 : (List TValue)) (v16 : (List (List TEntry))) (r : (List TValue)), k ≤ k' → cache_Touched.p1 k column2 v17 v18 seen7b out8 v16 = some r → cache_Touched.p1 k' column2 v17 v18 seen7b out8 v16 = some r := by
  intro k
  induction k with
  | zero => intro k' column2 v17 v18 seen7b out8 v16 r hk h; simp [cache_Touched.p1] at h
  | succ k ih =>
    intro k' column2 v17 v18 seen7b out8 v16 r hk h
    obtain ⟨k', rfl⟩ : ∃ m, k' = m + 1 := ⟨k' - 1, by omega⟩
    replace hk := Nat.le_of_succ_le_succ hk
    rw [cache_Touched.p1] at h ⊢
    rcases ite_or h with ⟨g_1, h⟩ | ⟨g_1, h⟩
    · refine itp g_1 ?_
      obtain ⟨g_2, h⟩ := ite_some h
      refine itp g_2 ?_
      exact cache_Touched.p2.mono (fun x0 x1 x2 x3 x4 x5 r h => ih _ x0 x1 x2 x3 x4 x5 r hk h) _ _ _ _ _ _ _ _ _ _ r hk h
    · refine itn g_1 ?_
      obtain ⟨y_9, e_10, h⟩ := bind_or h
      refine bnd e_10 ?_
      exact h
theorem cache_Touched.mono   : ∀ (k k' : Nat) (minus0 : (List TEntry)) (plus1 : (List TEntry)) (column2 : Int) (r : (List TValue)), k ≤ k' → cache_Touched k minus0 plus1 column2 = some r → cache_Touched k' minus0 plus1 column2 = some r := by
  intro k k' minus0 plus1 column2 r hk h
  unfold cache_Touched at h ⊢
  exact cache_Touched.p1.mono _ _ _ _ _ _ _ _ r hk h
theorem cache_Touched.spec {k : Nat} {minus0 : (List TEntry)} {plus1 : (List TEntry)} {column2 : Int} {r : (List TValue)} (h : cache_Touched k minus0 plus1 column2 = some r) : Spec Try.prog 32 [.p (eL 2 cEntry dEntry minus0), .p (eL 2 cEntry dEntry plus1), .p (.int .i64 column2)] (.sref 0 24 3 (r).length) [(oL true 24 3 cValue dValue (r))] :=
  spec_of mix Try.func32 (body := bodyOf Try.f32) (by kernel_rfl) (by kernel_rfl) (cache_Touched.run h)
end Go.Proofs.YtjhnpaenhdbhpabV
set_option linter.unusedVariables false
set_option linter.unusedSimpArgs false
set_option maxRecDepth 100000
namespace Go.Proofs.YtjhnpaenhdbhpabV
open Go Go.RowKit
noncomputable def erasureref26_SameRow  (k : Nat) (a0 : (List TValue)) (b1 : (List TValue)) : Option Bool := (erasureref22_SameRow k a0 b1).bind fun y_1 => (some y_1)
noncomputable def erasureref26_SameRow.t : List Item := [.code (bodyOf Try.f33)]
noncomputable def erasureref26_SameRow.s (a0 : (List TValue)) (b1 : (List TValue)) : St := ⟨frOf Try.f33.ntmps 0 [(0, .p (eL 3 cValue dValue a0)), (1, .p (eL 3 cValue dValue b1))], []⟩
theorem erasureref26_SameRow.run   {k : Nat} {a0 : (List TValue)} {b1 : (List TValue)} {r : Bool} (h : erasureref26_SameRow k a0 b1 = some r) : RunC Try.prog Try.f33 erasureref26_SameRow.t (erasureref26_SameRow.s a0 b1) (.p (.bool r)) [] := by
  unfold erasureref26_SameRow at h
  obtain ⟨y_1, e_2, h⟩ := bind_or h
  obtain rfl := Option.some.inj h
  exact RunC.out [.n 3, .r [(2, .call (.p (.bool y_1)) [])]] (by kernel_rfl) (Obs.of (by kernel_rfl) (erasureref22_SameRow.spec e_2))
theorem erasureref26_SameRow.mono   : ∀ (k k' : Nat) (a0 : (List TValue)) (b1 : (List TValue)) (r : Bool), k ≤ k' → erasureref26_SameRow k a0 b1 = some r → erasureref26_SameRow k' a0 b1 = some r := by
  intro k k' a0 b1 r hk h
  unfold erasureref26_SameRow at h ⊢
  obtain ⟨y_1, e_2, h⟩ := bind_or h
  refine bnd (erasureref22_SameRow.mono _ _ _ _ _ hk e_2) ?_
  exact h
theorem erasureref26_SameRow.spec {k : Nat} {a0 : (List TValue)} {b1 : (List TValue)} {r : Bool} (h : erasureref26_SameRow k a0 b1 = some r) : Spec Try.prog 33 [.p (eL 3 cValue dValue a0), .p (eL 3 cValue dValue b1)] (.p (.bool r)) [] :=
  spec_of mix Try.func33 (body := bodyOf Try.f33) (by kernel_rfl) (by kernel_rfl) (erasureref26_SameRow.run h)
end Go.Proofs.YtjhnpaenhdbhpabV
set_option linter.unusedVariables false
set_option linter.unusedSimpArgs false
set_option maxRecDepth 100000
namespace Go.Proofs.YtjhnpaenhdbhpabV
open Go Go.RowKit
noncomputable def erasureref30_Touched.p3 (rec1 : (List TEntry) → (List TEntry) → Int → Int → (List TValue) → Option (List TValue)) : Nat → (List TEntry) → (List TEntry) → Int → Int → Int → (List TValue) → Option (List TValue)
  | 0, _, _, _, _, _, _ => none
  | k + 1, minus0, plus1, column2, i8, k12, out7 => if (decide (k12 > 0)) = true then (if 0 ≤ k12 ∧ k12 < ((out7).length : Int) then (if 0 ≤ (IntKind.i64.wrap (k12 - 1)) ∧ (IntKind.i64.wrap (k12 - 1)) < ((out7).length : Int) then ((erasureref01_Compare k (out7.getD k12.toNat dValue) (out7.getD (IntKind.i64.wrap (k12 - 1)).toNat dValue)).bind fun y_14 => (if (decide (y_14 < 0)) = true then (erasureref30_Touched.p3 rec1 k minus0 plus1 column2 i8 (IntKind.i64.wrap (k12 - 1)) ((out7.set (IntKind.i64.wrap (k12 - 1)).toNat (out7.getD k12.toNat dValue)).set k12.toNat (out7.getD (IntKind.i64.wrap (k12 - 1)).toNat dValue))) else (rec1 minus0 plus1 column2 (IntKind.i64.wrap (i8 + 1)) out7))) else none) else none) else (rec1 minus0 plus1 column2 (IntKind.i64.wrap (i8 + 1)) out7)
noncomputable def erasureref30_Touched.p2 (rec1 : (List TEntry) → (List TEntry) → Int → Int → (List TValue) → Option (List TValue)) : Nat → (List TEntry) → (List TEntry) → Int → Int → Bool → Int → (List TValue) → TValue → Option (List TValue)
  | 0, _, _, _, _, _, _, _, _ => none
  | k + 1, minus0, plus1, column2, i8, found10, k11, out7, v9b => if (decide (k11 < ((out7).length : Int))) = true then (if found10 = true then (erasureref30_Touched.p2 rec1 k minus0 plus1 column2 i8 true (IntKind.i64.wrap (k11 + 1)) out7 v9b) else (if 0 ≤ k11 ∧ k11 < ((out7).length : Int) then (erasureref30_Touched.p2 rec1 k minus0 plus1 column2 i8 (((out7.getD k11.toNat dValue).f0 == v9b.f0) && (((out7.getD k11.toNat dValue).f1 == v9b.f1) && ((((out7.getD k11.toNat dValue).f2).data.toList == v9b.f2.data.toList) && true))) (IntKind.i64.wrap (k11 + 1)) out7 v9b) else none)) else (if found10 = true then (rec1 minus0 plus1 column2 (IntKind.i64.wrap (i8 + 1)) out7) else (if (out7).length + ([v9b]).length ≤ maxLen ∧ ((out7).length + ([v9b]).length) * 32 ≤ 140737488355328 then (erasureref30_Touched.p3 rec1 k minus0 plus1 column2 i8 (IntKind.i64.wrap ((((out7 ++ ([v9b]))).length : Int) - 1)) (out7 ++ ([v9b]))) else none))
noncomputable def erasureref30_Touched.p1  : Nat → (List TEntry) → (List TEntry) → Int → Int → (List TValue) → Option (List TValue)
  | 0, _, _, _, _, _ => none
  | k + 1, minus0, plus1, column2, i8, out7 => if (decide (i8 < (IntKind.i64.wrap (((minus0).length : Int) + ((plus1).length : Int))))) = true then (if (decide (i8 < ((minus0).length : Int))) = true then (if 0 ≤ i8 ∧ i8 < ((minus0).length : Int) then ((erasureref30_at k ((minus0.getD i8.toNat dEntry).f0) column2).bind fun y_4 => (erasureref30_Touched.p2 (erasureref30_Touched.p1 k) k minus0 plus1 column2 i8 false 0 out7 y_4)) else none) else (if 0 ≤ (IntKind.i64.wrap (i8 - ((minus0).length : Int))) ∧ (IntKind.i64.wrap (i8 - ((minus0).length : Int))) < ((plus1).length : Int) then ((erasureref30_at k ((plus1.getD (IntKind.i64.wrap (i8 - ((minus0).length : Int))).toNat dEntry).f0) column2).bind fun y_18 => (erasureref30_Touched.p2 (erasureref30_Touched.p1 k) k minus0 plus1 column2 i8 false 0 out7 y_18)) else none)) else (some out7)
noncomputable def erasureref30_Touched  (k : Nat) (minus0 : (List TEntry)) (plus1 : (List TEntry)) (column2 : Int) : Option (List TValue) := erasureref30_Touched.p1 k minus0 plus1 column2 0 ([] : List TValue)
noncomputable def erasureref30_Touched.t : List Item := [.code (bodyOf Try.f34)]
noncomputable def erasureref30_Touched.s (minus0 : (List TEntry)) (plus1 : (List TEntry)) (column2 : Int) : St := ⟨frOf Try.f34.ntmps 0 [(0, .p (eL 2 cEntry dEntry minus0)), (1, .p (eL 2 cEntry dEntry plus1)), (2, .p (.int .i64 column2))], []⟩
noncomputable def erasureref30_Touched.p1.t : List Item := nav 9 [] erasureref30_Touched.t
noncomputable def erasureref30_Touched.p1.s (minus0 : (List TEntry)) (plus1 : (List TEntry)) (column2 : Int) (i8 : Int) (out7 : (List TValue)) : St := ⟨frOf Try.f34.ntmps 0 [(0, .p (eL 2 cEntry dEntry minus0)), (1, .p (eL 2 cEntry dEntry plus1)), (2, .p (.int .i64 column2)), (7, .sref 0 24 3 (out7).length), (8, .p (.int .i64 i8))], [(oL true 24 3 cValue dValue out7)]⟩
noncomputable def erasureref30_Touched.p2.t : List Item := nav 21 [true, true] erasureref30_Touched.p1.t
noncomputable def erasureref30_Touched.p2.s (minus0 : (List TEntry)) (plus1 : (List TEntry)) (column2 : Int) (i8 : Int) (found10 : Bool) (k11 : Int) (out7 : (List TValue)) (v9b : TValue) : St := ⟨frOf Try.f34.ntmps 0 [(0, .p (eL 2 cEntry dEntry minus0)), (1, .p (eL 2 cEntry dEntry plus1)), (2, .p (.int .i64 column2)), (7, .sref 0 24 3 (out7).length), (8, .p (.int .i64 i8)), (9, .ptr 1 0 0), (10, .p (.bool found10)), (11, .p (.int .i64 k11))], [(oL true 24 3 cValue dValue out7), .box ((cValue v9b).map .p)]⟩
noncomputable def erasureref30_Touched.p3.t : List Item := nav 16 [false, false] erasureref30_Touched.p2.t
noncomputable def erasureref30_Touched.p3.s (minus0 : (List TEntry)) (plus1 : (List TEntry)) (column2 : Int) (i8 : Int) (k12 : Int) (out7 : (List TValue)) : St := ⟨frOf Try.f34.ntmps 0 [(0, .p (eL 2 cEntry dEntry minus0)), (1, .p (eL 2 cEntry dEntry plus1)), (2, .p (.int .i64 column2)), (7, .sref 0 24 3 (out7).length), (8, .p (.int .i64 i8)), (12, .p (.int .i64 k12))], [(oL true 24 3 cValue dValue out7)]⟩
theorem erasureref30_Touched.p3.run {rec1 : (List TEntry) → (List TEntry) → Int → Int → (List TValue) → Option (List TValue)} (hrec1 : ∀ (minus0 : (List TEntry)) (plus1 : (List TEntry)) (column2 : Int) (i8 : Int) (out7 : (List TValue)) r, rec1 minus0 plus1 column2 i8 out7 = some r → RunC Try.prog Try.f34 erasureref30_Touched.p1.t (erasureref30_Touched.p1.s minus0 plus1 column2 i8 out7) (.sref 0 24 3 (r).length) [(oL true 24 3 cValue dValue (r))]) : ∀ (k : Nat) (minus0 : (List TEntry)) (plus1 : (List TEntry)) (column2 : Int) (i8 : Int) (k12 : Int) (out7 : (List TValue)) (r : (List TValue)), erasureref30_Touched.p3 rec1 k minus0 plus1 column2 i8 k12 out7 = some r → RunC Try.prog Try.f34 erasureref30_Touched.p3.t (erasureref30_Touched.p3.s minus0 plus1 column2 i8 k12 out7) (.sref 0 24 3 (r).length) [(oL true 24 3 cValue dValue (r))] := by
  intro k
  induction k with
  | zero => intro minus0 plus1 column2 i8 k12 out7 r h; simp [erasureref30_Touched.p3] at h
  | succ k ih =>
    intro minus0 plus1 column2 i8 k12 out7 r h
    rw [erasureref30_Touched.p3] at h
    rcases ite_or h with ⟨g_11, h⟩ | ⟨g_11, h⟩
    · obtain ⟨g_12, h⟩ := ite_some h
      obtain ⟨g_13, h⟩ := ite_some h
      obtain ⟨y_14, e_15, h⟩ := bind_or h
      rcases ite_or h with ⟨g_16, h⟩ | ⟨g_16, h⟩
      · exact RunC.go [.n 2, .r [(2, .dec true), (12, .call (.p (.int .i64 y_14)) []), (14, .dec true)], .n 4, .r [(15, .obj (oL true 24 3 cValue dValue (out7.set (IntKind.i64.wrap (k12 - 1)).toNat (out7.getD k12.toNat dValue)))), (17, .obj (oL true 24 3 cValue dValue ((out7.set (IntKind.i64.wrap (k12 - 1)).toNat (out7.getD k12.toNat dValue)).set k12.toNat (out7.getD (IntKind.i64.wrap (k12 - 1)).toNat dValue))))], .n 3, .k [0, 1, 2, 7, 8, 12]] (by kernel_rfl) (Obs.of (by kernel_rfl) (And.intro g_11 (And.intro g_12 (And.intro g_13 (And.intro (erasureref01_Compare.spec e_15) (And.intro g_16 (And.intro g_12 (And.intro g_13 (And.intro g_13 (And.intro (le_set 24 3 cValue dValue out7 (out7.getD k12.toNat dValue) (IntKind.i64.wrap (k12 - 1)).toNat rfl) (And.intro g_12 (le_set 24 3 cValue dValue (out7.set (IntKind.i64.wrap (k12 - 1)).toNat (out7.getD k12.toNat dValue)) (out7.getD (IntKind.i64.wrap (k12 - 1)).toNat dValue) k12.toNat rfl)))))))))))) (ih _ _ _ _ _ _ r h)
      · exact RunC.go [.n 2, .r [(2, .dec true), (12, .call (.p (.int .i64 y_14)) []), (14, .dec false)], .n 5, .k [0, 1, 2, 7, 8]] (by kernel_rfl) (Obs.of (by kernel_rfl) (And.intro g_11 (And.intro g_12 (And.intro g_13 (And.intro (erasureref01_Compare.spec e_15) (nt g_16)))))) (hrec1 _ _ _ _ _ r h)
    · exact RunC.go [.n 2, .r [(2, .dec false)], .n 5, .k [0, 1, 2, 7, 8]] (by kernel_rfl) (Obs.of (by kernel_rfl) (nt g_11)) (hrec1 _ _ _ _ _ r h)
theorem erasureref30_Touched.p2.run {rec1 : (List TEntry) → (List TEntry) → Int → Int → (List TValue) → Option (List TValue)} (hrec1 : ∀ (minus0 : (List TEntry)) (plus1 : (List TEntry)) (column2 : Int) (i8 : Int) (out7 : (List TValue)) r, rec1 minus0 plus1 column2 i8 out7 = some r → RunC Try.prog Try.f34 erasureref30_Touched.p1.t (erasureref30_Touched.p1.s minus0 plus1 column2 i8 out7) (.sref 0 24 3 (r).length) [(oL true 24 3 cValue dValue (r))]) : ∀ (k : Nat) (minus0 : (List TEntry)) (plus1 : (List TEntry)) (column2 : Int) (i8 : Int) (found10 : Bool) (k11 : Int) (out7 : (List TValue)) (v9b : TValue) (r : (List TValue)), erasureref30_Touched.p2 rec1 k minus0 plus1 column2 i8 found10 k11 out7 v9b = some r → RunC Try.prog Try.f34 erasureref30_Touched.p2.t (erasureref30_Touched.p2.s minus0 plus1 column2 i8 found10 k11 out7 v9b) (.sref 0 24 3 (r).length) [(oL true 24 3 cValue dValue (r))] := by
  intro k
  induction k with
  | zero => intro minus0 plus1 column2 i8 found10 k11 out7 v9b r h; simp [erasureref30_Touched.p2] at h
  | succ k ih =>
    intro minus0 plus1 column2 i8 found10 k11 out7 v9b r h
    rw [erasureref30_Touched.p2] at h
    rcases ite_or h with ⟨g_6, h⟩ | ⟨g_6, h⟩
    · rcases ite_or h with ⟨g_7, h⟩ | ⟨g_7, h⟩
      · exact RunC.go [.n 2, .r [(3, .dec true)], .n 4, .r [(1, .dec true)], .n 3, .k [0, 1, 2, 7, 8, 9, 10, 11]] (by kernel_rfl) (Obs.of (by kernel_rfl) (And.intro g_6 g_7)) (ih _ _ _ _ _ _ _ _ r h)
      · obtain ⟨g_8, h⟩ := ite_some h
        exact RunC.go [.n 2, .r [(3, .dec true)], .n 4, .r [(1, .dec false)], .n 3, .k [0, 1, 2, 7, 8, 9, 10, 11]] (by kernel_rfl) (Obs.of (by kernel_rfl) (And.intro g_6 (And.intro (nt g_7) g_8))) (ih _ _ _ _ _ _ _ _ r h)
    · rcases ite_or h with ⟨g_9, h⟩ | ⟨g_9, h⟩
      · exact RunC.go [.n 2, .r [(3, .dec false)], .n 4, .r [(0, .dec true)], .n 4, .k [0, 1, 2, 7, 8]] (by kernel_rfl) (Obs.of (by kernel_rfl) (And.intro (nt g_6) g_9)) (hrec1 _ _ _ _ _ r h)
      · obtain ⟨g_10, h⟩ := ite_some h
        exact RunC.go [.n 2, .r [(3, .dec false)], .n 4, .r [(0, .dec false)], .n 3, .r [(2, .obj (oL true 24 3 cValue dValue [v9b])), (3, .obj (oL true 24 3 cValue dValue (out7 ++ ([v9b]))))], .n 4, .k [0, 1, 2, 7, 8, 12]] (by kernel_rfl) (Obs.of (by kernel_rfl) (And.intro (nt g_6) (And.intro (nt g_9) (And.intro (le_one 24 3 cValue dValue v9b) (And.intro g_10 (le_app 24 3 cValue dValue out7 ([v9b]))))))) (erasureref30_Touched.p3.run hrec1 k _ _ _ _ _ _ r h)
theorem erasureref30_Touched.p1.run   : ∀ (k : Nat) (minus0 : (List TEntry)) (plus1 : (List TEntry)) (column2 : Int) (i8 : Int) (out7 : (List TValue)) (r : (List TValue)), erasureref30_Touched.p1 k minus0 plus1 column2 i8 out7 = some r → RunC Try.prog Try.f34 erasureref30_Touched.p1.t (erasureref30_Touched.p1.s minus0 plus1 column2 i8 out7) (.sref 0 24 3 (r).length) [(oL true 24 3 cValue dValue (r))] := by
  intro k
  induction k with
  | zero => intro minus0 plus1 column2 i8 out7 r h; simp [erasureref30_Touched.p1] at h
  | succ k ih =>
    intro minus0 plus1 column2 i8 out7 r h
    rw [erasureref30_Touched.p1] at h
    rcases ite_or h with ⟨g_1, h⟩ | ⟨g_1, h⟩
    · rcases ite_or h with ⟨g_2, h⟩ | ⟨g_2, h⟩
      · obtain ⟨g_3, h⟩ := ite_some h
        obtain ⟨y_4, e_5, h⟩ := bind_or h
        exact RunC.go [.n 2, .r [(6, .dec true)], .n 8, .r [(3, .dec true)], .n 1, .r [(6, .call (.agg ((cValue y_4).map .p)) [])], .n 7, .k [0, 1, 2, 7, 8, 9, 10, 11]] (by kernel_rfl) (Obs.of (by kernel_rfl) (And.intro g_1 (And.intro g_2 (And.intro g_3 (erasureref30_at.spec e_5))))) (erasureref30_Touched.p2.run ih k _ _ _ _ _ _ _ _ r h)
      · obtain ⟨g_17, h⟩ := ite_some h
        obtain ⟨y_18, e_19, h⟩ := bind_or h
        exact RunC.go [.n 2, .r [(6, .dec true)], .n 8, .r [(3, .dec false)], .n 1, .r [(9, .call (.agg ((cValue y_18).map .p)) [])], .n 7, .k [0, 1, 2, 7, 8, 9, 10, 11]] (by kernel_rfl) (Obs.of (by kernel_rfl) (And.intro g_1 (And.intro (nt g_2) (And.intro g_17 (erasureref30_at.spec e_19))))) (erasureref30_Touched.p2.run ih k _ _ _ _ _ _ _ _ r h)
    · obtain rfl := Option.some.inj h
      exact RunC.out [.n 2, .r [(6, .dec false)], .n 4] (by kernel_rfl) (Obs.of (by kernel_rfl) (nt g_1))
theorem erasureref30_Touched.run   {k : Nat} {minus0 : (List TEntry)} {plus1 : (List TEntry)} {column2 : Int} {r : (List TValue)} (h : erasureref30_Touched k minus0 plus1 column2 = some r) : RunC Try.prog Try.f34 erasureref30_Touched.t (erasureref30_Touched.s minus0 plus1 column2) (.sref 0 24 3 (r).length) [(oL true 24 3 cValue dValue (r))] := by
  unfold erasureref30_Touched at h
  exact RunC.go [.n 1, .r [(0, .obj (oL true 24 3 cValue dValue ([] : List TValue)))], .n 1, .r [(0, .obj (oL true 24 3 cValue dValue ([] : List TValue)))], .n 5, .k [0, 1, 2, 7, 8]] (by kernel_rfl) (Obs.of (by kernel_rfl) (And.intro (le_nil 24 3 cValue dValue) (le_nil 24 3 cValue dValue))) (erasureref30_Touched.p1.run k _ _ _ _ _ r h)
theorem erasureref30_Touched.p3.mono {rec1 rec1' : (List TEntry) → (List TEntry) → Int → Int → (List TValue) → Option (List TValue)} (hm1 : ∀ (minus0 : (List TEntry)) (plus1 : (List TEntry)) (column2 : Int) (i8 : Int) (out7 : (List TValue)) r, rec1 minus0 plus1 column2 i8 out7 = some r → rec1' minus0 plus1 column2 i8 out7 = some r) : ∀ (k k' : Nat) (minus0 : (List TEntry)) (plus1 : (List TEntry)) (column2 : Int) (i8 : Int) (k12 : Int) (out7 : (List TValue)) (r : (List TValue)), k ≤ k' → erasureref30_Touched.p3 rec1 k minus0 plus1 column2 i8 k12 out7 = some r → erasureref30_Touched.p3 rec1' k' minus0 plus1 column2 i8 k12 out7 = some r := by
  intro k
  induction k with
  | zero => intro k' minus0 plus1 column2 i8 k12 out7 r hk h; simp [erasureref30_Touched.p3] at h
  | succ k ih =>
    intro k' minus0 plus1 column2 i8 k12 out7 r hk h
    obtain ⟨k', rfl⟩ : ∃ m, k' = m + 1 := ⟨k' - 1, by omega⟩
    replace hk := Nat.le_of_succ_le_succ hk
    rw [erasureref30_Touched.p3] at h ⊢
    rcases ite_or h with ⟨g_11, h⟩ | ⟨g_11, h⟩
    · refine itp g_11 ?_
      obtain ⟨g_12, h⟩ := ite_some h
      refine itp g_12 ?_
      obtain ⟨g_13, h⟩ := ite_some h
      refine itp g_13 ?_
      obtain ⟨y_14, e_15, h⟩ := bind_or h
      refine bnd (erasureref01_Compare.mono _ _ _ _ _ hk e_15) ?_
      rcases ite_or h with ⟨g_16, h⟩ | ⟨g_16, h⟩
      · refine itp g_16 ?_
        exact ih _ _ _ _ _ _ _ r hk h
      · refine itn g_16 ?_
        exact hm1 _ _ _ _ _ r h
    · refine itn g_11 ?_
      exact hm1 _ _ _ _ _ r h
theorem erasureref30_Touched.p2.mono {rec1 rec1' : (List TEntry) → (List TEntry) → Int → Int → (List TValue) → Option (List TValue)} (hm1 : ∀ (minus0 : (List TEntry)) (plus1 : (List TEntry)) (column2 : Int) (i8 : Int) (out7 : (List TValue)) r, rec1 minus0 plus1 column2 i8 out7 = some r → rec1' minus0 plus1 column2 i8 out7 = some r) : ∀ (k k' : Nat) (minus0 : (List TEntry)) (plus1 : (List TEntry)) (column2 : Int) (i8 : Int) (found10 : Bool) (k11 : Int) (out7 : (List TValue)) (v9b : TValue) (r : (List TValue)), k ≤ k' → erasureref30_Touched.p2 rec1 k minus0 plus1 column2 i8 found10 k11 out7 v9b = some r → erasureref30_Touched.p2 rec1' k' minus0 plus1 column2 i8 found10 k11 out7 v9b = some r := by
  intro k
  induction k with
  | zero => intro k' minus0 plus1 column2 i8 found10 k11 out7 v9b r hk h; simp [erasureref30_Touched.p2] at h
  | succ k ih =>
    intro k' minus0 plus1 column2 i8 found10 k11 out7 v9b r hk h
    obtain ⟨k', rfl⟩ : ∃ m, k' = m + 1 := ⟨k' - 1, by omega⟩
    replace hk := Nat.le_of_succ_le_succ hk
    rw [erasureref30_Touched.p2] at h ⊢
    rcases ite_or h with ⟨g_6, h⟩ | ⟨g_6, h⟩
    · refine itp g_6 ?_
      rcases ite_or h with ⟨g_7, h⟩ | ⟨g_7, h⟩
      · refine itp g_7 ?_
        exact ih _ _ _ _ _ _ _ _ _ r hk h
      · refine itn g_7 ?_
        obtain ⟨g_8, h⟩ := ite_some h
        refine itp g_8 ?_
        exact ih _ _ _ _ _ _ _ _ _ r hk h
    · refine itn g_6 ?_
      rcases ite_or h with ⟨g_9, h⟩ | ⟨g_9, h⟩
      · refine itp g_9 ?_
        exact hm1 _ _ _ _ _ r h
      · refine itn g_9 ?_
        obtain ⟨g_10, h⟩ := ite_some h
        refine itp g_10 ?_
        exact erasureref30_Touched.p3.mono hm1 _ _ _ _ _ _ _ _ r hk h
theorem erasureref30_Touched.p1.mono   : ∀ (k k' : Nat) (minus0 : (List TEntry)) (plus1 : (List TEntry)) (column2 : Int) (i8 : Int) (out7 : (List TValue)) (r : (List TValue)), k ≤ k' → erasureref30_Touched.p1 k minus0 plus1 column2 i8 out7 = some r → erasureref30_Touched.p1 k' minus0 plus1 column2 i8 out7 = some r := by
  intro k
  induction k with
  | zero => intro k' minus0 plus1 column2 i8 out7 r hk h; simp [erasureref30_Touched.p1] at h
  | succ k ih =>
    intro k' minus0 plus1 column2 i8 out7 r hk h
    obtain ⟨k', rfl⟩ : ∃ m, k' = m + 1 := ⟨k' - 1, by omega⟩
    replace hk := Nat.le_of_succ_le_succ hk
    rw [erasureref30_Touched.p1] at h ⊢
    rcases ite_or h with ⟨g_1, h⟩ | ⟨g_1, h⟩
    · refine itp g_1 ?_
      rcases ite_or h with ⟨g_2, h⟩ | ⟨g_2, h⟩
      · refine itp g_2 ?_
        obtain ⟨g_3, h⟩ := ite_some h
        refine itp g_3 ?_
        obtain ⟨y_4, e_5, h⟩ := bind_or h
        refine bnd (erasureref30_at.mono _ _ _ _ _ hk e_5) ?_
        exact erasureref30_Touched.p2.mono (fun x0 x1 x2 x3 x4 r h => ih _ x0 x1 x2 x3 x4 r hk h) _ _ _ _ _ _ _ _ _ _ r hk h
      · refine itn g_2 ?_
        obtain ⟨g_17, h⟩ := ite_some h
        refine itp g_17 ?_
        obtain ⟨y_18, e_19, h⟩ := bind_or h
        refine bnd (erasureref30_at.mono _ _ _ _ _ hk e_19) ?_
        exact erasureref30_Touched.p2.mono (fun x0 x1 x2 x3 x4 r h => ih _ x0 x1 x2 x3 x4 r hk h) _ _ _ _ _ _ _ _ _ _ r hk h
    · refine itn g_1 ?_
      exact h
theorem erasureref30_Touched.mono   : ∀ (k k' : Nat) (minus0 : (List TEntry)) (plus1 : (List TEntry)) (column2 : Int) (r : (List TValue)), k ≤ k' → erasureref30_Touched k minus0 plus1 column2 = some r → erasureref30_Touched k' minus0 plus1 column2 = some r := by
  intro k k' minus0 plus1 column2 r hk h
  unfold erasureref30_Touched at h ⊢
  exact erasureref30_Touched.p1.mono _ _ _ _ _ _ _ r hk h
theorem erasureref30_Touched.spec {k : Nat} {minus0 : (List TEntry)} {plus1 : (List TEntry)} {column2 : Int} {r : (List TValue)} (h : erasureref30_Touched k minus0 plus1 column2 = some r) : Spec Try.prog 34 [.p (eL 2 cEntry dEntry minus0), .p (eL 2 cEntry dEntry plus1), .p (.int .i64 column2)] (.sref 0 24 3 (r).length) [(oL true 24 3 cValue dValue (r))] :=
  spec_of mix Try.func34 (body := bodyOf Try.f34) (by kernel_rfl) (by kernel_rfl) (erasureref30_Touched.run h)
end Go.Proofs.YtjhnpaenhdbhpabV
set_option linter.unusedVariables false
set_option linter.unusedSimpArgs false
set_option maxRecDepth 100000
namespace Go.Proofs.YtjhnpaenhdbhpabV
open Go Go.RowKit
noncomputable def erasurelaw30_CacheTouches  (k : Nat) (minus0 : (List TEntry)) (plus1 : (List TEntry)) (column2 : Int) : Option Bool := (erasurelaw30_short k minus0).bind fun y_1 => (if (!y_1) = true then ((erasurelaw30_awake k ).bind fun y_4 => (some y_4)) else ((erasurelaw30_short k plus1).bind fun y_6 => (if (!y_6) = true then ((erasurelaw30_awake k ).bind fun y_9 => (some y_9)) else ((cache_Touched k minus0 plus1 column2).bind fun y_11 => ((erasureref30_Touched k minus0 plus1 column2).bind fun y_13 => ((erasureref26_SameRow k y_11 y_13).bind fun y_15 => (if y_15 = true then ((erasurelaw30_awake k ).bind fun y_18 => (some y_18)) else (some false))))))))
noncomputable def erasurelaw30_CacheTouches.t : List Item := [.code (bodyOf Try.f9)]
noncomputable def erasurelaw30_CacheTouches.s (minus0 : (List TEntry)) (plus1 : (List TEntry)) (column2 : Int) : St := ⟨frOf Try.f9.ntmps 0 [(0, .p (eL 2 cEntry dEntry minus0)), (1, .p (eL 2 cEntry dEntry plus1)), (2, .p (.int .i64 column2))], []⟩
theorem erasurelaw30_CacheTouches.run   {k : Nat} {minus0 : (List TEntry)} {plus1 : (List TEntry)} {column2 : Int} {r : Bool} (h : erasurelaw30_CacheTouches k minus0 plus1 column2 = some r) : RunC Try.prog Try.f9 erasurelaw30_CacheTouches.t (erasurelaw30_CacheTouches.s minus0 plus1 column2) (.p (.bool r)) [] := by
  unfold erasurelaw30_CacheTouches at h
  obtain ⟨y_1, e_2, h⟩ := bind_or h
  rcases ite_or h with ⟨g_3, h⟩ | ⟨g_3, h⟩
  · obtain ⟨y_4, e_5, h⟩ := bind_or h
    obtain rfl := Option.some.inj h
    exact RunC.out [.n 4, .r [(1, .call (.p (.bool y_1)) []), (3, .dec true)], .n 2, .r [(0, .call (.p (.bool y_4)) [])]] (by kernel_rfl) (Obs.of (by kernel_rfl) (And.intro (erasurelaw30_short.spec e_2) (And.intro g_3 (erasurelaw30_awake.spec e_5))))
  · obtain ⟨y_6, e_7, h⟩ := bind_or h
    rcases ite_or h with ⟨g_8, h⟩ | ⟨g_8, h⟩
    · obtain ⟨y_9, e_10, h⟩ := bind_or h
      obtain rfl := Option.some.inj h
      exact RunC.out [.n 4, .r [(1, .call (.p (.bool y_1)) []), (3, .dec false), (5, .call (.p (.bool y_6)) []), (7, .dec true)], .n 2, .r [(0, .call (.p (.bool y_9)) [])]] (by kernel_rfl) (Obs.of (by kernel_rfl) (And.intro (erasurelaw30_short.spec e_2) (And.intro (nt g_3) (And.intro (erasurelaw30_short.spec e_7) (And.intro g_8 (erasurelaw30_awake.spec e_10))))))
    · obtain ⟨y_11, e_12, h⟩ := bind_or h
      obtain ⟨y_13, e_14, h⟩ := bind_or h
      obtain ⟨y_15, e_16, h⟩ := bind_or h
      rcases ite_or h with ⟨g_17, h⟩ | ⟨g_17, h⟩
      · obtain ⟨y_18, e_19, h⟩ := bind_or h
        obtain rfl := Option.some.inj h
        exact RunC.out [.n 4, .r [(1, .call (.p (.bool y_1)) []), (3, .dec false), (5, .call (.p (.bool y_6)) []), (7, .dec false)], .n 3, .r [(3, .call (.sref 0 24 3 (y_11).length) [(oL true 24 3 cValue dValue y_11)]), (7, .call (.sref 0 24 3 (y_13).length) [(oL true 24 3 cValue dValue y_13)]), (8, .call (.p (.bool y_15)) []), (9, .dec true), (10, .call (.p (.bool y_18)) [])]] (by kernel_rfl) (Obs.of (by kernel_rfl) (And.intro (erasurelaw30_short.spec e_2) (And.intro (nt g_3) (And.intro (erasurelaw30_short.spec e_7) (And.intro (nt g_8) (And.intro (cache_Touched.spec e_12) (And.intro (erasureref30_Touched.spec e_14) (And.intro (erasureref26_SameRow.spec e_16) (And.intro g_17 (erasurelaw30_awake.spec e_19))))))))))
      · obtain rfl := Option.some.inj h
        exact RunC.out [.n 4, .r [(1, .call (.p (.bool y_1)) []), (3, .dec false), (5, .call (.p (.bool y_6)) []), (7, .dec false)], .n 3, .r [(3, .call (.sref 0 24 3 (y_11).length) [(oL true 24 3 cValue dValue y_11)]), (7, .call (.sref 0 24 3 (y_13).length) [(oL true 24 3 cValue dValue y_13)]), (8, .call (.p (.bool y_15)) []), (9, .dec false)]] (by kernel_rfl) (Obs.of (by kernel_rfl) (And.intro (erasurelaw30_short.spec e_2) (And.intro (nt g_3) (And.intro (erasurelaw30_short.spec e_7) (And.intro (nt g_8) (And.intro (cache_Touched.spec e_12) (And.intro (erasureref30_Touched.spec e_14) (And.intro (erasureref26_SameRow.spec e_16) (nt g_17)))))))))
theorem erasurelaw30_CacheTouches.mono   : ∀ (k k' : Nat) (minus0 : (List TEntry)) (plus1 : (List TEntry)) (column2 : Int) (r : Bool), k ≤ k' → erasurelaw30_CacheTouches k minus0 plus1 column2 = some r → erasurelaw30_CacheTouches k' minus0 plus1 column2 = some r := by
  intro k k' minus0 plus1 column2 r hk h
  unfold erasurelaw30_CacheTouches at h ⊢
  obtain ⟨y_1, e_2, h⟩ := bind_or h
  refine bnd (erasurelaw30_short.mono _ _ _ _ hk e_2) ?_
  rcases ite_or h with ⟨g_3, h⟩ | ⟨g_3, h⟩
  · refine itp g_3 ?_
    obtain ⟨y_4, e_5, h⟩ := bind_or h
    refine bnd (erasurelaw30_awake.mono _ _  _ hk e_5) ?_
    exact h
  · refine itn g_3 ?_
    obtain ⟨y_6, e_7, h⟩ := bind_or h
    refine bnd (erasurelaw30_short.mono _ _ _ _ hk e_7) ?_
    rcases ite_or h with ⟨g_8, h⟩ | ⟨g_8, h⟩
    · refine itp g_8 ?_
      obtain ⟨y_9, e_10, h⟩ := bind_or h
      refine bnd (erasurelaw30_awake.mono _ _  _ hk e_10) ?_
      exact h
    · refine itn g_8 ?_
      obtain ⟨y_11, e_12, h⟩ := bind_or h
      refine bnd (cache_Touched.mono _ _ _ _ _ _ hk e_12) ?_
      obtain ⟨y_13, e_14, h⟩ := bind_or h
      refine bnd (erasureref30_Touched.mono _ _ _ _ _ _ hk e_14) ?_
      obtain ⟨y_15, e_16, h⟩ := bind_or h
      refine bnd (erasureref26_SameRow.mono _ _ _ _ _ hk e_16) ?_
      rcases ite_or h with ⟨g_17, h⟩ | ⟨g_17, h⟩
      · refine itp g_17 ?_
        obtain ⟨y_18, e_19, h⟩ := bind_or h
        refine bnd (erasurelaw30_awake.mono _ _  _ hk e_19) ?_
        exact h
      · refine itn g_17 ?_
        exact h
theorem erasurelaw30_CacheTouches.spec {k : Nat} {minus0 : (List TEntry)} {plus1 : (List TEntry)} {column2 : Int} {r : Bool} (h : erasurelaw30_CacheTouches k minus0 plus1 column2 = some r) : Spec Try.prog 9 [.p (eL 2 cEntry dEntry minus0), .p (eL 2 cEntry dEntry plus1), .p (.int .i64 column2)] (.p (.bool r)) [] :=
  spec_of mix Try.func9 (body := bodyOf Try.f9) (by kernel_rfl) (by kernel_rfl) (erasurelaw30_CacheTouches.run h)
end Go.Proofs.YtjhnpaenhdbhpabV
set_option linter.unusedVariables false
set_option linter.unusedSimpArgs false
namespace Go.Proofs.YtjhnpaenhdbhpabV
open Go Go.RowKit
def Ev {α : Type} (g : Nat → Option α) (r : α) : Prop := ∃ K, ∀ k, K ≤ k → g k = some r
theorem Ev.now {α : Type} (r : α) : Ev (fun _ => some r) r := ⟨0, fun _ _ => rfl⟩
theorem Ev.any {α : Type} {g : Nat → Option α} {r : α} (h : ∀ k, g k = some r) : Ev g r := ⟨0, fun k _ => h k⟩
theorem Ev.done {α : Type} {a r : α} (h : a = r) : Ev (fun _ => some a) r := by subst h; exact Ev.now _
theorem Ev.bind {α β : Type} {f : Nat → Option α} {g : Nat → α → Option β} {a : α} {r : β} (h : Ev f a) (h' : Ev (fun k => g k a) r) : Ev (fun k => (f k).bind (g k)) r := by
  obtain ⟨K, h⟩ := h; obtain ⟨L, h'⟩ := h'
  exact ⟨max K L, fun k hk => by show (f k).bind (g k) = some r; rw [h k (by omega)]; exact h' k (by omega)⟩
theorem Ev.succ {α : Type} {g : Nat → Option α} {r : α} (h : Ev (fun k => g (k + 1)) r) : Ev g r := by
  obtain ⟨K, h⟩ := h
  exact ⟨K + 1, fun k hk => by obtain ⟨m, rfl⟩ : ∃ m, k = m + 1 := ⟨k - 1, by omega⟩; exact h m (by omega)⟩
theorem Ev.congr {α : Type} {f g : Nat → Option α} {r : α} (h : ∀ k, g k = f k) (k : Ev f r) : Ev g r := by rw [show g = f from funext h]; exact k
theorem Ev.ite_pos {α : Type} {g f : Nat → Option α} {r : α} {c : Prop} [Decidable c] (h : c) (k : Ev g r) : Ev (fun n => if c then g n else f n) r := Ev.congr (fun n => if_pos h) k
theorem Ev.ite_neg {α : Type} {g f : Nat → Option α} {r : α} {c : Prop} [Decidable c] (h : ¬ c) (k : Ev f r) : Ev (fun n => if c then g n else f n) r := Ev.congr (fun n => if_neg h) k
theorem Ev.of {α : Type} {g : Nat → Option α} {r : α} (m : ∀ k k', k ≤ k' → g k = some r → g k' = some r) {k : Nat} (h : g k = some r) : Ev g r := ⟨k, fun k' hk => m k k' hk h⟩
theorem Ev.some {α : Type} {g : Nat → Option α} {r : α} (h : Ev g r) : ∃ k, g k = Option.some r := by obtain ⟨K, h⟩ := h; exact ⟨K, h K (Nat.le_refl _)⟩
theorem Ev.to {α : Type} {g : Nat → Option α} {r s : α} (h : Ev g r) (e : r = s) : Ev g s := by subst e; exact h
theorem bytes_ext {a b : ByteArray} (h : a.data.toList = b.data.toList) : a = b := by
  cases a; cases b; congr 1; exact Array.toList_inj.1 h
theorem bytes_beq (a b : ByteArray) : (a.data.toList == b.data.toList) = decide (a = b) := by
  rw [Bool.eq_iff_iff, beq_iff_eq, decide_eq_true_eq]; exact ⟨bytes_ext, fun h => by rw [h]⟩
theorem loop_down {P : Nat → Prop} (n : Nat) (hend : P n) (hstep : ∀ i, i < n → P (i + 1) → P i) : ∀ i, i ≤ n → P i := by
  intro i hi
  have key : ∀ d i, i + d = n → P i := by
    intro d
    induction d with
    | zero => intro i h; have : i = n := by omega
              rw [this]; exact hend
    | succ d ih => intro i h; exact hstep i (by omega) (ih (i + 1) (by omega))
  exact key (n - i) i (by omega)
theorem wr {n : Int} (h : -9223372036854775808 ≤ n ∧ n ≤ 9223372036854775807) : IntKind.i64.wrap n = n := by rw [IntKind.wrap_i64]; omega
theorem wrn {i n : Nat} (h : i < n) (hn : n ≤ 9223372036854775807) : IntKind.i64.wrap ((i : Int) + 1) = ((i + 1 : Nat) : Int) := by rw [wr (by omega)]; omega
theorem wrp {i : Nat} (h : 0 < i) (hn : i ≤ 9223372036854775807) : IntKind.i64.wrap ((i : Int) - 1) = ((i - 1 : Nat) : Int) := by rw [wr (by omega)]; omega
theorem drop_cons {α : Type} (z : α) {l : List α} {i : Nat} (h : i < l.length) : l.drop i = l.getD (i : Int).toNat z :: l.drop (i + 1) := by
  rw [List.drop_eq_getElem_cons h]; simp [h]
theorem getD_mem {α : Type} (z : α) {l : List α} {i : Nat} (h : i < l.length) : l.getD (i : Int).toNat z ∈ l := by simp [h]
end Go.Proofs.YtjhnpaenhdbhpabV
set_option linter.unusedVariables false
set_option linter.unusedSimpArgs false
namespace Go.Proofs.YtjhnpaenhdbhpabV
open Go Go.RowKit
theorem V_ext {x y : TValue} (h0 : x.f0 = y.f0) (h1 : x.f1 = y.f1) (h2 : x.f2 = y.f2) : x = y := by cases x; cases y; simp_all
instance : DecidableEq TValue := fun x y => decidable_of_iff (x.f0 = y.f0 ∧ x.f1 = y.f1 ∧ x.f2 = y.f2) ⟨fun h => V_ext h.1 h.2.1 h.2.2, fun h => by subst h; exact ⟨rfl, rfl, rfl⟩⟩
def okV (x : TValue) : Bool :=
  if x.f0 = 0 then decide (x.f1 = 0) && decide (x.f2 = (⟨#[]⟩ : ByteArray))
  else if x.f0 = 1 then decide (-4294967296 ≤ x.f1 ∧ x.f1 ≤ 4294967296) && decide (x.f2 = (⟨#[]⟩ : ByteArray))
  else if x.f0 = 2 then decide (x.f1 = 0) && decide (x.f2.size ≤ 32)
  else false
def clV (x : TValue) : TValue := if okV x then x else ⟨0, 0, ⟨#[]⟩⟩
theorem beq_empty (a : ByteArray) : (a.data.toList == (#[] : Array UInt8).toList) = decide (a = (⟨#[]⟩ : ByteArray)) := bytes_beq a ⟨#[]⟩
theorem beq_nil (a : ByteArray) : (a.data.toList == ([] : List UInt8)) = decide (a = (⟨#[]⟩ : ByteArray)) := bytes_beq a ⟨#[]⟩
theorem value_Valid_eq (k : Nat) (v : TValue) : value_Valid k v = some (okV v) := by
  unfold value_Valid value_inRange okV
  simp only [beq_empty, beq_nil, beq_iff_eq, decide_eq_true_eq]
  generalize decide (v.f2 = (⟨#[]⟩ : ByteArray)) = q
  by_cases h0 : v.f0 = 0
  · simp only [if_pos h0]
    by_cases h1 : v.f1 = 0 <;> simp [h1]
  · simp only [if_neg h0]
    by_cases h1 : v.f0 = 1
    · simp only [if_pos h1]
      by_cases h2 : v.f1 ≥ -4294967296
      · rw [if_pos h2]; simp only [Option.bind_some, decide_eq_true_eq]
        by_cases h3 : v.f1 ≤ 4294967296
        · rw [if_pos h3]; simp [h3]; omega
        · rw [if_neg h3]; simp [h3]
      · rw [if_neg h2]; simp; omega
    · simp only [if_neg h1]
      by_cases h2 : v.f0 = 2
      · simp only [if_pos h2]
        by_cases h3 : v.f1 = 0
        · simp [h3]; omega
        · simp [h3]
      · simp [h2]
theorem ref01_Valid_eq (k : Nat) (v : TValue) : erasureref01_Valid k v = some (okV v) := by
  rw [← value_Valid_eq k]
  unfold erasureref01_Valid value_Valid value_inRange
  by_cases h0 : (v.f0 == 0) = true
  · simp only [if_pos h0]
  · simp only [if_neg h0]
    by_cases h1 : (v.f0 == 1) = true
    · simp only [if_pos h1]
      by_cases h2 : decide (v.f1 ≥ -4294967296) = true
      · simp only [if_pos h2, Option.bind_some]
      · simp only [if_neg h2, Option.bind_some, Bool.false_eq_true, if_false]
    · simp only [if_neg h1]
theorem value_Clean_eq (k : Nat) (x : TValue) : value_Clean k x = some (clV x) := by
  unfold value_Clean clV value_Clean.p1 value_Clean.p2
  rw [value_Valid_eq, Option.bind_some]
  by_cases h : okV x = true
  · rw [if_pos h, if_pos h]
  · rw [if_neg h, if_neg h]
theorem ref01_Clean_eq (k : Nat) (x : TValue) : erasureref01_Clean k x = some (clV x) := by
  unfold erasureref01_Clean clV erasureref01_Clean.p1 erasureref01_Clean.p2
  rw [ref01_Valid_eq, Option.bind_some]
  by_cases h : okV x = true
  · rw [if_pos h, if_pos h]
  · rw [if_neg h, if_neg h]
theorem eqV_iff (x y : TValue) : ((x.f0 == y.f0) && ((x.f1 == y.f1) && ((x.f2.data.toList == y.f2.data.toList) && true))) = decide (x = y) := by
  rw [bytes_beq, Bool.eq_iff_iff]
  simp only [Bool.and_eq_true, beq_iff_eq, decide_eq_true_eq, and_true]
  exact ⟨fun h => V_ext h.1 h.2.1 h.2.2, fun h => by subst h; exact ⟨rfl, rfl, rfl⟩⟩
theorem dV {l : List TValue} {i : Nat} (h : i < l.length) : l.drop i = l.getD (i : Int).toNat dValue :: l.drop (i + 1) := drop_cons _ h
theorem dE {l : List TEntry} {i : Nat} (h : i < l.length) : l.drop i = l.getD (i : Int).toNat dEntry :: l.drop (i + 1) := drop_cons _ h
end Go.Proofs.YtjhnpaenhdbhpabV
set_option linter.unusedVariables false
set_option linter.unusedSimpArgs false
namespace Go.Proofs.YtjhnpaenhdbhpabV
open Go Go.RowKit
theorem bytesLess_eq : ∀ (x y : List UInt8), Op.bytesLess x y = decide (x < y)
  | [], [] => by simp [Op.bytesLess]
  | _ :: _, [] => by simp [Op.bytesLess]
  | [], _ :: _ => by simp [Op.bytesLess]
  | a :: x, b :: y => by
    rw [Op.bytesLess, bytesLess_eq x y]
    simp only [List.cons_lt_cons_iff]
    by_cases h1 : a < b <;> by_cases h2 : a = b <;> by_cases h3 : x < y <;> simp [h1, h2, h3]
theorem gtr_flip (a b : List UInt8) : (!(Op.bytesLess a b || a == b)) = Op.bytesLess b a := by
  rw [bytesLess_eq, bytesLess_eq, Bool.eq_iff_iff]
  simp only [Bool.not_eq_true', Bool.or_eq_false_iff, decide_eq_false_iff_not, beq_eq_false_iff_ne, decide_eq_true_eq]
  constructor
  · rintro ⟨h1, h2⟩
    rcases Std.lt_trichotomy a b with h | h | h
    · exact absurd h h1
    · exact absurd h h2
    · exact h
  · intro h
    exact ⟨fun h1 => (List.lt_asymm h h1), fun h1 => by subst h1; exact List.lt_irrefl _ h⟩
theorem okV_z : okV (⟨0, 0, ⟨#[]⟩⟩ : TValue) = true := by decide +kernel
theorem okV_cl (x : TValue) : okV (clV x) = true := by
  unfold clV
  by_cases h : okV x = true
  · rw [if_pos h]; exact h
  · rw [if_neg h]; exact okV_z
theorem clV_ok {x : TValue} (h : okV x = true) : clV x = x := if_pos h
def cmpI (a b : Int) : Int := if a < b then -1 else if b < a then 1 else 0
def cmpB (a b : ByteArray) : Int := if a.data.toList < b.data.toList then -1 else if b.data.toList < a.data.toList then 1 else 0
def cmpC (a b : TValue) : Int := if a.f0 ≠ b.f0 then cmpI a.f0 b.f0 else if a.f0 = 1 then cmpI a.f1 b.f1 else cmpB a.f2 b.f2
def cmpV (x y : TValue) : Int := cmpC (clV x) (clV y)
theorem cmp_int_eq (k : Nat) (a b : Int) : cmp_Compare_int k a b = some (cmpI a b) := by
  unfold cmp_Compare_int cmp_isNaN_int cmpI
  simp only [Option.bind_some, bne_self_eq_false, Bool.false_eq_true, if_false, GT.gt, decide_eq_true_eq]
  repeat' split
  all_goals rfl
theorem cmp_int64_eq (k : Nat) (a b : Int) : cmp_Compare_int64 k a b = some (cmpI a b) := by
  unfold cmp_Compare_int64 cmp_isNaN_int64 cmpI
  simp only [Option.bind_some, bne_self_eq_false, Bool.false_eq_true, if_false, GT.gt, decide_eq_true_eq]
  repeat' split
  all_goals rfl
theorem cmp_string_eq (k : Nat) (a b : ByteArray) : cmp_Compare_string k a b = some (cmpB a b) := by
  unfold cmp_Compare_string cmp_isNaN_string cmpB
  simp only [gtr_flip]
  simp only [Option.bind_some, beq_self_eq_true, Bool.not_true, Bool.false_eq_true, if_false, bytesLess_eq, decide_eq_true_eq]
  repeat' split
  all_goals rfl
theorem value_Compare_eq (k : Nat) (x y : TValue) : value_Compare k x y = some (cmpV x y) := by
  unfold value_Compare cmpV cmpC
  rw [value_Clean_eq, value_Clean_eq]
  simp only [Option.bind_some, cmp_int_eq, cmp_int64_eq, cmp_string_eq, bne_iff_ne, beq_iff_eq]
  repeat' split
  all_goals rfl
theorem ok_cases {x : TValue} (h : okV x = true) : (x.f0 = 0 ∧ x.f1 = 0 ∧ x.f2 = (⟨#[]⟩ : ByteArray)) ∨ (x.f0 = 1 ∧ x.f2 = (⟨#[]⟩ : ByteArray)) ∨ (x.f0 = 2 ∧ x.f1 = 0) := by
  unfold okV at h
  by_cases h0 : x.f0 = 0
  · rw [if_pos h0] at h; simp at h; exact .inl ⟨h0, h.1, h.2⟩
  · rw [if_neg h0] at h
    by_cases h1 : x.f0 = 1
    · rw [if_pos h1] at h; simp at h; exact .inr (.inl ⟨h1, h.2⟩)
    · rw [if_neg h1] at h
      by_cases h2 : x.f0 = 2
      · rw [if_pos h2] at h; simp at h; exact .inr (.inr ⟨h2, h.1⟩)
      · rw [if_neg h2] at h; cases h
theorem cmpI_zero {a b : Int} : cmpI a b = 0 ↔ a = b := by unfold cmpI; split <;> (try split) <;> omega
theorem cmpI_neg {a b : Int} : cmpI a b < 0 ↔ a < b := by unfold cmpI; split <;> (try split) <;> omega
theorem cmpI_swap (a b : Int) : cmpI b a = - cmpI a b := by unfold cmpI; split <;> split <;> omega
theorem listlt_tri (a b : List UInt8) : a < b ∨ a = b ∨ b < a := Std.lt_trichotomy a b
theorem cmpB_zero {a b : ByteArray} : cmpB a b = 0 ↔ a = b := by
  unfold cmpB
  by_cases h : a.data.toList < b.data.toList
  · rw [if_pos h]; exact ⟨fun e => by omega, fun e => by subst e; exact absurd h (List.lt_irrefl _)⟩
  · rw [if_neg h]
    by_cases h2 : b.data.toList < a.data.toList
    · rw [if_pos h2]; exact ⟨fun e => by omega, fun e => by subst e; exact absurd h2 (List.lt_irrefl _)⟩
    · rw [if_neg h2]
      exact ⟨fun _ => by rcases listlt_tri a.data.toList b.data.toList with h3 | h3 | h3
                         · exact absurd h3 h
                         · exact bytes_ext h3
                         · exact absurd h3 h2, fun _ => rfl⟩
theorem cmpB_neg {a b : ByteArray} : cmpB a b < 0 ↔ a.data.toList < b.data.toList := by
  unfold cmpB
  by_cases h : a.data.toList < b.data.toList
  · rw [if_pos h]; exact ⟨fun _ => h, fun _ => by omega⟩
  · rw [if_neg h]; exact ⟨fun e => by split at e <;> omega, fun e => absurd e h⟩
theorem cmpB_swap (a b : ByteArray) : cmpB b a = - cmpB a b := by
  unfold cmpB
  by_cases h : a.data.toList < b.data.toList
  · have h2 : ¬ b.data.toList < a.data.toList := fun h2 => List.lt_asymm h h2
    rw [if_pos h, if_neg h2, if_pos h]; rfl
  · by_cases h2 : b.data.toList < a.data.toList
    · simp only [h, h2, if_true, if_false]
    · simp only [h, h2, if_false]; rfl
theorem cmpC_swap (a b : TValue) : cmpC b a = - cmpC a b := by
  unfold cmpC
  by_cases h : a.f0 = b.f0
  · have h' := h.symm
    simp only [ne_eq, h, not_true, if_false]
    by_cases h1 : b.f0 = 1
    · rw [if_pos h1, if_pos h1]; exact cmpI_swap _ _
    · rw [if_neg h1, if_neg h1]; exact cmpB_swap _ _
  · have h' : b.f0 ≠ a.f0 := fun e => h e.symm
    rw [if_pos h', if_pos h]; exact cmpI_swap _ _
theorem cmpC_zero {a b : TValue} (ha : okV a = true) (hb : okV b = true) : cmpC a b = 0 ↔ a = b := by
  unfold cmpC
  by_cases h : a.f0 = b.f0
  · simp only [ne_eq, h, not_true, if_false]
    rcases ok_cases ha with ⟨a0, a1, a2⟩ | ⟨a0, a2⟩ | ⟨a0, a1⟩ <;> rcases ok_cases hb with ⟨b0, b1, b2⟩ | ⟨b0, b2⟩ | ⟨b0, b1⟩ <;> (try (rw [a0, b0] at h; omega))
    · rw [if_neg (by omega), cmpB_zero]; exact ⟨fun e => V_ext h (by omega) e, fun e => by rw [e]⟩
    · rw [if_pos b0, cmpI_zero]; exact ⟨fun e => V_ext h e (a2.trans b2.symm), fun e => by rw [e]⟩
    · rw [if_neg (by omega), cmpB_zero]; exact ⟨fun e => V_ext h (by omega) e, fun e => by rw [e]⟩
  · rw [if_pos h, cmpI_zero]; exact ⟨fun e => absurd e h, fun e => absurd (by rw [e]) h⟩
theorem cmpC_neg {a b : TValue} (ha : okV a = true) (hb : okV b = true) : cmpC a b < 0 ↔ (a.f0 < b.f0 ∨ (a.f0 = b.f0 ∧ (a.f1 < b.f1 ∨ a.f2.data.toList < b.f2.data.toList))) := by
  unfold cmpC
  by_cases h : a.f0 = b.f0
  · simp only [ne_eq, h, not_true, if_false, Int.lt_irrefl, false_or, true_and]
    rcases ok_cases ha with ⟨a0, a1, a2⟩ | ⟨a0, a2⟩ | ⟨a0, a1⟩ <;> rcases ok_cases hb with ⟨b0, b1, b2⟩ | ⟨b0, b2⟩ | ⟨b0, b1⟩ <;> (try (rw [a0, b0] at h; omega))
    · rw [if_neg (by omega), cmpB_neg, a1, b1]; simp
    · rw [if_pos b0, cmpI_neg, a2, b2]; exact ⟨.inl, fun e => e.elim id (fun e => absurd e (List.lt_irrefl _))⟩
    · rw [if_neg (by omega), cmpB_neg, a1, b1]; simp
  · rw [if_pos h, cmpI_neg]; exact ⟨.inl, fun e => e.elim id (fun e => absurd e.1 h)⟩
theorem ref01_Compare_eq (k : Nat) (x y : TValue) : erasureref01_Compare k x y = some (cmpV x y) := by
  have hx := okV_cl x
  have hy := okV_cl y
  have hz := cmpC_zero hx hy
  have hn := cmpC_neg hx hy
  have hr : cmpC (clV x) (clV y) = -1 ∨ cmpC (clV x) (clV y) = 0 ∨ cmpC (clV x) (clV y) = 1 := by
    unfold cmpC cmpI cmpB; repeat' split
    all_goals simp
  unfold cmpV erasureref01_Compare
  rw [ref01_Clean_eq, ref01_Clean_eq]
  simp only [Option.bind_some, eqV_iff, decide_eq_true_eq, bytesLess_eq, beq_iff_eq]
  generalize clV x = a at *
  generalize clV y = b at *
  by_cases h : a = b
  · rw [hz.2 h]; rw [if_pos h]
  · have h0 : cmpC a b ≠ 0 := fun e => h (hz.1 e)
    rw [if_neg h]
    by_cases hlt : cmpC a b < 0
    · have e1 : cmpC a b = -1 := by omega
      have hd := hn.1 hlt
      simp only [e1]
      repeat' split
      all_goals first | rfl | (exfalso; simp_all; try omega)
    · have e1 : cmpC a b = 1 := by omega
      have hd : ¬ _ := fun e => hlt (hn.2 e)
      simp only [not_or, not_and] at hd
      simp only [e1]
      repeat' split
      all_goals first | rfl | (exfalso; simp_all; try omega)
end Go.Proofs.YtjhnpaenhdbhpabV
set_option linter.unusedVariables false
set_option linter.unusedSimpArgs false
namespace Go.Proofs.YtjhnpaenhdbhpabV
open Go Go.RowKit
def cmpR : List TValue → List TValue → Int
  | [], [] => 0
  | [], _ :: _ => -1
  | _ :: _, [] => 1
  | x :: xs, y :: ys => if cmpV x y = 0 then cmpR xs ys else cmpV x y
theorem cmpR_nil (xs : List TValue) : cmpR xs [] = if xs.length = 0 then 0 else 1 := by cases xs <;> rfl
theorem nil_cmpR (ys : List TValue) : cmpR [] ys = if ys.length = 0 then 0 else -1 := by cases ys <;> rfl
theorem value_CompareRows_ev (xs ys : List TValue) (hx : xs.length ≤ 9223372036854775807) : Ev (fun k => value_CompareRows k xs ys) (cmpR xs ys) := by
  unfold value_CompareRows slices_CompareFunc_api_Value__value_Compare
  refine Ev.bind ?_ (Ev.now _)
  refine (loop_down (P := fun i => i ≤ ys.length → Ev (fun k => slices_CompareFunc_api_Value__value_Compare.p1 k xs ys xs (xs.length : Int) (i : Int)) (cmpR (xs.drop i) (ys.drop i))) xs.length ?_ ?_ 0 (by omega)) (by omega)
  · intro hy
    refine Ev.succ ?_
    simp only [slices_CompareFunc_api_Value__value_Compare.p1, decide_eq_true_eq]
    rw [List.drop_length, nil_cmpR, List.length_drop]
    refine Ev.ite_neg (by omega) ?_
    by_cases h : xs.length < ys.length
    · exact Ev.ite_pos (by omega) (Ev.done (by rw [if_neg (by omega)]))
    · exact Ev.ite_neg (by omega) (Ev.done (by rw [if_pos (by omega)]))
  · intro i hi ih hy
    refine Ev.succ ?_
    simp only [slices_CompareFunc_api_Value__value_Compare.p1, decide_eq_true_eq, value_Compare_eq, Option.bind_some, bne_iff_ne, ne_eq, ite_not]
    refine Ev.ite_pos (by omega) (Ev.ite_pos (by omega) ?_)
    by_cases h : i < ys.length
    · refine Ev.ite_neg (by omega) (Ev.ite_pos (by omega) ?_)
      rw [dV hi, dV h, wrn hi hx]
      unfold cmpR
      by_cases hc : cmpV (xs.getD (i : Int).toNat dValue) (ys.getD (i : Int).toNat dValue) = 0
      · rw [if_pos hc]; exact Ev.ite_pos hc (ih (by omega))
      · rw [if_neg hc]; exact Ev.ite_neg hc (Ev.now _)
    · rw [List.drop_eq_nil_of_le (show ys.length ≤ i by omega), cmpR_nil, List.length_drop, if_neg (by omega)]
      exact Ev.ite_pos (by omega) (Ev.now _)
def okRow (l : List TValue) : Bool := l.all okV && decide (l.length ≤ 16)
theorem value_ValidRow_ev (l : List TValue) (hl : l.length ≤ 9223372036854775807) : Ev (fun k => value_ValidRow k l) (okRow l) := by
  unfold value_ValidRow
  refine (loop_down (P := fun i => Ev (fun k => value_ValidRow.p1 k l l (l.length : Int) (i : Int)) ((l.drop i).all okV && decide (l.length ≤ 16))) l.length ?_ ?_ 0 (by omega))
  · refine Ev.succ ?_
    simp only [value_ValidRow.p1, decide_eq_true_eq]
    rw [List.drop_length]
    refine Ev.ite_neg (by omega) (Ev.done ?_)
    simp; omega
  · intro i hi ih
    refine Ev.succ ?_
    simp only [value_ValidRow.p1, value_Valid_eq, Option.bind_some, decide_eq_true_eq]
    refine Ev.ite_pos (by omega) (Ev.ite_pos (by omega) ?_)
    rw [dV hi, wrn hi hl, List.all_cons]
    cases hc : okV (l.getD (i : Int).toNat dValue) with
    | true => exact Ev.ite_neg (by simp) ih
    | false => exact Ev.ite_pos rfl (Ev.now _)
def okE (e : TEntry) : Bool := okRow e.f0 && decide (-262144 ≤ e.f1 ∧ e.f1 ≤ 262144)
theorem countFits_eq (k : Nat) (n : Int) : bag_countFits k n = some (decide (-262144 ≤ n ∧ n ≤ 262144)) := by
  unfold bag_countFits
  simp only [decide_eq_true_eq]
  by_cases h : n ≥ -262144
  · rw [if_pos h]; simp; omega
  · rw [if_neg h]; simp; omega
theorem entryFits_ev (e : TEntry) (hl : e.f0.length ≤ 9223372036854775807) : Ev (fun k => bag_entryFits k e) (okE e) := by
  unfold bag_entryFits okE
  refine Ev.bind (value_ValidRow_ev _ hl) ?_
  cases hc : okRow e.f0 with
  | true => simp only [if_true, countFits_eq, Option.bind_some, Bool.true_and]; exact Ev.now _
  | false => simp only [Bool.false_eq_true, if_false, Bool.false_and]; exact Ev.now _
def bvF : Option TEntry → List TEntry → Bool
  | _, [] => true
  | none, e :: l => okE e && !decide (e.f1 = 0) && bvF (some e) l
  | some p, e :: l => okE e && !decide (e.f1 = 0) && decide (cmpR p.f0 e.f0 < 0) && bvF (some e) l
def bagV (l : List TEntry) : Bool := bvF none l && decide (l.length ≤ 4096)
def prevE (l : List TEntry) (i : Nat) : Option TEntry := if i = 0 then none else some (l.getD ((i - 1 : Nat) : Int).toNat dEntry)
def Fin (l : List TEntry) : Prop := l.length ≤ 9223372036854775807 ∧ ∀ e ∈ l, e.f0.length ≤ 9223372036854775807
theorem Fin.at {l : List TEntry} (h : Fin l) {i : Nat} (hi : i < l.length) : (l.getD (i : Int).toNat dEntry).f0.length ≤ 9223372036854775807 := h.2 _ (getD_mem _ hi)
theorem bag_Valid_ev (l : List TEntry) (hl : Fin l) : Ev (fun k => bag_Valid k l) (bagV l) := by
  unfold bag_Valid
  refine (loop_down (P := fun i => Ev (fun k => bag_Valid.p1 k l l (l.length : Int) (i : Int)) (bvF (prevE l i) (l.drop i) && decide (l.length ≤ 4096))) l.length ?_ ?_ 0 (by omega))
  · refine Ev.succ ?_
    simp only [bag_Valid.p1, decide_eq_true_eq]
    rw [List.drop_length]
    refine Ev.ite_neg (by omega) (Ev.done ?_)
    simp [bvF]; omega
  · intro i hi ih
    have hp : prevE l (i + 1) = some (l.getD (i : Int).toNat dEntry) := by simp [prevE]
    rw [hp] at ih
    refine Ev.succ ?_
    simp only [bag_Valid.p1, decide_eq_true_eq, beq_iff_eq]
    refine Ev.ite_pos (by omega) (Ev.ite_pos (by omega) (Ev.bind (entryFits_ev _ (hl.at hi)) ?_))
    rw [dE hi, wrn hi hl.1]
    cases hc : okE (l.getD (i : Int).toNat dEntry) with
    | false => refine Ev.ite_pos rfl (Ev.done ?_); unfold bvF; cases prevE l i <;> simp only [hc, Bool.false_and]
    | true =>
      refine Ev.ite_neg (by simp) ?_
      by_cases hz : (l.getD (i : Int).toNat dEntry).f1 = 0
      · refine Ev.ite_pos hz (Ev.done ?_); unfold bvF; cases prevE l i <;> simp only [hz, decide_true, Bool.not_true, Bool.and_false, Bool.false_and]
      · refine Ev.ite_neg hz ?_
        by_cases h0 : i = 0
        · subst h0
          refine Ev.ite_neg (by omega) (ih.to ?_)
          simp only [prevE, if_true, bvF, hc, decide_eq_false hz, Bool.not_false, Bool.and_self, Bool.true_and]
        · have hl1 := hl.1
          rw [wrp (by omega) (by omega)]
          refine Ev.ite_pos (by omega) (Ev.ite_pos (by omega) (Ev.bind (value_CompareRows_ev _ _ (hl.at (show i - 1 < l.length by omega))) ?_))
          simp only [prevE, if_neg h0, bvF, hc, decide_eq_false hz, Bool.not_false, Bool.true_and]
          by_cases hcmp : cmpR (l.getD ((i - 1 : Nat) : Int).toNat dEntry).f0 (l.getD (i : Int).toNat dEntry).f0 < 0
          · rw [decide_eq_true hcmp]; exact Ev.ite_neg (by omega) (by simpa using ih)
          · rw [decide_eq_false hcmp]; exact Ev.ite_pos (by omega) (Ev.now _)
end Go.Proofs.YtjhnpaenhdbhpabV
set_option linter.unusedVariables false
set_option linter.unusedSimpArgs false
namespace Go.Proofs.YtjhnpaenhdbhpabV
open Go Go.RowKit
theorem ref01_CompareRows_ev (xs ys : List TValue) (hx : xs.length ≤ 9223372036854775807) : Ev (fun k => erasureref01_CompareRows k xs ys) (cmpR xs ys) := by
  unfold erasureref01_CompareRows
  refine (loop_down (P := fun i => i ≤ ys.length → Ev (fun k => erasureref01_CompareRows.p1 k xs ys (i : Int)) (cmpR (xs.drop i) (ys.drop i))) xs.length ?_ ?_ 0 (by omega)) (by omega)
  · intro hy
    refine Ev.succ ?_
    simp only [erasureref01_CompareRows.p1, decide_eq_true_eq]
    rw [List.drop_length, nil_cmpR, List.length_drop]
    refine Ev.ite_neg (by omega) ?_
    by_cases h : xs.length < ys.length
    · exact Ev.ite_pos (by omega) (Ev.done (by rw [if_neg (by omega)]))
    · exact Ev.ite_neg (by omega) (Ev.ite_neg (by omega) (Ev.done (by rw [if_pos (by omega)])))
  · intro i hi ih hy
    refine Ev.succ ?_
    simp only [erasureref01_CompareRows.p1, decide_eq_true_eq, ref01_Compare_eq, Option.bind_some, bne_iff_ne, ne_eq, ite_not]
    refine Ev.ite_pos (by omega) ?_
    by_cases h : i < ys.length
    · refine Ev.ite_pos (by omega) (Ev.ite_pos (by omega) (Ev.ite_pos (by omega) ?_))
      rw [dV hi, dV h, wrn hi hx]
      unfold cmpR
      by_cases hc : cmpV (xs.getD (i : Int).toNat dValue) (ys.getD (i : Int).toNat dValue) = 0
      · rw [if_pos hc]; exact Ev.ite_pos hc (ih (by omega))
      · rw [if_neg hc]; exact Ev.ite_neg hc (Ev.now _)
    · rw [List.drop_eq_nil_of_le (show ys.length ≤ i by omega), cmpR_nil, List.length_drop]
      exact (Ev.ite_neg (by omega) (Ev.ite_neg (by omega) (Ev.ite_pos (by omega) (Ev.now (1 : Int))))).to (by rw [if_neg (by omega)])
theorem ref01_ValidRow_ev (l : List TValue) : Ev (fun k => erasureref01_ValidRow k l) (okRow l) := by
  unfold erasureref01_ValidRow okRow
  simp only [decide_eq_true_eq]
  by_cases hl : l.length ≤ 16
  · refine Ev.ite_neg (by omega) ?_
    rw [decide_eq_true hl, Bool.and_true]
    refine (loop_down (P := fun i => Ev (fun k => erasureref01_ValidRow.p1 k l (i : Int)) ((l.drop i).all okV)) l.length ?_ ?_ 0 (by omega))
    · refine Ev.succ ?_
      simp only [erasureref01_ValidRow.p1, decide_eq_true_eq]
      rw [List.drop_length]
      exact Ev.ite_neg (by omega) (Ev.now _)
    · intro i hi ih
      refine Ev.succ ?_
      simp only [erasureref01_ValidRow.p1, ref01_Valid_eq, Option.bind_some, decide_eq_true_eq]
      refine Ev.ite_pos (by omega) (Ev.ite_pos (by omega) ?_)
      rw [dV hi, wrn hi (by omega), List.all_cons]
      cases hc : okV (l.getD (i : Int).toNat dValue) with
      | true => exact Ev.ite_neg (by simp) ih
      | false => exact Ev.ite_pos rfl (Ev.now _)
  · rw [decide_eq_false hl, Bool.and_false]
    exact Ev.ite_pos (by omega) (Ev.now _)
theorem ref06_countOK_eq (k : Nat) (n : Int) : erasureref06_countOK k n = some (decide (-262144 ≤ n ∧ n ≤ 262144)) := by
  unfold erasureref06_countOK
  simp only [decide_eq_true_eq]
  by_cases h : n ≥ -262144
  · rw [if_pos h]; simp; omega
  · rw [if_neg h]; simp; omega
theorem ref06_Valid_ev (l : List TEntry) (hl : Fin l) : Ev (fun k => erasureref06_Valid k l) (bagV l) := by
  unfold erasureref06_Valid bagV
  simp only [decide_eq_true_eq]
  by_cases hn : l.length ≤ 4096
  · rw [decide_eq_true hn, Bool.and_true]
    refine Ev.ite_neg (by omega) ?_
    refine (loop_down (P := fun i => Ev (fun k => erasureref06_Valid.p1 k l (i : Int)) (bvF (prevE l i) (l.drop i))) l.length ?_ ?_ 0 (by omega))
    · refine Ev.succ ?_
      simp only [erasureref06_Valid.p1, decide_eq_true_eq]
      rw [List.drop_length]
      refine Ev.ite_neg (by omega) (Ev.done ?_)
      simp [bvF]
    · intro i hi ih
      have hp : prevE l (i + 1) = some (l.getD (i : Int).toNat dEntry) := by simp [prevE]
      rw [hp] at ih
      refine Ev.succ ?_
      simp only [erasureref06_Valid.p1, ref06_countOK_eq, Option.bind_some, decide_eq_true_eq, beq_iff_eq]
      refine Ev.ite_pos (by omega) (Ev.ite_pos (by omega) (Ev.bind (ref01_ValidRow_ev _) ?_))
      rw [dE hi, wrn hi hl.1]
      cases hc : okRow (l.getD (i : Int).toNat dEntry).f0 with
      | false => refine Ev.ite_pos rfl (Ev.done ?_); unfold bvF; cases prevE l i <;> simp only [okE, hc, Bool.false_and]
      | true =>
        refine Ev.ite_neg (by simp) ?_
        by_cases hk : (-262144 ≤ (l.getD (i : Int).toNat dEntry).f1 ∧ (l.getD (i : Int).toNat dEntry).f1 ≤ 262144)
        · rw [decide_eq_true hk]
          refine Ev.ite_neg (by simp) ?_
          have hE : okE (l.getD (i : Int).toNat dEntry) = true := by unfold okE; rw [hc, decide_eq_true hk]; rfl
          by_cases hz : (l.getD (i : Int).toNat dEntry).f1 = 0
          · refine Ev.ite_pos hz (Ev.done ?_); unfold bvF; cases prevE l i <;> simp only [hz, decide_true, Bool.not_true, Bool.and_false, Bool.false_and]
          · refine Ev.ite_neg hz ?_
            by_cases h0 : i = 0
            · subst h0
              refine Ev.ite_neg (by omega) (ih.to ?_)
              simp only [prevE, if_true, bvF, hE, decide_eq_false hz, Bool.not_false, Bool.and_self, Bool.true_and]
            · have hl1 := hl.1
              rw [wrp (by omega) (by omega)]
              refine Ev.ite_pos (by omega) (Ev.ite_pos (by omega) (Ev.bind (ref01_CompareRows_ev _ _ (hl.at (show i - 1 < l.length by omega))) ?_))
              simp only [prevE, if_neg h0, bvF, hE, decide_eq_false hz, Bool.not_false, Bool.true_and]
              by_cases hcmp : cmpR (l.getD ((i - 1 : Nat) : Int).toNat dEntry).f0 (l.getD (i : Int).toNat dEntry).f0 < 0
              · rw [decide_eq_true hcmp]; exact Ev.ite_neg (by omega) (by simpa using ih)
              · rw [decide_eq_false hcmp]; exact Ev.ite_pos (by omega) (Ev.now _)
        · rw [decide_eq_false hk]
          refine Ev.ite_pos rfl (Ev.done ?_); unfold bvF; cases prevE l i <;> simp only [okE, hc, decide_eq_false hk, Bool.and_false, Bool.false_and]
  · rw [decide_eq_false hn, Bool.and_false]
    exact Ev.ite_pos (by omega) (Ev.now _)
end Go.Proofs.YtjhnpaenhdbhpabV
set_option linter.unusedVariables false
set_option linter.unusedSimpArgs false
namespace Go.Proofs.YtjhnpaenhdbhpabV
open Go Go.RowKit
def atV (row : List TValue) (c : Int) : TValue := if c < 0 then ⟨0, 0, ⟨#[]⟩⟩ else if c ≥ (row.length : Int) then ⟨0, 0, ⟨#[]⟩⟩ else clV (row.getD c.toNat dValue)
theorem cache_at_eq (k : Nat) (row : List TValue) (c : Int) : cache_at k row c = some (atV row c) := by
  unfold cache_at atV
  simp only [decide_eq_true_eq]
  by_cases h1 : c < 0
  · rw [if_pos h1, if_pos h1]
  rw [if_neg h1, if_neg h1]
  by_cases h2 : c ≥ (row.length : Int)
  · rw [if_pos h2, if_pos h2]
  rw [if_neg h2, if_neg h2, if_pos (by omega), value_Clean_eq]; rfl
theorem ref_at_eq (k : Nat) (row : List TValue) (c : Int) : erasureref30_at k row c = some (atV row c) := by
  unfold erasureref30_at atV
  simp only [decide_eq_true_eq]
  by_cases h1 : c < 0
  · rw [if_pos h1, if_pos h1]
  rw [if_neg h1, if_neg h1]
  by_cases h2 : c ≥ (row.length : Int)
  · rw [if_pos h2, if_pos h2]
  rw [if_neg h2, if_neg h2, if_pos (by omega), ref01_Clean_eq]; rfl
def selS (l : List TEntry) (c : Int) (v : TValue) : List TEntry := l.filter fun e => decide (atV e.f0 c = v)
theorem copied_ev (l : List TEntry) (hl : l.length ≤ 1099511627776) (hr : ∀ e ∈ l, e.f0.length ≤ 1099511627776) : Ev (fun k => cache_copied k l) l := by
  unfold cache_copied
  have key : ∀ i, i ≤ l.length → ∀ acc : List TEntry, acc.length = i → Ev (fun k => cache_copied.p1 k l (i : Int) acc) (acc ++ l.drop i) := by
    refine loop_down (P := fun i => ∀ acc : List TEntry, acc.length = i → Ev (fun k => cache_copied.p1 k l (i : Int) acc) (acc ++ l.drop i)) l.length ?_ ?_
    · intro acc _
      refine Ev.succ ?_
      simp only [cache_copied.p1, decide_eq_true_eq]
      rw [List.drop_length]
      exact Ev.ite_neg (by omega) (Ev.done (by simp))
    · intro i hi ih acc ha
      refine Ev.succ ?_
      simp only [cache_copied.p1, decide_eq_true_eq]
      have hr1 := hr _ (getD_mem dEntry hi)
      refine Ev.ite_pos (by omega) (Ev.ite_pos (by omega) (Ev.ite_pos (by simp only [maxLen]; omega) (Ev.ite_pos (by simp only [maxLen, List.length_singleton]; omega) ?_)))
      rw [dE hi, wrn hi (by omega)]
      exact (ih (acc ++ [l.getD (i : Int).toNat dEntry]) (by simp [ha])).to (by simp)
  simpa using key 0 (by omega) [] rfl
theorem sel_ev (l : List TEntry) (c : Int) (v : TValue) (hl : l.length ≤ 1099511627776) (hr : ∀ e ∈ l, e.f0.length ≤ 1099511627776) : Ev (fun k => cache_Select k l c v) (selS l c (clV v)) := by
  unfold cache_Select
  simp only [value_Clean_eq, Option.bind_some]
  have key : ∀ i, i ≤ l.length → ∀ acc : List TEntry, acc.length ≤ i → (∀ e ∈ acc, e.f0.length ≤ 1099511627776) → Ev (fun k => cache_Select.p1 k l c (i : Int) (clV v) acc) (acc ++ selS (l.drop i) c (clV v)) := by
    refine loop_down (P := fun i => ∀ acc : List TEntry, acc.length ≤ i → (∀ e ∈ acc, e.f0.length ≤ 1099511627776) → Ev (fun k => cache_Select.p1 k l c (i : Int) (clV v) acc) (acc ++ selS (l.drop i) c (clV v))) l.length ?_ ?_
    · intro acc ha hr0
      refine Ev.succ ?_
      simp only [cache_Select.p1, decide_eq_true_eq]
      rw [List.drop_length]
      refine Ev.ite_neg (by omega) ?_
      simp only [selS, List.filter_nil, List.append_nil]
      exact Ev.bind (copied_ev acc (by omega) hr0) (Ev.now _)
    · intro i hi ih acc ha hr0
      refine Ev.succ ?_
      simp only [cache_Select.p1, cache_at_eq, Option.bind_some, eqV_iff, decide_eq_true_eq]
      refine Ev.ite_pos (by omega) (Ev.ite_pos (by omega) ?_)
      rw [dE hi, wrn hi (by omega)]
      by_cases h : atV (l.getD (i : Int).toNat dEntry).f0 c = clV v
      · refine Ev.ite_pos h (Ev.ite_pos (by simp only [maxLen, List.length_singleton]; omega) ?_)
        exact (ih (acc ++ [l.getD (i : Int).toNat dEntry]) (by simp; omega) (by intro e he; rcases List.mem_append.1 he with he | he; exact hr0 e he; rw [List.mem_singleton] at he; subst he; exact hr _ (getD_mem _ hi))).to (by simp only [selS, List.filter_cons, h, decide_true, if_true, List.append_assoc, List.singleton_append])
      · exact Ev.ite_neg h ((ih acc (by omega) hr0).to (by simp only [selS, List.filter_cons, h, decide_false, Bool.false_eq_true, if_false]))
  exact key 0 (by omega) [] (by simp) (by simp)
theorem refSel_ev (l : List TEntry) (c : Int) (v : TValue) (hl : l.length ≤ 1099511627776) : Ev (fun k => erasureref30_Select k l c v) (selS l c (clV v)) := by
  unfold erasureref30_Select
  have key : ∀ i, i ≤ l.length → ∀ acc : List TEntry, acc.length ≤ i → Ev (fun k => erasureref30_Select.p1 k l c (i : Int) v acc) (acc ++ selS (l.drop i) c (clV v)) := by
    refine loop_down (P := fun i => ∀ acc : List TEntry, acc.length ≤ i → Ev (fun k => erasureref30_Select.p1 k l c (i : Int) v acc) (acc ++ selS (l.drop i) c (clV v))) l.length ?_ ?_
    · intro acc ha
      refine Ev.succ ?_
      simp only [erasureref30_Select.p1, decide_eq_true_eq]
      rw [List.drop_length]
      exact Ev.ite_neg (by omega) (Ev.done (by simp [selS]))
    · intro i hi ih acc ha
      refine Ev.succ ?_
      simp only [erasureref30_Select.p1, ref_at_eq, ref01_Clean_eq, Option.bind_some, eqV_iff, decide_eq_true_eq]
      refine Ev.ite_pos (by omega) (Ev.ite_pos (by omega) ?_)
      rw [dE hi, wrn hi (by omega)]
      by_cases h : atV (l.getD (i : Int).toNat dEntry).f0 c = clV v
      · refine Ev.ite_pos h (Ev.ite_pos (by simp only [maxLen, List.length_singleton]; omega) ?_)
        exact (ih (acc ++ [l.getD (i : Int).toNat dEntry]) (by simp; omega)).to (by simp only [selS, List.filter_cons, h, decide_true, if_true, List.append_assoc, List.singleton_append])
      · exact Ev.ite_neg h ((ih acc (by omega)).to (by simp only [selS, List.filter_cons, h, decide_false, Bool.false_eq_true, if_false]))
  exact key 0 (by omega) [] (by simp)
end Go.Proofs.YtjhnpaenhdbhpabV
set_option linter.unusedVariables false
set_option linter.unusedSimpArgs false
namespace Go.Proofs.YtjhnpaenhdbhpabV
open Go Go.RowKit
def okD (n : Int) : Bool := decide (0 ≤ n ∧ n ≤ 1048576)
theorem inDays_eq (k : Nat) (n : Int) : cache_inDays k n = some (okD n) := by
  unfold cache_inDays okD
  simp only [decide_eq_true_eq]
  by_cases h : n ≥ 0
  · rw [if_pos h]; simp; omega
  · rw [if_neg h]; simp; omega
theorem ranged_eq (k : Nat) (c : TCache) (d : Int) : erasureref30_ranged k c d = some (okD c.f3 && okD d) := by
  unfold erasureref30_ranged okD
  simp only [decide_eq_true_eq]
  by_cases h1 : c.f3 ≥ 0
  · rw [if_pos h1]
    by_cases h2 : c.f3 ≤ 1048576
    · rw [if_pos h2, decide_eq_true (show 0 ≤ c.f3 ∧ c.f3 ≤ 1048576 from ⟨h1, h2⟩)]
      by_cases h3 : d ≥ 0
      · rw [if_pos h3]; simp; omega
      · rw [if_neg h3]; simp; omega
    · rw [if_neg h2]; simp; omega
  · rw [if_neg h1]; simp; omega
def ctF : Option TCached → List TCached → Bool
  | _, [] => true
  | none, x :: l => okV x.f0 && (bagV x.f1 && (okD x.f2 && ctF (some x) l))
  | some p, x :: l => okV x.f0 && (decide (cmpV p.f0 x.f0 < 0) && (bagV x.f1 && (okD x.f2 && ctF (some x) l)))
def cacheV (l : List TCached) : Bool := ctF none l && decide (l.length ≤ 16)
def prevC (l : List TCached) (i : Nat) : Option TCached := if i = 0 then none else some (l.getD ((i - 1 : Nat) : Int).toNat dCached)
theorem dC {l : List TCached} {i : Nat} (h : i < l.length) : l.drop i = l.getD (i : Int).toNat dCached :: l.drop (i + 1) := drop_cons _ h
def FinC (l : List TCached) : Prop := l.length ≤ 9223372036854775807 ∧ ∀ x ∈ l, Fin x.f1
theorem cache_Valid_ev (l : List TCached) (hl : FinC l) : Ev (fun k => cache_Valid k l) (cacheV l) := by
  unfold cache_Valid cacheV
  simp only [decide_eq_true_eq]
  by_cases hn : l.length ≤ 16
  · rw [decide_eq_true hn, Bool.and_true]
    refine Ev.ite_neg (by omega) ?_
    refine (loop_down (P := fun i => Ev (fun k => cache_Valid.p1 k l (i : Int)) (ctF (prevC l i) (l.drop i))) l.length ?_ ?_ 0 (by omega))
    · refine Ev.succ ?_
      simp only [cache_Valid.p1, decide_eq_true_eq]
      rw [List.drop_length]
      refine Ev.ite_neg (by omega) (Ev.done ?_)
      cases prevC l l.length <;> rfl
    · intro i hi ih
      have hp : prevC l (i + 1) = some (l.getD (i : Int).toNat dCached) := by simp [prevC]
      rw [hp] at ih
      refine Ev.succ ?_
      simp only [cache_Valid.p1, decide_eq_true_eq, value_Valid_eq, value_Compare_eq, inDays_eq, Option.bind_some]
      refine Ev.ite_pos (by omega) (Ev.ite_pos (by omega) ?_)
      rw [dC hi, wrn hi hl.1]
      have hf := hl.2 _ (getD_mem dCached hi)
      have tail : Ev (fun k => (bag_Valid k ((l.getD (i : Int).toNat dCached).f1)).bind fun y_18 => (if (!y_18) = true then (some false) else (if (!okD ((l.getD (i : Int).toNat dCached).f2)) = true then (some false) else (cache_Valid.p1 k l ((i + 1 : Nat) : Int)))))
          (bagV (l.getD (i : Int).toNat dCached).f1 && (okD (l.getD (i : Int).toNat dCached).f2 && ctF (some (l.getD (i : Int).toNat dCached)) (l.drop (i + 1)))) := by
        refine Ev.bind (bag_Valid_ev _ hf) ?_
        cases hb : bagV (l.getD (i : Int).toNat dCached).f1 with
        | false => exact Ev.ite_pos rfl (Ev.now _)
        | true =>
          refine Ev.ite_neg (by simp) ?_
          cases hd : okD (l.getD (i : Int).toNat dCached).f2 with
          | false => exact Ev.ite_pos rfl (Ev.now _)
          | true => exact Ev.ite_neg (by simp) ih
      cases hv : okV (l.getD (i : Int).toNat dCached).f0 with
      | false => refine Ev.ite_pos rfl (Ev.done ?_); unfold ctF; cases prevC l i <;> simp only [hv, Bool.false_and]
      | true =>
        refine Ev.ite_neg (by simp) ?_
        by_cases h0 : i = 0
        · subst h0
          refine Ev.ite_neg (by omega) (tail.to ?_)
          simp only [prevC, if_true, ctF, hv, Bool.true_and]
        · have hl1 := hl.1
          rw [wrp (by omega) (by omega)]
          refine Ev.ite_pos (by omega) (Ev.ite_pos (by omega) ?_)
          simp only [prevC, if_neg h0, ctF, hv, Bool.true_and]
          by_cases hc : cmpV (l.getD ((i - 1 : Nat) : Int).toNat dCached).f0 (l.getD (i : Int).toNat dCached).f0 < 0
          · rw [decide_eq_true hc, Bool.true_and]; exact Ev.ite_neg (by omega) tail
          · rw [decide_eq_false hc, Bool.false_and]; exact Ev.ite_pos (by omega) (Ev.now _)
  · rw [decide_eq_false hn, Bool.and_false]
    exact Ev.ite_pos (by omega) (Ev.now _)
theorem ref30_Valid_ev (l : List TCached) (hl : FinC l) : Ev (fun k => erasureref30_Valid k l) (cacheV l) := by
  unfold erasureref30_Valid cacheV
  refine (loop_down (P := fun i => Ev (fun k => erasureref30_Valid.p1 k l (i : Int)) (ctF (prevC l i) (l.drop i) && decide (l.length ≤ 16))) l.length ?_ ?_ 0 (by omega))
  · refine Ev.succ ?_
    simp only [erasureref30_Valid.p1, decide_eq_true_eq]
    rw [List.drop_length]
    refine Ev.ite_neg (by omega) (Ev.done ?_)
    cases prevC l l.length <;> simp [ctF] <;> omega
  · intro i hi ih
    have hp : prevC l (i + 1) = some (l.getD (i : Int).toNat dCached) := by simp [prevC]
    rw [hp] at ih
    refine Ev.succ ?_
    simp only [erasureref30_Valid.p1, decide_eq_true_eq, ref01_Valid_eq, ref01_Compare_eq, Option.bind_some]
    refine Ev.ite_pos (by omega) (Ev.ite_pos (by omega) ?_)
    rw [dC hi, wrn hi hl.1]
    have hf := hl.2 _ (getD_mem dCached hi)
    have tail : Ev (fun k => (erasureref06_Valid k ((l.getD (i : Int).toNat dCached).f1)).bind fun y_16 => (if (!y_16) = true then (some false) else (if (l.getD (i : Int).toNat dCached).f2 < 0 then (some false) else (if (l.getD (i : Int).toNat dCached).f2 > 1048576 then (some false) else (erasureref30_Valid.p1 k l ((i + 1 : Nat) : Int))))))
        ((bagV (l.getD (i : Int).toNat dCached).f1 && (okD (l.getD (i : Int).toNat dCached).f2 && ctF (some (l.getD (i : Int).toNat dCached)) (l.drop (i + 1)))) && decide (l.length ≤ 16)) := by
      refine Ev.bind (ref06_Valid_ev _ hf) ?_
      cases hb : bagV (l.getD (i : Int).toNat dCached).f1 with
      | false => exact Ev.ite_pos rfl (Ev.now _)
      | true =>
        refine Ev.ite_neg (by simp) ?_
        by_cases hd : 0 ≤ (l.getD (i : Int).toNat dCached).f2 ∧ (l.getD (i : Int).toNat dCached).f2 ≤ 1048576
        · have e : okD (l.getD (i : Int).toNat dCached).f2 = true := decide_eq_true hd
          rw [e]
          exact Ev.ite_neg (by omega) (Ev.ite_neg (by omega) (ih.to (by simp only [Bool.true_and])))
        · have e : okD (l.getD (i : Int).toNat dCached).f2 = false := decide_eq_false hd
          rw [e]
          by_cases h1 : (l.getD (i : Int).toNat dCached).f2 < 0
          · exact Ev.ite_pos h1 (Ev.done (by simp))
          · exact Ev.ite_neg h1 (Ev.ite_pos (by omega) (Ev.done (by simp)))
    cases hv : okV (l.getD (i : Int).toNat dCached).f0 with
    | false => refine Ev.ite_pos rfl (Ev.done ?_); unfold ctF; cases prevC l i <;> simp only [hv, Bool.false_and]
    | true =>
      refine Ev.ite_neg (by simp) ?_
      by_cases h0 : i = 0
      · subst h0
        refine Ev.ite_neg (by omega) (tail.to ?_)
        simp only [prevC, if_true, ctF, hv, Bool.true_and]
      · have hl1 := hl.1
        rw [wrp (by omega) (by omega)]
        refine Ev.ite_pos (by omega) (Ev.ite_pos (by omega) ?_)
        simp only [prevC, if_neg h0, ctF, hv, Bool.true_and]
        by_cases hc : cmpV (l.getD ((i - 1 : Nat) : Int).toNat dCached).f0 (l.getD (i : Int).toNat dCached).f0 < 0
        · rw [decide_eq_true hc, Bool.true_and]; exact Ev.ite_neg (by omega) tail
        · rw [decide_eq_false hc, Bool.false_and, Bool.false_and]; exact Ev.ite_pos (by omega) (Ev.now _)
end Go.Proofs.YtjhnpaenhdbhpabV
set_option linter.unusedVariables false
set_option linter.unusedSimpArgs false
namespace Go.Proofs.YtjhnpaenhdbhpabV
open Go Go.RowKit
theorem bvF_mem : ∀ (l : List TEntry) (p : Option TEntry), bvF p l = true → ∀ e ∈ l, okE e = true
  | [], _, _, e, he => by cases he
  | x :: l, p, h, e, he => by
    have h1 : okE x = true ∧ bvF (some x) l = true := by
      cases p <;> simp only [bvF, Bool.and_eq_true] at h
      · exact ⟨h.1.1, h.2⟩
      · exact ⟨h.1.1.1, h.2⟩
    rcases List.mem_cons.1 he with rfl | he
    · exact h1.1
    · exact bvF_mem l _ h1.2 e he
theorem bagV_mem {l : List TEntry} (h : bagV l = true) : ∀ e ∈ l, okE e = true := by
  simp only [bagV, Bool.and_eq_true] at h
  exact bvF_mem l none h.1
theorem bagV_len {l : List TEntry} (h : bagV l = true) : l.length ≤ 4096 := by
  simp only [bagV, Bool.and_eq_true, decide_eq_true_eq] at h
  exact h.2
theorem okE_len {e : TEntry} (h : okE e = true) : e.f0.length ≤ 16 := by
  simp only [okE, okRow, Bool.and_eq_true, decide_eq_true_eq] at h
  exact h.1.2
theorem ctF_mem : ∀ (l : List TCached) (p : Option TCached), ctF p l = true → ∀ x ∈ l, okV x.f0 = true ∧ bagV x.f1 = true ∧ okD x.f2 = true
  | [], _, _, x, hx => by cases hx
  | y :: l, p, h, x, hx => by
    have h1 : (okV y.f0 = true ∧ bagV y.f1 = true ∧ okD y.f2 = true) ∧ ctF (some y) l = true := by
      cases p <;> simp only [ctF, Bool.and_eq_true] at h
      · exact ⟨⟨h.1, h.2.1, h.2.2.1⟩, h.2.2.2⟩
      · exact ⟨⟨h.1, h.2.2.1, h.2.2.2.1⟩, h.2.2.2.2⟩
    rcases List.mem_cons.1 hx with rfl | hx
    · exact h1.1
    · exact ctF_mem l _ h1.2 x hx
theorem cacheV_mem {l : List TCached} (h : cacheV l = true) : ∀ x ∈ l, okV x.f0 = true ∧ bagV x.f1 = true ∧ okD x.f2 = true := by
  simp only [cacheV, Bool.and_eq_true] at h
  exact ctF_mem l none h.1
theorem cacheV_len {l : List TCached} (h : cacheV l = true) : l.length ≤ 16 := by
  simp only [cacheV, Bool.and_eq_true, decide_eq_true_eq] at h
  exact h.2
theorem copied_bag (l : List TEntry) (h : bagV l = true) : Ev (fun k => cache_copied k l) l :=
  copied_ev l (by have := bagV_len h; omega) (fun e he => by have := okE_len (bagV_mem h e he); omega)
theorem duplicate_ev (x : TCached) (h : bagV x.f1 = true) : Ev (fun k => cache_duplicate k x) x := by
  unfold cache_duplicate
  exact Ev.bind (copied_bag _ h) (Ev.now _)
def liveC (t d : Int) (x : TCached) : Bool := decide (x.f2 ≤ d ∧ d < x.f2 + t)
def expS (t : Int) (l : List TCached) (d : Int) : List TCached := if cacheV l && (okD t && okD d) then l.filter (liveC t d) else []
theorem okD_rng {n : Int} (h : okD n = true) : 0 ≤ n ∧ n ≤ 1048576 := of_decide_eq_true h
theorem Expire_ev (c : TCache) (l : List TCached) (d : Int) (hl : FinC l) : Ev (fun k => cache_Expire k c l d) (expS c.f3 l d) := by
  unfold cache_Expire expS
  simp only [inDays_eq, Option.bind_some]
  refine Ev.bind (cache_Valid_ev l hl) ?_
  cases hv : cacheV l with
  | false => exact Ev.ite_pos rfl (Ev.now _)
  | true =>
    refine Ev.ite_neg (by simp) ?_
    cases ht : okD c.f3 with
    | false => exact Ev.ite_pos rfl (Ev.now _)
    | true =>
      refine Ev.ite_neg (by simp) ?_
      cases hd : okD d with
      | false => exact Ev.ite_pos rfl (Ev.now _)
      | true =>
        refine Ev.ite_neg (by simp) ?_
        have hn := cacheV_len hv
        have ht' := okD_rng ht
        have key : ∀ i, i ≤ l.length → ∀ acc : List TCached, acc.length ≤ i → Ev (fun k => cache_Expire.p1 k l d (i : Int) c acc) (acc ++ (l.drop i).filter (liveC c.f3 d)) := by
          refine loop_down (P := fun i => ∀ acc : List TCached, acc.length ≤ i → Ev (fun k => cache_Expire.p1 k l d (i : Int) c acc) (acc ++ (l.drop i).filter (liveC c.f3 d))) l.length ?_ ?_
          · intro acc _
            refine Ev.succ ?_
            simp only [cache_Expire.p1, decide_eq_true_eq]
            rw [List.drop_length]
            exact Ev.ite_neg (by omega) (Ev.done (by simp))
          · intro i hi ih acc ha
            refine Ev.succ ?_
            simp only [cache_Expire.p1, decide_eq_true_eq]
            obtain ⟨hx1, hx2, hx3⟩ := cacheV_mem hv _ (getD_mem dCached hi)
            have hx3 := okD_rng hx3
            rw [dC hi, wrn hi (by omega), wr (n := (l.getD (i : Int).toNat dCached).f2 + c.f3) (by omega), List.filter_cons]
            refine Ev.ite_pos (by omega) (Ev.ite_pos (by omega) ?_)
            unfold liveC at *
            by_cases h1 : d ≥ (l.getD (i : Int).toNat dCached).f2
            · refine Ev.ite_pos h1 ?_
              by_cases h2 : d < (l.getD (i : Int).toNat dCached).f2 + c.f3
              · refine Ev.ite_pos h2 (Ev.bind (duplicate_ev _ hx2) (Ev.ite_pos (by simp only [maxLen, List.length_singleton]; omega) ?_))
                rw [if_pos (decide_eq_true ⟨h1, h2⟩)]
                exact (ih (acc ++ [l.getD (i : Int).toNat dCached]) (by simp; omega)).to (by simp only [List.append_assoc, List.singleton_append])
              · rw [if_neg (by simp only [decide_eq_true_eq]; omega)]
                exact Ev.ite_neg h2 (ih acc (by omega))
            · rw [if_neg (by simp only [decide_eq_true_eq]; omega)]
              exact Ev.ite_neg h1 (ih acc (by omega))
        exact key 0 (by omega) [] (by simp)
theorem refExpire_ev (c : TCache) (l : List TCached) (d : Int) (hl : FinC l) : Ev (fun k => erasureref30_Expire k c l d) (expS c.f3 l d) := by
  unfold erasureref30_Expire expS
  simp only [ranged_eq, Option.bind_some]
  refine Ev.bind (ref30_Valid_ev l hl) ?_
  cases hv : cacheV l with
  | false => exact Ev.ite_pos rfl (Ev.now _)
  | true =>
    refine Ev.ite_neg (by simp) ?_
    cases ht : okD c.f3 with
    | false => exact Ev.ite_pos rfl (Ev.now _)
    | true =>
      cases hd : okD d with
      | false => exact Ev.ite_pos rfl (Ev.now _)
      | true =>
        refine Ev.ite_neg (by simp) ?_
        have hn := cacheV_len hv
        have ht' := okD_rng ht
        have key : ∀ i, i ≤ l.length → ∀ acc : List TCached, acc.length ≤ i → Ev (fun k => erasureref30_Expire.p1 k l d (i : Int) c acc) (acc ++ (l.drop i).filter (liveC c.f3 d)) := by
          refine loop_down (P := fun i => ∀ acc : List TCached, acc.length ≤ i → Ev (fun k => erasureref30_Expire.p1 k l d (i : Int) c acc) (acc ++ (l.drop i).filter (liveC c.f3 d))) l.length ?_ ?_
          · intro acc _
            refine Ev.succ ?_
            simp only [erasureref30_Expire.p1, decide_eq_true_eq]
            rw [List.drop_length]
            exact Ev.ite_neg (by omega) (Ev.done (by simp))
          · intro i hi ih acc ha
            refine Ev.succ ?_
            simp only [erasureref30_Expire.p1, decide_eq_true_eq]
            obtain ⟨hx1, hx2, hx3⟩ := cacheV_mem hv _ (getD_mem dCached hi)
            have hx3 := okD_rng hx3
            rw [dC hi, wrn hi (by omega), wr (n := (l.getD (i : Int).toNat dCached).f2 + c.f3) (by omega), List.filter_cons]
            refine Ev.ite_pos (by omega) (Ev.ite_pos (by omega) ?_)
            unfold liveC at *
            by_cases h1 : d ≥ (l.getD (i : Int).toNat dCached).f2
            · refine Ev.ite_pos h1 ?_
              by_cases h2 : d < (l.getD (i : Int).toNat dCached).f2 + c.f3
              · refine Ev.ite_pos h2 (Ev.ite_pos (by simp only [maxLen, List.length_singleton]; omega) ?_)
                rw [if_pos (decide_eq_true ⟨h1, h2⟩)]
                exact (ih (acc ++ [l.getD (i : Int).toNat dCached]) (by simp; omega)).to (by simp only [List.append_assoc, List.singleton_append])
              · rw [if_neg (by simp only [decide_eq_true_eq]; omega)]
                exact Ev.ite_neg h2 (ih acc (by omega))
            · rw [if_neg (by simp only [decide_eq_true_eq]; omega)]
              exact Ev.ite_neg h1 (ih acc (by omega))
        exact key 0 (by omega) [] (by simp)
theorem usable_ev (c : TCache) (l : List TCached) (rows : List TEntry) (d : Int) (hl : FinC l) (hr : Fin rows) : Ev (fun k => cache_usable k c l rows d) (cacheV l && (bagV rows && (okD c.f3 && okD d))) := by
  unfold cache_usable
  simp only [inDays_eq, Option.bind_some]
  refine Ev.bind (cache_Valid_ev l hl) ?_
  cases hv : cacheV l with
  | false => exact Ev.ite_neg (by simp) (Ev.now _)
  | true =>
    refine Ev.ite_pos rfl (Ev.bind (bag_Valid_ev rows hr) ?_)
    cases hb : bagV rows with
    | false => exact Ev.ite_neg (by simp) (Ev.now _)
    | true =>
      refine Ev.ite_pos rfl ?_
      cases ht : okD c.f3 with
      | false => exact Ev.ite_neg (by simp) (Ev.now _)
      | true => exact Ev.ite_pos rfl (Ev.now _)
end Go.Proofs.YtjhnpaenhdbhpabV
set_option linter.unusedVariables false
set_option linter.unusedSimpArgs false
namespace Go.Proofs.YtjhnpaenhdbhpabV
open Go Go.RowKit
theorem ins_eq {α : Type} (out : List α) (z y : α) (i : Nat) (hi : i ≤ out.length) :
    (copyL (out ++ [z]) ((i + 1 : Nat) : Int) ((out ++ [z]).length : Int) (subL (out ++ [z]) (i : Int) ((out ++ [z]).length : Int))).set i y = out.take i ++ y :: out.drop i := by
  have hn : ((((out ++ [z]).length : Nat) : Int)).toNat = out.length + 1 := by simp
  unfold copyL subL
  rw [hn]
  simp only [Int.toNat_natCast]
  have e1 : (List.take (out.length + 1) (out ++ [z])) = out ++ [z] := List.take_of_length_le (by simp)
  have e2 : (out ++ [z]).drop i = out.drop i ++ [z] := List.drop_append_of_le_length hi
  have e3 : (out.drop i ++ [z]).take (out.length + 1 - (i + 1)) = out.drop i := by
    rw [List.take_append_of_le_length (by simp), List.take_of_length_le (by simp)]
  have e4 : (out ++ [z]).drop (i + 1 + min (out.drop i ++ [z]).length (out.length + 1 - (i + 1))) = [] := List.drop_eq_nil_of_le (by simp; omega)
  rw [e1, e2, e3, e4, List.append_nil]
  have e5 : (out ++ [z]).take (i + 1) = out.take i ++ [(out ++ [z]).getD i z] := by
    rw [List.take_add_one, List.take_append_of_le_length hi]
    congr 1
    rw [List.getD_eq_getElem?_getD, List.getElem?_eq_getElem (by simp; omega)]; rfl
  rw [e5, List.append_assoc, List.set_append_right _ _ (by simp; omega)]
  have e6 : i - (out.take i).length = 0 := by simp; omega
  rw [e6]; rfl
theorem ins_get {α : Type} (d : α) (out : List α) (y : α) (i : Nat) (hi : i ≤ out.length) : (out.take i ++ y :: out.drop i).getD i d = y := by
  rw [List.getD_eq_getElem?_getD, List.getElem?_append_right (by simp; omega)]
  have e6 : i - (out.take i).length = 0 := by simp; omega
  rw [e6]; rfl
def insC (w : TValue) (y : TCached) : List TCached → List TCached
  | [] => [y]
  | x :: l => if cmpV x.f0 w < 0 then x :: insC w y l else y :: x :: l
theorem sel_bag (rows : List TEntry) (c : Int) (w : TValue) (h : bagV rows = true) : (selS rows c w).length ≤ 4096 ∧ ∀ e ∈ selS rows c w, e.f0.length ≤ 16 :=
  ⟨Nat.le_trans (List.length_filter_le _ _) (bagV_len h), fun e he => okE_len (bagV_mem h e (List.mem_filter.1 he).1)⟩
theorem lookup_p3 (rows : List TEntry) (d : Int) (c : TCache) (out : List TCached) (w : TValue) (hb : bagV rows = true) (hw : okV w = true) (hl : out.length ≤ 16) : ∀ i, i ≤ out.length →
    Ev (fun k => cache_Lookup.p3 k rows d (i : Int) c out w) (out.take i ++ insC w ⟨w, selS rows c.f2 w, d⟩ (out.drop i), selS rows c.f2 w, 0) := by
  have hs := sel_bag rows c.f2 w hb
  have hsel : Ev (fun k => cache_Select k rows c.f2 w) (selS rows c.f2 w) := by
    have := sel_ev rows c.f2 w (by have := bagV_len hb; omega) (fun e he => by have := okE_len (bagV_mem hb e he); omega)
    rwa [show clV w = w from if_pos hw] at this
  have hcp : Ev (fun k => cache_copied k (selS rows c.f2 w)) (selS rows c.f2 w) := copied_ev _ (by omega) (fun e he => by have := hs.2 e he; omega)
  refine loop_down (P := fun i => Ev (fun k => cache_Lookup.p3 k rows d (i : Int) c out w) (out.take i ++ insC w ⟨w, selS rows c.f2 w, d⟩ (out.drop i), selS rows c.f2 w, 0)) out.length ?_ ?_
  · refine Ev.succ ?_
    simp only [cache_Lookup.p3, decide_eq_true_eq]
    have hw1 : IntKind.i64.wrap ((out.length : Int) + 1) = ((out.length + 1 : Nat) : Int) := by rw [wr (by omega)]; omega
    simp only [hw1]
    refine Ev.ite_neg (by omega) (Ev.ite_pos (by simp only [maxLen, List.length_singleton]; omega) (Ev.ite_pos (by simp only [List.length_append, List.length_singleton]; omega) (Ev.ite_pos (by simp only [List.length_append, List.length_singleton]; omega) (Ev.bind hsel (Ev.ite_pos (by simp only [List.length_append, List.length_singleton]; omega) ?_)))))
    have e := ins_eq out (TCached.mk (TValue.mk 0 0 (⟨#[]⟩ : ByteArray)) ([] : List TEntry) 0) ⟨w, selS rows c.f2 w, d⟩ out.length (Nat.le_refl _)
    simp only [Int.toNat_natCast]
    rw [e, ins_get _ _ _ _ (Nat.le_refl _)]
    refine Ev.bind hcp (Ev.done ?_)
    rw [List.drop_length]; rfl
  · intro i hi ih
    refine Ev.succ ?_
    simp only [cache_Lookup.p3, decide_eq_true_eq, value_Compare_eq, Option.bind_some]
    rw [dC hi]
    have hw1 : IntKind.i64.wrap ((i : Int) + 1) = ((i + 1 : Nat) : Int) := wrn hi (by omega)
    simp only [hw1]
    refine Ev.ite_pos (by omega) (Ev.ite_pos (by omega) ?_)
    unfold insC
    by_cases hc : cmpV (out.getD (i : Int).toNat dCached).f0 w < 0
    · rw [if_pos hc]
      refine Ev.ite_pos hc (ih.to ?_)
      have e5 : out.take (i + 1) = out.take i ++ [out.getD (i : Int).toNat dCached] := by
        rw [List.take_add_one]
        congr 1
        rw [Int.toNat_natCast, List.getD_eq_getElem?_getD, List.getElem?_eq_getElem hi]; rfl
      rw [e5, List.append_assoc]; rfl
    · rw [if_neg hc]
      refine Ev.ite_neg hc (Ev.ite_pos (by simp only [maxLen, List.length_singleton]; omega) (Ev.ite_pos (by simp only [List.length_append, List.length_singleton]; omega) (Ev.ite_pos (by simp only [List.length_append, List.length_singleton]; omega) (Ev.bind hsel (Ev.ite_pos (by simp only [List.length_append, List.length_singleton]; omega) ?_)))))
      have e := ins_eq out (TCached.mk (TValue.mk 0 0 (⟨#[]⟩ : ByteArray)) ([] : List TEntry) 0) ⟨w, selS rows c.f2 w, d⟩ i (by omega)
      simp only [Int.toNat_natCast]
      rw [e, ins_get _ _ _ _ (by omega)]
      refine Ev.bind hcp (Ev.done ?_)
      have h2 := dC hi
      rw [Int.toNat_natCast] at h2
      rw [← h2]
def oldestF (l : List TCached) : Nat → Nat → List TCached → Nat
  | b, _, [] => b
  | b, i, x :: r => oldestF l (if x.f2 < (l.getD b dCached).f2 then i else b) (i + 1) r
theorem oldestF_lt (l : List TCached) : ∀ (r : List TCached) (b i : Nat), b < l.length → i + r.length ≤ l.length → oldestF l b i r < l.length
  | [], b, i, hb, _ => hb
  | x :: r, b, i, hb, hi => by
    unfold oldestF
    simp only [List.length_cons] at hi
    refine oldestF_lt l r _ (i + 1) ?_ (by omega)
    split
    · omega
    · exact hb
def dropOld (l : List TCached) : List TCached := l.take (oldestF l 0 1 (l.drop 1)) ++ l.drop (oldestF l 0 1 (l.drop 1) + 1)
theorem dropOld_len {l : List TCached} (h : 0 < l.length) : (dropOld l).length = l.length - 1 := by
  have := oldestF_lt l (l.drop 1) 0 1 h (by simp; omega)
  unfold dropOld
  simp only [List.length_append, List.length_take, List.length_drop]
  omega
theorem lookup_p2 (rows : List TEntry) (d : Int) (c : TCache) (out : List TCached) (w : TValue) (hb : bagV rows = true) (hw : okV w = true) (hl : out.length ≤ 16) : ∀ i, i ≤ out.length → ∀ b, b < out.length →
    Ev (fun k => cache_Lookup.p2 k rows d (b : Int) (i : Int) c out w) (insC w ⟨w, selS rows c.f2 w, d⟩ (out.take (oldestF out b i (out.drop i)) ++ out.drop (oldestF out b i (out.drop i) + 1)), selS rows c.f2 w, 0) := by
  refine loop_down (P := fun i => ∀ b, b < out.length → Ev (fun k => cache_Lookup.p2 k rows d (b : Int) (i : Int) c out w) (insC w ⟨w, selS rows c.f2 w, d⟩ (out.take (oldestF out b i (out.drop i)) ++ out.drop (oldestF out b i (out.drop i) + 1)), selS rows c.f2 w, 0)) out.length ?_ ?_
  · intro b hbl
    refine Ev.succ ?_
    simp only [cache_Lookup.p2, decide_eq_true_eq]
    rw [List.drop_length]
    have hw1 : IntKind.i64.wrap ((b : Int) + 1) = ((b + 1 : Nat) : Int) := by rw [wr (by omega)]; omega
    have e1 : subL out (0 : Int) (b : Int) = out.take b := by simp [subL]
    have e2 : subL out ((b + 1 : Nat) : Int) ((out.length : Nat) : Int) = out.drop (b + 1) := by simp [subL]
    simp only [hw1, e1, e2]
    refine Ev.ite_neg (by omega) (Ev.ite_pos (by omega) (Ev.ite_pos (by omega) (Ev.ite_pos (by simp only [maxLen]; omega) ?_)))
    have := lookup_p3 rows d c (out.take b ++ out.drop (b + 1)) w hb hw (by simp; omega) 0 (by omega)
    simpa [oldestF] using this
  · intro i hi ih b hbl
    refine Ev.succ ?_
    simp only [cache_Lookup.p2, decide_eq_true_eq]
    refine Ev.ite_pos (by omega) (Ev.ite_pos (by omega) (Ev.ite_pos (by omega) ?_))
    have h2 := dC hi
    rw [wrn hi (by omega), h2]
    unfold oldestF
    by_cases hc : (out.getD (i : Int).toNat dCached).f2 < (out.getD (b : Int).toNat dCached).f2
    · refine Ev.ite_pos hc ?_
      have hc' : (out.getD (i : Int).toNat dCached).f2 < (out.getD b dCached).f2 := hc
      rw [if_pos hc']
      exact ih i hi
    · refine Ev.ite_neg hc ?_
      have hc' : ¬ (out.getD (i : Int).toNat dCached).f2 < (out.getD b dCached).f2 := hc
      rw [if_neg hc']
      exact ih b hbl
def lookF (rows : List TEntry) (d : Int) (c : TCache) (out : List TCached) (w : TValue) : List TCached → List TCached × List TEntry × Int
  | [] => (insC w ⟨w, selS rows c.f2 w, d⟩ (if 16 ≤ out.length then dropOld out else out), selS rows c.f2 w, 0)
  | x :: r => if x.f0 = w then (out, x.f1, 0) else lookF rows d c out w r
def lookS (c : TCache) (l : List TCached) (rows : List TEntry) (v : TValue) (d : Int) : List TCached × List TEntry × Int :=
  if cacheV l && (bagV rows && (okD c.f3 && okD d)) then lookF rows d c (expS c.f3 l d) (clV v) (expS c.f3 l d) else ([], [], 1)
theorem lookup_p1 (rows : List TEntry) (d : Int) (c : TCache) (out : List TCached) (w : TValue) (hb : bagV rows = true) (hw : okV w = true) (hl : out.length ≤ 16) (ho : ∀ x ∈ out, bagV x.f1 = true) : ∀ i, i ≤ out.length →
    Ev (fun k => cache_Lookup.p1 k rows d (i : Int) c out w) (lookF rows d c out w (out.drop i)) := by
  refine loop_down (P := fun i => Ev (fun k => cache_Lookup.p1 k rows d (i : Int) c out w) (lookF rows d c out w (out.drop i))) out.length ?_ ?_
  · refine Ev.succ ?_
    simp only [cache_Lookup.p1, decide_eq_true_eq]
    rw [List.drop_length]
    refine Ev.ite_neg (by omega) ?_
    unfold lookF
    by_cases h : 16 ≤ out.length
    · rw [if_pos h]
      exact Ev.ite_pos (by omega) (lookup_p2 rows d c out w hb hw hl 1 (by omega) 0 (by omega))
    · rw [if_neg h]
      refine Ev.ite_neg (by omega) ?_
      have := lookup_p3 rows d c out w hb hw hl 0 (by omega)
      simpa using this
  · intro i hi ih
    refine Ev.succ ?_
    simp only [cache_Lookup.p1, decide_eq_true_eq, eqV_iff]
    refine Ev.ite_pos (by omega) (Ev.ite_pos (by omega) ?_)
    have h2 := dC hi
    rw [wrn hi (by omega), h2]
    unfold lookF
    by_cases hc : (out.getD (i : Int).toNat dCached).f0 = w
    · rw [if_pos hc]; exact Ev.ite_pos hc (Ev.bind (copied_bag _ (ho _ (getD_mem _ hi))) (Ev.now _))
    · rw [if_neg hc]; exact Ev.ite_neg hc ih
theorem expS_mem {t d : Int} {l : List TCached} : ∀ x ∈ expS t l d, okV x.f0 = true ∧ bagV x.f1 = true ∧ okD x.f2 = true := by
  intro x hx
  unfold expS at hx
  split at hx
  · rename_i h
    simp only [Bool.and_eq_true] at h
    exact cacheV_mem h.1 x (List.mem_filter.1 hx).1
  · cases hx
theorem expS_len {t d : Int} {l : List TCached} : (expS t l d).length ≤ 16 := by
  unfold expS
  split
  · rename_i h
    simp only [Bool.and_eq_true] at h
    exact Nat.le_trans (List.length_filter_le _ _) (cacheV_len h.1)
  · simp
theorem Lookup_ev (c : TCache) (l : List TCached) (rows : List TEntry) (v : TValue) (d : Int) (hl : FinC l) (hr : Fin rows) : Ev (fun k => cache_Lookup k c l rows v d) (lookS c l rows v d) := by
  unfold cache_Lookup lookS
  refine Ev.bind (usable_ev c l rows d hl hr) ?_
  cases hu : cacheV l && (bagV rows && (okD c.f3 && okD d)) with
  | false => exact Ev.ite_pos rfl (Ev.now _)
  | true =>
    refine Ev.ite_neg (by simp) (Ev.bind (Expire_ev c l d hl) ?_)
    simp only [value_Clean_eq, Option.bind_some, if_true]
    simp only [Bool.and_eq_true] at hu
    exact lookup_p1 rows d c _ (clV v) hu.2.1 (okV_cl v) expS_len (fun x hx => (expS_mem x hx).2.1) 0 (by omega)
end Go.Proofs.YtjhnpaenhdbhpabV
set_option linter.unusedVariables false
set_option linter.unusedSimpArgs false
namespace Go.Proofs.YtjhnpaenhdbhpabV
open Go Go.RowKit
theorem cmpC_trans {a b c : TValue} (ha : okV a = true) (hb : okV b = true) (hc : okV c = true) (h1 : cmpC a b < 0) (h2 : cmpC b c < 0) : cmpC a c < 0 := by
  rw [cmpC_neg ha hb] at h1
  rw [cmpC_neg hb hc] at h2
  rw [cmpC_neg ha hc]
  rcases h1 with h1 | ⟨e1, h1⟩ <;> rcases h2 with h2 | ⟨e2, h2⟩
  · exact .inl (by omega)
  · exact .inl (by omega)
  · exact .inl (by omega)
  · refine .inr ⟨by omega, ?_⟩
    rcases ok_cases ha with ⟨a0, a1, a2⟩ | ⟨a0, a2⟩ | ⟨a0, a1⟩ <;> rcases ok_cases hb with ⟨b0, b1, b2⟩ | ⟨b0, b2⟩ | ⟨b0, b1⟩ <;> rcases ok_cases hc with ⟨c0, c1, c2⟩ | ⟨c0, c2⟩ | ⟨c0, c1⟩ <;> (try omega)
    · rw [a2, b2] at h1
      rcases h1 with h1 | h1
      · omega
      · exact absurd h1 (List.lt_irrefl _)
    · rw [a2, b2] at h1
      rw [b2, c2] at h2
      rcases h1 with h1 | h1
      · rcases h2 with h2 | h2
        · exact .inl (by omega)
        · exact absurd h2 (List.lt_irrefl _)
      · exact absurd h1 (List.lt_irrefl _)
    · rcases h1 with h1 | h1
      · omega
      · rcases h2 with h2 | h2
        · omega
        · exact .inr (List.lt_trans h1 h2)
theorem cmpV_trans {a b c : TValue} (h1 : cmpV a b < 0) (h2 : cmpV b c < 0) : cmpV a c < 0 := cmpC_trans (okV_cl a) (okV_cl b) (okV_cl c) h1 h2
theorem cmpV_swap (a b : TValue) : cmpV b a = - cmpV a b := cmpC_swap _ _
theorem cmpV_self (a : TValue) : cmpV a a = 0 := (cmpC_zero (okV_cl a) (okV_cl a)).2 rfl
theorem cmpV_zero {a b : TValue} (ha : okV a = true) (hb : okV b = true) : cmpV a b = 0 ↔ a = b := by
  unfold cmpV
  rw [clV_ok ha, clV_ok hb]
  exact cmpC_zero ha hb
end Go.Proofs.YtjhnpaenhdbhpabV
set_option linter.unusedVariables false
set_option linter.unusedSimpArgs false
namespace Go.Proofs.YtjhnpaenhdbhpabV
open Go Go.RowKit
def Ord (l : List TCached) : Prop := l.Pairwise fun x y => cmpV x.f0 y.f0 < 0
theorem ctF_ord : ∀ (l : List TCached) (p : Option TCached), ctF p l = true → Ord l ∧ ∀ q, p = some q → ∀ x ∈ l, cmpV q.f0 x.f0 < 0
  | [], _, _ => ⟨List.Pairwise.nil, fun _ _ x hx => by cases hx⟩
  | y :: l, p, h => by
    have h1 : ctF (some y) l = true ∧ ∀ q, p = some q → cmpV q.f0 y.f0 < 0 := by
      cases p with
      | none => simp only [ctF, Bool.and_eq_true] at h; exact ⟨h.2.2.2, fun q e => by cases e⟩
      | some p => simp only [ctF, Bool.and_eq_true, decide_eq_true_eq] at h; exact ⟨h.2.2.2.2, fun q e => by cases e; exact h.2.1⟩
    obtain ⟨i1, i2⟩ := ctF_ord l (some y) h1.1
    refine ⟨List.Pairwise.cons (fun x hx => i2 y rfl x hx) i1, fun q hq x hx => ?_⟩
    rcases List.mem_cons.1 hx with rfl | hx
    · exact h1.2 q hq
    · exact cmpV_trans (h1.2 q hq) (i2 y rfl x hx)
theorem cacheV_ord {l : List TCached} (h : cacheV l = true) : Ord l := by
  simp only [cacheV, Bool.and_eq_true] at h
  exact (ctF_ord l none h.1).1
theorem expS_ord {t d : Int} {l : List TCached} : Ord (expS t l d) := by
  unfold expS
  split
  · rename_i h
    simp only [Bool.and_eq_true] at h
    exact (cacheV_ord h.1).filter _
  · exact List.Pairwise.nil
def bubC (y : TCached) : List TCached → List TCached → List TCached
  | [], B => y :: B
  | a :: A, B => if cmpV y.f0 a.f0 < 0 then bubC y A (a :: B) else (a :: A).reverse ++ y :: B
theorem insC_cons (w : TValue) (y x : TCached) (l : List TCached) : insC w y (x :: l) = if cmpV x.f0 w < 0 then x :: insC w y l else y :: x :: l := rfl
theorem insC_app (w : TValue) (y : TCached) : ∀ (l B : List TCached), (∀ x ∈ l, cmpV x.f0 w < 0) → insC w y (l ++ B) = l ++ insC w y B
  | [], _, _ => rfl
  | x :: l, B, h => by
    show insC w y (x :: (l ++ B)) = _
    rw [insC_cons, if_pos (h x (List.mem_cons_self ..)), insC_app w y l B (fun z hz => h z (List.mem_cons_of_mem _ hz))]; rfl
theorem insC_gt (w : TValue) (y : TCached) (B : List TCached) (h : ∀ x ∈ B, ¬ cmpV x.f0 w < 0) : insC w y B = y :: B := by
  cases B with
  | nil => rfl
  | cons b B => unfold insC; rw [if_neg (h b (List.mem_cons_self ..))]
theorem bub_ins (w : TValue) (y : TCached) (hy : y.f0 = w) : ∀ (A B : List TCached), Ord (A.reverse ++ B) → (∀ x ∈ A.reverse ++ B, cmpV x.f0 w ≠ 0) → (∀ x ∈ B, ¬ cmpV x.f0 w < 0) → bubC y A B = insC w y (A.reverse ++ B)
  | [], B, _, _, hB => by unfold bubC; rw [List.reverse_nil, List.nil_append, insC_gt w y B hB]
  | a :: A, B, ho, hn, hB => by
    unfold bubC
    rw [hy]
    have ha0 := hn a (by simp)
    have hsw := cmpV_swap a.f0 w
    by_cases h : cmpV w a.f0 < 0
    · rw [if_pos h]
      have e : (a :: A).reverse ++ B = A.reverse ++ (a :: B) := by simp
      rw [e] at ho hn ⊢
      refine bub_ins w y hy A (a :: B) ho hn (fun x hx => ?_)
      rcases List.mem_cons.1 hx with rfl | hx
      · omega
      · exact hB x hx
    · rw [if_neg h]
      have hlt : cmpV a.f0 w < 0 := by omega
      have hall : ∀ x ∈ (a :: A).reverse, cmpV x.f0 w < 0 := by
        intro x hx
        rw [List.reverse_cons] at hx
        rcases List.mem_append.1 hx with hx | hx
        · have hp : Ord (A.reverse ++ [a]) := by
            have := (List.pairwise_append.1 ho).1
            rwa [List.reverse_cons] at this
          exact cmpV_trans ((List.pairwise_append.1 hp).2.2 x hx a (by simp)) hlt
        · rw [List.mem_singleton] at hx; subst hx; exact hlt
      rw [insC_app w y _ B hall, insC_gt w y B hB]
end Go.Proofs.YtjhnpaenhdbhpabV
set_option linter.unusedVariables false
set_option linter.unusedSimpArgs false
namespace Go.Proofs.YtjhnpaenhdbhpabV
open Go Go.RowKit
theorem getD_at {α : Type} (d x : α) (P Q : List α) (n : Int) (hn : n = (P.length : Int)) : (P ++ x :: Q).getD n.toNat d = x := by
  subst hn
  rw [Int.toNat_natCast, List.getD_eq_getElem?_getD, List.getElem?_append_right (Nat.le_refl _)]; simp
theorem set_at {α : Type} (x y : α) (P Q : List α) (n : Nat) (hn : n = P.length) : (P ++ x :: Q).set n y = P ++ y :: Q := by
  subst hn
  rw [List.set_append_right _ _ (Nat.le_refl _), Nat.sub_self]; rfl
theorem refLookup_p3 (rows : List TEntry) (c : TCache) (w : TValue) (y : TCached) (hb : bagV rows = true) (hw : okV w = true) : ∀ (A B : List TCached), A.length ≤ 100 →
    Ev (fun k => erasureref30_Lookup.p3 k rows (A.length : Int) c w (A.reverse ++ y :: B)) (bubC y A B, selS rows c.f2 w, 0) := by
  have hsel : Ev (fun k => erasureref30_Select k rows c.f2 w) (selS rows c.f2 w) := by
    have := refSel_ev rows c.f2 w (by have := bagV_len hb; omega)
    rwa [show clV w = w from if_pos hw] at this
  intro A
  induction A with
  | nil =>
    intro B _
    refine Ev.succ ?_
    simp only [erasureref30_Lookup.p3, decide_eq_true_eq]
    exact Ev.ite_neg (by simp) (Ev.bind hsel (Ev.now _))
  | cons a A ih =>
    intro B hl
    simp only [List.length_cons] at hl
    refine Ev.succ ?_
    simp only [erasureref30_Lookup.p3, decide_eq_true_eq, ref01_Compare_eq, Option.bind_some]
    have hw1 : IntKind.i64.wrap (((a :: A).length : Int) - 1) = (A.length : Int) := by rw [wr (by simp; omega)]; simp
    have e0 : (a :: A).reverse ++ y :: B = A.reverse ++ a :: (y :: B) := by simp
    have e1 : ((a :: A).reverse ++ y :: B).getD ((a :: A).length : Int).toNat dCached = y := getD_at _ _ _ _ _ (by simp)
    have e2 : ((a :: A).reverse ++ y :: B).getD (A.length : Int).toNat dCached = a := by rw [e0]; exact getD_at _ _ _ _ _ (by simp)
    have e3 : (((a :: A).reverse ++ y :: B).set (A.length : Int).toNat y).set ((a :: A).length : Int).toNat a = A.reverse ++ y :: (a :: B) := by
      rw [e0, Int.toNat_natCast, Int.toNat_natCast, set_at a y A.reverse (y :: B) A.length (by simp)]
      have e4 : A.reverse ++ y :: (y :: B) = (A.reverse ++ [y]) ++ y :: B := by simp
      rw [e4, set_at y a (A.reverse ++ [y]) B (a :: A).length (by simp)]
      simp
    simp only [hw1, e1, e2, e3]
    refine Ev.ite_pos (by simp only [List.length_cons]; omega) (Ev.ite_pos (by simp only [List.length_append, List.length_reverse, List.length_cons]; omega) (Ev.ite_pos (by simp only [List.length_append, List.length_reverse, List.length_cons]; omega) ?_))
    unfold bubC
    by_cases hc : cmpV y.f0 a.f0 < 0
    · rw [if_pos hc]; exact Ev.ite_pos hc (ih (a :: B) (by omega))
    · rw [if_neg hc]; exact Ev.ite_neg hc (Ev.bind hsel (Ev.now _))
theorem without_ev (l : List TCached) (v : TValue) (hl : l.length ≤ 1099511627776) : Ev (fun k => erasureref30_without k l v) (l.filter fun x => !decide (x.f0 = v)) := by
  unfold erasureref30_without
  have key : ∀ i, i ≤ l.length → ∀ acc : List TCached, acc.length ≤ i → Ev (fun k => erasureref30_without.p1 k l (i : Int) v acc) (acc ++ (l.drop i).filter fun x => !decide (x.f0 = v)) := by
    refine loop_down (P := fun i => ∀ acc : List TCached, acc.length ≤ i → Ev (fun k => erasureref30_without.p1 k l (i : Int) v acc) (acc ++ (l.drop i).filter fun x => !decide (x.f0 = v))) l.length ?_ ?_
    · intro acc _
      refine Ev.succ ?_
      simp only [erasureref30_without.p1, decide_eq_true_eq]
      rw [List.drop_length]
      exact Ev.ite_neg (by omega) (Ev.done (by simp))
    · intro i hi ih acc ha
      refine Ev.succ ?_
      simp only [erasureref30_without.p1, eqV_iff, decide_eq_true_eq]
      rw [dC hi, wrn hi (by omega), List.filter_cons]
      refine Ev.ite_pos (by omega) (Ev.ite_pos (by omega) ?_)
      cases hc : !decide ((l.getD (i : Int).toNat dCached).f0 = v) with
      | true =>
        refine Ev.ite_pos rfl (Ev.ite_pos (by simp only [maxLen, List.length_singleton]; omega) ?_)
        exact (ih (acc ++ [l.getD (i : Int).toNat dCached]) (by simp; omega)).to (by simp only [if_true, List.append_assoc, List.singleton_append])
      | false => exact Ev.ite_neg (by simp) (ih acc (by omega))
  exact key 0 (by omega) [] (by simp)
theorem filter_other : ∀ (l : List TCached) (n : Nat), Ord l → n < l.length → (l.filter fun x => !decide (x.f0 = (l.getD n dCached).f0)) = l.take n ++ l.drop (n + 1)
  | [], n, _, h => by simp at h
  | a :: l, 0, ho, _ => by
    have hne : ∀ x ∈ l, (!decide (x.f0 = a.f0)) = true := by
      intro x hx
      have := (List.pairwise_cons.1 ho).1 x hx
      rw [Bool.not_eq_true', decide_eq_false_iff_not]
      intro e; rw [e, cmpV_self] at this; omega
    show (List.filter (fun x => !decide (x.f0 = a.f0)) (a :: l)) = l
    rw [List.filter_cons, if_neg (by simp), List.filter_eq_self.2 hne]
  | a :: l, n + 1, ho, h => by
    have hn : n < l.length := by simpa using h
    have ih := filter_other l n (List.pairwise_cons.1 ho).2 hn
    have hm : l.getD n dCached ∈ l := by rw [List.getD_eq_getElem?_getD, List.getElem?_eq_getElem hn]; exact List.getElem_mem _
    have hne : a.f0 ≠ (l.getD n dCached).f0 := fun e => by
      have := (List.pairwise_cons.1 ho).1 _ hm
      rw [← e, cmpV_self] at this; omega
    show (List.filter (fun x => !decide (x.f0 = (l.getD n dCached).f0)) (a :: l)) = a :: (l.take n ++ l.drop (n + 1))
    rw [List.filter_cons, if_pos (by rw [decide_eq_false hne]; rfl), ih]
theorem refLookup_p2 (rows : List TEntry) (d : Int) (c : TCache) (out : List TCached) (w : TValue) (hb : bagV rows = true) (hw : okV w = true) (hl : out.length ≤ 16) (ho : Ord out) (hn : ∀ x ∈ out, cmpV x.f0 w ≠ 0) : ∀ i, i ≤ out.length → ∀ b, b < out.length →
    Ev (fun k => erasureref30_Lookup.p2 k rows d (b : Int) (i : Int) c w out) (insC w ⟨w, selS rows c.f2 w, d⟩ (out.take (oldestF out b i (out.drop i)) ++ out.drop (oldestF out b i (out.drop i) + 1)), selS rows c.f2 w, 0) := by
  have hsel : Ev (fun k => erasureref30_Select k rows c.f2 w) (selS rows c.f2 w) := by
    have := refSel_ev rows c.f2 w (by have := bagV_len hb; omega)
    rwa [show clV w = w from if_pos hw] at this
  refine loop_down (P := fun i => ∀ b, b < out.length → Ev (fun k => erasureref30_Lookup.p2 k rows d (b : Int) (i : Int) c w out) (insC w ⟨w, selS rows c.f2 w, d⟩ (out.take (oldestF out b i (out.drop i)) ++ out.drop (oldestF out b i (out.drop i) + 1)), selS rows c.f2 w, 0)) out.length ?_ ?_
  · intro b hbl
    refine Ev.succ ?_
    simp only [erasureref30_Lookup.p2, decide_eq_true_eq, List.nil_append]
    rw [List.drop_length]
    have hwo : Ev (fun k => erasureref30_without k out ((out.getD (b : Int).toNat dCached).f0)) (out.take b ++ out.drop (b + 1)) := by
      have := without_ev out ((out.getD b dCached).f0) (by omega)
      rw [filter_other out b ho hbl] at this
      exact this
    have hlen : (out.take b ++ out.drop (b + 1)).length ≤ 16 := by simp; omega
    have hsub : (out.take b ++ out.drop (b + 1)).Sublist out := by
      have := List.Sublist.append (List.Sublist.refl (out.take b)) (List.drop_sublist 1 (out.drop b))
      rw [List.take_append_drop, List.drop_drop] at this
      exact this
    refine Ev.ite_neg (by omega) (Ev.ite_pos (by omega) (Ev.bind hwo ?_))
    show Ev _ (insC w ⟨w, selS rows c.f2 w, d⟩ (out.take b ++ out.drop (b + 1)), selS rows c.f2 w, 0)
    generalize hO : out.take b ++ out.drop (b + 1) = O at *
    refine Ev.ite_pos (by simp only [maxLen, List.length_nil]; omega) (Ev.bind hsel (Ev.ite_pos (by simp only [maxLen, List.length_singleton]; omega) ?_))
    have hw1 : IntKind.i64.wrap (((O ++ [(TCached.mk w (selS rows c.f2 w) d)]).length : Int) - 1) = (O.reverse.length : Int) := by rw [wr (by simp; omega)]; simp
    rw [hw1]
    have := refLookup_p3 rows c w ⟨w, selS rows c.f2 w, d⟩ hb hw O.reverse [] (by simp; omega)
    rw [List.reverse_reverse] at this
    refine this.to ?_
    rw [bub_ins w _ rfl O.reverse [] (by rw [List.reverse_reverse, List.append_nil]; exact List.Pairwise.sublist hsub ho) (by rw [List.reverse_reverse, List.append_nil]; exact fun x hx => hn x (hsub.subset hx)) (fun x hx => by cases hx), List.reverse_reverse, List.append_nil]
  · intro i hi ih b hbl
    refine Ev.succ ?_
    simp only [erasureref30_Lookup.p2, decide_eq_true_eq]
    refine Ev.ite_pos (by omega) (Ev.ite_pos (by omega) (Ev.ite_pos (by omega) ?_))
    have h2 := dC hi
    rw [wrn hi (by omega), h2]
    unfold oldestF
    by_cases hc : (out.getD (i : Int).toNat dCached).f2 < (out.getD (b : Int).toNat dCached).f2
    · refine Ev.ite_pos hc ?_
      have hc' : (out.getD (i : Int).toNat dCached).f2 < (out.getD b dCached).f2 := hc
      rw [if_pos hc']
      exact ih i hi
    · refine Ev.ite_neg hc ?_
      have hc' : ¬ (out.getD (i : Int).toNat dCached).f2 < (out.getD b dCached).f2 := hc
      rw [if_neg hc']
      exact ih b hbl
theorem refLookup_p1 (rows : List TEntry) (d : Int) (c : TCache) (out : List TCached) (w : TValue) (hb : bagV rows = true) (hw : okV w = true) (hl : out.length ≤ 16) (ho : Ord out) (hv : ∀ x ∈ out, okV x.f0 = true) : ∀ i, i ≤ out.length → (∀ x ∈ out.take i, x.f0 ≠ w) →
    Ev (fun k => erasureref30_Lookup.p1 k rows d (i : Int) c w out) (lookF rows d c out w (out.drop i)) := by
  have hsel : Ev (fun k => erasureref30_Select k rows c.f2 w) (selS rows c.f2 w) := by
    have := refSel_ev rows c.f2 w (by have := bagV_len hb; omega)
    rwa [show clV w = w from if_pos hw] at this
  refine loop_down (P := fun i => (∀ x ∈ out.take i, x.f0 ≠ w) → Ev (fun k => erasureref30_Lookup.p1 k rows d (i : Int) c w out) (lookF rows d c out w (out.drop i))) out.length ?_ ?_
  · intro hne
    rw [List.take_length] at hne
    have hn : ∀ x ∈ out, cmpV x.f0 w ≠ 0 := fun x hx e => hne x hx ((cmpV_zero (hv x hx) hw).1 e)
    refine Ev.succ ?_
    simp only [erasureref30_Lookup.p1, decide_eq_true_eq, List.nil_append]
    rw [List.drop_length]
    refine Ev.ite_neg (by omega) ?_
    unfold lookF
    by_cases h : 16 ≤ out.length
    · rw [if_pos h]
      exact Ev.ite_pos (by omega) (refLookup_p2 rows d c out w hb hw hl ho hn 1 (by omega) 0 (by omega))
    · rw [if_neg h]
      refine Ev.ite_neg (by omega) (Ev.ite_pos (by simp only [maxLen, List.length_nil]; omega) (Ev.bind hsel (Ev.ite_pos (by simp only [maxLen, List.length_singleton]; omega) ?_)))
      have hw1 : IntKind.i64.wrap (((out ++ [(TCached.mk w (selS rows c.f2 w) d)]).length : Int) - 1) = (out.reverse.length : Int) := by rw [wr (by simp; omega)]; simp
      rw [hw1]
      have := refLookup_p3 rows c w ⟨w, selS rows c.f2 w, d⟩ hb hw out.reverse [] (by simp; omega)
      rw [List.reverse_reverse] at this
      refine this.to ?_
      rw [bub_ins w _ rfl out.reverse [] (by rw [List.reverse_reverse, List.append_nil]; exact ho) (by rw [List.reverse_reverse, List.append_nil]; exact hn) (fun x hx => by cases hx), List.reverse_reverse, List.append_nil]
  · intro i hi ih hne
    refine Ev.succ ?_
    simp only [erasureref30_Lookup.p1, decide_eq_true_eq, eqV_iff]
    refine Ev.ite_pos (by omega) (Ev.ite_pos (by omega) ?_)
    have h2 := dC hi
    rw [wrn hi (by omega), h2]
    unfold lookF
    by_cases hc : (out.getD (i : Int).toNat dCached).f0 = w
    · rw [if_pos hc]; exact Ev.ite_pos hc (Ev.now _)
    · rw [if_neg hc]
      refine Ev.ite_neg hc (ih ?_)
      have e5 : out.take (i + 1) = out.take i ++ [out.getD (i : Int).toNat dCached] := by
        rw [List.take_add_one]
        congr 1
        rw [Int.toNat_natCast, List.getD_eq_getElem?_getD, List.getElem?_eq_getElem hi]; rfl
      intro x hx
      rw [e5] at hx
      rcases List.mem_append.1 hx with hx | hx
      · exact hne x hx
      · rw [List.mem_singleton] at hx; subst hx; exact hc
theorem refLookup_ev (c : TCache) (l : List TCached) (rows : List TEntry) (v : TValue) (d : Int) (hl : FinC l) (hr : Fin rows) : Ev (fun k => erasureref30_Lookup k c l rows v d) (lookS c l rows v d) := by
  unfold erasureref30_Lookup lookS
  refine Ev.bind (ref30_Valid_ev l hl) ?_
  cases hv : cacheV l with
  | false => exact Ev.ite_pos rfl (Ev.now _)
  | true =>
    refine Ev.ite_neg (by simp) (Ev.bind (ref06_Valid_ev rows hr) ?_)
    cases hb : bagV rows with
    | false => exact Ev.ite_pos rfl (Ev.now _)
    | true =>
      refine Ev.ite_neg (by simp) ?_
      simp only [ranged_eq, Option.bind_some, ref01_Clean_eq]
      cases ht : okD c.f3 && okD d with
      | false => exact Ev.ite_pos rfl (Ev.now _)
      | true =>
        refine Ev.ite_neg (by simp) (Ev.bind (refExpire_ev c l d hl) ?_)
        exact refLookup_p1 rows d c _ (clV v) hb (okV_cl v) expS_len expS_ord (fun x hx => (expS_mem x hx).1) 0 (by omega) (fun x hx => by simp at hx)
end Go.Proofs.YtjhnpaenhdbhpabV
set_option linter.unusedVariables false
set_option linter.unusedSimpArgs false
namespace Go.Proofs.YtjhnpaenhdbhpabV
open Go Go.RowKit
theorem ref22_SameRow_ev (a b : List TValue) (ha : a.length ≤ 9223372036854775807) : Ev (fun k => erasureref22_SameRow k a b) (decide (a = b)) := by
  unfold erasureref22_SameRow
  simp only [bne_iff_ne, ne_eq, ite_not]
  by_cases hl : a.length = b.length
  · refine Ev.ite_pos (by omega) ?_
    refine (loop_down (P := fun i => Ev (fun k => erasureref22_SameRow.p1 k a b (i : Int)) (decide (a.drop i = b.drop i))) a.length ?_ ?_ 0 (by omega))
    · refine Ev.succ ?_
      simp only [erasureref22_SameRow.p1, decide_eq_true_eq]
      rw [List.drop_length, List.drop_eq_nil_of_le (show b.length ≤ a.length by omega)]
      exact Ev.ite_neg (by omega) (Ev.done (by simp))
    · intro i hi ih
      refine Ev.succ ?_
      simp only [erasureref22_SameRow.p1, eqV_iff, decide_eq_true_eq, Bool.not_eq_true', decide_eq_false_iff_not]
      refine Ev.ite_pos (by omega) (Ev.ite_pos (by omega) (Ev.ite_pos (by omega) ?_))
      rw [dV hi, dV (show i < b.length by omega), wrn hi ha]
      by_cases h : a.getD (i : Int).toNat dValue = b.getD (i : Int).toNat dValue
      · exact Ev.ite_neg (fun e => e h) (ih.to (by rw [h]; simp))
      · exact Ev.ite_pos h (Ev.done (by rw [decide_eq_false]; intro e; exact h (List.cons.inj e).1))
  · refine Ev.ite_neg (by omega) (Ev.done ?_)
    rw [decide_eq_false (fun e => hl (by rw [e]))]
theorem E_ext {x y : TEntry} (h0 : x.f0 = y.f0) (h1 : x.f1 = y.f1) : x = y := by cases x; cases y; simp_all
instance : DecidableEq TEntry := fun x y => decidable_of_iff (x.f0 = y.f0 ∧ x.f1 = y.f1) ⟨fun h => E_ext h.1 h.2, fun h => by subst h; exact ⟨rfl, rfl⟩⟩
theorem ref22_SameBag_ev (a b : List TEntry) (ha : Fin a) : Ev (fun k => erasureref22_SameBag k a b) (decide (a = b)) := by
  unfold erasureref22_SameBag
  simp only [bne_iff_ne, ne_eq, ite_not]
  by_cases hl : a.length = b.length
  · refine Ev.ite_pos (by omega) ?_
    refine (loop_down (P := fun i => Ev (fun k => erasureref22_SameBag.p1 k a b (i : Int)) (decide (a.drop i = b.drop i))) a.length ?_ ?_ 0 (by omega))
    · refine Ev.succ ?_
      simp only [erasureref22_SameBag.p1, decide_eq_true_eq]
      rw [List.drop_length, List.drop_eq_nil_of_le (show b.length ≤ a.length by omega)]
      exact Ev.ite_neg (by omega) (Ev.done (by simp))
    · intro i hi ih
      refine Ev.succ ?_
      simp only [erasureref22_SameBag.p1, decide_eq_true_eq, Bool.not_eq_true', bne_iff_ne, ne_eq, ite_not]
      refine Ev.ite_pos (by omega) (Ev.ite_pos (by omega) (Ev.ite_pos (by omega) ?_))
      rw [dE hi, dE (show i < b.length by omega), wrn hi ha.1]
      refine Ev.bind (ref22_SameRow_ev _ _ (ha.2 _ (getD_mem _ hi))) ?_
      by_cases h0 : (a.getD (i : Int).toNat dEntry).f0 = (b.getD (i : Int).toNat dEntry).f0
      · rw [decide_eq_true h0]
        refine Ev.ite_neg (by simp) ?_
        by_cases h1 : (a.getD (i : Int).toNat dEntry).f1 = (b.getD (i : Int).toNat dEntry).f1
        · exact Ev.ite_pos h1 (ih.to (by rw [E_ext h0 h1]; simp))
        · refine Ev.ite_neg h1 (Ev.done ?_)
          rw [decide_eq_false]
          intro e; exact h1 (by rw [(List.cons.inj e).1])
      · rw [decide_eq_false h0]
        refine Ev.ite_pos rfl (Ev.done ?_)
        rw [decide_eq_false]
        intro e; exact h0 (by rw [(List.cons.inj e).1])
  · refine Ev.ite_neg (by omega) (Ev.done ?_)
    rw [decide_eq_false (fun e => hl (by rw [e]))]
theorem ref26_SameBag_ev (a b : List TEntry) (ha : Fin a) : Ev (fun k => erasureref26_SameBag k a b) (decide (a = b)) := by
  unfold erasureref26_SameBag
  exact Ev.bind (ref22_SameBag_ev a b ha) (Ev.now _)
end Go.Proofs.YtjhnpaenhdbhpabV
set_option linter.unusedVariables false
set_option linter.unusedSimpArgs false
namespace Go.Proofs.YtjhnpaenhdbhpabV
open Go Go.RowKit
def EvU {ρ α : Type} (c : ρ → Prop) (g : ρ → Nat → Option α) (r : α) : Prop := ∃ K, ∀ x, c x → ∀ k, K ≤ k → g x k = some r
theorem EvU.of {ρ α : Type} {c : ρ → Prop} {g : Nat → Option α} {r : α} (h : Ev g r) : EvU c (fun _ k => g k) r := by obtain ⟨K, h⟩ := h; exact ⟨K, fun _ _ k hk => h k hk⟩
theorem EvU.now {ρ α : Type} {c : ρ → Prop} (r : α) : EvU c (fun _ _ => some r) r := ⟨0, fun _ _ _ _ => rfl⟩
theorem EvU.done {ρ α : Type} {c : ρ → Prop} {a r : α} (h : a = r) : EvU c (fun _ _ => some a) r := by subst h; exact EvU.now _
theorem EvU.bind {ρ α β : Type} {c : ρ → Prop} {f : Nat → Option α} {g : ρ → Nat → α → Option β} {a : α} {r : β} (h : Ev f a) (h' : EvU c (fun x k => g x k a) r) : EvU c (fun x k => (f k).bind (g x k)) r := by
  obtain ⟨K, h⟩ := h; obtain ⟨L, h'⟩ := h'
  exact ⟨max K L, fun x hx k hk => by show (f k).bind (g x k) = some r; rw [h k (by omega)]; exact h' x hx k (by omega)⟩
theorem EvU.succ {ρ α : Type} {c : ρ → Prop} {g : ρ → Nat → Option α} {r : α} (h : EvU c (fun x k => g x (k + 1)) r) : EvU c g r := by
  obtain ⟨K, h⟩ := h
  exact ⟨K + 1, fun x hx k hk => by obtain ⟨m, rfl⟩ : ∃ m, k = m + 1 := ⟨k - 1, by omega⟩; exact h x hx m (by omega)⟩
theorem EvU.congr {ρ α : Type} {c : ρ → Prop} {f g : ρ → Nat → Option α} {r : α} (h : ∀ x k, g x k = f x k) (k : EvU c f r) : EvU c g r := by rw [show g = f from funext fun x => funext (h x)]; exact k
theorem EvU.ite_pos {ρ α : Type} {q : ρ → Prop} {g f : ρ → Nat → Option α} {r : α} {c : Prop} [Decidable c] (h : c) (k : EvU q g r) : EvU q (fun x n => if c then g x n else f x n) r := EvU.congr (fun x n => if_pos h) k
theorem EvU.ite_neg {ρ α : Type} {q : ρ → Prop} {g f : ρ → Nat → Option α} {r : α} {c : Prop} [Decidable c] (h : ¬ c) (k : EvU q f r) : EvU q (fun x n => if c then g x n else f x n) r := EvU.congr (fun x n => if_neg h) k
theorem EvU.to {ρ α : Type} {q : ρ → Prop} {g : ρ → Nat → Option α} {r s : α} (h : EvU q g r) (e : r = s) : EvU q g s := by subst e; exact h
theorem get_put {K V : Type} (k k' : K) (x z : V) : ∀ m : List (K × V), (k' = k → getM (putM m k x) k' z = x) ∧ (k' ≠ k → getM (putM m k x) k' z = getM m k' z)
  | [] => by
    constructor
    · rintro rfl; simp [putM, getM]
    · intro h; simp only [putM, getM]; rw [if_neg (fun e => h e.symm)]
  | e :: m => by
    obtain ⟨h1, h2⟩ := get_put k k' x z m
    simp only [putM]
    by_cases he : e.1 = k
    · rw [if_pos he]
      constructor
      · rintro rfl; simp [getM]
      · intro h
        have : e.1 ≠ k' := fun q => h (q.symm.trans he)
        simp only [getM]; rw [if_neg (fun e => h e.symm), if_neg this]
    · rw [if_neg he]
      constructor
      · intro h
        have : e.1 ≠ k' := fun q => he (q.trans h)
        simp [getM, this, h1 h]
      · intro h
        simp only [getM]
        by_cases hk : e.1 = k'
        · simp [hk]
        · simp [hk, h2 h]
theorem getM_nil {K V : Type} (k : K) (z : V) : getM ([] : List (K × V)) k z = z := rfl
end Go.Proofs.YtjhnpaenhdbhpabV
set_option linter.unusedVariables false
set_option linter.unusedSimpArgs false
set_option maxRecDepth 100000
namespace Go.Proofs.YtjhnpaenhdbhpabV
open Go Go.RowKit
noncomputable def erasurelaw30_CacheSelects  (k : Nat) (rows0 : (List TEntry)) (column1 : Int) (v2 : TValue) : Option Bool := (erasurelaw30_short k rows0).bind fun y_1 => (if (!y_1) = true then ((erasurelaw30_awake k ).bind fun y_4 => (some y_4)) else ((cache_Select k rows0 column1 v2).bind fun y_6 => ((erasureref30_Select k rows0 column1 v2).bind fun y_8 => ((erasureref26_SameBag k y_6 y_8).bind fun y_10 => (if y_10 = true then ((erasurelaw30_awake k ).bind fun y_13 => (some y_13)) else (some false))))))
noncomputable def erasurelaw30_CacheSelects.t : List Item := [.code (bodyOf Try.f3)]
noncomputable def erasurelaw30_CacheSelects.s (rows0 : (List TEntry)) (column1 : Int) (v2 : TValue) : St := ⟨frOf Try.f3.ntmps 0 [(0, .p (eL 2 cEntry dEntry rows0)), (1, .p (.int .i64 column1)), (2, .agg ((cValue v2).map .p))], []⟩
theorem erasurelaw30_CacheSelects.run   {k : Nat} {rows0 : (List TEntry)} {column1 : Int} {v2 : TValue} {r : Bool} (h : erasurelaw30_CacheSelects k rows0 column1 v2 = some r) : RunC Try.prog Try.f3 erasurelaw30_CacheSelects.t (erasurelaw30_CacheSelects.s rows0 column1 v2) (.p (.bool r)) [] := by
  unfold erasurelaw30_CacheSelects at h
  obtain ⟨y_1, e_2, h⟩ := bind_or h
  rcases ite_or h with ⟨g_3, h⟩ | ⟨g_3, h⟩
  · obtain ⟨y_4, e_5, h⟩ := bind_or h
    obtain rfl := Option.some.inj h
    exact RunC.out [.n 4, .r [(1, .call (.p (.bool y_1)) []), (2, .dec true)], .n 2, .r [(0, .call (.p (.bool y_4)) [])]] (by kernel_rfl) (Obs.of (by kernel_rfl) (And.intro (erasurelaw30_short.spec e_2) (And.intro g_3 (erasurelaw30_awake.spec e_5))))
  · obtain ⟨y_6, e_7, h⟩ := bind_or h
    obtain ⟨y_8, e_9, h⟩ := bind_or h
    obtain ⟨y_10, e_11, h⟩ := bind_or h
    rcases ite_or h with ⟨g_12, h⟩ | ⟨g_12, h⟩
    · obtain ⟨y_13, e_14, h⟩ := bind_or h
      obtain rfl := Option.some.inj h
      exact RunC.out [.n 4, .r [(1, .call (.p (.bool y_1)) []), (2, .dec false)], .n 3, .r [(3, .call (.sref 0 36 2 (y_6).length) [(oL true 36 2 cEntry dEntry y_6)]), (7, .call (.sref 0 36 2 (y_8).length) [(oL true 36 2 cEntry dEntry y_8)]), (8, .call (.p (.bool y_10)) []), (9, .dec true), (10, .call (.p (.bool y_13)) [])]] (by kernel_rfl) (Obs.of (by kernel_rfl) (And.intro (erasurelaw30_short.spec e_2) (And.intro (nt g_3) (And.intro (cache_Select.spec e_7) (And.intro (erasureref30_Select.spec e_9) (And.intro (erasureref26_SameBag.spec e_11) (And.intro g_12 (erasurelaw30_awake.spec e_14))))))))
    · obtain rfl := Option.some.inj h
      exact RunC.out [.n 4, .r [(1, .call (.p (.bool y_1)) []), (2, .dec false)], .n 3, .r [(3, .call (.sref 0 36 2 (y_6).length) [(oL true 36 2 cEntry dEntry y_6)]), (7, .call (.sref 0 36 2 (y_8).length) [(oL true 36 2 cEntry dEntry y_8)]), (8, .call (.p (.bool y_10)) []), (9, .dec false)]] (by kernel_rfl) (Obs.of (by kernel_rfl) (And.intro (erasurelaw30_short.spec e_2) (And.intro (nt g_3) (And.intro (cache_Select.spec e_7) (And.intro (erasureref30_Select.spec e_9) (And.intro (erasureref26_SameBag.spec e_11) (nt g_12)))))))
theorem erasurelaw30_CacheSelects.mono   : ∀ (k k' : Nat) (rows0 : (List TEntry)) (column1 : Int) (v2 : TValue) (r : Bool), k ≤ k' → erasurelaw30_CacheSelects k rows0 column1 v2 = some r → erasurelaw30_CacheSelects k' rows0 column1 v2 = some r := by
  intro k k' rows0 column1 v2 r hk h
  unfold erasurelaw30_CacheSelects at h ⊢
  obtain ⟨y_1, e_2, h⟩ := bind_or h
  refine bnd (erasurelaw30_short.mono _ _ _ _ hk e_2) ?_
  rcases ite_or h with ⟨g_3, h⟩ | ⟨g_3, h⟩
  · refine itp g_3 ?_
    obtain ⟨y_4, e_5, h⟩ := bind_or h
    refine bnd (erasurelaw30_awake.mono _ _  _ hk e_5) ?_
    exact h
  · refine itn g_3 ?_
    obtain ⟨y_6, e_7, h⟩ := bind_or h
    refine bnd (cache_Select.mono _ _ _ _ _ _ hk e_7) ?_
    obtain ⟨y_8, e_9, h⟩ := bind_or h
    refine bnd (erasureref30_Select.mono _ _ _ _ _ _ hk e_9) ?_
    obtain ⟨y_10, e_11, h⟩ := bind_or h
    refine bnd (erasureref26_SameBag.mono _ _ _ _ _ hk e_11) ?_
    rcases ite_or h with ⟨g_12, h⟩ | ⟨g_12, h⟩
    · refine itp g_12 ?_
      obtain ⟨y_13, e_14, h⟩ := bind_or h
      refine bnd (erasurelaw30_awake.mono _ _  _ hk e_14) ?_
      exact h
    · refine itn g_12 ?_
      exact h
theorem erasurelaw30_CacheSelects.spec {k : Nat} {rows0 : (List TEntry)} {column1 : Int} {v2 : TValue} {r : Bool} (h : erasurelaw30_CacheSelects k rows0 column1 v2 = some r) : Spec Try.prog 3 [.p (eL 2 cEntry dEntry rows0), .p (.int .i64 column1), .agg ((cValue v2).map .p)] (.p (.bool r)) [] :=
  spec_of mix Try.func3 (body := bodyOf Try.f3) (by kernel_rfl) (by kernel_rfl) (erasurelaw30_CacheSelects.run h)
end Go.Proofs.YtjhnpaenhdbhpabV
